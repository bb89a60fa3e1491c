/- A part of the proof: N O CH RF1 RF2 RF3 RF4 RF5 RF6 RF7 SM SN RS RG MF Qh Q0 Q1 Q2: each text has a comment of its own. -/
import Derived.Test.YtilmobdncapnbaaGreatPt0
import Derived.LoopN
import Derived.Scope
import Derived.OrdersIn
import Derived.LoopNIn
import Derived.LoopIn
import Derived.RangeFuncIn
import Derived.RangeFuncCalls
import Derived.RangeFuncLeaves
import Derived.Test.YtilmobdncapnbaaGreatProg
import Derived.KernelRfl
set_option linter.unusedVariables false
set_option linter.unusedSimpArgs false
set_option linter.constructorNameAsVariable false
set_option maxRecDepth 100000
namespace Go.Dd
open Go.RowKit (Below)
section
variable {C : Cfg} {G : Gd} {rec : FuncId → List DV → Hp → aH} {ops : Array Oper} {nt : Nat} {p0 : Pos}
theorem qE {listed : Array Bool} {i : Nat} : i ∈ Region.ready .any ops listed ↔ i < ops.size ∧ listed.getD i true = false ∧ ∃ o, ops[i]? = some o ∧ ∀ e ∈ o.after, Region.binds .any e = true → listed.getD e.on false = true := by
 unfold Region.ready
 rw [List.mem_filter]
 simp only [List.mem_range, Bool.and_eq_true, Bool.not_eq_eq_eq_not, Bool.not_true]
 constructor
 ·rintro ⟨h1, h2, h3⟩
  refine ⟨h1, h2, ops[i], by simp [h1], fun e he hb => ?_⟩
  simp only [h1, getElem?_pos, Option.map_some, Option.getD_some] at h3
  have := (Array.all_eq_true_iff_forall_mem.1 h3) e he
  simpa [hb] using this
 ·rintro ⟨h1, h2, o, ho, h3⟩
  refine ⟨h1, h2, ?_⟩
  simp only [ho, Option.map_some, Option.getD_some]
  refine Array.all_eq_true_iff_forall_mem.2 fun e he => ?_
  cases hb : Region.binds .any e with
  | false => simp
  | true => simp [h3 e he hb]
noncomputable def idp (C : Cfg) (ops : Array Oper) (p0 : Pos) (p : Nat) : Pos := bW (cB C.P (ops.toList.take p)) p0
structure Tr1 (C : Cfg) (rec : FuncId → List DV → Hp → aH) (ops : Array Oper) (nt : Nat) (p0 : Pos) (E : Nat → aW) (Hh : Nat → Hp) (V : Nat → DV) : Prop where
 ok : fA C.P ops = true
 st : ∀ p o, ops[p]? = some o → StepT C rec ops (Region.before ops) nt (idp C ops p0 p) E Hh V 0 [(none, Hh 0)] p o
theorem Tr1.same {E : Nat → aW} {Hh : Nat → Hp} {V : Nat → DV} (T : Tr1 C rec ops nt p0 E Hh V) {p : Nat} {o : Oper} (ho : ops[p]? = some o) (hc : bU C.P o.op ≠ .acts) (hm : bU C.P o.op ≠ .makes) : Hh (p + 1) = Hh p := by
 have hs := (T.st p o ho).step hm
 cases hcl : bU C.P o.op with
 | pure => exact (qS hcl _ _ _ hs).1
 | reads => exact oC hcl hs
 | makes => exact absurd hcl hm
 | acts => exact absurd hcl hc
def cUx (C : Cfg) (ops : Array Oper) (q : Nat) : Prop := q = 0 ∨ ∃ j oj, ops[j]? = some oj ∧ bU C.P oj.op = .acts ∧ q = j + 1
theorem oH {m : Array Nat} {i q : Nat} {Pv : Hp → Prop} {Hh : Nat → Hp} {tl : List (Option Nat × Hp)} : ∀ d, q ≤ d → pZ m i Pv (iH C ops Hh 0 d ++ tl) →
  (∀ j oj, ops[j]? = some oj → bU C.P oj.op = .acts → q ≤ j → j < d → ¬ gA m j i = true) → pZ m i Pv (iH C ops Hh 0 q ++ tl)
 | 0, hq, hc, _ => by have : q = 0 := by omega
                      subst this; exact hc
 | d + 1, hq, hc, hno => by
  by_cases e : q = d + 1
  ·subst e; exact hc
  ·have hq' : q ≤ d := by omega
   simp only [iH, Nat.zero_add] at hc
   cases ha : jF C ops d with
   | false =>
    rw [ha] at hc
    simp only [Bool.false_eq_true, if_false, List.nil_append] at hc
    exact oH d hq' hc fun j oj h1 h2 h3 h4 => hno j oj h1 h2 h3 (by omega)
   | true =>
    rw [ha] at hc
    simp only [if_true, List.cons_append, List.nil_append] at hc
    obtain ⟨_, h2⟩ := hc
    have ⟨oj, hoj, hcj⟩ : ∃ oj, ops[d]? = some oj ∧ bU C.P oj.op = .acts := by
     unfold jF at ha
     split at ha
     ·rename_i o ho; exact ⟨o, ho, by simpa using ha⟩
     ·cases ha
    rcases h2 with h2 | h2
    ·exact absurd h2 (hno d oj hoj hcj hq' (by omega))
    ·exact oH d hq' h2 fun j oj h1 h2 h3 h4 => hno j oj h1 h2 h3 (by omega)
theorem Tr1.value {E : Nat → aW} {Hh : Nat → Hp} {V : Nat → DV} (T : Tr1 C rec ops nt p0 E Hh V) {listed : Array Bool} {i q : Nat} {o : Oper} (ho : ops[i]? = some o) (hc : bU C.P o.op ≠ .acts) (hm : bU C.P o.op ≠ .makes)
  (hq : cUx C ops q) (hgap : ∀ j oj, ops[j]? = some oj → bU C.P oj.op = .acts → (j < q ↔ S listed j))
  (hni : ¬ S listed i) (hdown : ∀ j x, gA (Region.before ops) j x = true → S listed x → S listed j) (hpre : ∀ j, gA (Region.before ops) j i = true → S listed j) :
  bJ C rec ops o (E i) (Hh q) = some (V i, Hh q) := by
 have hst := T.st i o ho
 cases hcl : bU C.P o.op with
 | acts => exact absurd hcl hc
 | makes => exact absurd hcl hm
 | pure => exact (qS hcl _ _ _ (hst.step hm)).2 _
 | reads =>
  rcases Nat.lt_or_ge i q with h | h
  ·rcases hq with rfl | ⟨j, oj, hj, haj, rfl⟩
   ·omega
   ·have hSj : S listed j := (hgap j oj hj haj).1 (by omega)
    have hij : i ≠ j := fun e => by subst e; exact hni hSj
    rcases (T.st j oj hj).acts haj i o (Nat.zero_le _) (by omega) ho hcl with h3 | h3
    ·exact absurd (hdown i j h3 hSj) hni
    ·exact rT hcl h3
  ·have h1 := hst.reads hcl
   rw [Nat.sub_zero] at h1
   have h2 := oH (q := q) i h h1 fun j oj hj haj hqj hji hord => by
    have := (hgap j oj hj haj).2 (hpre j hord)
    omega
   rcases hq with rfl | ⟨j, oj, hj, haj, rfl⟩
   ·exact h2.1
   ·simp only [iH, Nat.zero_add, (bFi hj).2 haj, if_true, List.cons_append, List.nil_append] at h2
    exact h2.1
theorem cRc {listed : Array Bool} {i j : Nat} (hi : i < listed.size) : S (listed.setIfInBounds i true) j ↔ (j = i ∨ S listed j) := by
 unfold S
 by_cases e : j = i
 ·subst e; simp [hi]
 ·simp [Array.getElem?_setIfInBounds_ne (Ne.symm e), e]
theorem qL {listed : Array Bool} {i : Nat} (hi : i < listed.size) : listed.getD i true = listed.getD i false := by
 simp [hi]
theorem cTu {V : Nat → DV} {env : aW} {listed : Array Bool} {i : Nat} {o : Oper} (ho : ops[i]? = some o) (hi : i < listed.size) (hni : ¬ S listed i) (t : Nat)
  (hlast : ∀ j oj, i < j → ops[j]? = some oj → oj.dst = some t → o.dst = some t → ¬ S listed j) :
  ∀ p, i < p → TS ops V env (listed.setIfInBounds i true) p t = if o.dst = some t then V i else TS ops V env listed p t := by
 have hbefore : ∀ p, p ≤ i → TS ops V env (listed.setIfInBounds i true) p = TS ops V env listed p := by
  intro p
  induction p with
  | zero => intro _; rfl
  | succ p ih =>
   intro h
   have e : (listed.setIfInBounds i true).getD p false = listed.getD p false := by simp [Array.getElem?_setIfInBounds_ne (show i ≠ p by omega)]
   simp only [TS, ih (by omega), e]
 intro p
 induction p with
 | zero => intro h; omega
 | succ p ih =>
  intro h
  by_cases hpi : p = i
  ·subst hpi
   have e1 : (listed.setIfInBounds p true).getD p false = true := by simp [hi]
   have e2 : ¬ listed.getD p false = true := hni
   simp only [TS, ho, hbefore p (Nat.le_refl _), e1, if_true, kW]
   rw [if_neg e2]
  ·have ih' := ih (by omega)
   have e : (listed.setIfInBounds i true).getD p false = listed.getD p false := by simp [Array.getElem?_setIfInBounds_ne (Ne.symm hpi)]
   cases hop : ops[p]? with
   | none => simp only [TS, hop]; exact ih'
   | some op =>
    simp only [TS, hop, e]
    split
    ·rename_i hl
     rw [kW, kW, ih']
     by_cases hd : op.dst = some t
     ·rw [if_pos hd, if_pos hd]
      by_cases hod : o.dst = some t
      ·exact absurd hl (hlast p op (by omega) hop hd hod)
      ·rw [if_neg hod]
     ·rw [if_neg hd, if_neg hd]
    ·exact ih'
def iJ (C : Cfg) (ops : Array Oper) (listed : Array Bool) (q i : Nat) : Prop := ∃ o, ops[i]? = some o ∧ bU C.P o.op = .makes ∧ S listed i ∧ q ≤ i
def GX (G : Gd) (N : Nat) (C : Cfg) (ops : Array Oper) (listed : Array Bool) (R : Nat → Nat) (q : Nat) : Gd := ⟨G.B, fun k => G.X k ∨ ∃ i, iJ C ops listed q i ∧ R i = k, N, G.W, G.ok⟩
structure Made (G : Gd) (C : Cfg) (ops : Array Oper) (p0 : Pos) (Hh : Nat → Hp) (ρ : cY) (w : World) (R : Nat → Nat) (i : Nat) : Prop where
 name : ρ (idp C ops p0 i) = some ⟨R i, 0, 0, none⟩
 low : G.B ≤ R i
 ex : ¬ G.X (R i)
 row : ∃ (arr : Array Value) (t : TypeId) (cs : List DV), w.heap[R i]? = some (.cells arr t (0, 0)) ∧ VRs ρ cs arr.toList ∧ Hh (i + 1) = ⟨(Hh i).next, Tr.set (.row .ex cs) (idp C ops p0 i) (Hh i).bl⟩
theorem aLu {E : Nat → aW} {Hh : Nat → Hp} {V : Nat → DV} (T : Tr1 C rec ops nt p0 E Hh V) {listed : Array Bool} {R : Nat → Nat} {N q : Nat} {ρ : cY} {w : World}
  (hmade : ∀ i, iJ C ops listed q i → Made G C ops p0 Hh ρ w R i) (hdist : ∀ i i', iJ C ops listed q i → iJ C ops listed q i' → R i = R i' → i = i') :
  ∀ p, q ≤ p → p ≤ ops.size → (∀ j oj, ops[j]? = some oj → q ≤ j → j < p → bU C.P oj.op ≠ .acts ∧ (bU C.P oj.op = .makes → S listed j)) →
  HR (GX G N C ops listed R q) ρ (Hh q) w → HR (GX G N C ops listed R p) ρ (Hh p) w := by
 intro p
 induction p with
 | zero => intro h1 _ _ H; have : q = 0 := by omega
           subst this; exact H
 | succ p ih =>
  intro h1 h2 hr H
  by_cases e : q = p + 1
  ·subst e; exact H
  ·have H' := ih (by omega) (by omega) (fun j oj hj hq hjp => hr j oj hj hq (by omega)) H
   obtain ⟨o, ho⟩ : ∃ o, ops[p]? = some o := ⟨ops[p], by simp [show p < ops.size by omega]⟩
   obtain ⟨ha, hm⟩ := hr p o ho (by omega) (by omega)
   have hsub : ∀ k, (GX G N C ops listed R (p + 1)).X k → (GX G N C ops listed R p).X k := by
    rintro k (hk | ⟨i, ⟨oi, h3, h4, h5, h6⟩, h7⟩)
    ·exact .inl hk
    ·exact .inr ⟨i, ⟨oi, h3, h4, h5, by omega⟩, h7⟩
   by_cases hmk : bU C.P o.op = .makes
   ·have hE : iJ C ops listed q p := ⟨o, ho, hmk, hm hmk, by omega⟩
    have hM := hmade p hE
    obtain ⟨arr, t, cs, r1, r2, r3⟩ := hM.row
    rw [r3]
    refine dSn (G := GX G N C ops listed R (p + 1)) H' rfl hsub (Nat.le_refl _) rfl hM.name r1 r2 hM.low ?_ (.inr ⟨p, ⟨o, ho, hmk, hm hmk, Nat.le_refl _⟩, rfl⟩)
    rintro (hk | ⟨i, ⟨oi, h3, h4, h5, h6⟩, h7⟩)
    ·exact hM.ex hk
    ·have := hdist i p ⟨oi, h3, h4, h5, by omega⟩ hE h7
     omega
   ·rw [T.same ho ha hmk]
    exact H'.weak rfl hsub (Nat.le_refl _) rfl
def Inv (DD : List Deferred) (C : Cfg) (G : Gd) (ops : Array Oper) (nt : Nat) (p0 : Pos) (N : Nat) (E : Nat → aW) (Hh : Nat → Hp) (V : Nat → DV) (ρ : cY) (w0 : World) (listed : Array Bool) (a : Act) (w : World) : Prop :=
 listed.size = ops.size ∧ (∀ j x, gA (Region.before ops) j x = true → S listed x → S listed j) ∧
 ∃ q, q ≤ ops.size ∧ cUx C ops q ∧ (∀ j oj, ops[j]? = some oj → bU C.P oj.op = .acts → (j < q ↔ S listed j)) ∧
 ∃ (ρ' : cY) (R : Nat → Nat), Ex G ρ ρ' ∧ HR (GX G N C ops listed R q) ρ' (Hh q) w ∧ EnvR ρ' (TS ops V (E 0) listed ops.size) a ∧ Kp G w0 w ∧ nt ≤ a.tmps.size ∧ a.defers = DD ∧
  (∀ i o, ops[i]? = some o → bU C.P o.op = .makes → ¬ S listed i → ρ' (idp C ops p0 i) = none) ∧
  (∀ i, iJ C ops listed q i → Made G C ops p0 Hh ρ' w R i) ∧ (∀ i i', iJ C ops listed q i → iJ C ops listed q i' → R i = R i' → i = i')
theorem bLk {i : Nat} {o : Oper} (ho : ops[i]? = some o) (hm : bU C.P o.op = .makes) : (idp C ops p0 i).toNat < p0.toNat + cB C.P ops.toList := by
 unfold idp
 rw [dW]
 have hlt : i < ops.toList.length := by
  rcases Nat.lt_or_ge i ops.toList.length with h | h
  ·exact h
  ·simp at h; simp [Array.getElem?_eq_none h] at ho
 have key : ∀ (l : List Oper) (i : Nat), l[i]? = some o → cB C.P (l.take i) < cB C.P l := by
  intro l
  induction l with
  | nil => intro i h; simp at h
  | cons x l ih =>
   intro i h
   cases i with
   | zero => simp at h; subst h; simp [cB, hm]; omega
   | succ i => simp at h; have := ih i h; simp only [List.take_succ_cons, cB]; omega
 have := key ops.toList i (by simpa using ho)
 omega
theorem cTo {i i' : Nat} {o o' : Oper} (ho : ops[i]? = some o) (hm : bU C.P o.op = .makes) (ho' : ops[i']? = some o') (hm' : bU C.P o'.op = .makes) (hne : i ≠ i') : idp C ops p0 i ≠ idp C ops p0 i' := by
 have key : ∀ (l : List Oper) (i j : Nat) (o : Oper), l[i]? = some o → bU C.P o.op = .makes → i < j → cB C.P (l.take i) < cB C.P (l.take j) := by
  intro l
  induction l with
  | nil => intro i j o h; simp at h
  | cons x l ih =>
   intro i j o h hm hij
   cases j with
   | zero => omega
   | succ j =>
    cases i with
    | zero => simp at h; subst h; simp only [List.take_succ_cons, cB, hm, List.take_zero]; omega
    | succ i => simp at h; have := ih i j o h hm (by omega); simp only [List.take_succ_cons, cB]; omega
 intro e
 have e' := congrArg Pos.toNat e
 unfold idp at e'
 rw [dW, dW] at e'
 rcases Nat.lt_or_ge i i' with h | h
 ·have := key ops.toList i i' o (by simpa using ho) hm h; omega
 ·have := key ops.toList i' i o' (by simpa using ho') hm' (by omega); omega
theorem bKv {DD : List Deferred} (K : OkC C rec) {N : Nat} {E : Nat → aW} {Hh : Nat → Hp} {V : Nat → DV} (T : Tr1 C rec ops nt p0 E Hh V) (hN : N = p0.toNat + cB C.P ops.toList) (hGN : G.N ≤ p0.toNat) {ρ : cY} {w0 : World} {Q : Exit → Act → World → Prop}
  (hQ : ∀ ρ' a' w', Ex G ρ ρ' → HR G ρ' (Hh ops.size) w' → EnvR ρ' (E ops.size) a' → Kp G w0 w' → nt ≤ a'.tmps.size → a'.defers = DD → Q .normal a' w') :
  ∀ (fuel : Nat) (listed : Array Bool) (a : Act) (w : World), Inv DD C G ops nt p0 N E Hh V ρ w0 listed a w → ((List.range ops.size).filter fun i => !listed.getD i false).length ≤ fuel → wpAny C.P .any ops Q fuel listed a w := by
 have hlt : ∀ p, p < ops.size → ∃ o, ops[p]? = some o := fun p hp => ⟨ops[p], by simp [hp]⟩
 have hin : ∀ (j : Nat) oj, ops[j]? = some oj → j < ops.size := fun j oj hj => by
  rcases Nat.lt_or_ge j ops.size with h | h
  ·exact h
  ·simp [Array.getElem?_eq_none h] at hj
 have hend : ∀ listed a w, Inv DD C G ops nt p0 N E Hh V ρ w0 listed a w → (∀ i, i < ops.size → S listed i) → Q .normal a w := by
  rintro listed a w ⟨hsz, hdown, q, hq, hcand, hgap, ρ', R, h1, h2, h3, h4, h5, h6, h7, h8, h9⟩ hall
  have hH := aLu (G := G) T h8 h9 ops.size hq (Nat.le_refl _) (fun j oj hj hqj hjn => ⟨fun ha => by
   have := (hgap j oj hj ha).2 (hall j hjn)
   omega, fun _ => hall j hjn⟩) h2
  have hE : ∀ t, TS ops V (E 0) listed ops.size t = E ops.size t := fun t =>
   bVl (E := E) rfl (fun p o hp ho => (T.st p o ho).env) (fun p hp => hlt p hp) (fun j o hj _ _ => hall j hj) ops.size (Nat.le_refl _)
  refine hQ ρ' a w h1 (hH.weak rfl (fun k hk => .inl hk) (by show G.N ≤ N; omega) rfl) (fun t => ?_) h4 h5 h6
  rw [← hE t]
  exact h3 t
 have hready : ∀ listed, listed.size = ops.size → Region.ready .any ops listed = [] → ∀ i, i < ops.size → S listed i := by
  intro listed hsz hr i
  induction i using Nat.strongRecOn with
  | _ i ih =>
   intro hi
   obtain ⟨o, ho⟩ := hlt i hi
   by_cases hs : S listed i
   ·exact hs
   ·exfalso
    have hmem : i ∈ Region.ready .any ops listed := by
     rw [qE]
     refine ⟨hi, ?_, o, ho, fun e he hb => ?_⟩
     ·rw [qL (by omega)]
      unfold S at hs
      simpa using hs
     ·have := (dQ T.ok ho).1 e he hb
      exact ih e.on this (by omega)
    rw [hr] at hmem
    cases hmem
 intro fuel
 induction fuel with
 | zero =>
  intro listed a w hI hfuel
  have hall : ∀ i, i < ops.size → S listed i := by
   intro i hi
   by_cases hs : S listed i
   ·exact hs
   ·exfalso
    have : i ∈ (List.range ops.size).filter fun i => !listed.getD i false := by
     rw [List.mem_filter]
     refine ⟨by simpa using hi, ?_⟩
     unfold S at hs
     simpa using hs
    have := List.length_pos_of_mem this
    omega
  refine ⟨?_, hend listed a w hI hall⟩
  cases hr : Region.ready .any ops listed with
  | nil => rfl
  | cons x xs =>
   have hx : x ∈ Region.ready .any ops listed := by rw [hr]; simp
   rw [qE] at hx
   have := hall x hx.1
   rw [qL (by rw [hI.1]; exact hx.1)] at hx
   unfold S at this
   rw [this] at hx
   cases hx.2.1
 | succ fuel ih =>
  intro listed a w hI hfuel
  refine ⟨fun hr => hend listed a w hI (hready listed hI.1 hr), fun i hi => ?_⟩
  obtain ⟨hsz, hdown, q, hq, hcand, hgap, ρ', R, h1, h2, h3, h4, h5, h6, h7, h8, h9⟩ := hI
  rw [qE] at hi
  obtain ⟨hisz, hni, o, ho, hpre0⟩ := hi
  rw [qL (by omega)] at hni
  have hnS : ¬ S listed i := by unfold S; rw [hni]; simp
  have hpre : ∀ j, gA (Region.before ops) j i = true → S listed j := by
   intro j hj
   obtain ⟨e, he, hb, h | h⟩ := aKt ho hj
   ·rw [← h]; exact hpre0 e he hb
   ·exact hdown j e.on h (hpre0 e he hb)
  have hst := T.st i o ho
  have hlook : ∀ t ∈ o.looksAt ops, TS ops V (E 0) listed ops.size t = E i t := by
   intro t ht
   rw [cCf (i := i) (fun j oj hij hj hd hS => ?_) ops.size (by omega)]
   ·exact bVl (E := E) rfl (fun p op hp hop => (T.st p op hop).env) (fun p hp => hlt p (by omega)) (fun j oj hj hoj hd => by
     rcases (dQ T.ok ho).2.2 j oj hj hoj with h | ⟨h, _⟩
     ·exact hpre j h
     ·exact absurd ht ((Oper.apart_spec h).1 t hd)) i (Nat.le_refl _)
   ·rcases Nat.eq_or_lt_of_le hij with e | e
    ·subst e; exact hnS hS
    ·rcases (dQ T.ok hj).2.2 i o e ho with h | ⟨h, _⟩
     ·exact hnS (hdown i j h hS)
     ·exact absurd ht ((Oper.apart_spec h).2.2 t hd)
  have hmkq : ∀ j oj, ops[j]? = some oj → bU C.P oj.op = .makes → j < q → S listed j := by
   intro j oj hj hmj hjq
   rcases hcand with rfl | ⟨l, ol, hl, hal, rfl⟩
   ·omega
   ·have hSl : S listed l := (hgap l ol hl hal).1 (by omega)
    have hjl : j ≠ l := fun e => by subst e; rw [hl] at hj; cases hj; rw [hal] at hmj; cases hmj
    rcases (dQ T.ok hl).2.2 j oj (by omega) hj with h | ⟨_, h⟩
    ·exact hdown j l h hSl
    ·exact absurd ⟨.inr hmj, hal⟩ h
  have hdown' : ∀ j x, gA (Region.before ops) j x = true → S (listed.setIfInBounds i true) x → S (listed.setIfInBounds i true) j := by
   intro j x hjx hx
   rw [cRc (by omega)] at hx ⊢
   rcases hx with rfl | hx
   ·exact .inr (hpre j hjx)
   ·exact .inr (hdown j x hjx hx)
  have hTS : ∀ (ρ2 : cY) (v2 : Value), Ext ρ' ρ2 → VR ρ2 (V i) v2 → EnvR ρ2 (TS ops V (E 0) (listed.setIfInBounds i true) ops.size) (a.put o.dst v2) := by
   intro ρ2 v2 e1 e2 t
   rw [cTu ho (by omega) hnS t (fun j oj hij hj hd hod hS => by
    rcases (dQ T.ok hj).2.2 i o hij ho with h | ⟨h, _⟩
    ·exact hnS (hdown i j h hS)
    ·exact (Oper.apart_spec h).2.1 t hod hd) ops.size (by omega)]
   have := EnvR.put h3 e1 e2 hst.fits h5 t
   rwa [kW] at this
  have hcount : ((List.range ops.size).filter fun j => !(listed.setIfInBounds i true).getD j false).length ≤ fuel := by
   have hmem : i ∈ (List.range ops.size).filter fun i => !listed.getD i false := by
    rw [List.mem_filter]
    exact ⟨by simpa using hisz, by simp [hni]⟩
   have hle : ((List.range ops.size).filter fun j => !(listed.setIfInBounds i true).getD j false).length < ((List.range ops.size).filter fun j => !listed.getD j false).length := by
    have hsub : ((List.range ops.size).filter fun j => !(listed.setIfInBounds i true).getD j false) = ((List.range ops.size).filter fun j => !listed.getD j false).filter (fun j => j != i) := by
     rw [List.filter_filter]
     apply List.filter_congr
     intro j hj
     by_cases e : j = i
     ·subst e; simp [show j < listed.size by omega]
     ·simp [Array.getElem?_setIfInBounds_ne (Ne.symm e), e]
    rw [hsub]
    exact List.length_filter_lt_length_iff_exists.2 ⟨i, hmem, by simp⟩
   omega
  have hS' : ∀ j, S (listed.setIfInBounds i true) j ↔ (j = i ∨ S listed j) := fun j => cRc (by omega)
  by_cases hmk : bU C.P o.op = .makes
  ·
   have hqi : q ≤ i := by
    rcases Nat.lt_or_ge i q with h | h
    ·exact absurd (hmkq i o ho hmk h) hnS
    ·exact h
   have hg := (dQ T.ok ho).2.1 hmk
   have hbn := h7 i o ho hmk hnS
   have hst1 := hst.made hmk
   have hext : Ext ρ' (nD ρ' (idp C ops p0 i) ⟨w.heap.size, 0, 0, none⟩) := by
    intro x L hx
    by_cases e : x = idp C ops p0 i
    ·subst e; rw [hbn] at hx; cases hx
    ·rw [aY _ _ e]; exact hx
   have hE0 : dT C o (idp C ops p0 i) (TS ops V (E 0) listed ops.size) (Hh i) = some (V i, Hh (i + 1)) := by
    rw [← hst1]
    refine zR fun x hx => aAf fun t ht => hlook t ?_
    unfold Oper.looksAt
    refine List.mem_append_left _ (List.mem_filterMap.2 ⟨x, by simpa using hx, ?_⟩)
    rw [ht]
   obtain ⟨cs, arr, t, v', m1, m2, m3, m4⟩ := cUu (w := w) h3 hE0 hbn
   have hidlt := bLk (p0 := p0) ho hmk
   have H2 := h2.early hbn (by have := h2.nx; simp only [GX] at this; omega) arr t
   unfold wpOp
   simp only [ho]
   rw [if_pos (by simp [Region.wanted, hg])]
   refine .inl ?_
   unfold Oper.wp
   rw [m1]
   show wpAny C.P .any ops Q fuel (listed.setIfInBounds i true) (a.put o.dst v') (w.alloc (.cells arr t))
   have hEarly : ∀ j, iJ C ops (listed.setIfInBounds i true) q j → j = i ∨ iJ C ops listed q j := by
    rintro j ⟨oj, e1, e2, e3, e4⟩
    rcases (hS' j).1 e3 with e | e
    ·exact .inl e
    ·exact .inr ⟨oj, e1, e2, e, e4⟩
   have hRlt : ∀ j, iJ C ops listed q j → R j < w.heap.size := fun j hj => h2.sz.2 _ (.inr ⟨j, hj, rfl⟩)
   have hjne : ∀ j, iJ C ops listed q j → j ≠ i := by
    rintro j ⟨oj, e1, e2, e3, e4⟩ e
    subst e; exact hnS e3
   refine ih _ _ _ ⟨by simpa using hsz, hdown', q, hq, hcand, fun j oj hj haj => ?_, nD ρ' (idp C ops p0 i) ⟨w.heap.size, 0, 0, none⟩, fun j => if j = i then w.heap.size else R j, ?_, ?_, hTS _ _ hext m4, ?_, by rw [pB]; exact h5, by rw [kU]; exact h6, ?_, ?_, ?_⟩ hcount
   ·rw [hS' j, hgap j oj hj haj]
    constructor
    ·exact .inr
    ·rintro (h | h)
     ·subst h; rw [ho] at hj; cases hj; rw [hmk] at haj; cases haj
     ·exact h
   ·refine h1.trans ⟨hext, fun b L hb => ?_⟩
    by_cases e : b = idp C ops p0 i
    ·right
     rw [e]
     unfold idp
     rw [dW]
     omega
    ·rw [aY _ _ e] at hb; exact .inl hb
   ·refine H2.weak rfl ?_ (Nat.le_refl _) rfl
    rintro k (hk | ⟨j, hj, hjk⟩)
    ·exact .inl (.inl hk)
    ·rcases hEarly j hj with rfl | hj'
     ·right; simpa using hjk.symm
     ·left; right
      refine ⟨j, hj', ?_⟩
      simpa [hjne j hj'] using hjk
   ·exact h4.trans (fK (G := G) ⟨h2.sz.1, fun k hk => h2.sz.2 k (.inl hk)⟩ _)
   ·intro j oj hj hmj hSj
    have hji : j ≠ i := fun e => hSj ((hS' j).2 (.inl e))
    rw [aY _ _ (cTo hj hmj ho hmk hji)]
    exact h7 j oj hj hmj fun h => hSj ((hS' j).2 (.inr h))
   ·intro j hj
    rcases hEarly j hj with rfl | hj'
    ·refine ⟨by simp [cF], by simp; exact h2.sz.1, ?_, arr, t, cs, ?_, m2.mono hext, m3⟩
     ·simp only [if_true]
      intro hx
      have := h2.sz.2 _ (.inl hx)
      omega
     ·simp only [if_true]
      show (w.heap.push _)[w.heap.size]? = _
      simp
    ·have hM := h8 j hj'
     obtain ⟨arr', t', cs', r1, r2, r3⟩ := hM.row
     have hji := hjne j hj'
     refine ⟨?_, by simp [hji]; exact hM.low, by simp [hji]; exact hM.ex, arr', t', cs', ?_, r2.mono hext, r3⟩
     ·simp only [hji, if_false]; exact hext _ _ hM.name
     ·simp only [hji, if_false]
      rw [Below.heap_alloc _ _ _ (hRlt j hj')]
      exact r1
   ·intro j j' hj hj' he
    rcases hEarly j hj with rfl | hj1
    ·rcases hEarly j' hj' with rfl | hj1'
     ·rfl
     ·simp only [if_true, hjne j' hj1', if_false] at he
      have := hRlt j' hj1'
      omega
    ·rcases hEarly j' hj' with rfl | hj1'
     ·simp only [if_true, hjne j hj1, if_false] at he
      have := hRlt j hj1
      omega
     ·simp only [hjne j hj1, hjne j' hj1', if_false] at he
      exact h9 j j' hj1 hj1' he
  ·
   have hstep : ∃ q1 q2, q ≤ q1 ∧ q1 ≤ ops.size ∧ q2 ≤ ops.size ∧ q1 ≤ q2 ∧ cUx C ops q2 ∧ HR (GX G N C ops listed R q1) ρ' (Hh q1) w ∧
     bJ C rec ops o (TS ops V (E 0) listed ops.size) (Hh q1) = some (V i, Hh q2) ∧
     (∀ j oj, ops[j]? = some oj → bU C.P oj.op = .acts → (j < q2 ↔ S (listed.setIfInBounds i true) j)) ∧
     (∀ j, iJ C ops (listed.setIfInBounds i true) q2 j → iJ C ops listed q1 j) := by
    rw [show bJ C rec ops o (TS ops V (E 0) listed ops.size) = bJ C rec ops o (E i) from funext fun h => aLt hlook]
    by_cases ha : bU C.P o.op = .acts
    ·have hqi : q ≤ i := by
      rcases Nat.lt_or_ge i q with h | h
      ·exact absurd ((hgap i o ho ha).1 h) hnS
      ·exact h
     refine ⟨i, i + 1, hqi, by omega, by omega, by omega, .inr ⟨i, o, ho, ha, rfl⟩, ?_, hst.step hmk, fun j oj hj haj => ?_, ?_⟩
     ·refine aLu (G := G) T h8 h9 i hqi (by omega) (fun j oj hj hqj hji => ⟨fun haj => ?_, fun hmj => ?_⟩) h2
      ·rcases (dQ T.ok ho).2.2 j oj hji hj with h | ⟨_, h⟩
       ·have := (hgap j oj hj haj).2 (hpre j h); omega
       ·exact absurd ⟨.inl haj, ha⟩ h
      ·rcases (dQ T.ok ho).2.2 j oj hji hj with h | ⟨_, h⟩
       ·exact hpre j h
       ·exact absurd ⟨.inr hmj, ha⟩ h
     ·rw [hS' j]
      constructor
      ·intro hlt'
       by_cases e : j = i
       ·exact .inl e
       ·right
        rcases (dQ T.ok ho).2.2 j oj (by omega) hj with h | ⟨_, h⟩
        ·exact hpre j h
        ·exact absurd ⟨.inl haj, ha⟩ h
      ·rintro (h | h)
       ·omega
       ·rcases Nat.lt_or_ge i j with hij | hij
        ·rcases (dQ T.ok hj).2.2 i o hij ho with h' | ⟨_, h'⟩
         ·exact absurd (hdown i j h' h) hnS
         ·exact absurd ⟨.inl ha, haj⟩ h'
        ·omega
     ·rintro j ⟨oj, e1, e2, e3, e4⟩
      rcases (hS' j).1 e3 with e | e
      ·omega
      ·exact ⟨oj, e1, e2, e, by omega⟩
    ·refine ⟨q, q, Nat.le_refl _, hq, hq, Nat.le_refl _, hcand, h2, T.value ho ha hmk hcand hgap hnS hdown hpre, fun j oj hj haj => ?_, ?_⟩
     ·rw [hS' j, hgap j oj hj haj]
      constructor
      ·exact .inr
      ·rintro (h | h)
       ·subst h; rw [ho] at hj; cases hj; exact absurd haj ha
       ·exact h
     ·rintro j ⟨oj, e1, e2, e3, e4⟩
      rcases (hS' j).1 e3 with e | e
      ·subst e; rw [ho] at e1; cases e1; exact absurd e2 hmk
      ·exact ⟨oj, e1, e2, e, e4⟩
   obtain ⟨q1, q2, k1, k2, k2', k12, k3, k4, k5, k6, k7⟩ := hstep
   refine aIi (aJm K k4 h3 k5) rfl ho k4 fun ρ2 w2 v2 e1 e2 e3 e4 => ?_
   have hEq : ∀ j, iJ C ops listed q1 j → iJ C ops listed q j := by
    rintro j ⟨oj, f1, f2, f3, f4⟩
    exact ⟨oj, f1, f2, f3, by omega⟩
   refine ih _ _ _ ⟨by simpa using hsz, hdown', q2, k2', k3, k6, ρ2, R, ?_, ?_, hTS _ _ e1.ext e2, ?_, by rw [pB]; exact h5, by rw [kU]; exact h6, ?_, ?_, ?_⟩ hcount
   ·refine h1.trans ⟨e1.ext, fun b L hb => (e1.new b L hb).imp id fun h => ?_⟩
    simp only [GX] at h
    omega
   ·refine e3.weak rfl ?_ (Nat.le_refl _) rfl
    rintro k (hk | ⟨j, hj, hjk⟩)
    ·exact .inl hk
    ·exact .inr ⟨j, k7 j hj, hjk⟩
   ·exact h4.trans ⟨e4.low, fun k hk => e4.ex k (.inl hk)⟩
   ·intro j oj hj hmj hSj
    have hn := h7 j oj hj hmj fun h => hSj ((hS' j).2 (.inr h))
    cases hr : ρ2 (idp C ops p0 j) with
    | none => rfl
    | some L =>
     rcases e1.new _ _ hr with h | h
     ·rw [hn] at h; cases h
     ·have := bLk (p0 := p0) hj hmj
      simp only [GX] at h
      omega
   ·intro j hj
    have hj1 := k7 j hj
    have hM := h8 j (hEq j hj1)
    obtain ⟨arr', t', cs', r1, r2, r3⟩ := hM.row
    exact ⟨e1.ext _ _ hM.name, hM.low, hM.ex, arr', t', cs', by rw [e4.ex _ (.inr ⟨j, hj1, rfl⟩)]; exact r1, r2.mono e1.ext, r3⟩
   ·intro j j' hj hj' he
    exact h9 j j' (hEq j (k7 j hj)) (hEq j' (k7 j' hj')) he
theorem cAm {DD : List Deferred} (K : OkC C rec) {k : Dd.K} {r : DV × Hp} {env : aW} {h : Hp} {ρ : cY} {a : Act} {w : World} {Q : Exit → Act → World → Prop}
  (hok : fA C.P ops = true) (hp : iI C rec nt ops k env h = some r) (H : HR G ρ h w) (he : EnvR ρ env a) (hnt : nt ≤ a.tmps.size) (hd : a.defers = DD)
  (hQ : ∀ ρ' env' h' a' w', Ex G ρ ρ' → HR G ρ' h' w' → EnvR ρ' env' a' → Kp G w w' → nt ≤ a'.tmps.size → a'.defers = DD → k env' h' = some r → Q .normal a' w') :
  wpAny C.P .any ops Q ops.size (Array.replicate ops.size false) a { w with drawn := w.drawn + 1 } := by
 obtain ⟨E, Hh, V, e1, e2, e3, e4⟩ := rX (p0 := h.next) ops.toList 0 0 false [] _ env _ r hp (by simp) (fun _ => ⟨_, _, rfl⟩)
 simp only [Nat.zero_add, Array.length_toList, Nat.sub_zero] at e3 e4
 have T : Tr1 C rec ops nt h.next E Hh V := ⟨hok, fun p o ho => by
  have := (e4 p o (Nat.zero_le _) (by
   rcases Nat.lt_or_ge p ops.size with h | h
   ·exact h
   ·simp [Array.getElem?_eq_none h] at ho) ho).1
  rw [← e2] at this
  exact this⟩
 obtain ⟨n1, n2⟩ := aAm (cB C.P ops.toList) h
 have hNN : (resv (cB C.P ops.toList) h).next.toNat = h.next.toNat + cB C.P ops.toList := by rw [n1, dW]
 refine (bKv (G := G) K T rfl H.nx (ρ := ρ) (w0 := w) (fun ρ' a' w' h1 h2 h3 h4 h5 h6 => hQ ρ' _ _ a' w' h1 h2 h3 h4 h5 h6 e3) ops.size _ a _ ?_ ?_)
 ·have hno : ∀ j, ¬ S (Array.replicate ops.size false) j := by
   intro j hj
   unfold S at hj
   simp [Array.getElem?_replicate] at hj
   split at hj <;> simp at hj
  have hnoE : ∀ j, ¬ iJ C ops (Array.replicate ops.size false) 0 j := by
   rintro j ⟨oj, _, _, h3, _⟩
   exact hno j h3
  refine ⟨by simp, fun j x _ hx => absurd hx (hno x), 0, Nat.zero_le _, .inl rfl, fun j oj hj ha => ⟨fun h => by omega, fun h => absurd h (hno j)⟩, ρ, fun _ => 0, Ex.refl G ρ, ?_, ?_, ?_, hnt, hd, ?_, fun j hj => absurd hj (hnoE j), fun j j' hj => absurd hj (hnoE j)⟩
  ·rw [e2]
   have := (H.reserve (cB C.P ops.toList)).congr (w' := { w with drawn := w.drawn + 1 }) rfl
   rw [hNN] at this
   refine this.weak rfl ?_ (Nat.le_refl _) rfl
   rintro k (hk | ⟨j, hj, _⟩)
   ·exact hk
   ·exact absurd hj (hnoE j)
  ·have hT : ∀ p, TS ops V (E 0) (Array.replicate ops.size false) p = E 0 := by
    intro p
    induction p with
    | zero => rfl
    | succ p ih =>
     simp only [TS, ih]
     split
     ·rename_i o ho
      rw [if_neg (show ¬ (Array.replicate ops.size false).getD p false = true from hno p)]
     ·rfl
   intro t
   rw [hT, e1]
   exact he t
  ·exact (Kp.refl G w).drew
  ·intro j oj hj hmj _
   cases hr : ρ (idp C ops h.next j) with
   | none => rfl
   | some L =>
    have h1 := H.lt _ _ hr
    unfold idp at h1
    rw [dW] at h1
    omega
 ·have := List.length_filter_le (fun i => !(Array.replicate ops.size false).getD i false) (List.range ops.size)
  simpa using this
theorem bBt {DD : List Deferred} (K : OkC C rec) (hm : C.P.follows .mixedOrders = true) {id : Nat} {k : Dd.K} {r : DV × Hp} {env : aW} {h : Hp} {ρ : cY} {a : Act} {w : World} {Q : Exit → Act → World → Prop}
  (hok : fA C.P ops = true) (hp : iI C rec nt ops k env h = some r) (H : HR G ρ h w) (he : EnvR ρ env a) (hnt : nt ≤ a.tmps.size) (hd : a.defers = DD)
  (hQ : ∀ ρ' env' h' a' w', Ex G ρ ρ' → HR G ρ' h' w' → EnvR ρ' env' a' → Kp G w w' → nt ≤ a'.tmps.size → a'.defers = DD → k env' h' = some r → Q .normal a' w') :
  (Code.region id ops true).wp C.P Q a w :=
 wp_region_any hm (cAm K hok hp H he hnt hd hQ)
end
end Go.Dd

namespace Go.Dd
open Go.RowKit (Below)
section
variable {C : Cfg} {G : Gd} {rec : FuncId → List DV → Hp → aH} {nt n : Nat}
def St (DD : List Deferred) (G : Gd) (nt : Nat) (ρ : cY) (w0 : World) (k : K) (r : DV × Hp) (a : Act) (w : World) : Prop :=
 ∃ ρ' env h, Ex G ρ ρ' ∧ HR G ρ' h w ∧ EnvR ρ' env a ∧ Kp G w0 w ∧ nt ≤ a.tmps.size ∧ a.defers = DD ∧ k env h = some r
def QQ (DD : List Deferred) (G : Gd) (nt : Nat) (ρ : cY) (w0 : World) (X : Nat → K) (kr k : K) (r : DV × Hp) : Exit → Act → World → Prop
 | .normal, a, w => St DD G nt ρ w0 k r a w
 | .exit id, a, w => St DD G nt ρ w0 (X id) r a w
 | .ret, a, w => St DD G nt ρ w0 kr r a w
 | _, _, _ => False
theorem cAz {DD : List Deferred} (K : OkC C rec) (hm : C.P.follows .mixedOrders = true) {ρ : cY} {w0 : World} {r : DV × Hp} : ∀ (c : Code) (X : Nat → Dd.K) (kr k : Dd.K) (a : Act) (w : World),
  St DD G nt ρ w0 (aM C rec nt n c X kr k) r a w → c.wp C.P (QQ DD G nt ρ w0 X kr k r) a w := by
 intro c
 induction c with
 | skip => intro X kr k a w h; exact wp_skip h
 | region id ops dr =>
  intro X kr k a w h
  obtain ⟨ρ', env, hp, h1, h2, h3, h4, h5, h6, h7⟩ := h
  change (Bool.rec (motive := fun _ => Dd.K) (iT C rec nt ops ops.toList k) (Bool.rec (motive := fun _ => Dd.K) dK (iI C rec nt ops k) (fA C.P ops)) dr) env hp = some r at h7
  cases dr with
  | true =>
   dsimp only at h7
   cases hok : fA C.P ops with
   | false => rw [hok] at h7; cases h7
   | true =>
    rw [hok] at h7
    exact bBt K hm hok h7 h2 h3 h5 h6 fun ρ2 env2 h2' a2 w2 e1 e2 e3 e4 e5 e6 e7 => ⟨ρ2, env2, h2', h1.trans e1, e2, e3, h4.trans e4, e5, e6, e7⟩
  | false =>
   simp only [cond_false] at h7
   obtain ⟨env', h', hr, hk⟩ := wL ops.toList k env hp r h7
   refine wp_region ?_
   have := aSl (Q := QQ DD G nt ρ w0 X kr k r) K ops.toList 0 ρ' env hp a w (by simp) hr h2 h3 h5 h6 fun ρ2 a2 w2 e1 e2 e3 e4 e5 e6 => ⟨ρ2, env', h', h1.trans e1, e2, e3, h4.trans e4, e5, e6, hk⟩
   rw [List.range_eq_range']
   simpa using this
 | seq x y ihx ihy =>
  intro X kr k a w h
  refine wp_seq (wp_mono (ihx X kr (aM C rec nt n y X kr k) a w h) fun e a' w' hq => ?_)
  cases e with
  | normal => exact ihy X kr k a' w' hq
  | exit id => exact hq
  | ret => exact hq
  | goto l => exact hq
  | panic ch => exact hq
  | outgrown => exact hq
 | cond c x y ihx ihy =>
  intro X kr k a w h
  obtain ⟨ρ', env, hp, h1, h2, h3, h4, h5, h6, h7⟩ := h
  change aS (opr env c) (aM C rec nt n x X kr k env hp) (aM C rec nt n y X kr k env hp) = some r at h7
  have hc := bG h3 c
  unfold aS at h7
  split at h7 <;> (try (cases h7; done))
  ·rename_i hcb
   rw [hcb] at hc
   generalize hcv : a.eval c = cv at hc
   cases hc
   exact wp_cond_true hcv (ihx X kr k a w ⟨ρ', env, hp, h1, h2, h3, h4, h5, h6, h7⟩)
  ·rename_i hcb
   rw [hcb] at hc
   generalize hcv : a.eval c = cv at hc
   cases hc
   exact wp_cond_false hcv (ihy X kr k a w ⟨ρ', env, hp, h1, h2, h3, h4, h5, h6, h7⟩)
 | block id x ih =>
  intro X kr k a w h
  refine wp_block (wp_mono (ih (fun j => bif Nat.beq j id then k else X j) kr k a w h) fun e a' w' hq => ?_)
  cases e with
  | normal => exact hq
  | exit id' =>
   simp only [QQ] at hq
   simp only [Exit.inBlock, QQ]
   split
   ·rename_i e
    subst e
    have hb : Nat.beq id' id' = true := Nat.beq_refl id'
    rw [hb] at hq
    exact hq
   ·rename_i e
    have : Nat.beq id' id = false := by
     cases hb : Nat.beq id' id with
     | false => rfl
     | true => exact absurd (Nat.eq_of_beq_eq_true hb) e
    rw [this] at hq
    exact hq
  | ret => exact hq
  | goto l => exact hq
  | panic ch => exact hq
  | outgrown => exact hq
 | loop x ih =>
  intro X kr k a w h
  have key : ∀ (m : Nat) (a : Act) (w : World), St DD G nt ρ w0 (aO (fun kk => aM C rec nt n x X kr kk) m) r a w → Code.rounds C.P x (QQ DD G nt ρ w0 X kr k r) m a w := by
   intro m
   induction m with
   | zero =>
    rintro a w ⟨ρ', env, hp, h1, h2, h3, h4, h5, h6, h7⟩
    cases h7
   | succ m ihm =>
    intro a w hs
    rw [rounds_succ]
    refine wp_mono (ih X kr (aO (fun kk => aM C rec nt n x X kr kk) m) a w hs) fun e a' w' hq => ?_
    cases e with
    | normal => exact ihm a' w' hq
    | exit id => exact hq
    | ret => exact hq
    | goto l => exact hq
    | panic ch => exact hq
    | outgrown => exact hq
  exact wp_loop_rounds n (key n a w h)
 | rangeFunc f ps x y ihx ihy =>
  rintro X kr k a w ⟨ρ', env, hp, h1, h2, h3, h4, h5, h6, h7⟩
  cases h7
 | exit id => intro X kr k a w h; exact wp_exit h
 | scope x ih =>
  intro X kr k a w h
  refine wp_scope_straight (wp_mono (ih X kr k a w h) fun e a' w' hq => ?_)
  cases e with
  | goto l => exact hq
  | normal => exact hq
  | exit id => exact hq
  | ret => exact hq
  | panic ch => exact hq
  | outgrown => exact hq
 | label l => intro X kr k a w h; exact wp_label h
 | goto l =>
  rintro X kr k a w ⟨ρ', env, hp, h1, h2, h3, h4, h5, h6, h7⟩
  cases h7
 | ret => intro X kr k a w h; exact wp_ret h
 | refuse why =>
  rintro X kr k a w ⟨ρ', env, hp, h1, h2, h3, h4, h5, h6, h7⟩
  cases h7
def aIo (tmps : Array Value) (rv : ResultVar) : Sem Value :=
 match rv with
 | .tmp t => pure (tmps.getD t undef)
 | .cell q t => do loadVar t (← asAddr (tmps.getD q undef))
theorem vS (fn : Func) (tmps : Array Value) : results fn tmps = (do
  let vs ← fn.results.mapM (aIo tmps)
  pure (if h : vs.size = 1 then vs[0] else .tuple vs)) := by
 unfold results
 congr 2
theorem bSn {ρ : cY} {w : World} {h : Hp} {x : DV} {x' : Value} {t : TypeId} {k : DV → aH} {r : DV × Hp} (H : HR G ρ h w) (hx : VR ρ x x') (hr : aAl C t x h k = some r) :
  ∃ v v', (do loadVar t (← asAddr x') : Sem Value).run C.P w = .ok v' w ∧ VR ρ v v' ∧ k v = some r := by
 unfold aAl at hr
 split at hr <;> (try (cases hr; done))
 rename_i d i ht hi
 obtain ⟨v, h', hl, hk⟩ := dM hr
 have hconv : ∀ b o, x = .p b o → (Instr.loadAt t x') = (do loadVar t (← asAddr x')) := by
  rintro b o rfl
  cases hx
  simp [Instr.loadAt, Instr.sureAddr, asAddr]
 cases hd : iR d with
 | true =>
  rw [hd] at hl
  simp only [cond_true] at hl
  unfold aK at hl
  split at hl <;> (try (cases hl; done))
  rename_i b o
  split at hl <;> (try (cases hl; done))
  rename_i cs hc
  simp only [bE, bR] at hl
  obtain ⟨rfl, _⟩ := hl
  cases hx with
  | p _ _ L hL =>
   obtain ⟨c1, c2, _, vs, c4, c5, c6⟩ := eN H hc hL
   have hrun := dB (P := C.P) vs rfl c6
   rw [c5] at hrun
   refine ⟨_, .agg vs.toArray, ?_, .a cs vs.toArray (by simpa using c4), hk⟩
   simp only [asAddr, Sem.run_bind, Sem.run_pure, Result.andThen_ok, loadVar, rA ht, hd, if_true, rS hi, hrun]
 | false =>
  rw [hd] at hl
  simp only [cond_false] at hl
  unfold aA at hl
  split at hl <;> (try (cases hl; done))
  rename_i b o
  split at hl <;> (try (cases hl; done))
  rename_i u' hc
  simp only [bE, bR] at hl
  obtain ⟨rfl, _⟩ := hl
  cases hx with
  | p _ _ L hL =>
   unfold cellD rowOf at hc
   split at hc <;> (try (cases hc; done))
   rename_i l hl
   split at hl <;> (try (cases hl; done))
   rename_i kd l0 hb
   simp only [bE] at hl
   subst hl
   split at hc <;> (try (cases hc; done))
   rename_i u0 hu
   split at hc <;> (try (cases hc; done))
   rename_i ho
   simp only [bE] at hc
   subst hc
   obtain ⟨v', h5, h6⟩ := H.cell b kd l0 L o u0 hb hL hu ho
   refine ⟨_, v', ?_, h6, hk⟩
   simp only [asAddr, Sem.run_bind, Sem.run_pure, Result.andThen_ok, loadVar, rA ht, hd, Bool.false_eq_true, if_false, run_load, h5]
theorem vX {ρ : cY} {w : World} {h : Hp} {env : aW} {a : Act} (H : HR G ρ h w) (he : EnvR ρ env a) {r : DV × Hp} : ∀ (l : List ResultVar) (k : List DV → aH), bAf C env h l k = some r →
  ∃ vs vs', (l.mapM (aIo a.tmps)).run C.P w = .ok vs' w ∧ VRs ρ vs vs' ∧ k vs = some r
 | [], k, hr => ⟨[], [], by simp, .nil, hr⟩
 | .tmp t :: l, k, hr => by
  obtain ⟨vs, vs', h1, h2, h3⟩ := vX H he l (fun vs => k (env t :: vs)) hr
  refine ⟨env t :: vs, a.tmps.getD t undef :: vs', ?_, .cons _ _ _ _ (he t) h2, h3⟩
  simp only [List.mapM_cons, Sem.run_bind, aIo, Result.andThen_ok, h1, Sem.run_pure]
 | .cell q t :: l, k, hr => by
  obtain ⟨v, v', h1, h2, h3⟩ := bSn (x' := a.tmps.getD q undef) H (he q) hr
  obtain ⟨vs, vs', h4, h5, h6⟩ := vX H he l (fun vs => k (v :: vs)) h3
  refine ⟨v :: vs, v' :: vs', ?_, .cons _ _ _ _ h2 h5, h6⟩
  simp only [List.mapM_cons, Sem.run_bind, aIo] at h1 ⊢
  simp only [h1, Result.andThen_ok, h4, Sem.run_pure]
theorem aVh {ρ : cY} {w : World} {h h1 : Hp} {env : aW} {a : Act} (H : HR G ρ h w) (he : EnvR ρ env a) {fn : Func} {v : DV} (hr : aQ C fn env h = some (v, h1)) :
  h1 = h ∧ ∃ v', (results fn a.tmps).run C.P w = .ok v' w ∧ VR ρ v v' := by
 obtain ⟨us, vs', h2, h3, hk⟩ := vX H he _ _ hr
 unfold bWi at hk
 split at hk
 ·rename_i u
  simp only [bE, bR] at hk
  obtain ⟨rfl, rfl⟩ := hk
  cases h3 with
  | cons _ v' _ l' hv hn =>
   cases hn
   refine ⟨rfl, v', ?_, hv⟩
   rw [vS, Array.mapM_eq_mapM_toList]
   simp only [Sem.run_bind, Sem.run_map, h2, Result.andThen_ok, Sem.run_pure]
   simp
 ·rename_i hne
  simp only [bE, bR] at hk
  obtain ⟨rfl, rfl⟩ := hk
  have hl := h3.length
  have hne1 : vs'.length ≠ 1 := by
   intro e
   rw [e] at hl
   match us, hl with
   | [x], _ => exact hne x rfl
  refine ⟨rfl, .tuple vs'.toArray, ?_, .t _ _ (by simpa using h3)⟩
  rw [vS, Array.mapM_eq_mapM_toList]
  simp only [Sem.run_bind, Sem.run_map, h2, Result.andThen_ok, Sem.run_pure]
  rw [dif_neg (by simpa using hne1)]
structure POk (P : Program) : Prop where
 mixed : P.follows .mixedOrders = true
 names : ∀ (f : Nat) (fn : Func), P.funcs[f]? = some fn → (fn.name == "runtime.NumGoroutine") = false
theorem oQ (K : OkC C rec) (hP : POk C.P) (n : Nat) (f : FuncId) : lX C.P G f (aF C rec n f) := by
 intro args h v h1 hr ρ w args' H hargs
 unfold aF at hr
 split at hr <;> (try (cases hr; done))
 rename_i fn hf
 split at hr <;> (try (cases hr; done))
 rename_i c hb
 refine .inl ⟨?_, ?_⟩
 ·unfold callFunc
  have hn : ¬ fn.name = "runtime.NumGoroutine" := by simpa using hP.names f fn hf
  simp [hf, hn, hb]
 ·refine calls_of_wp hf hb ?_
  have he : EnvR ρ (aI args) { tmps := args' ++ Array.replicate (fn.ntmps - args'.size) undef, defers := [] } := by
   intro t
   unfold aI
   have hlen := hargs.length
   simp only [Array.length_toList] at hlen
   by_cases ht : t < args.length
   ·have hg : args[t]? = some args[t] := by simp [ht]
    obtain ⟨v', h2, h3⟩ := hargs.get t _ hg
    simp only [Array.getElem?_toList] at h2
    rw [show args.getD t aV = args[t] by simp [List.getD, hg]]
    have : (args' ++ Array.replicate (fn.ntmps - args'.size) undef).getD t undef = v' := by
     simp [Array.getElem?_append_left (show t < args'.size by omega), h2]
    rw [this]
    exact h3
   ·have hg : args.getD t aV = aV := by simp [List.getD, List.getElem?_eq_none (Nat.le_of_not_lt ht)]
    rw [hg]
    have : (args' ++ Array.replicate (fn.ntmps - args'.size) undef).getD t undef = undef := by
     rw [Array.getD_eq_getD_getElem?, Array.getElem?_append_right (by omega)]
     simp only [Array.getElem?_replicate]
     split <;> rfl
    rw [this]
    exact .t [] #[] .nil
  have hst : St [] G fn.ntmps ρ w (aM C rec fn.ntmps n c (fun _ => dK) (aQ C fn) (aQ C fn)) (v, h1) { tmps := args' ++ Array.replicate (fn.ntmps - args'.size) undef, defers := [] } w :=
   ⟨ρ, aI args, h, Ex.refl G ρ, H, he, Kp.refl G w, by simp; omega, rfl, hr⟩
  refine wp_mono (cAz K hP.mixed c _ _ _ _ _ hst) fun e a' w' hq => ?_
  have hfin : St [] G fn.ntmps ρ w (aQ C fn) (v, h1) a' w' → a'.defers = [] ∧ ∃ v', (results fn a'.tmps).run C.P w' = .ok v' w' ∧ lN G ρ w v h1 (.returned v') w' := by
   rintro ⟨ρ', env, h', e1, e2, e3, e4, e5, e6, e7⟩
   obtain ⟨rfl, v', r1, r2⟩ := aVh e2 e3 e7
   exact ⟨e6, v', r1, ρ', v', rfl, e1, r2, e2, e4⟩
  cases e with
  | normal => exact hfin hq
  | ret => exact hfin hq
  | exit id =>
   obtain ⟨ρ', env, h', e1, e2, e3, e4, e5, e6, e7⟩ := hq
   cases e7
  | goto l => exact hq.elim
  | panic ch => exact hq.elim
  | outgrown => exact hq.elim
theorem bWg (hP : POk C.P) (hI : ∀ G g F, C.I g = some F → lX C.P G g F) : ∀ (n : Nat) (G : Gd) (f : FuncId), lX C.P G f (fnD C n f)
 | 0, G, f => fun args h v h1 hr => by cases hr
 | n + 1, G, f => oQ (rec := fnD C n) ⟨hI, fun G g => bWg hP hI n G g⟩ hP n f
end
end Go.Dd

namespace Go.Dd
open Go.RowKit (Below)
section
variable {C : Cfg} {G : Gd} {rec : FuncId → List DV → Hp → aH} {nt : Nat}
def nC (h : Hp) : Prop := ∀ b o, h.bl.get b = some o → b.toNat < h.next.toNat
theorem HR.isFresh {ρ : cY} {h : Hp} {w : World} (H : HR G ρ h w) : nC h := fun b o hb => by
 obtain ⟨L, hL⟩ := H.dom b o hb
 exact H.lt b L hL
def aLa (C : Cfg) (rec : FuncId → List DV → Hp → aH) (nt : Nat) (ops : Array Oper) (lN : aW → Hp → Prop) : Nat → Array Bool → aW → Hp → Prop
 | 0, listed, env, h => Region.ready .any ops listed = [] ∧ lN env h
 | f + 1, listed, env, h => (Region.ready .any ops listed = [] → lN env h) ∧
   ∀ i ∈ Region.ready .any ops listed, ∃ o v h', ops[i]? = some o ∧ cW nt o.dst = true ∧ bJ C rec ops o env h = some (v, h') ∧
    aLa C rec nt ops lN f (listed.setIfInBounds i true) (bN env o.dst v) h'
theorem cAw (K : OkC C rec) {ops : Array Oper} {lN : aW → Hp → Prop} {Q : Exit → Act → World → Prop} : ∀ (fuel : Nat) (listed : Array Bool) (ρ : cY) (env : aW) (h : Hp) (a : Act) (w : World),
  aLa C rec nt ops lN fuel listed env h → HR G ρ h w → EnvR ρ env a → nt ≤ a.tmps.size → a.defers = [] →
  (∀ ρ' env' h' a' w', lN env' h' → Ex G ρ ρ' → HR G ρ' h' w' → EnvR ρ' env' a' → Kp G w w' → nt ≤ a'.tmps.size → a'.defers = [] → Q .normal a' w') →
  wpAny C.P .any ops Q fuel listed a w
 | 0, listed, ρ, env, h, a, w, hp, H, he, hnt, hd, hQ => ⟨hp.1, hQ ρ env h a w hp.2 (Ex.refl G ρ) H he (Kp.refl G w) hnt hd⟩
 | f + 1, listed, ρ, env, h, a, w, hp, H, he, hnt, hd, hQ => by
  refine ⟨fun hr => hQ ρ env h a w (hp.1 hr) (Ex.refl G ρ) H he (Kp.refl G w) hnt hd, fun i hi => ?_⟩
  obtain ⟨o, v, h', ho, hf, hs, hn⟩ := hp.2 i hi
  refine aIi (aJm K H he hs) rfl ho H fun ρ' w' v' h2 h3 h4 h5 => ?_
  exact cAw K f _ ρ' _ h' _ w' hn h4 (he.put h2.ext h3 hf hnt) (by rw [pB]; exact hnt) (by rw [kU]; exact hd)
   fun ρ2 env2 hh a2 w2 e0 e1 e2 e3 e4 e5 e6 => hQ ρ2 env2 hh a2 w2 e0 (h2.trans e1) e2 e3 (h5.trans e4) e5 e6
def qM (C : Cfg) (rec : FuncId → List DV → Hp → aH) (nt : Nat) : Code → (Nat → aW → Hp → Prop) → (aW → Hp → Prop) → (aW → Hp → Prop) → aW → Hp → Prop
 | .skip, _, _, N => N
 | .region _ ops dr, _, _, N => fun env h => if dr then (aLa C rec nt ops (fun e h => nC h → N e h) ops.size (Array.replicate ops.size false) env h ∨
    (fA C.P ops = true ∧ ∃ k r, iI C rec nt ops k env h = some r ∧ ∀ env' h', k env' h' = some r → nC h' → N env' h'))
   else ∃ env' h', aJd C rec nt ops ops.toList env h env' h' ∧ (nC h' → N env' h')
 | .seq a b, X, R, N => qM C rec nt a X R (qM C rec nt b X R N)
 | .cond c a b, X, R, N => fun env h => (opr env c = .b true ∧ qM C rec nt a X R N env h) ∨ (opr env c = .b false ∧ qM C rec nt b X R N env h)
 | .block id a, X, R, N => qM C rec nt a (fun j => if j = id then N else X j) R N
 | .exit id, X, _, _ => X id
 | .scope a, X, R, N => qM C rec nt a X R N
 | .ret, _, R, _ => R
 | _, _, _, _ => fun _ _ => False
def StP (G : Gd) (nt : Nat) (ρ : cY) (w0 : World) (N : aW → Hp → Prop) (a : Act) (w : World) : Prop :=
 ∃ ρ' env h, Ex G ρ ρ' ∧ HR G ρ' h w ∧ EnvR ρ' env a ∧ Kp G w0 w ∧ nt ≤ a.tmps.size ∧ a.defers = [] ∧ N env h
def QP (G : Gd) (nt : Nat) (ρ : cY) (w0 : World) (X : Nat → aW → Hp → Prop) (R N : aW → Hp → Prop) : Exit → Act → World → Prop
 | .normal, a, w => StP G nt ρ w0 N a w
 | .exit id, a, w => StP G nt ρ w0 (X id) a w
 | .ret, a, w => StP G nt ρ w0 R a w
 | _, _, _ => False
theorem bGn (K : OkC C rec) (hm : C.P.follows .mixedOrders = true) {ρ : cY} {w0 : World} : ∀ (c : Code) (X : Nat → aW → Hp → Prop) (R N : aW → Hp → Prop) (a : Act) (w : World),
  StP G nt ρ w0 (qM C rec nt c X R N) a w → c.wp C.P (QP G nt ρ w0 X R N) a w := by
 intro c
 induction c with
 | skip => intro X R N a w h; exact wp_skip h
 | region id ops dr =>
  intro X R N a w h
  obtain ⟨ρ', env, hp, h1, h2, h3, h4, h5, h6, h7⟩ := h
  cases dr with
  | true =>
   simp only [qM, if_true] at h7
   rcases h7 with h7 | ⟨hok, k, r, h7, h8⟩
   ·refine wp_region_any hm (cAw K ops.size _ ρ' env hp a _ h7 (h2.congr rfl) h3 h5 h6 fun ρ2 env2 h2' a2 w2 e0 e1 e2 e3 e4 e5 e6 => ?_)
    exact ⟨ρ2, env2, h2', h1.trans e1, e2, e3, (h4.trans ((Kp.refl G w).drew)).trans e4, e5, e6, e0 e2.isFresh⟩
   ·exact bBt K hm hok h7 h2 h3 h5 h6 fun ρ2 env2 h2' a2 w2 e1 e2 e3 e4 e5 e6 e7 => ⟨ρ2, env2, h2', h1.trans e1, e2, e3, h4.trans e4, e5, e6, h8 _ _ e7 e2.isFresh⟩
  | false =>
   simp only [qM, Bool.false_eq_true, if_false] at h7
   obtain ⟨env', h', hr, hk⟩ := h7
   refine wp_region ?_
   have := aSl (Q := QP G nt ρ w0 X R N) K ops.toList 0 ρ' env hp a w (by simp) hr h2 h3 h5 h6 fun ρ2 a2 w2 e1 e2 e3 e4 e5 e6 => ⟨ρ2, env', h', h1.trans e1, e2, e3, h4.trans e4, e5, e6, hk e2.isFresh⟩
   rw [List.range_eq_range']
   simpa using this
 | seq x y ihx ihy =>
  intro X R N a w h
  refine wp_seq (wp_mono (ihx X R (qM C rec nt y X R N) a w h) fun e a' w' hq => ?_)
  cases e with
  | normal => exact ihy X R N a' w' hq
  | exit id => exact hq
  | ret => exact hq
  | goto l => exact hq
  | panic ch => exact hq
  | outgrown => exact hq
 | cond c x y ihx ihy =>
  intro X R N a w h
  obtain ⟨ρ', env, hp, h1, h2, h3, h4, h5, h6, h7⟩ := h
  have hc := bG h3 c
  rcases h7 with ⟨hcb, h7⟩ | ⟨hcb, h7⟩
  ·rw [hcb] at hc
   generalize hcv : a.eval c = cv at hc
   cases hc
   exact wp_cond_true hcv (ihx X R N a w ⟨ρ', env, hp, h1, h2, h3, h4, h5, h6, h7⟩)
  ·rw [hcb] at hc
   generalize hcv : a.eval c = cv at hc
   cases hc
   exact wp_cond_false hcv (ihy X R N a w ⟨ρ', env, hp, h1, h2, h3, h4, h5, h6, h7⟩)
 | block id x ih =>
  intro X R N a w h
  refine wp_block (wp_mono (ih (fun j => if j = id then N else X j) R N a w h) fun e a' w' hq => ?_)
  cases e with
  | normal => exact hq
  | exit id' =>
   simp only [QP] at hq
   simp only [Exit.inBlock]
   split
   ·rename_i e
    rw [if_pos e] at hq
    exact hq
   ·rename_i e
    rw [if_neg e] at hq
    exact hq
  | ret => exact hq
  | goto l => exact hq
  | panic ch => exact hq
  | outgrown => exact hq
 | loop x ih => rintro X R N a w ⟨ρ', env, hp, h1, h2, h3, h4, h5, h6, h7⟩; exact h7.elim
 | rangeFunc f ps x y ihx ihy => rintro X R N a w ⟨ρ', env, hp, h1, h2, h3, h4, h5, h6, h7⟩; exact h7.elim
 | exit id => intro X R N a w h; exact wp_exit h
 | scope x ih =>
  intro X R N a w h
  refine wp_scope_straight (wp_mono (ih X R N a w h) fun e a' w' hq => ?_)
  cases e with
  | goto l => exact hq
  | normal => exact hq
  | exit id => exact hq
  | ret => exact hq
  | panic ch => exact hq
  | outgrown => exact hq
 | label l => rintro X R N a w ⟨ρ', env, hp, h1, h2, h3, h4, h5, h6, h7⟩; exact h7.elim
 | goto l => rintro X R N a w ⟨ρ', env, hp, h1, h2, h3, h4, h5, h6, h7⟩; exact h7.elim
 | ret => intro X R N a w h; exact wp_ret h
 | refuse why => rintro X R N a w ⟨ρ', env, hp, h1, h2, h3, h4, h5, h6, h7⟩; exact h7.elim
def Le (h2 h1 : Hp) : Prop := ∀ G ρ w, HR G ρ h2 w → HR G ρ h1 w
theorem cXh (K : OkC C rec) (hP : POk C.P) {f : FuncId} {fn : Func} {c : Code} (hf : C.P.funcs[f]? = some fn) (hb : fn.body = some c) {F : List DV → Hp → aH}
  (hF : ∀ args h v h1, F args h = some (v, h1) → nC h → qM C rec fn.ntmps c (fun _ _ _ => False) (fun env h' => ∃ h2, aQ C fn env h' = some (v, h2) ∧ Le h2 h1)
   (fun env h' => ∃ h2, aQ C fn env h' = some (v, h2) ∧ Le h2 h1) (aI args) h) : lX C.P G f F := by
 intro args h v h1 hr ρ w args' H hargs
 refine .inl ⟨?_, ?_⟩
 ·unfold callFunc
  have hn : ¬ fn.name = "runtime.NumGoroutine" := by simpa using hP.names f fn hf
  simp [hf, hn, hb]
 ·refine calls_of_wp hf hb ?_
  have he : EnvR ρ (aI args) { tmps := args' ++ Array.replicate (fn.ntmps - args'.size) undef, defers := [] } := by
   intro t
   unfold aI
   have hlen := hargs.length
   simp only [Array.length_toList] at hlen
   by_cases ht : t < args.length
   ·have hg : args[t]? = some args[t] := by simp [ht]
    obtain ⟨v', h2, h3⟩ := hargs.get t _ hg
    simp only [Array.getElem?_toList] at h2
    rw [show args.getD t aV = args[t] by simp [List.getD, hg]]
    have : (args' ++ Array.replicate (fn.ntmps - args'.size) undef).getD t undef = v' := by
     simp [Array.getElem?_append_left (show t < args'.size by omega), h2]
    rw [this]
    exact h3
   ·have hg : args.getD t aV = aV := by simp [List.getD, List.getElem?_eq_none (Nat.le_of_not_lt ht)]
    rw [hg]
    have : (args' ++ Array.replicate (fn.ntmps - args'.size) undef).getD t undef = undef := by
     rw [Array.getD_eq_getD_getElem?, Array.getElem?_append_right (by omega)]
     simp only [Array.getElem?_replicate]
     split <;> rfl
    rw [this]
    exact .t [] #[] .nil
  have hst : StP G fn.ntmps ρ w _ { tmps := args' ++ Array.replicate (fn.ntmps - args'.size) undef, defers := [] } w :=
   ⟨ρ, aI args, h, Ex.refl G ρ, H, he, Kp.refl G w, by simp; omega, rfl, hF args h v h1 hr H.isFresh⟩
  refine wp_mono (bGn K hP.mixed c _ _ _ _ _ hst) fun e a' w' hq => ?_
  have hfin : StP G fn.ntmps ρ w (fun env h' => ∃ h2, aQ C fn env h' = some (v, h2) ∧ Le h2 h1) a' w' → a'.defers = [] ∧ ∃ v', (results fn a'.tmps).run C.P w' = .ok v' w' ∧ lN G ρ w v h1 (.returned v') w' := by
   rintro ⟨ρ', env, h', e1, e2, e3, e4, e5, e6, h2, e7, e8⟩
   obtain ⟨rfl, v', r1, r2⟩ := aVh e2 e3 e7
   exact ⟨e6, v', r1, ρ', v', rfl, e1, r2, e8 _ _ _ e2, e4⟩
  cases e with
  | normal => exact hfin hq
  | ret => exact hfin hq
  | exit id => obtain ⟨ρ', env, h', e1, e2, e3, e4, e5, e6, e7⟩ := hq; exact e7.elim
  | goto l => exact hq.elim
  | panic ch => exact hq.elim
  | outgrown => exact hq.elim
end
end Go.Dd

namespace Go.Dd
open Go.RowKit (Below)
section
variable {ro : Option Nat} {n : Nat} {P : Program} {Q : Exit → Act → World → Prop}
end
section
variable {C : Cfg} {G : Gd} {rec : FuncId → List DV → Hp → aH} {nt n : Nat}
end
end Go.Dd

namespace Go.Dd
open Go.RowKit (Below)
section
variable {G G' : Gd} {ρ : cY} {h : Hp} {w : World}
end
end Go.Dd

namespace Go.Dd
open Go.RowKit (Below)
structure ItC where
 gf : FuncId
 nt : Nat
 pre : Code
 b0 : Nat
 test : Code
 b1 : Nat
 rid : Nat
 front : List Oper
 y : Oper
 back : List Oper
 after : Code
 post : Code
 step : Code
 yd : Tmp
 yt : Tmp
 yx : Tmp
def ItC.ops (I : ItC) : Array Oper := (I.front ++ I.y :: I.back).toArray
def aNe : Nat → K := fun _ => dK
def ylB (v : DV) (b : Pos) : Bool := match v with
 | .yl b' => b' == b
 | _ => false
section
variable (C : Cfg) (rec : FuncId → List DV → Hp → aH) (n : Nat) (I : ItC)
noncomputable def aMi (b : Bool) (kr k : K) (e1 : aW) : Hp → aH := fun h =>
 cnd (cW I.nt (some I.yd)) (iT C rec I.nt I.ops I.back (aM C rec I.nt n I.after aNe kr k) (bN e1 (some I.yd) (.b b)) h)
noncomputable def aTf (nt : Nat) (p : Tmp) (x y : Code) (env : aW) (X : Nat → K) (kr kk : K) : K := fun e1 h1 =>
 cnd (cW nt (some p)) (aM C rec nt n x aNe dK (aM C rec nt n y
   (fun i _ h2 => aMi C rec n I false (fun _ h3 => X i env h3) dK e1 h2)
   (fun _ h2 => aMi C rec n I false (fun _ h3 => kr env h3) dK e1 h2)
   (fun _ h2 => aMi C rec n I true dK (aM C rec I.nt n I.post aNe dK (aM C rec I.nt n I.step aNe dK kk)) e1 h2))
  (bN env (some p) (e1 I.yx)) h1)
noncomputable def aFf (nt : Nat) (g : Operand) (p : Tmp) (x y : Code) (X : Nat → K) (kr k : K) : K := fun env h =>
 match opr env g with
 | .f gf [] cap => cnd (Nat.beq gf I.gf) (aM C rec I.nt n I.pre aNe dK
   (aO (fun kk => aM C rec I.nt n I.test (fun j => bif Nat.beq j I.b0 then (fun _ h => k env h) else dK) dK
    (iT C rec I.nt I.ops I.front (fun e1 h1 => cnd (ylB (e1 I.yt) h.next) (aTf C rec n I nt p x y env X kr kk e1 h1)))) n)
   (aI (.yl h.next :: cap)) (resv 2 h))
 | _ => none
end
section
variable {C : Cfg} {G : Gd} {rec : FuncId → List DV → Hp → aH} {n : Nat} {I : ItC} {N : Nat}
end
end Go.Dd

namespace Go.Dd
open Go.RowKit (Below)
section
variable {C : Cfg} {G : Gd} {rec : FuncId → List DV → Hp → aH} {n : Nat} {I : ItC} {N : Nat}
section
variable {ρ : cY} {w0 : World} {D l : Nat} {nt : Nat} {p : Tmp} {x y : Code} {f0 : FuncId} {a0 : Act} {env : aW} {X : Nat → Dd.K} {kr k : Dd.K} {r : DV × Hp} {b : Pos}
end
end
end Go.Dd

namespace Go.Dd
open Go.RowKit (Below)
section
variable {C : Cfg} {G : Gd} {rec : FuncId → List DV → Hp → aH} {n : Nat} {I : ItC} {N : Nat}
variable {ρ : cY} {w0 : World} {D l : Nat} {nt : Nat} {p : Tmp} {x y : Code} {f0 : FuncId} {a0 : Act} {env : aW} {X : Nat → Dd.K} {kr k : Dd.K} {r : DV × Hp} {b : Pos}
end
end Go.Dd

namespace Go.Dd
open Go.RowKit (Below)
section
variable {C : Cfg} {G : Gd} {rec : FuncId → List DV → Hp → aH} {n : Nat} {I : ItC} {N : Nat}
end
end Go.Dd

namespace Go.Dd
open Go.RowKit (Below)
noncomputable def dNd (ps : Array Tmp) (k : Tmp → K) : K := match ps.toList with
 | [p] => k p
 | _ => dK
section
variable (C : Cfg) (rec : FuncId → List DV → Hp → aH) (nt n : Nat) (I : ItC)
noncomputable def bIa (c : Code) : (Nat → K) → K → K → K :=
 Code.rec (motive := fun _ => (Nat → K) → K → K → K)
  (fun _ _ k => k)
  (fun _ ops dr _ _ k => Bool.rec (motive := fun _ => K) (iT C rec nt ops ops.toList k) (Bool.rec (motive := fun _ => K) dK (iI C rec nt ops k) (fA C.P ops)) dr)
  (fun _ _ iha ihb X kr k => iha X kr (ihb X kr k))
  (fun c _ _ iha ihb X kr k => fun env h => aS (opr env c) (iha X kr k env h) (ihb X kr k env h))
  (fun id _ ih X kr k => ih (fun j => bif Nat.beq j id then k else X j) kr k)
  (fun _ ih X kr _ => aO (fun kk => ih X kr kk) n)
  (fun g ps x y _ _ X kr k => dNd ps fun p => aFf C rec n I nt g p x y X kr k)
  (fun id X _ _ => X id)
  (fun _ _ _ _ _ => dK)
  (fun _ _ _ _ => dK)
  (fun _ _ _ _ => dK)
  (fun _ kr _ => kr)
  (fun _ _ _ _ => dK) c
noncomputable def mC (f : FuncId) (args : List DV) (h : Hp) : aH :=
 match C.P.funcs[f]? with
 | some fn => match fn.body with
  | some c => bIa C rec fn.ntmps n I c (fun _ => dK) (aQ C fn) (aQ C fn) (aI args) h
  | none => none
 | none => none
end
section
variable {C : Cfg} {G : Gd} {rec : FuncId → List DV → Hp → aH} {nt n : Nat} {I : ItC}
end
end Go.Dd

namespace Go.Dd
noncomputable section
def WT.get (t : WT) : Nat → Int :=
 WT.rec (motive := fun _ => Nat → Int) (fun _ => .ofNat 0)
  (fun _ v _ ihl ihr k => bif Nat.beq k 0 then v else bif Nat.beq (Nat.mod k 2) 1 then ihl (Nat.div k 2) else ihr (Nat.div (Nat.sub k 1) 2)) t
def dRx (x : Int) (fuel : Nat) : Nat → WT → WT :=
 Nat.rec (motive := fun _ => Nat → WT → WT) (fun _ t => t)
  (fun _ ih k t => WT.rec (motive := fun _ => WT)
   (bif Nat.beq k 0 then .n .e x .e else bif Nat.beq (Nat.mod k 2) 1 then .n (ih (Nat.div k 2) .e) (.ofNat 0) .e else .n .e (.ofNat 0) (ih (Nat.div (Nat.sub k 1) 2) .e))
   (fun l v r _ _ => bif Nat.beq k 0 then .n l x r else bif Nat.beq (Nat.mod k 2) 1 then .n (ih (Nat.div k 2) l) v r else .n l v (ih (Nat.div (Nat.sub k 1) 2) r)) t) fuel
def WT.set (t : WT) (k : Nat) (x : Int) : WT := dRx x 24 k t
theorem WT.get_e (k : Nat) : WT.e.get k = 0 := rfl
theorem dRu (l : WT) (v : Int) (r : WT) (k : Nat) : (WT.n l v r).get k = if k = 0 then v else if k % 2 = 1 then l.get (k / 2) else r.get ((k - 1) / 2) := by
 show (bif Nat.beq k 0 then v else bif Nat.beq (Nat.mod k 2) 1 then l.get (Nat.div k 2) else r.get (Nat.div (Nat.sub k 1) 2)) = _
 cases h0 : Nat.beq k 0 with
 | true => have := Nat.eq_of_beq_eq_true h0; subst this; rfl
 | false =>
  have n0 : k ≠ 0 := by intro e; subst e; cases h0
  rw [if_neg n0]
  cases h1 : Nat.beq (Nat.mod k 2) 1 with
  | true => have : k % 2 = 1 := Nat.eq_of_beq_eq_true h1; rw [if_pos this]; rfl
  | false =>
   have n1 : k % 2 ≠ 1 := by intro e; have e' : Nat.mod k 2 = 1 := e; rw [e'] at h1; cases h1
   rw [if_neg n1]; rfl
theorem dSg (x : Int) (f k : Nat) (t : WT) : dRx x (f + 1) k t = match t with
  | .e => if k = 0 then .n .e x .e else if k % 2 = 1 then .n (dRx x f (k / 2) .e) 0 .e else .n .e 0 (dRx x f ((k - 1) / 2) .e)
  | .n l v r => if k = 0 then .n l x r else if k % 2 = 1 then .n (dRx x f (k / 2) l) v r else .n l v (dRx x f ((k - 1) / 2) r) := by
 have hb : ∀ {α : Type} (a b c : α), (bif Nat.beq k 0 then a else bif Nat.beq (Nat.mod k 2) 1 then b else c) = if k = 0 then a else if k % 2 = 1 then b else c := by
  intro α a b c
  cases h0 : Nat.beq k 0 with
  | true => have := Nat.eq_of_beq_eq_true h0; subst this; rfl
  | false =>
   have n0 : k ≠ 0 := by intro e; subst e; cases h0
   rw [if_neg n0]
   cases h1 : Nat.beq (Nat.mod k 2) 1 with
   | true => have : k % 2 = 1 := Nat.eq_of_beq_eq_true h1; rw [if_pos this]; rfl
   | false =>
    have n1 : k % 2 ≠ 1 := by intro e; have e' : Nat.mod k 2 = 1 := e; rw [e'] at h1; cases h1
    rw [if_neg n1]; rfl
 cases t with
 | e => exact hb _ _ _
 | n l v r => exact hb _ _ _
theorem dSa (x : Int) : ∀ (f k : Nat) (t : WT) (j : Nat), k + 1 < 2 ^ f → (dRx x f k t).get j = if j = k then x else t.get j
 | 0, k, t, j, h => by simp at h
 | f + 1, k, t, j, h => by
  have h2 : 2 ^ (f + 1) = 2 * 2 ^ f := by rw [Nat.pow_succ]; omega
  have ih := fun k t j (h : k + 1 < 2 ^ f) => dSa x f k t j h
  rw [dSg]
  cases t with
  | e =>
   simp only
   split
   ·subst_vars
    rw [dRu]
    split
    ·rfl
    ·simp [WT.get_e]
   ·split
    ·rw [dRu]
     split
     ·subst_vars; rw [if_neg (by omega)]; rfl
     ·split
      ·rw [ih _ _ _ (by omega), WT.get_e, WT.get_e]
       by_cases hj : j = k
       ·rw [if_pos hj, if_pos (by omega)]
       ·rw [if_neg hj, if_neg (by omega)]
      ·rw [WT.get_e, if_neg (by omega)]; rfl
    ·rw [dRu]
     split
     ·subst_vars; rw [if_neg (by omega)]; rfl
     ·split
      ·rw [WT.get_e, if_neg (by omega)]; rfl
      ·rw [ih _ _ _ (by omega), WT.get_e, WT.get_e]
       by_cases hj : j = k
       ·rw [if_pos hj, if_pos (by omega)]
       ·rw [if_neg hj, if_neg (by omega)]
  | n l v r =>
   simp only
   split
   ·subst_vars
    rw [dRu, dRu]
    split
    ·rfl
    ·rfl
   ·split
    ·rw [dRu, dRu]
     split
     ·subst_vars; rw [if_neg (by omega)]
     ·split
      ·rw [ih _ _ _ (by omega)]
       by_cases hj : j = k
       ·rw [if_pos hj, if_pos (by omega)]
       ·rw [if_neg hj, if_neg (by omega)]
      ·rw [if_neg (by omega)]
    ·rw [dRu, dRu]
     split
     ·subst_vars; rw [if_neg (by omega)]
     ·split
      ·rw [if_neg (by omega)]
      ·rw [ih _ _ _ (by omega)]
       by_cases hj : j = k
       ·rw [if_pos hj, if_pos (by omega)]
       ·rw [if_neg hj, if_neg (by omega)]
theorem WT.get_set (t : WT) (k : Nat) (x : Int) (j : Nat) (h : k < 16000000) : (t.set k x).get j = if j = k then x else t.get j :=
 dSa x 24 k t j (by omega)
def gV (n : Nat) (t : WT) : List DV := (List.range n).map fun i => .i .i64 (t.get i)
def sT (g : Bool) : Ob → Ob → Prop
 | .big n t, o => if g then o = .big n t else o = .row .ex (gV n t)
 | .mi t, o => if g then o = .mi t else ∃ es, o = .mp es ∧ ∀ a : Int, dJ (.int .i64) (.i .i64 a) es = some (if 0 ≤ a ∧ t.get a.toNat ≠ 0 then some (.b true) else none)
 | o, o' => o' = o
structure Sim (g : Bool) (h h' : Hp) : Prop where
 next : h'.next = h.next
 get : ∀ b o, h.bl.get b = some o → ∃ o', h'.bl.get b = some o' ∧ sT g o o'
def SimR (g : Bool) (r r' : aH) : Prop := ∀ v h, r = some (v, h) → ∃ h', r' = some (v, h') ∧ Sim g h h'
def SimP (g : Bool) (p p' : Hp → aH) : Prop := ∀ h h', Sim g h h' → SimR g (p h) (p' h')
variable {h h' : Hp} {g : Bool}
theorem Sim.row (S : Sim g h h') {b : Pos} {k : Kind} {l : List DV} (hb : h.bl.get b = some (.row k l)) : h'.bl.get b = some (.row k l) := by
 obtain ⟨o', h1, h2⟩ := S.get b _ hb
 rw [h1, show o' = .row k l from h2]
theorem Sim.it (S : Sim g h h') {b : Pos} {s : List Nat} {p : Nat} (hb : h.bl.get b = some (.it s p)) : h'.bl.get b = some (.it s p) := by
 obtain ⟨o', h1, h2⟩ := S.get b _ hb
 rw [h1, show o' = .it s p from h2]
theorem Sim.mp (S : Sim g h h') {b : Pos} {es : List (DV × DV)} (hb : h.bl.get b = some (.mp es)) : h'.bl.get b = some (.mp es) := by
 obtain ⟨o', h1, h2⟩ := S.get b _ hb
 rw [h1, show o' = .mp es from h2]
theorem Sim.set (S : Sim g h h') {o o' : Ob} (hr : sT g o o') (b n : Pos) : Sim g ⟨n, Tr.set o b h.bl⟩ ⟨n, Tr.set o' b h'.bl⟩ := by
 refine ⟨rfl, fun x ob hx => ?_⟩
 by_cases e : x = b
 ·subst e
  simp only [dRc, bE] at hx ⊢
  subst hx
  exact ⟨o', rfl, hr⟩
 ·simp only [dRb _ _ _ _ e] at hx ⊢
  exact S.get x ob hx
theorem Sim.setR (S : Sim g h h') (k : Kind) (l : List DV) (b n : Pos) : Sim g ⟨n, Tr.set (.row k l) b h.bl⟩ ⟨n, Tr.set (.row k l) b h'.bl⟩ := S.set (show sT g (.row k l) (.row k l) from rfl) b n
theorem Sim.setM (S : Sim g h h') (es : List (DV × DV)) (b n : Pos) : Sim g ⟨n, Tr.set (.mp es) b h.bl⟩ ⟨n, Tr.set (.mp es) b h'.bl⟩ := S.set (show sT g (.mp es) (.mp es) from rfl) b n
theorem Sim.setI (S : Sim g h h') (s : List Nat) (p : Nat) (b n : Pos) : Sim g ⟨n, Tr.set (.it s p) b h.bl⟩ ⟨n, Tr.set (.it s p) b h'.bl⟩ := S.set (show sT g (.it s p) (.it s p) from rfl) b n
theorem Sim.new (S : Sim g h h') {o o' : Ob} (hr : sT g o o') : Sim g ⟨h.next.succ, Tr.set o h.next h.bl⟩ ⟨h'.next.succ, Tr.set o' h'.next h'.bl⟩ := by
 rw [S.next]; exact S.set hr _ _
theorem SimR.none (r : aH) : SimR g none r := fun v h e => by cases e
theorem SimR.some (S : Sim g h h') (v : DV) : SimR g (some (v, h)) (some (v, h')) := fun u k e => by
 simp only [bE, bR] at e
 obtain ⟨rfl, rfl⟩ := e
 exact ⟨h', rfl, S⟩
theorem dRf {F : Hp → aH} (hF : PureP F) : SimP g F F := fun h h' S v k e => by
 obtain ⟨rfl, h2⟩ := hF h v k e
 exact ⟨h', h2 h', S⟩
theorem Sim.rowOf (S : Sim g h h') {b : Pos} {l : List DV} (hb : rowOf b h = some l) : rowOf b h' = some l := by
 unfold Dd.rowOf at hb ⊢
 split at hb <;> (try (cases hb; done))
 rename_i k l0 h0
 rw [S.row h0]; exact hb
theorem Sim.cellsAt (S : Sim g h h') {b : Pos} {o n : Nat} {cs : List DV} (hb : cellsAt b o n h = some cs) : cellsAt b o n h' = some cs := by
 unfold Dd.cellsAt at hb ⊢
 split at hb <;> (try (cases hb; done))
 rename_i l h0
 rw [S.rowOf h0]; exact hb
theorem Sim.cellD (S : Sim g h h') {b : Pos} {o : Nat} {v : DV} (hb : cellD b o h = some v) : cellD b o h' = some v := by
 unfold Dd.cellD at hb ⊢
 split at hb <;> (try (cases hb; done))
 rename_i l h0
 rw [S.rowOf h0]; exact hb
theorem Sim.storeAt (S : Sim g h h') {b : Pos} {o : Nat} {vs : List DV} {k : Hp} (hb : dG b o vs h = some k) : ∃ k', dG b o vs h' = some k' ∧ Sim g k k' := by
 unfold dG at hb ⊢
 split at hb <;> (try (cases hb; done))
 rename_i kd l h0
 rw [S.row h0]
 dsimp only
 split at hb <;> (try (cases hb; done))
 rename_i hw
 rw [if_pos hw]
 split at hb <;> (try (cases hb; done))
 rename_i l' hp
 simp only [bE] at hb
 subst hb
 try simp only [hp]
 exact ⟨_, rfl, by rw [S.next]; exact S.set (show sT g (.row kd l') (.row kd l') from rfl) _ _⟩
theorem aHg (cs : List DV) : SimP g (bL cs) (bL cs) := fun h h' S v k e => by
 simp only [bL, bE, bR] at e ⊢
 obtain ⟨rfl, rfl⟩ := e
 exact ⟨_, ⟨by rw [S.next], rfl⟩, S.new rfl⟩
theorem aAb (b : Pos) (cs : List DV) : SimP g (jW b cs) (jW b cs) := fun h h' S v k e => by
 simp only [jW, bE, bR] at e ⊢
 obtain ⟨rfl, rfl⟩ := e
 exact ⟨_, ⟨rfl, rfl⟩, by rw [S.next]; first | exact S.setR _ _ _ _ | exact S.setM _ _ _ | exact S.setI _ _ _ _⟩
theorem cPy (x : DV) : SimP g (bQ x) (bQ x) := by
 unfold bQ
 cases dI x with
 | none => exact fun h h' S => SimR.none _
 | some cs => exact aHg cs
theorem bCc (b : Pos) (x : DV) : SimP g (zF b x) (zF b x) := by
 unfold zF
 cases dI x with
 | none => exact fun h h' S => SimR.none _
 | some cs => exact aAb b cs
theorem kC (x : DV) : SimP g (aA x) (aA x) := fun h h' S v k e => by
 unfold aA at e ⊢
 split at e <;> (try (cases e; done))
 split at e <;> (try (cases e; done))
 rename_i hc
 simp only [bE, bR] at e
 obtain ⟨rfl, rfl⟩ := e
 simp only [S.cellD hc]
 exact ⟨_, rfl, S⟩
theorem kE (n : Nat) (x : DV) : SimP g (aK n x) (aK n x) := fun h h' S v k e => by
 unfold aK at e ⊢
 split at e <;> (try (cases e; done))
 split at e <;> (try (cases e; done))
 rename_i hc
 simp only [bE, bR] at e
 obtain ⟨rfl, rfl⟩ := e
 simp only [S.cellsAt hc]
 exact ⟨_, rfl, S⟩
theorem kG (n : Nat) (x y : DV) : SimP g (aG n x y) (aG n x y) := fun h h' S v k e => by
 unfold aG at e ⊢
 split at e <;> (try (cases e; done))
 rename_i b o cs hc
 try rw [hc]
 try dsimp only
 split at e <;> (try (cases e; done))
 rename_i hn
 rw [if_pos hn]
 split at e <;> (try (cases e; done))
 rename_i k0 hs
 simp only [bE, bR] at e
 obtain ⟨rfl, rfl⟩ := e
 obtain ⟨k', h1, h2⟩ := S.storeAt hs
 try simp only [h1]
 exact ⟨_, rfl, h2⟩
theorem bEz (size : Nat) (x : DV) (lo hi : Option DV) : SimP g (cS size x lo hi) (cS size x lo hi) := fun h h' S v k e => by
 unfold cS at e ⊢
 split at e <;> (try (cases e; done))
 ·split at e <;> (try (cases e; done))
  rename_i en he
  try simp only [he]
  split at e <;> (try (cases e; done))
  rename_i s hs
  try simp only [hs]
  split at e <;> (try (cases e; done))
  ·rename_i l0 hb
   rw [S.row hb]
   simp only [bE, bR] at e
   obtain ⟨rfl, rfl⟩ := e
   exact ⟨_, rfl, S⟩
  ·rename_i l0 hb
   rw [S.row hb]
   simp only [bE, bR] at e
   obtain ⟨rfl, rfl⟩ := e
   exact ⟨_, rfl, S⟩
  ·rename_i k0 l0 n1 n2 hb
   rw [S.row hb]
   cases k0 with
   | ro => exact absurd rfl n1
   | ex => exact absurd rfl n2
   | gr es =>
    dsimp only
    split at e
    ·rename_i hcs
     simp only [bE, bR] at e
     obtain ⟨rfl, rfl⟩ := e
     rw [if_pos hcs]
     exact ⟨_, rfl, S⟩
    ·rename_i hcs
     simp only [bE, bR] at e
     obtain ⟨rfl, rfl⟩ := e
     rw [if_neg hcs]
     exact ⟨_, rfl, S⟩
   | sp =>
    dsimp only
    split at e
    ·rename_i hcs
     simp only [bE, bR] at e
     obtain ⟨rfl, rfl⟩ := e
     rw [if_pos hcs]
     exact ⟨_, rfl, S⟩
    ·rename_i hcs
     simp only [bE, bR] at e
     obtain ⟨rfl, rfl⟩ := e
     rw [if_neg hcs]
     exact ⟨_, rfl, S⟩
 all_goals
  split at e <;> (try (cases e; done))
  rename_i en he
  try simp only [he]
  split at e <;> (try (cases e; done))
  rename_i s hs
  try simp only [hs]
  simp only [bE, bR] at e
  obtain ⟨rfl, rfl⟩ := e
  exact ⟨_, rfl, S⟩
theorem aQe (x : DV) (lo : Option DV) (hi mx : DV) : SimP g (mR x lo hi mx) (mR x lo hi mx) := fun h h' S v k e => by
 unfold mR at e ⊢
 split at e <;> (try (cases e; done))
 all_goals
  split at e <;> (try (cases e; done))
 ·rename_i m e1
  try simp only [e1]
  split at e <;> (try (cases e; done))
  rename_i n e2
  try simp only [e2]
  simp only [bE, bR] at e
  obtain ⟨rfl, rfl⟩ := e
  exact ⟨_, rfl, S⟩
 ·rename_i m e1
  try simp only [e1]
  split at e <;> (try (cases e; done))
  rename_i n e2
  try simp only [e2]
  simp only [bE, bR] at e
  obtain ⟨rfl, rfl⟩ := e
  exact ⟨_, rfl, S⟩
 ·rename_i n1 n2 e1 e2
  try simp only [e1, e2]
  simp only [bE, bR] at e
  obtain ⟨rfl, rfl⟩ := e
  exact ⟨_, rfl, S⟩
 ·rename_i n1 n2 e1 e2
  try simp only [e1, e2]
  simp only [bE, bR] at e
  obtain ⟨rfl, rfl⟩ := e
  exact ⟨_, rfl, S⟩
theorem bFe (x : DV) : SimP g (fV x) (fV x) := fun h h' S v k e => by
 unfold fV at e ⊢
 split at e <;> (try (cases e; done))
 ·simp only [bE, bR] at e
  obtain ⟨rfl, rfl⟩ := e
  exact ⟨_, rfl, S⟩
 ·split at e <;> (try (cases e; done))
  rename_i cs hc
  simp only [S.cellsAt hc]
  split at e <;> (try (cases e; done))
  rename_i l hl
  try simp only [hl]
  simp only [bE, bR] at e
  obtain ⟨rfl, rfl⟩ := e
  exact ⟨_, rfl, S⟩
theorem zG (z : List DV) (n : Nat) (ps : List (Nat × Nat × DV)) : SimP g (aL z n ps) (aL z n ps) := fun h h' S v k e => by
 unfold aL at e ⊢
 split at e <;> (try (cases e; done))
 rename_i cs hf
 try simp only [hf]
 simp only [bE, bR] at e ⊢
 obtain ⟨rfl, rfl⟩ := e
 exact ⟨_, ⟨by rw [S.next], rfl⟩, S.new rfl⟩
theorem qK (b : Pos) (z : List DV) (n : Nat) (ps : List (Nat × Nat × DV)) : SimP g (bK b z n ps) (bK b z n ps) := fun h h' S v k e => by
 unfold bK at e ⊢
 split at e <;> (try (cases e; done))
 rename_i cs hf
 try simp only [hf]
 simp only [bE, bR] at e ⊢
 obtain ⟨rfl, rfl⟩ := e
 exact ⟨_, ⟨rfl, rfl⟩, by rw [S.next]; first | exact S.setR _ _ _ _ | exact S.setM _ _ _ | exact S.setI _ _ _ _⟩
theorem aMl : SimP g dV dV := fun h h' S v k e => by
 simp only [dV, bE, bR] at e ⊢
 obtain ⟨rfl, rfl⟩ := e
 exact ⟨_, ⟨by rw [S.next], rfl⟩, S.new rfl⟩
theorem Sim.entries (S : Sim g h h') {x : DV} {es : List (DV × DV)} (he : fM x h = some es) : fM x h' = some es := by
 unfold fM at he ⊢
 split at he <;> (try (cases he; done))
 ·exact he
 ·split at he <;> (try (cases he; done))
  rename_i hb
  rw [S.mp hb]; exact he
theorem aRk (d : TypeDesc) (z : DV) (ok : Bool) (x key : DV) : SimP g (dO d z ok x key) (dO d z ok x key) := fun h h' S v k e => by
 unfold dO at e ⊢
 split at e <;> (try (cases e; done))
 rename_i es he
 simp only [S.entries he]
 split at e <;> (try (cases e; done))
 all_goals
  rename_i hf
  try simp only [hf]
  simp only [bE, bR] at e
  obtain ⟨rfl, rfl⟩ := e
  exact ⟨_, rfl, S⟩
theorem aSh (d : TypeDesc) (x key y : DV) : SimP g (fY d x key y) (fY d x key y) := fun h h' S v k e => by
 unfold fY at e ⊢
 split at e <;> (try (cases e; done))
 split at e <;> (try (cases e; done))
 rename_i b _ es hb
 rw [S.mp hb]
 dsimp only
 split at e <;> (try (cases e; done))
 rename_i hf
 try simp only [hf]
 simp only [bE, bR] at e
 obtain ⟨rfl, rfl⟩ := e
 exact ⟨_, rfl, by rw [S.next]; first | exact S.setR _ _ _ _ | exact S.setM _ _ _ | exact S.setI _ _ _ _⟩
theorem aIy (d : TypeDesc) (z x key : DV) : SimP g (fQ d z x key) (fQ d z x key) := fun h h' S v k e => by
 unfold fQ at e ⊢
 split at e <;> (try (cases e; done))
 split at e <;> (try (cases e; done))
 rename_i b _ es hb
 rw [S.mp hb]
 dsimp only
 split at e <;> (try (cases e; done))
 all_goals
  rename_i hf
  try simp only [hf]
  simp only [bE, bR] at e
  obtain ⟨rfl, rfl⟩ := e
  exact ⟨_, rfl, by rw [S.next]; first | exact S.setR _ _ _ _ | exact S.setM _ _ _ | exact S.setI _ _ _ _⟩
theorem xL (x s y : DV) : SimP g (dX x s y) (dX x s y) := fun h h' S v k e => by
 unfold dX at e ⊢
 split at e <;> (try (cases e; done))
 split at e <;> (try (cases e; done))
 rename_i es hb
 rw [S.mp hb]
 dsimp only
 split at e <;> (try (cases e; done))
 rename_i hf
 try simp only [hf]
 simp only [bE, bR] at e
 obtain ⟨rfl, rfl⟩ := e
 exact ⟨_, rfl, by rw [S.next]; first | exact S.setR _ _ _ _ | exact S.setM _ _ _ | exact S.setI _ _ _ _⟩
theorem zL (size bytes : Nat) (z : List DV) (n c : DV) : SimP g (cI size bytes z n c) (cI size bytes z n c) := fun h h' S v k e => by
 unfold cI at e ⊢
 split at e <;> (try (cases e; done))
 split at e <;> (try (cases e; done))
 rename_i hc
 rw [if_pos hc]
 simp only [bE, bR] at e ⊢
 obtain ⟨rfl, rfl⟩ := e
 exact ⟨_, ⟨by rw [S.next], rfl⟩, S.new rfl⟩
theorem bEs (z : List DV) (x : DV) : SimP g (iV z x) (iV z x) := fun h h' S v k e => by
 unfold iV at e ⊢
 split at e <;> (try (cases e; done))
 ·simp only [bE, bR] at e
  obtain ⟨rfl, rfl⟩ := e
  exact ⟨_, rfl, S⟩
 ·simp only [bE, bR] at e
  obtain ⟨rfl, rfl⟩ := e
  exact ⟨_, rfl, S⟩
 ·split at e
  ·rename_i hn
   simp only [bE, bR] at e
   obtain ⟨rfl, rfl⟩ := e
   simp only [hn, if_true]
   exact ⟨_, rfl, S⟩
  ·rename_i hn
   rw [if_neg hn]
   split at e <;> (try (cases e; done))
   rename_i k0 hs
   simp only [bE, bR] at e
   obtain ⟨rfl, rfl⟩ := e
   obtain ⟨k', h1, h2⟩ := S.storeAt hs
   try simp only [h1]
   exact ⟨_, rfl, h2⟩
theorem Sim.src (S : Sim g h h') {size : Nat} {x : DV} {r : Nat × List DV} (hs : sD size x h = some r) : sD size x h' = some r := by
 unfold sD at hs ⊢
 split at hs <;> (try (cases hs; done))
 ·exact hs
 ·exact hs
 ·split at hs <;> (try (cases hs; done))
  rename_i hc
  simp only [S.cellsAt hc]; exact hs
 ·split at hs <;> (try (cases hs; done))
  rename_i hc
  simp only [S.cellsAt hc]; exact hs
 ·exact hs
theorem aPz (size bytes : Nat) (s x : DV) : SimP g (bA size bytes s x) (bA size bytes s x) := fun h h' S v k e => by
 unfold bA at e ⊢
 split at e <;> (try (cases e; done))
 rename_i n new hs
 simp only [S.src hs]
 split at e <;> (try (cases e; done))
 ·split at e
  ·rename_i hn
   rw [if_pos hn]
   simp only [bE, bR] at e
   obtain ⟨rfl, rfl⟩ := e
   exact ⟨_, rfl, S⟩
  ·rename_i hn
   rw [if_neg hn]
   split at e <;> (try (cases e; done))
   rename_i hr
   rw [if_pos hr]
   simp only [bE, bR] at e ⊢
   obtain ⟨rfl, rfl⟩ := e
   exact ⟨_, ⟨by rw [S.next], rfl⟩, S.new rfl⟩
 ·split at e <;> (try (cases e; done))
  rename_i hn
  rw [if_pos hn]
  simp only [bE, bR] at e
  obtain ⟨rfl, rfl⟩ := e
  exact ⟨_, rfl, S⟩
 ·rename_i b o len cap
  split at e
  ·rename_i hle
   rw [if_pos hle]
   split at e <;> (try (cases e; done))
   rename_i k0 hst
   simp only [bE, bR] at e
   obtain ⟨rfl, rfl⟩ := e
   obtain ⟨k', h1, h2⟩ := S.storeAt hst
   try simp only [h1]
   exact ⟨_, rfl, h2⟩
  ·rename_i hle
   rw [if_neg hle]
   split at e <;> (try (cases e; done))
   rename_i k0 l old hb hold
   rw [S.row hb, S.cellsAt hold]
   dsimp only
   split at e <;> (try (cases e; done))
   rename_i hroom
   rw [if_pos hroom]
   split at e <;> (try (cases e; done))
   ·simp only [bE, bR] at e ⊢
    obtain ⟨rfl, rfl⟩ := e
    exact ⟨_, ⟨by rw [S.next], rfl⟩, S.new rfl⟩
   ·simp only [bE, bR] at e ⊢
    obtain ⟨rfl, rfl⟩ := e
    exact ⟨_, ⟨by rw [S.next], rfl⟩, S.new rfl⟩
   ·split at e <;> (try (cases e; done))
    rename_i hes
    rw [if_pos hes]
    simp only [bE, bR] at e ⊢
    obtain ⟨rfl, rfl⟩ := e
    refine ⟨_, ⟨by rw [S.next], rfl⟩, ?_⟩
    have S1 : Sim g ⟨h.next, Tr.set (.row .sp (bS o l)) b h.bl⟩ ⟨h'.next, Tr.set (.row .sp (bS o l)) b h'.bl⟩ := by
     rw [S.next]; exact S.set (show sT g (.row .sp (bS o l)) (.row .sp (bS o l)) from rfl) _ _
    exact S1.new rfl
 ·rename_i b o len cap
  split at e
  ·rename_i hn
   rw [if_pos hn]
   split at e <;> (try (cases e; done))
   rename_i hc
   rw [if_pos hc]
   simp only [bE, bR] at e
   obtain ⟨rfl, rfl⟩ := e
   exact ⟨_, rfl, S⟩
  ·rename_i hn
   rw [if_neg hn]
   split at e <;> (try (cases e; done))
   rename_i hc
   rw [if_neg hc]
   split at e <;> (try (cases e; done))
   rename_i old hold
   simp only [S.cellsAt hold]
   split at e <;> (try (cases e; done))
   rename_i hr
   rw [if_pos hr]
   simp only [bE, bR] at e ⊢
   obtain ⟨rfl, rfl⟩ := e
   exact ⟨_, ⟨by rw [S.next], rfl⟩, S.new rfl⟩
theorem bDl (x : DV) : SimP g (nR x) (nR x) := fun h h' S v k e => by
 unfold nR at e ⊢
 split at e <;> (try (cases e; done))
 simp only [bE, bR] at e ⊢
 obtain ⟨rfl, rfl⟩ := e
 exact ⟨_, ⟨by rw [S.next], rfl⟩, S.new rfl⟩
theorem bYt (x : DV) : SimP g (vP x) (vP x) := fun h h' S v k e => by
 unfold vP at e ⊢
 split at e <;> (try (cases e; done))
 split at e <;> (try (cases e; done))
 rename_i b _ l pos hb
 rw [S.it hb]
 dsimp only
 split at e
 ·rename_i c hc
  try simp only [hc]
  split at e <;> (try (cases e; done))
  rename_i hlt
  rw [if_pos hlt]
  simp only [bE, bR] at e ⊢
  obtain ⟨rfl, rfl⟩ := e
  exact ⟨_, ⟨rfl, rfl⟩, by rw [S.next]; first | exact S.setR _ _ _ _ | exact S.setM _ _ _ | exact S.setI _ _ _ _⟩
 ·rename_i hc
  try simp only [hc]
  simp only [bE, bR] at e ⊢
  obtain ⟨rfl, rfl⟩ := e
  exact ⟨_, ⟨rfl, rfl⟩, S⟩
end
end Go.Dd

namespace Go.Dd
theorem SimP.none {gg : Bool} (p : Hp → aH) : SimP gg (fun _ => Option.none) p := fun h h' S => SimR.none _
theorem SimP.val {gg : Bool} (v : DV) : SimP gg (fun h => some (v, h)) (fun h => some (v, h)) := fun h h' S => SimR.some S v
section
variable {gg : Bool} {P : Program} {I2 I1 : FuncId → Option (List DV → Hp → aH)} {rec2 rec1 : FuncId → List DV → Hp → aH}
theorem aNl (b : Builtin) (ts : List TypeId) (args : List DV) : SimP gg (jC ⟨P, I2⟩ b ts args) (jC ⟨P, I1⟩ b ts args) := by
 unfold jC
 cases b <;> try exact SimP.none _
 case len =>
  match ts, args with
  | [t], [x] =>
   dsimp only
   cases P.underlying t with
   | none => exact SimP.none _
   | some d => cases d <;> first | exact SimP.none _ | exact dRf (aAd x) | exact dRf (lT x)
  | [], _ => exact SimP.none _
  | [_], [] => exact SimP.none _
  | [_], _ :: _ :: _ => exact SimP.none _
  | _ :: _ :: _, _ => exact SimP.none _
 case min =>
  show SimP gg (qP args) (qP args)
  unfold qP
  match args with
  | [x, y] => exact dRf (aLm x y)
  | [] => exact SimP.none _
  | [_] => exact SimP.none _
  | _ :: _ :: _ :: _ => exact SimP.none _
 case max =>
  show SimP gg (qD args) (qD args)
  unfold qD
  match args with
  | [x, y] => exact dRf (aKz x y)
  | [] => exact SimP.none _
  | [_] => exact SimP.none _
  | _ :: _ :: _ :: _ => exact SimP.none _
 case clear =>
  match ts, args with
  | [t], [x] =>
   dsimp only
   cases P.underlying t with
   | none => exact SimP.none _
   | some d =>
    cases d <;> try exact SimP.none _
    rename_i e
    dsimp only
    cases P.info? e with
    | none => exact SimP.none _
    | some i =>
     dsimp only
     cases i.zero with
     | none => exact SimP.none _
     | some z =>
      dsimp only
      by_cases h0 : 0 < z.cells.size
      ·simp only [h0, if_true]; exact bEs _ _
      ·simp only [h0, if_false]; exact SimP.none _
  | [], _ => exact SimP.none _
  | [_], [] => exact SimP.none _
  | [_], _ :: _ :: _ => exact SimP.none _
  | _ :: _ :: _, _ => exact SimP.none _
 case append =>
  match ts, args with
  | [t, u], [s, x] =>
   dsimp only
   have hmain : ∀ e, SimP gg (fun h => match P.info? e with
     | some i => match i.zero with
      | some z => if 0 < i.size ∧ 0 < i.bytes ∧ z.cells.size = i.size then bA i.size i.bytes s x h else none
      | none => none
     | none => none) (fun h => match P.info? e with
     | some i => match i.zero with
      | some z => if 0 < i.size ∧ 0 < i.bytes ∧ z.cells.size = i.size then bA i.size i.bytes s x h else none
      | none => none
     | none => none) := by
    intro e
    cases P.info? e with
    | none => exact SimP.none _
    | some i =>
     dsimp only
     cases i.zero with
     | none => exact SimP.none _
     | some z =>
      dsimp only
      split
      ·exact aPz _ _ _ _
      ·exact SimP.none _
   cases P.underlying t with
   | none => exact SimP.none _
   | some d =>
    cases d <;> try exact SimP.none _
    rename_i e
    cases P.underlying u with
    | none => exact SimP.none _
    | some d2 => cases d2 <;> first | exact SimP.none _ | exact hmain e
  | [], _ => exact SimP.none _
  | [_], _ => exact SimP.none _
  | [_, _], [] => exact SimP.none _
  | [_, _], [_] => exact SimP.none _
  | [_, _], _ :: _ :: _ :: _ => exact SimP.none _
  | _ :: _ :: _ :: _, _ => exact SimP.none _
theorem aAh (HC : ∀ g args, SimP gg (bP ⟨P, I2⟩ rec2 g args) (bP ⟨P, I1⟩ rec1 g args)) (o : Oper) (env : aW) : SimP gg (iQ ⟨P, I2⟩ rec2 o env) (iQ ⟨P, I1⟩ rec1 o env) := by
 obtain ⟨dst, op, ty, pos, after, guard⟩ := o
 unfold iQ
 cases op <;> (try dsimp only) <;> try exact SimP.none _
 case move x => exact SimP.val _
 case assign x => exact SimP.val _
 case pick c x y => exact dRf (aAc _ _ _)
 case alloc t =>
  cases P.info? t with
  | none => exact SimP.none _
  | some i =>
   try dsimp only
   cases i.zero with
   | none => exact SimP.none _
   | some z => exact aHg _
 case box t x => exact cPy _
 case build t ps =>
  cases P.underlying t with
  | none => exact SimP.none _
  | some d =>
   cases d <;> (try dsimp only) <;> try exact SimP.none _
   rename_i fs
   cases P.info? t with
   | none => exact SimP.none _
   | some i =>
    try dsimp only
    cases i.zero with
    | none => exact SimP.none _
    | some z =>
     try dsimp only
     generalize fs.toList.mapM (fun f => (P.info? f.type).map fun fi => (f.offset, fi.size)) = pl
     cases pl with
     | none => exact SimP.none _
     | some pl =>
      try dsimp only
      generalize ps.toList.mapM (fun (q : Nat × Operand) => (pl[q.1]?).map fun s => (s.1, s.2, opr env q.2)) = l
      cases l with
      | none => exact SimP.none _
      | some l => exact dRf (vU _ _)
 case buildSlice t n ps =>
  cases P.underlying t with
  | none => exact SimP.none _
  | some d =>
   cases d <;> (try dsimp only) <;> try exact SimP.none _
   rename_i e
   cases P.info? e with
   | none => exact SimP.none _
   | some i =>
    try dsimp only
    cases i.zero with
    | none => exact SimP.none _
    | some z =>
     try dsimp only
     split
     ·exact zG _ _ _
     ·exact SimP.none _
 case load t x =>
  cases P.underlying t with
  | none => exact SimP.none _
  | some d =>
   cases P.info? t with
   | none => exact SimP.none _
   | some i =>
    try dsimp only
    cases iR d with
    | true => exact kE _ _
    | false => exact kC _
 case store t x y =>
  cases P.info? t with
  | none => exact SimP.none _
  | some i => exact kG _ _ _
 case nilCheck x => exact dRf (aKq _)
 case binOp op t x y yt =>
  cases P.underlying t with
  | none => exact SimP.none _
  | some d => exact dRf (aMm _ _ _ _)
 case unOp op t x => exact dRf (aUk _ _)
 case convert src dst x =>
  cases P.underlying src with
  | none => exact SimP.none _
  | some d =>
   cases P.underlying dst with
   | none => cases d <;> exact SimP.none _
   | some d2 =>
    cases d2 <;> cases d <;> (try dsimp only) <;> first | exact SimP.none _ | exact dRf (nI _ _) | exact dRf (oA _) | skip
    all_goals
     rename_i e
     cases P.underlying e with
     | none => exact SimP.none _
     | some d3 =>
      cases d3 <;> (try dsimp only) <;> try exact SimP.none _
      rename_i k
      cases k <;> first | exact SimP.none _ | exact bFe _
 case makeFunc fn first cap =>
  cases fn <;> first | exact SimP.none _ | exact SimP.val _
 case slice t x lo hi mx =>
  cases P.underlying t with
  | none => exact SimP.none _
  | some d =>
   cases mx with
   | none =>
    cases d <;> (try dsimp only) <;> first | exact SimP.none _ | exact dRf (lY _ _ _) | skip
    rename_i e
    cases P.info? e with
    | none => exact SimP.none _
    | some i => exact bEz _ _ _ _
   | some m =>
    cases d <;> (try dsimp only) <;> try exact SimP.none _
    rename_i e
    cases P.info? e with
    | none => exact SimP.none _
    | some i =>
     cases hi with
     | none => exact SimP.none _
     | some hv => exact aQe _ _ _ _
 case fieldAddr t x f =>
  cases P.underlying t with
  | none => exact SimP.none _
  | some d =>
   cases d <;> (try dsimp only) <;> try exact SimP.none _
   rename_i fs
   cases fs[f]? with
   | none => exact SimP.none _
   | some fl =>
    try dsimp only
    cases P.info? fl.type with
    | none => exact SimP.none _
    | some i =>
     try dsimp only
     split
     ·exact SimP.none _
     ·exact dRf (wA _ _)
 case field t x f =>
  cases P.underlying t with
  | none => exact SimP.none _
  | some d =>
   cases d <;> (try dsimp only) <;> try exact SimP.none _
   rename_i fs
   cases fs[f]? with
   | none => exact SimP.none _
   | some fl =>
    try dsimp only
    cases P.underlying fl.type with
    | none => exact SimP.none _
    | some d2 =>
     cases P.info? fl.type with
     | none => exact SimP.none _
     | some i =>
      try dsimp only
      cases iR d2 with
      | true => exact dRf (wZ _ _ _)
      | false => exact dRf (vE _ _)
 case indexAddr t x ix =>
  cases P.underlying t with
  | none => exact SimP.none _
  | some d =>
   cases d <;> (try dsimp only) <;> try exact SimP.none _
   ·rename_i e
    cases P.info? e with
    | none => exact SimP.none _
    | some i => exact dRf (mK _ _ _)
   ·rename_i n e
    cases P.info? e with
    | none => exact SimP.none _
    | some i => exact dRf (mZ _ _ _ _)
 case index t x ix =>
  cases P.underlying t with
  | none => exact SimP.none _
  | some d => cases d <;> first | exact SimP.none _ | exact dRf (rW _ _)
 case extract x i => exact dRf (pI _ _)
 case range t x =>
  cases P.underlying t with
  | none => exact SimP.none _
  | some d => cases d <;> first | exact SimP.none _ | exact bDl _
 case next x str =>
  cases str with
  | true => simp only [if_true]; exact bYt _
  | false => simp only [Bool.false_eq_true, if_false]; exact SimP.none _
 case makeMap t r => cases r <;> first | exact SimP.none _ | exact aMl
 case lookup t x k ok =>
  cases P.underlying t with
  | none => exact SimP.none _
  | some d =>
   cases d <;> (try dsimp only) <;> try exact SimP.none _
   rename_i kt et
   cases P.underlying kt with
   | none => exact SimP.none _
   | some d2 =>
    cases P.info? et with
    | none => exact SimP.none _
    | some i =>
     try dsimp only
     cases i.zero with
     | none => exact SimP.none _
     | some z =>
      try dsimp only
      cases jB d2 with
      | true => exact aRk _ _ _ _ _
      | false => exact SimP.none _
 case mapUpdate t m k x =>
  cases P.underlying t with
  | none => exact SimP.none _
  | some d =>
   cases d <;> (try dsimp only) <;> try exact SimP.none _
   rename_i kt et
   cases P.underlying kt with
   | none => exact SimP.none _
   | some d2 =>
    try dsimp only
    cases jB d2 with
    | true => exact aSh _ _ _ _
    | false => exact SimP.none _
 case mapEntry t m k =>
  cases P.underlying t with
  | none => exact SimP.none _
  | some d =>
   cases d <;> (try dsimp only) <;> try exact SimP.none _
   rename_i kt et
   cases P.underlying kt with
   | none => exact SimP.none _
   | some d2 =>
    cases P.info? et with
    | none => exact SimP.none _
    | some i =>
     try dsimp only
     cases i.zero with
     | none => exact SimP.none _
     | some z =>
      try dsimp only
      cases jB d2 with
      | true => exact aIy _ _ _ _
      | false => exact SimP.none _
 case entryStore t m s x => exact xL _ _ _
 case makeSlice t n c =>
  cases P.underlying t with
  | none => exact SimP.none _
  | some d =>
   cases d <;> (try dsimp only) <;> try exact SimP.none _
   rename_i e
   cases P.info? e with
   | none => exact SimP.none _
   | some i =>
    try dsimp only
    cases i.zero with
    | none => exact SimP.none _
    | some z =>
     try dsimp only
     split
     ·exact zL _ _ _ _ _
     ·exact SimP.none _
 case call c =>
  obtain ⟨callee, args, ats⟩ := c
  cases callee with
  | value f =>
   try dsimp only
   unfold cV
   cases opr env f <;> first | exact SimP.none _ | exact HC _ _
  | invoke r m => exact SimP.none _
  | builtin b => exact aNl _ _ _
theorem kF (HC : ∀ g args, SimP gg (bP ⟨P, I2⟩ rec2 g args) (bP ⟨P, I1⟩ rec1 g args)) (all : Array Oper) (o : Oper) (env : aW) :
  SimP gg (bJ ⟨P, I2⟩ rec2 all o env) (bJ ⟨P, I1⟩ rec1 all o env) := by
 unfold bJ
 cases o.guard with
 | none => exact aAh HC o env
 | some g =>
  obtain ⟨j, want⟩ := g
  dsimp only
  unfold gD
  cases aVq all j env <;> try exact SimP.none _
  ·rename_i x
   dsimp only
   split
   ·exact aAh HC o env
   ·exact SimP.val _
  ·rename_i vs
   cases vs with
   | nil => exact SimP.val _
   | cons a b => exact SimP.none _
def SimK (gg : Bool) (k k' : K) : Prop := ∀ env, SimP gg (k env) (k' env)
theorem dRj {r r' : aH} {k k' : DV → Hp → aH} (h : SimR gg r r') (hk : ∀ v, SimP gg (k v) (k' v)) : SimR gg (bnd r k) (bnd r' k') := by
 intro v h1 e
 obtain ⟨u, h0, e1, e2⟩ := dM e
 obtain ⟨h0', f1, S⟩ := h u h0 e1
 obtain ⟨h1', g1, S1⟩ := hk u h0 h0' S v h1 e2
 exact ⟨h1', by rw [f1]; exact g1, S1⟩
theorem dRy {b b' : Bool} {r r' : aH} (hb : b = true → b' = true) (h : SimR gg r r') : SimR gg (cnd b r) (cnd b' r') := by
 cases b with
 | false => exact fun v k e => by cases e
 | true => rw [hb rfl]; exact h
theorem oR (HC : ∀ g args, SimP gg (bP ⟨P, I2⟩ rec2 g args) (bP ⟨P, I1⟩ rec1 g args)) (nt : Nat) (all : Array Oper) {k k' : K} (hk : SimK gg k k') :
  ∀ l : List Oper, SimK gg (iT ⟨P, I2⟩ rec2 nt all l k) (iT ⟨P, I1⟩ rec1 nt all l k')
 | [] => hk
 | o :: l => fun env h h' S => by
  change SimR gg (cnd (cW nt o.dst) (bnd (bJ ⟨P, I2⟩ rec2 all o env h) fun v h1 => iT ⟨P, I2⟩ rec2 nt all l k (bN env o.dst v) h1))
   (cnd (cW nt o.dst) (bnd (bJ ⟨P, I1⟩ rec1 all o env h') fun v h1 => iT ⟨P, I1⟩ rec1 nt all l k' (bN env o.dst v) h1))
  exact dRy id (dRj (kF HC all o env h h' S) fun v => oR HC nt all hk l _)
theorem cZw (o : Oper) (b : Pos) (env : aW) : SimP gg (dT ⟨P, I2⟩ o b env) (dT ⟨P, I1⟩ o b env) := by
 obtain ⟨dst, op, ty, pos, after, guard⟩ := o
 unfold dT
 cases op <;> (try dsimp only) <;> try exact SimP.none _
 case alloc t =>
  cases P.info? t with
  | none => exact SimP.none _
  | some i =>
   dsimp only
   cases i.zero with
   | none => exact SimP.none _
   | some z => exact aAb _ _
 case box t x => exact bCc _ _
 case buildSlice t n ps =>
  cases P.underlying t with
  | none => exact SimP.none _
  | some d =>
   cases d <;> (try dsimp only) <;> try exact SimP.none _
   rename_i e
   cases P.info? e with
   | none => exact SimP.none _
   | some i =>
    dsimp only
    cases i.zero with
    | none => exact SimP.none _
    | some z =>
     dsimp only
     split
     ·exact qK _ _ _ _
     ·exact SimP.none _
theorem SimR.same {r r' : aH} (h : SimR gg r r') {v : DV} (hs : bI r v = true) : bI r' v = true := by
 unfold bI at hs ⊢
 split at hs
 ·rename_i x k
  obtain ⟨k', e, _⟩ := h x k rfl
  rw [e]; exact hs
 ·cases hs
inductive SimHs (gg : Bool) : List (Option Nat × Hp) → List (Option Nat × Hp) → Prop
 | nil : SimHs gg [] []
 | cons {j : Option Nat} {h h' : Hp} {l l' : List (Option Nat × Hp)} (S : Sim gg h h') (T : SimHs gg l l') : SimHs gg ((j, h) :: l) ((j, h') :: l')
theorem rR (m : Array Nat) (i : Nat) (v : DV) {look look' : Hp → aH} (hl : SimP gg look look') : ∀ (dirty : Bool) {hs hs' : List (Option Nat × Hp)}, SimHs gg hs hs' →
  eI m i v look dirty hs = true → eI m i v look' dirty hs' = true
 | dirty, _, _, .nil, h => h
 | dirty, _, _, .cons (j := j) S T, h => by
  unfold eI at h ⊢
  rw [Bool.and_eq_true] at h ⊢
  refine ⟨?_, ?_⟩
  ·have h1 := h.1
   cases dirty with
   | true => exact SimR.same (hl _ _ S) h1
   | false => exact h1
  ·have h2 := h.2
   cases j with
   | none => exact h2
   | some j =>
    dsimp only at h2 ⊢
    cases ho : gA m j i with
    | true => rfl
    | false =>
     rw [ho] at h2
     exact rR m i v hl true T h2
inductive SimSeen (gg : Bool) : List Seen → List Seen → Prop
 | nil : SimSeen gg [] []
 | cons {i : Nat} {look look' : Hp → aH} {v : DV} {l l' : List Seen} (S : SimP gg look look') (T : SimSeen gg l l') : SimSeen gg (⟨i, look, v⟩ :: l) (⟨i, look', v⟩ :: l')
theorem SimSeen.all {m : Array Nat} {i : Nat} {h h' : Hp} (S : Sim gg h h') : ∀ {l l' : List Seen}, SimSeen gg l l' →
  l.all (fun q => gA m q.at_ i || bI (q.look h) q.v) = true → l'.all (fun q => gA m q.at_ i || bI (q.look h') q.v) = true
 | _, _, .nil, e => e
 | _, _, .cons (i := i0) (v := v) S1 T, e => by
  rw [List.all_cons, Bool.and_eq_true] at e ⊢
  refine ⟨?_, SimSeen.all S T e.2⟩
  have h1 := e.1
  rw [Bool.or_eq_true] at h1 ⊢
  exact h1.imp id fun hs => SimR.same (S1 _ _ S) hs
theorem lO (HC : ∀ g args, SimP gg (bP ⟨P, I2⟩ rec2 g args) (bP ⟨P, I1⟩ rec1 g args)) (nt : Nat) (all : Array Oper) (m : Array Nat) (p0 : Pos) {k k' : K} (hk : SimK gg k k') :
  ∀ (l : List Oper) (i c : Nat) (dirty : Bool) {rd rd' : List Seen} {hs hs' : List (Option Nat × Hp)}, SimSeen gg rd rd' → SimHs gg hs hs' →
   SimK gg (eF ⟨P, I2⟩ rec2 nt all m p0 l k i c dirty rd hs) (eF ⟨P, I1⟩ rec1 nt all m p0 l k' i c dirty rd' hs')
 | [], i, c, dirty, rd, rd', hs, hs', R, T => hk
 | o :: l, i, c, dirty, rd, rd', hs, hs', R, T => fun env h h' S => by
  change SimR gg (cnd (cW nt o.dst) (
   match bU P o.op with
   | .pure => bnd (bJ ⟨P, I2⟩ rec2 all o env h) fun v h' => eF ⟨P, I2⟩ rec2 nt all m p0 l k (i + 1) c dirty rd hs (bN env o.dst v) h'
   | .reads => bnd (bJ ⟨P, I2⟩ rec2 all o env h) fun v h' =>
     cnd (eI m i v (bJ ⟨P, I2⟩ rec2 all o env) dirty hs) (eF ⟨P, I2⟩ rec2 nt all m p0 l k (i + 1) c dirty (⟨i, bJ ⟨P, I2⟩ rec2 all o env, v⟩ :: rd) hs (bN env o.dst v) h')
   | .makes => bnd (dT ⟨P, I2⟩ o (bW c p0) env h) fun v h' => eF ⟨P, I2⟩ rec2 nt all m p0 l k (i + 1) (c + 1) true rd hs (bN env o.dst v) h'
   | .acts => bnd (bJ ⟨P, I2⟩ rec2 all o env h) fun v h' =>
     cnd (rd.all (fun q => gA m q.at_ i || bI (q.look h') q.v)) (eF ⟨P, I2⟩ rec2 nt all m p0 l k (i + 1) c false rd ((some i, h') :: hs) (bN env o.dst v) h')))
   (cnd (cW nt o.dst) (
   match bU P o.op with
   | .pure => bnd (bJ ⟨P, I1⟩ rec1 all o env h') fun v h' => eF ⟨P, I1⟩ rec1 nt all m p0 l k' (i + 1) c dirty rd' hs' (bN env o.dst v) h'
   | .reads => bnd (bJ ⟨P, I1⟩ rec1 all o env h') fun v h' =>
     cnd (eI m i v (bJ ⟨P, I1⟩ rec1 all o env) dirty hs') (eF ⟨P, I1⟩ rec1 nt all m p0 l k' (i + 1) c dirty (⟨i, bJ ⟨P, I1⟩ rec1 all o env, v⟩ :: rd') hs' (bN env o.dst v) h')
   | .makes => bnd (dT ⟨P, I1⟩ o (bW c p0) env h') fun v h' => eF ⟨P, I1⟩ rec1 nt all m p0 l k' (i + 1) (c + 1) true rd' hs' (bN env o.dst v) h'
   | .acts => bnd (bJ ⟨P, I1⟩ rec1 all o env h') fun v h' =>
     cnd (rd'.all (fun q => gA m q.at_ i || bI (q.look h') q.v)) (eF ⟨P, I1⟩ rec1 nt all m p0 l k' (i + 1) c false rd' ((some i, h') :: hs') (bN env o.dst v) h')))
  refine dRy id ?_
  cases bU P o.op with
  | pure => exact dRj (kF HC all o env h h' S) fun v => lO HC nt all m p0 hk l _ _ _ R T _
  | reads =>
   exact dRj (kF HC all o env h h' S) fun v h1 h1' S1 => dRy (rR m i v (kF HC all o env) dirty T)
    (lO HC nt all m p0 hk l _ _ _ (.cons (kF HC all o env) R) T _ _ _ S1)
  | makes => exact dRj (cZw o _ env h h' S) fun v => lO HC nt all m p0 hk l _ _ _ R T _
  | acts =>
   exact dRj (kF HC all o env h h' S) fun v h1 h1' S1 => dRy (SimSeen.all S1 R)
    (lO HC nt all m p0 hk l _ _ _ R (.cons S1 T) _ _ _ S1)
theorem Sim.resv {gg : Bool} {h h' : Hp} (S : Sim gg h h') (k : Nat) : Sim gg (resv k h) (resv k h') := by
 cases k with
 | zero => exact S
 | succ k => exact ⟨by show bW (k + 1) h'.next = bW (k + 1) h.next; rw [S.next], S.get⟩
theorem bWv (HC : ∀ g args, SimP gg (bP ⟨P, I2⟩ rec2 g args) (bP ⟨P, I1⟩ rec1 g args)) (nt : Nat) (ops : Array Oper) {k k' : K} (hk : SimK gg k k') :
  SimK gg (iI ⟨P, I2⟩ rec2 nt ops k) (iI ⟨P, I1⟩ rec1 nt ops k') := fun env h h' S => by
 unfold iI
 rw [S.next]
 exact lO HC nt ops _ _ hk _ _ _ _ .nil (.cons (S.resv _) .nil) env _ _ (S.resv _)
theorem aJn {c : DV} {a b a' b' : aH} (ha : SimR gg a a') (hb : SimR gg b b') : SimR gg (aS c a b) (aS c a' b') := by
 unfold aS
 cases c <;> try exact SimR.none _
 rename_i x
 cases x
 ·exact hb
 ·exact ha
theorem pF {b b' : K → K} (hb : ∀ k k', SimK gg k k' → SimK gg (b k) (b' k')) : ∀ (n d : Nat), SimK gg (aO b n) (aO b' (n + d))
 | 0, d => fun env h h' S v k e => by cases e
 | n + 1, d => by
  rw [show n + 1 + d = (n + d) + 1 from by omega]
  exact hb _ _ (pF hb n d)
theorem fX (HC : ∀ g args, SimP gg (bP ⟨P, I2⟩ rec2 g args) (bP ⟨P, I1⟩ rec1 g args)) (nt n d : Nat) : ∀ (c : Code) (X X' : Nat → K) (kr kr' k k' : K), (∀ j, SimK gg (X j) (X' j)) → SimK gg kr kr' → SimK gg k k' →
  SimK gg (aM ⟨P, I2⟩ rec2 nt n c X kr k) (aM ⟨P, I1⟩ rec1 nt (n + d) c X' kr' k') := by
 intro c
 have hfail : ∀ k', SimK gg dK k' := fun k' env h h' S v k e => by cases e
 induction c with
 | skip => intro X X' kr kr' k k' hX hr hk; exact hk
 | region id ops dr =>
  intro X X' kr kr' k k' hX hr hk
  change SimK gg (Bool.rec (motive := fun _ => K) (iT ⟨P, I2⟩ rec2 nt ops ops.toList k) (Bool.rec (motive := fun _ => K) dK (iI ⟨P, I2⟩ rec2 nt ops k) (fA P ops)) dr)
   (Bool.rec (motive := fun _ => K) (iT ⟨P, I1⟩ rec1 nt ops ops.toList k') (Bool.rec (motive := fun _ => K) dK (iI ⟨P, I1⟩ rec1 nt ops k') (fA P ops)) dr)
  cases dr with
  | false => exact oR HC nt ops hk _
  | true =>
   cases fA P ops with
   | false => exact hfail _
   | true => exact bWv HC nt ops hk
 | seq x y ihx ihy => intro X X' kr kr' k k' hX hr hk; exact ihx _ _ _ _ _ _ hX hr (ihy _ _ _ _ _ _ hX hr hk)
 | cond c x y ihx ihy =>
  intro X X' kr kr' k k' hX hr hk env h h' S
  exact aJn (ihx _ _ _ _ _ _ hX hr hk env h h' S) (ihy _ _ _ _ _ _ hX hr hk env h h' S)
 | block id x ih =>
  intro X X' kr kr' k k' hX hr hk
  refine ih _ _ _ _ _ _ (fun j => ?_) hr hk
  cases hj : Nat.beq j id with
  | true => exact hk
  | false => exact hX j
 | loop x ih =>
  intro X X' kr kr' k k' hX hr hk
  exact pF (fun k k' hk => ih _ _ _ _ _ _ hX hr hk) n d
 | rangeFunc f ps x y ihx ihy => intro X X' kr kr' k k' hX hr hk; exact hfail _
 | exit id => intro X X' kr kr' k k' hX hr hk; exact hX id
 | scope x ih => intro X X' kr kr' k k' hX hr hk; exact ih _ _ _ _ _ _ hX hr hk
 | label l => intro X X' kr kr' k k' hX hr hk; exact hk
 | goto l => intro X X' kr kr' k k' hX hr hk; exact hfail _
 | ret => intro X X' kr kr' k k' hX hr hk; exact hr
 | refuse why => intro X X' kr kr' k k' hX hr hk; exact hfail _
theorem bFd {h h' : Hp} (S : Sim gg h h') (t : TypeId) (x : DV) {k k' : DV → aH} (hk : ∀ v, SimR gg (k v) (k' v)) : SimR gg (aAl ⟨P, I2⟩ t x h k) (aAl ⟨P, I1⟩ t x h' k') := by
 unfold aAl
 dsimp only
 cases P.underlying t with
 | none => exact SimR.none _
 | some d =>
  cases P.info? t with
  | none => exact SimR.none _
  | some i =>
   dsimp only
   refine dRj ?_ fun v _ _ _ => hk v
   cases iR d with
   | true => exact kE _ _ h h' S
   | false => exact kC _ h h' S
theorem qZ {h h' : Hp} (S : Sim gg h h') (env : aW) : ∀ (l : List ResultVar) (k k' : List DV → aH), (∀ vs, SimR gg (k vs) (k' vs)) → SimR gg (bAf ⟨P, I2⟩ env h l k) (bAf ⟨P, I1⟩ env h' l k')
 | [], k, k', hk => hk []
 | .tmp t :: l, k, k', hk => qZ S env l _ _ fun vs => hk _
 | .cell a t :: l, k, k', hk => bFd S t (env a) fun v => qZ S env l _ _ fun vs => hk _
theorem pE (fn : Func) : SimK gg (aQ ⟨P, I2⟩ fn) (aQ ⟨P, I1⟩ fn) := fun env h h' S => by
 unfold aQ
 refine qZ S env _ _ _ fun vs => ?_
 unfold bWi
 match vs with
 | [v] => exact SimR.some S _
 | [] => exact SimR.some S _
 | _ :: _ :: _ => exact SimR.some S _
theorem lR (HC : ∀ g args, SimP gg (bP ⟨P, I2⟩ rec2 g args) (bP ⟨P, I1⟩ rec1 g args)) (n d : Nat) (f : FuncId) (args : List DV) :
  SimP gg (aF ⟨P, I2⟩ rec2 n f args) (aF ⟨P, I1⟩ rec1 (n + d) f args) := by
 intro h h' S
 unfold aF
 dsimp only
 cases P.funcs[f]? with
 | none => exact SimR.none _
 | some fn =>
  dsimp only
  cases fn.body with
  | none => exact SimR.none _
  | some c => exact fX HC fn.ntmps n d c _ _ _ _ _ _ (fun _ _ _ _ _ _ _ e => by cases e) (pE fn) (pE fn) _ h h' S
end
theorem bJj {gg : Bool} {P : Program} {I2 I1 : FuncId → Option (List DV → Hp → aH)} (d : Nat) (h0 : ∀ g, I2 g = none → I1 g = none)
  (hI : ∀ g F, I2 g = some F → ∀ n args, SimP gg (F args) (bP ⟨P, I1⟩ (fnD ⟨P, I1⟩ (n + d)) g args)) : ∀ (n : Nat) (f : FuncId) (args : List DV), SimP gg (fnD ⟨P, I2⟩ n f args) (fnD ⟨P, I1⟩ (n + d) f args)
 | 0, f, args => fun h h' S v k e => by cases e
 | n + 1, f, args => by
  rw [show n + 1 + d = (n + d) + 1 from by omega]
  refine lR (fun g az => ?_) n d f args
  unfold bP
  dsimp only
  cases hg : I2 g with
  | none =>
   rw [h0 g hg]
   exact bJj d h0 hI n g az
  | some F =>
   have := hI g F hg n az
   unfold bP at this
   exact this
end Go.Dd

namespace Go.Dd
section
variable {gg : Bool} {P : Program} {I2 I1 : FuncId → Option (List DV → Hp → aH)} {rec2 rec1 : FuncId → List DV → Hp → aH}
theorem mQ {c : Bool} {q q' : aH} (h : SimR gg q q') : SimR gg (cnd c q) (cnd c q') := by
 cases c with
 | false => exact SimR.none _
 | true => exact h
theorem dRh (k' : K) : SimK gg dK k' := fun env h h' S v k e => by cases e
theorem wE (HC : ∀ g args, SimP gg (bP ⟨P, I2⟩ rec2 g args) (bP ⟨P, I1⟩ rec1 g args)) (n d : Nat) (I : ItC) (b : Bool) {kr kr' k k' : K} (hr : SimK gg kr kr') (hk : SimK gg k k') (e1 : aW) :
  SimP gg (aMi ⟨P, I2⟩ rec2 n I b kr k e1) (aMi ⟨P, I1⟩ rec1 (n + d) I b kr' k' e1) := fun h h' S =>
 mQ (oR HC I.nt I.ops (fX HC I.nt n d I.after _ _ _ _ _ _ (fun _ => dRh _) hr hk) _ _ h h' S)
theorem bDa (HC : ∀ g args, SimP gg (bP ⟨P, I2⟩ rec2 g args) (bP ⟨P, I1⟩ rec1 g args)) (n d : Nat) (I : ItC) (nt : Nat) (p : Tmp) (x y : Code) (env : aW) {X X' : Nat → K} {kr kr' kk kk' : K} (hX : ∀ j, SimK gg (X j) (X' j)) (hr : SimK gg kr kr') (hk : SimK gg kk kk') :
  SimK gg (aTf ⟨P, I2⟩ rec2 n I nt p x y env X kr kk) (aTf ⟨P, I1⟩ rec1 (n + d) I nt p x y env X' kr' kk') := fun e1 h h' S =>
 mQ (fX HC nt n d x _ _ _ _ _ _ (fun _ => dRh _) (dRh _)
  (fX HC nt n d y _ _ _ _ _ _ (fun i _ => wE HC n d I false (fun _ => hX i env) (dRh _) e1) (fun _ => wE HC n d I false (fun _ => hr env) (dRh _) e1)
   (fun _ => wE HC n d I true (dRh _) (fX HC I.nt n d I.post _ _ _ _ _ _ (fun _ => dRh _) (dRh _) (fX HC I.nt n d I.step _ _ _ _ _ _ (fun _ => dRh _) (dRh _) hk)) e1)) _ h h' S)
theorem aTj (HC : ∀ g args, SimP gg (bP ⟨P, I2⟩ rec2 g args) (bP ⟨P, I1⟩ rec1 g args)) (n d : Nat) (I : ItC) (nt : Nat) (g : Operand) (p : Tmp) (x y : Code) {X X' : Nat → K} {kr kr' k k' : K} (hX : ∀ j, SimK gg (X j) (X' j)) (hr : SimK gg kr kr') (hk : SimK gg k k') :
  SimK gg (aFf ⟨P, I2⟩ rec2 n I nt g p x y X kr k) (aFf ⟨P, I1⟩ rec1 (n + d) I nt g p x y X' kr' k') := by
 intro env h h' S
 unfold aFf
 cases opr env g with
 | f gf first cap =>
  cases first with
  | cons _ _ => exact SimR.none _
  | nil =>
   refine mQ ?_
   rw [S.next]
   refine fX HC I.nt n d I.pre _ _ _ _ _ _ (fun _ => dRh _) (dRh _) (pF (fun kk kk' hkk => ?_) n d) _ _ _ (S.resv 2)
   refine fX HC I.nt n d I.test _ _ _ _ _ _ (fun j => ?_) (dRh _) (oR HC I.nt I.ops ?_ I.front)
   ·cases Nat.beq j I.b0 with
    | true => exact fun _ => hk env
    | false => exact dRh _
   ·intro e1 h1 h1' S1
    exact mQ (c := ylB (e1 I.yt) h.next) (bDa HC n d I nt p x y env hX hr hkk e1 h1 h1' S1)
 | _ => exact SimR.none _
theorem bDp (HC : ∀ g args, SimP gg (bP ⟨P, I2⟩ rec2 g args) (bP ⟨P, I1⟩ rec1 g args)) (nt n d : Nat) (I : ItC) : ∀ (c : Code) (X X' : Nat → K) (kr kr' k k' : K), (∀ j, SimK gg (X j) (X' j)) → SimK gg kr kr' → SimK gg k k' →
  SimK gg (bIa ⟨P, I2⟩ rec2 nt n I c X kr k) (bIa ⟨P, I1⟩ rec1 nt (n + d) I c X' kr' k') := by
 intro c
 induction c with
 | skip => intro X X' kr kr' k k' hX hr hk; exact hk
 | region id ops dr => intro X X' kr kr' k k' hX hr hk; exact fX HC nt n d (.region id ops dr) _ _ _ _ _ _ hX hr hk
 | seq x y ihx ihy => intro X X' kr kr' k k' hX hr hk; exact ihx _ _ _ _ _ _ hX hr (ihy _ _ _ _ _ _ hX hr hk)
 | cond c x y ihx ihy =>
  intro X X' kr kr' k k' hX hr hk env h h' S
  exact aJn (ihx _ _ _ _ _ _ hX hr hk env h h' S) (ihy _ _ _ _ _ _ hX hr hk env h h' S)
 | block id x ih =>
  intro X X' kr kr' k k' hX hr hk
  refine ih _ _ _ _ _ _ (fun j => ?_) hr hk
  cases hj : Nat.beq j id with
  | true => exact hk
  | false => exact hX j
 | loop x ih =>
  intro X X' kr kr' k k' hX hr hk
  exact pF (fun k k' hk => ih _ _ _ _ _ _ hX hr hk) n d
 | rangeFunc g ps x y ihx ihy =>
  intro X X' kr kr' k k' hX hr hk
  obtain ⟨l⟩ := ps
  match l with
  | [p] => exact aTj HC n d I nt g p x y hX hr hk
  | [] => exact dRh _
  | _ :: _ :: _ => exact dRh _
 | exit id => intro X X' kr kr' k k' hX hr hk; exact hX id
 | ret => intro X X' kr kr' k k' hX hr hk; exact hr
 | _ => intros; exact dRh _
theorem bEo (HC : ∀ g args, SimP gg (bP ⟨P, I2⟩ rec2 g args) (bP ⟨P, I1⟩ rec1 g args)) (n d : Nat) (I : ItC) (f : FuncId) (args : List DV) :
  SimP gg (mC ⟨P, I2⟩ rec2 n I f args) (mC ⟨P, I1⟩ rec1 (n + d) I f args) := by
 intro h h' S
 unfold mC
 dsimp only
 cases P.funcs[f]? with
 | none => exact SimR.none _
 | some fn =>
  dsimp only
  cases fn.body with
  | none => exact SimR.none _
  | some c => exact bDp HC fn.ntmps n d I c _ _ _ _ _ _ (fun _ => dRh _) (pE fn) (pE fn) _ h h' S
end
end Go.Dd

namespace Go.Dd
noncomputable def fnR (C : Cfg) (I : ItC) (q : FuncId → Bool) (n : Nat) : FuncId → List DV → Hp → aH :=
 Nat.rec (motive := fun _ => FuncId → List DV → Hp → aH) (fun _ _ _ => none) (fun m ih f => bif q f then mC C ih m I f else aF C ih m f) n
theorem aFs {gg : Bool} {P : Program} {I2 I1 : FuncId → Option (List DV → Hp → aH)} {I : ItC} {q : FuncId → Bool} (d : Nat) (h0 : ∀ g, I2 g = none → I1 g = none)
  (hI : ∀ g F, I2 g = some F → ∀ n args, SimP gg (F args) (bP ⟨P, I1⟩ (fnR ⟨P, I1⟩ I q (n + d)) g args)) : ∀ (n : Nat) (f : FuncId) (args : List DV), SimP gg (fnR ⟨P, I2⟩ I q n f args) (fnR ⟨P, I1⟩ I q (n + d) f args)
 | 0, f, args => fun h h' S v k e => by cases e
 | n + 1, f, args => by
  rw [show n + 1 + d = (n + d) + 1 from by omega]
  have HC : ∀ g az, SimP gg (bP ⟨P, I2⟩ (fnR ⟨P, I2⟩ I q n) g az) (bP ⟨P, I1⟩ (fnR ⟨P, I1⟩ I q (n + d)) g az) := fun g az => by
   unfold bP
   dsimp only
   cases hg : I2 g with
   | none =>
    rw [h0 g hg]
    exact aFs d h0 hI n g az
   | some F =>
    have := hI g F hg n az
    unfold bP at this
    exact this
  show SimP gg ((bif q f then mC ⟨P, I2⟩ (fnR ⟨P, I2⟩ I q n) n I f else aF ⟨P, I2⟩ (fnR ⟨P, I2⟩ I q n) n f) args) ((bif q f then mC ⟨P, I1⟩ (fnR ⟨P, I1⟩ I q (n + d)) (n + d) I f else aF ⟨P, I1⟩ (fnR ⟨P, I1⟩ I q (n + d)) (n + d) f) args)
  cases q f with
  | true => exact bEo HC n d I f args
  | false => exact lR HC n d f args
end Go.Dd

namespace Go.Dd
noncomputable section
def hD (w : Int) : Nat :=
 match w with
 | .ofNat w => bif Nat.beq (Nat.mod w 2) 0 && (Nat.ble 6 w && Nat.ble w 262144) then Nat.div w 2 else 0
 | .negSucc _ => 0
def dF (w : Int) : Bool :=
 match w with
 | .ofNat w => Nat.beq (Nat.mod w 2) 1 && Nat.blt w 2147483648
 | .negSucc w => Nat.beq (Nat.mod w 2) 0 && Nat.blt w 2147483648
def aAo (w : Int) : Int :=
 match w with
 | .ofNat w => .ofNat (Nat.div w 2)
 | .negSucc w => .negSucc (Nat.div w 2)
structure MemV where
 wb : Pos
 n : Nat
 fin : Nat
 made : Nat
 pb : Pos
 t : WT
 pl : WT
def kT (m : Pos) (h : Hp) : Option MemV :=
 match h.bl.get m with
 | some (.row .ex [.l wb 0 n c, .i .i64 (.ofNat fin), .i .i64 (.ofNat made), .m pb]) =>
  match h.bl.get wb, h.bl.get pb with
  | some (.big n' t), some (.mi pl) => bif Nat.beq n n' && Nat.beq n c then (bif Nat.blt n 1000000 && (Nat.ble fin n && Nat.blt made 1000000) then some ⟨wb, n, fin, made, pb, t, pl⟩ else none) else none
  | _, _ => none
 | _ => none
def bV (o : Int) (pl : WT) : Nat :=
 bif Nat.beq (hD o) 0 then 0 else match pl.get (hD o) with
  | .ofNat 0 => 0
  | _ => hD o
def dD (w : Int) (pl : WT) : Bool :=
 match w with
 | .ofNat 0 => true
 | .ofNat 2 => true
 | .ofNat 4 => true
 | w => dF w || !(Nat.beq (bV w pl) 0)
def pU (w : Int) (pl : WT) : Bool :=
 match w with
 | .ofNat 0 => true
 | w => !(Nat.beq (bV w pl) 0)
def jK (args : List DV) (h : Hp) (k : MemV → List DV → aH) : aH :=
 match args with
 | .p m 0 :: rest => match kT m h with
  | some M => k M rest
  | none => none
 | _ => none
def err (e : Nat) (h : Hp) : aH := some (.t [.i .i64 (.ofNat 0), .i .i64 (.ofNat e)], h)
def isF (args : List DV) (h : Hp) : aH := jK args h fun M r => match r with
 | [.i .i64 w] => some (.b (!(Nat.beq (bV w M.pl) 0)), h)
 | _ => none
def zM (args : List DV) (h : Hp) : aH := jK args h fun M r => match r with
 | [.i .i64 w] => some (.b (dD w M.pl), h)
 | _ => none
def zV (args : List DV) (h : Hp) : aH := jK args h fun M r => match r with
 | [] => some (.i .i64 (.ofNat M.n), h)
 | _ => none
def bBw (args : List DV) (h : Hp) : aH := jK args h fun M r => match r with
 | [] => some (.i .i64 (.ofNat (Nat.sub M.n M.fin)), h)
 | _ => none
def gY (M : MemV) (o : Int) (k : Nat → aH) : aH :=
 bif Nat.blt (Nat.add (bV o M.pl) 1) M.n then (match M.t.get (bV o M.pl) with
  | .ofNat hd => bif Nat.blt hd 1000000000000 then k hd else none
  | .negSucc _ => none) else none
def iK (args : List DV) (h : Hp) : aH := jK args h fun M r => match r with
 | [.i .i64 o] => gY M o fun _ => some (.i .i64 (M.t.get (Nat.add (bV o M.pl) 1)), h)
 | _ => none
def jN (args : List DV) (h : Hp) : aH := jK args h fun M r => match r with
 | [.i .i64 o] => gY M o fun hd => some (.i .i64 (.ofNat (Nat.mod hd 4)), h)
 | _ => none
def fF (args : List DV) (h : Hp) : aH := jK args h fun M r => match r with
 | [.i .i64 o] => gY M o fun hd => some (.i .i64 (.ofNat (Nat.div hd 4)), h)
 | _ => none
def iM (M : MemV) (o i : Int) (bad : Nat → aH) (k : Nat → Nat → aH) : aH :=
 bif Nat.beq (bV o M.pl) 0 then bad 1 else match i with
  | .negSucc _ => bad 5
  | .ofNat i => gY M o fun hd => bif Nat.ble (Nat.div hd 4) i then bad 5 else
    (bif Nat.blt (Nat.add (Nat.add (bV o M.pl) 3) i) M.n then k hd (Nat.add (Nat.add (bV o M.pl) 3) i) else none)
def yS (args : List DV) (h : Hp) : aH := jK args h fun M r => match r with
 | [.i .i64 o, .i .i64 i] => iM M o i (fun e => err e h) fun _ a => some (.t [.i .i64 (M.t.get a), .i .i64 (.ofNat 0)], h)
 | _ => none
def mA (M : MemV) (a : Nat) (w : Int) (h : Hp) : aH := some (.i .i64 (.ofNat 0), ⟨h.next, Tr.set (.big M.n (M.t.set a w)) M.wb h.bl⟩)
def zN (args : List DV) (h : Hp) : aH := jK args h fun M r => match r with
 | [.i .i64 o, .i .i64 i, .i .i64 w] => iM M o i (fun e => some (.i .i64 (.ofNat e), h)) fun hd a =>
   match Nat.mod hd 4 with
   | 0 => bif dD w M.pl then mA M a w h else some (.i .i64 (.ofNat 6), h)
   | 2 => (match w with
    | .ofNat c => bif Nat.ble c 255 then mA M a w h else some (.i .i64 (.ofNat 6), h)
    | .negSucc _ => some (.i .i64 (.ofNat 6), h))
   | _ => mA M a w h
 | _ => none
def kH (args : List DV) (h : Hp) : aH := jK args h fun M r => match r with
 | [.i .i64 o, .i .i64 c] => bif Nat.beq (bV o M.pl) 0 || !(pU c M.pl) then some (.i .i64 (.ofNat 1), h) else
   (bif Nat.blt (Nat.add (bV o M.pl) 1) M.n then mA M (Nat.add (bV o M.pl) 1) c h else none)
 | _ => none
def kD (t : WT) (c : Nat) : Nat → WT :=
 Nat.rec (motive := fun _ => Nat → WT) (fun _ => t) (fun _ ih a => (ih (Nat.add a 1)).set a (.ofNat 0)) c
def iP (args : List DV) (h : Hp) : aH :=
 match args with
 | [.p m 0, .i .i64 cls, .i .i64 fmt, .i .i64 cnt] => match kT m h with
  | none => none
  | some M => bif !(pU cls M.pl) then err 1 h else match fmt, cnt with
   | .ofNat f, .ofNat c => bif Nat.ble f 2 && Nat.ble c 256 then
     (bif Nat.blt (Nat.sub M.n M.fin) (Nat.add c 3) then err 4 h else
      (bif Nat.ble 3 M.fin && Nat.ble M.fin 131072 then
       some (.t [.i .i64 (.ofNat (Nat.mul M.fin 2)), .i .i64 (.ofNat 0)],
        ⟨h.next, Tr.set (.row .ex [.l M.wb 0 M.n M.n, .i .i64 (.ofNat (Nat.add M.fin (Nat.add c 3))), .i .i64 (.ofNat (Nat.succ M.made)), .m M.pb]) m
         (Tr.set (.mi (M.pl.set M.fin (.ofNat 1))) M.pb
          (Tr.set (.big M.n (kD (((M.t.set M.fin (.ofNat (Nat.add (Nat.mul c 4) f))).set (Nat.add M.fin 1) cls).set (Nat.add M.fin 2) (.ofNat (Nat.succ M.made))) c (Nat.add M.fin 3))) M.wb h.bl))⟩)
       else none))
     else err 1 h
   | _, _ => err 1 h
 | _ => none
def aUd (args : List DV) (h : Hp) : aH :=
 match args with
 | [.i .i64 (.ofNat n)] => bif Nat.blt n 16 || Nat.blt 131072 n then some (.p0, h) else
   some (.p (bW 2 h.next) 0, ⟨bW 3 h.next, Tr.set (.row .ex [.l h.next 0 n n, .i .i64 (.ofNat 3), .i .i64 (.ofNat 0), .m (bW 1 h.next)]) (bW 2 h.next)
    (Tr.set (.mi .e) (bW 1 h.next) (Tr.set (.big n .e) h.next h.bl))⟩)
 | [.i .i64 (.negSucc _)] => some (.p0, h)
 | _ => none
def gN (args : List DV) (h : Hp) : aH :=
 match args with
 | [.i .i64 w] => some (.b (dF w), h)
 | _ => none
def kZ (args : List DV) (h : Hp) : aH :=
 match args with
 | [.i .i64 w] => bif dF w then some (.i .i64 (aAo w), h) else some (.i .i64 (.ofNat 0), h)
 | _ => none
def gK (args : List DV) (h : Hp) : aH :=
 match args with
 | [.i .i64 (.ofNat n)] => bif Nat.blt n 1073741824 then some (.t [.i .i64 (.ofNat (Nat.succ (Nat.mul n 2))), .b true], h) else some (.t [.i .i64 (.ofNat 0), .b false], h)
 | [.i .i64 (.negSucc n)] => bif Nat.blt n 1073741824 then some (.t [.i .i64 (.negSucc (Nat.mul n 2)), .b true], h) else some (.t [.i .i64 (.ofNat 0), .b false], h)
 | _ => none
def zP (g : Nat) : Option (List DV → Hp → aH) :=
 bif Nat.beq g 24 then some zM else bif Nat.beq g 31 then some isF else bif Nat.beq g 102 then some zV else bif Nat.beq g 86 then some bBw else
 bif Nat.beq g 47 then some iP else bif Nat.beq g 68 then some aUd else bif Nat.beq g 70 then some kH else bif Nat.beq g 72 then some zN else
 bif Nat.beq g 50 then some iK else bif Nat.beq g 38 then some jN else bif Nat.beq g 27 then some fF else bif Nat.beq g 48 then some gN else
 bif Nat.beq g 81 then some gK else bif Nat.beq g 49 then some kZ else bif Nat.beq g 28 then some yS else none
end
end Go.Dd

namespace Go.Dd
open Go.Proofs
def cf (f : Func) : Code := match f.body with
 | some c => c
 | none => .skip
def cL : Code → Code
 | .seq a _ => a
 | .cond _ a _ => a
 | .block _ a => a
 | .loop a => a
 | .scope a => a
 | c => c
def cR : Code → Code
 | .seq _ b => b
 | .cond _ _ b => b
 | c => c
def cC : Code → Operand
 | .cond c _ _ => c
 | _ => .const .nilFunc
def x0 : Nat → K := fun _ => dK
def xs (X : Nat → K) (i : Nat) (k : K) : Nat → K := fun j => bif Nat.beq j i then k else X j
def aNh (c : Nat) : List Nat → Nat → Int
 | [], _ => .negSucc 0
 | x :: l, i => bif Nat.beq x c then .ofNat i else aNh c l (i + 1)
def lM (args : List DV) (h : Hp) : aH :=
 match args with
 | [.s l, .i .u8 (.ofNat c)] => bif Nat.blt c 256 then some (.i .i64 (aNh c l 0), h) else none
 | _ => none
noncomputable def CF0 : Cfg := ⟨Tryz.prog, fun _ => none⟩
noncomputable def kY (p : Pos) : Pos → Bool := Pos.rec (motive := fun _ => Pos → Bool) (fun q => Pos.rec (motive := fun _ => Bool) true (fun _ _ => false) (fun _ _ => false) q)
 (fun _ ih q => Pos.rec (motive := fun _ => Bool) false (fun q _ => ih q) (fun _ _ => false) q) (fun _ ih q => Pos.rec (motive := fun _ => Bool) false (fun _ _ => false) (fun q _ => ih q) q) p
noncomputable def jA (q : Pos) (l1 : DV) (cs : List DV) (h : Hp) : aH :=
 match l1 with
 | .l0 => some (.l h.next 0 1 1, ⟨h.next.succ, Tr.set (.row (.gr 4) cs) h.next h.bl⟩)
 | .l b o len cap => cnd (Nat.ble cap len && !(kY b q)) (match h.bl.get b, cellsAt b o (len * 4) h with
  | some (.row (.gr es) l), some old => if es = 4 ∧ o + cap * 4 = l.length ∧ (len + 1) * 56 ≤ lK then
    some (.l h.next 0 (len + 1) (len + 1), ⟨h.next.succ, Tr.set (.row (.gr 4) (old ++ cs)) h.next (Tr.set (.row .sp (bS o l)) b h.bl)⟩) else none
  | _, _ => none)
 | _ => none
noncomputable def qA (c q : Pos) (h : Hp) : aH :=
 bnd (aA (.p c 4) h) fun l1 _ =>
 bnd (bX l1 h) fun n _ =>
 bnd (aK 4 (.p q 0) h) fun x _ =>
 match x with
 | .a cs => cnd (!(kY c q)) (
  bnd (jA q l1 cs ⟨h.next.succ.succ, h.bl⟩) fun l2 h3 =>
  bnd (aG 1 (.p c 4) l2 h3) fun _ h4 => some (n, h4))
 | _ => none
noncomputable def lC (args : List DV) (h : Hp) : aH :=
 match args with
 | [.p c 0, .a lit] =>
  bnd (bL lit h) fun _ h1 =>
  bnd (aA (.p c 4) h1) fun ls h2 =>
  bnd (fnD CF0 60 187 [ls, .f 188 [] [.p h.next 0]] h2) fun i h3 =>
  bnd (aD .lss i (.i .i64 (Int.ofNat 0)) h3) fun t h4 =>
  aS t (qA c h.next h4) (some (i, h4))
 | _ => none
noncomputable def CF1 : Cfg := ⟨Tryz.prog, fun g => bif Nat.beq g 176 then some lM else bif Nat.beq g 159 then some lC else none⟩
noncomputable def CF : Cfg := ⟨Tryz.prog, fun g => bif Nat.beq g 176 then some lM else bif Nat.beq g 159 then some lC else zP g⟩
def fU : Code → Array Oper
 | .region _ ops _ => ops
 | _ => #[]
def itm : ItC := { gf := 0, nt := 0, pre := .skip, b0 := 0, test := .skip, b1 := 1, rid := 0, front := [], y := ⟨none, .move (.const .nilFunc), 0, "", #[], none⟩, back := [], after := .skip, post := .skip, step := .skip, yd := 0, yt := 0, yx := 0 }
def rgB (g : FuncId) : Bool := false
noncomputable abbrev fP (C : Cfg) (n : Nat) : FuncId → List DV → Hp → aH := fnR C itm rgB n
theorem cA (f : FuncId) (hf : rgB f = false) (C : Cfg) (n : Nat) (args : List DV) (h : Hp) : fP C (n + 1) f args h = aF C (fP C n) n f args h := by
 show (bif rgB f then mC C (fP C n) n itm f else aF C (fP C n) n f) args h = _
 rw [hf]
 rfl
abbrev RT := FuncId → List DV → Hp → aH
abbrev TT0 := Hp → aH
abbrev TT1 := DV → Hp → aH
abbrev oL := DV → DV → Hp → aH
abbrev mL := DV → DV → DV → Hp → aH
abbrev dL := DV → DV → DV → DV → Hp → aH
abbrev cD := DV → DV → DV → DV → DV → Hp → aH
abbrev fE := DV → DV → DV → DV → DV → DV → Hp → aH
abbrev TT7 := DV → DV → DV → DV → DV → DV → DV → Hp → aH
abbrev TT8 := DV → DV → DV → DV → DV → DV → DV → DV → Hp → aH
abbrev TT9 := DV → DV → DV → DV → DV → DV → DV → DV → DV → Hp → aH
abbrev aSc := DV → DV → DV → DV → DV → DV → DV → DV → DV → DV → Hp → aH
abbrev dLp := DV → DV → DV → DV → DV → DV → DV → DV → DV → DV → DV → Hp → aH
abbrev dNs := DV → DV → DV → DV → DV → DV → DV → DV → DV → DV → DV → DV → Hp → aH
abbrev dOz := DV → DV → DV → DV → DV → DV → DV → DV → DV → DV → DV → DV → DV → Hp → aH
abbrev dQj := DV → DV → DV → DV → DV → DV → DV → DV → DV → DV → DV → DV → DV → DV → Hp → aH
abbrev dNq := DV → DV → DV → DV → DV → DV → DV → DV → DV → DV → DV → DV → DV → DV → DV → Hp → aH
abbrev dPx := DV → DV → DV → DV → DV → DV → DV → DV → DV → DV → DV → DV → DV → DV → DV → DV → Hp → aH
abbrev dMs := DV → DV → DV → DV → DV → DV → DV → DV → DV → DV → DV → DV → DV → DV → DV → DV → DV → Hp → aH
abbrev dPl := DV → DV → DV → DV → DV → DV → DV → DV → DV → DV → DV → DV → DV → DV → DV → DV → DV → DV → Hp → aH
abbrev dMi := DV → DV → DV → DV → DV → DV → DV → DV → DV → DV → DV → DV → DV → DV → DV → DV → DV → DV → DV → Hp → aH
abbrev dMw := DV → DV → DV → DV → DV → DV → DV → DV → DV → DV → DV → DV → DV → DV → DV → DV → DV → DV → DV → DV → Hp → aH
abbrev K0 (f : TT0) : K := fun env h => f h
abbrev K1 (f : TT1) (a0 : Nat) : K := fun env h => f (env a0) h
abbrev K2 (f : oL) (a0 a1 : Nat) : K := fun env h => f (env a0) (env a1) h
abbrev K3 (f : mL) (a0 a1 a2 : Nat) : K := fun env h => f (env a0) (env a1) (env a2) h
abbrev K4 (f : dL) (a0 a1 a2 a3 : Nat) : K := fun env h => f (env a0) (env a1) (env a2) (env a3) h
abbrev K5 (f : cD) (a0 a1 a2 a3 a4 : Nat) : K := fun env h => f (env a0) (env a1) (env a2) (env a3) (env a4) h
abbrev K6 (f : fE) (a0 a1 a2 a3 a4 a5 : Nat) : K := fun env h => f (env a0) (env a1) (env a2) (env a3) (env a4) (env a5) h
abbrev K7 (f : TT7) (a0 a1 a2 a3 a4 a5 a6 : Nat) : K := fun env h => f (env a0) (env a1) (env a2) (env a3) (env a4) (env a5) (env a6) h
abbrev K8 (f : TT8) (a0 a1 a2 a3 a4 a5 a6 a7 : Nat) : K := fun env h => f (env a0) (env a1) (env a2) (env a3) (env a4) (env a5) (env a6) (env a7) h
abbrev K9 (f : TT9) (a0 a1 a2 a3 a4 a5 a6 a7 a8 : Nat) : K := fun env h => f (env a0) (env a1) (env a2) (env a3) (env a4) (env a5) (env a6) (env a7) (env a8) h
abbrev K10 (f : aSc) (a0 a1 a2 a3 a4 a5 a6 a7 a8 a9 : Nat) : K := fun env h => f (env a0) (env a1) (env a2) (env a3) (env a4) (env a5) (env a6) (env a7) (env a8) (env a9) h
abbrev K11 (f : dLp) (a0 a1 a2 a3 a4 a5 a6 a7 a8 a9 a10 : Nat) : K := fun env h => f (env a0) (env a1) (env a2) (env a3) (env a4) (env a5) (env a6) (env a7) (env a8) (env a9) (env a10) h
abbrev K12 (f : dNs) (a0 a1 a2 a3 a4 a5 a6 a7 a8 a9 a10 a11 : Nat) : K := fun env h => f (env a0) (env a1) (env a2) (env a3) (env a4) (env a5) (env a6) (env a7) (env a8) (env a9) (env a10) (env a11) h
abbrev K13 (f : dOz) (a0 a1 a2 a3 a4 a5 a6 a7 a8 a9 a10 a11 a12 : Nat) : K := fun env h => f (env a0) (env a1) (env a2) (env a3) (env a4) (env a5) (env a6) (env a7) (env a8) (env a9) (env a10) (env a11) (env a12) h
abbrev K14 (f : dQj) (a0 a1 a2 a3 a4 a5 a6 a7 a8 a9 a10 a11 a12 a13 : Nat) : K := fun env h => f (env a0) (env a1) (env a2) (env a3) (env a4) (env a5) (env a6) (env a7) (env a8) (env a9) (env a10) (env a11) (env a12) (env a13) h
abbrev K15 (f : dNq) (a0 a1 a2 a3 a4 a5 a6 a7 a8 a9 a10 a11 a12 a13 a14 : Nat) : K := fun env h => f (env a0) (env a1) (env a2) (env a3) (env a4) (env a5) (env a6) (env a7) (env a8) (env a9) (env a10) (env a11) (env a12) (env a13) (env a14) h
abbrev K16 (f : dPx) (a0 a1 a2 a3 a4 a5 a6 a7 a8 a9 a10 a11 a12 a13 a14 a15 : Nat) : K := fun env h => f (env a0) (env a1) (env a2) (env a3) (env a4) (env a5) (env a6) (env a7) (env a8) (env a9) (env a10) (env a11) (env a12) (env a13) (env a14) (env a15) h
abbrev K17 (f : dMs) (a0 a1 a2 a3 a4 a5 a6 a7 a8 a9 a10 a11 a12 a13 a14 a15 a16 : Nat) : K := fun env h => f (env a0) (env a1) (env a2) (env a3) (env a4) (env a5) (env a6) (env a7) (env a8) (env a9) (env a10) (env a11) (env a12) (env a13) (env a14) (env a15) (env a16) h
abbrev K18 (f : dPl) (a0 a1 a2 a3 a4 a5 a6 a7 a8 a9 a10 a11 a12 a13 a14 a15 a16 a17 : Nat) : K := fun env h => f (env a0) (env a1) (env a2) (env a3) (env a4) (env a5) (env a6) (env a7) (env a8) (env a9) (env a10) (env a11) (env a12) (env a13) (env a14) (env a15) (env a16) (env a17) h
abbrev K19 (f : dMi) (a0 a1 a2 a3 a4 a5 a6 a7 a8 a9 a10 a11 a12 a13 a14 a15 a16 a17 a18 : Nat) : K := fun env h => f (env a0) (env a1) (env a2) (env a3) (env a4) (env a5) (env a6) (env a7) (env a8) (env a9) (env a10) (env a11) (env a12) (env a13) (env a14) (env a15) (env a16) (env a17) (env a18) h
abbrev K20 (f : dMw) (a0 a1 a2 a3 a4 a5 a6 a7 a8 a9 a10 a11 a12 a13 a14 a15 a16 a17 a18 a19 : Nat) : K := fun env h => f (env a0) (env a1) (env a2) (env a3) (env a4) (env a5) (env a6) (env a7) (env a8) (env a9) (env a10) (env a11) (env a12) (env a13) (env a14) (env a15) (env a16) (env a17) (env a18) (env a19) h
theorem okG {d s : K} (m : d = s) (args : List DV) (h : Hp) {a b : aH} (e1 : a = d (aI args) h) (e2 : s (aI args) h = b) : a = b :=
 e1.trans ((congrFun (congrFun m (aI args)) h).trans e2)
abbrev aE (n : Nat) : DV := .i .i64 (Int.ofNat n)
abbrev jY : List DV := [(.i .i64 (Int.ofNat 0)), (.s []), (.i .i64 (Int.ofNat 0)), .l0, .l0, .l0]
abbrev aT (args : List DV) (i : Nat) : DV := args.getD i aV
end Go.Dd

namespace Go.Dd
open Go.Proofs
variable (r : RT) (n : Nat) (args : List DV) (h : Hp)
noncomputable def s12 (r : RT) (n : Nat) (h0 : Hp) : aH :=
 bnd (r 40 [(aE 30000)] h0) fun v1 h1 =>
 bnd (aC 0 v1 h1) fun v2 h2 =>
 bnd (aC 1 v1 h2) fun v3 h3 =>
 bnd (pEq (.pointer 64) true v2 .p0 h3) fun v4 h4 =>
 bnd (gD v4 false (some (v3, h4)) h4) fun v5 h5 =>
 bnd (gD v4 false (aD .neq v5 (aE 0) h5) h5) fun v6 h6 =>
 bnd (aP v4 (.b true) v6 h6) fun v7 h7 =>
 aS v7 (
 some (.p0, h7)) (
 bnd (aL [(.s []), (.s [])] 2 [(0, 1, (.s [120])), (1, 1, (.s [121]))] h7) fun v8 h8 =>
 bnd (r 41 [v2, (.s [80, 111, 105, 110, 116]), (.s [79, 98, 106, 101, 99, 116]), v8] h8) fun v9 h9 =>
 bnd (aC 0 v9 h9) fun v10 h10 =>
 bnd (aC 1 v9 h10) fun v11 h11 =>
 bnd (aD .neq v11 (aE 0) h11) fun v12 h12 =>
 aS v12 (
 some (.p0, h12)) (
 some (v2, h12)))
noncomputable abbrev c12 : Code := cf Tryz.f12
noncomputable abbrev r12 : K := aQ CF Tryz.f12
noncomputable def D12 (r : RT) (n : Nat) (c : Code) (X : Nat → K) (k : K) : K := aM CF r 24 n c X r12 k
theorem dNv : D12 r n c12 x0 r12 = (K0 (s12 r n)) :=
 (by kernel_rfl)
theorem cRp : aF CF r n 12 args h = s12 r n h :=
 (by kernel_rfl : aF CF r n 12 args h = D12 r n c12 x0 r12 (aI args) h).trans ((congrFun (congrFun (dNv r n) (aI args)) h).trans (by kernel_rfl))
noncomputable def s13 (r : RT) (n : Nat) (h0 : Hp) : aH :=
 bnd (r 12 [] h0) fun v1 h1 =>
 bnd (pEq (.pointer 64) true v1 .p0 h1) fun v2 h2 =>
 aS v2 (
 some ((.b false), h2)) (
 bnd (r 42 [v1, (aE 1073741823)] h2) fun v3 h3 =>
 bnd (aC 0 v3 h3) fun v4 h4 =>
 bnd (aC 1 v3 h4) fun v5 h5 =>
 bnd (aL [(aE 0)] 1 [(0, 1, (aE 3))] h5) fun v6 h6 =>
 bnd (r 16 [v1, (aE 1), v4, v6] h6) fun v7 h7 =>
 bnd (aC 0 v7 h7) fun v8 h8 =>
 bnd (aC 1 v7 h8) fun v9 h9 =>
 bnd (r 15 [v1, v8] h9) fun v10 h10 =>
 bnd (aC 0 v10 h10) fun v11 h11 =>
 bnd (aC 1 v10 h11) fun v12 h12 =>
 bnd (aL [(aE 0)] 1 [(0, 1, (aE 1))] h12) fun v13 h13 =>
 bnd (r 16 [v1, (aE 4), (aE 15), v13] h13) fun v14 h14 =>
 bnd (aC 0 v14 h14) fun v15 h15 =>
 bnd (aC 1 v14 h15) fun v16 h16 =>
 bnd (r 43 [v1, (.s [97, 98])] h16) fun v17 h17 =>
 bnd (aC 0 v17 h17) fun v18 h18 =>
 bnd (aC 1 v17 h18) fun v19 h19 =>
 bnd (aL [(aE 0)] 1 [(0, 1, (aE 5))] h19) fun v20 h20 =>
 bnd (r 16 [v1, (aE 20), v18, v20] h20) fun v21 h21 =>
 bnd (aC 0 v21 h21) fun v22 h22 =>
 bnd (aC 1 v21 h22) fun v23 h23 =>
 bnd (r 44 [v1, (.s [97, 98])] h23) fun v24 h24 =>
 bnd (aC 0 v24 h24) fun v25 h25 =>
 bnd (aC 1 v24 h25) fun v26 h26 =>
 bnd (aL [(aE 0), (aE 0)] 2 [(0, 1, (aE 3)), (1, 1, (aE 199))] h26) fun v27 h27 =>
 bnd (r 16 [v1, (aE 21), v25, v27] h27) fun v28 h28 =>
 bnd (aC 0 v28 h28) fun v29 h29 =>
 bnd (aC 1 v28 h29) fun v30 h30 =>
 bnd (aD .eql v9 (aE 0) h30) fun v31 h31 =>
 bnd (gD v31 true (some (v12, h31)) h31) fun v32 h32 =>
 bnd (aP v31 v32 (.b false) h32) fun v33 h33 =>
 bnd (gD v33 true (some (v11, h33)) h33) fun v34 h34 =>
 bnd (gD v33 true (aD .eql v34 (aE 1073741824) h34) h34) fun v35 h35 =>
 bnd (aP v33 v35 (.b false) h35) fun v36 h36 =>
 bnd (gD v36 true (some (v1, h36)) h36) fun v37 h37 =>
 bnd (gD v36 true (some (v8, h37)) h37) fun v38 h38 =>
 bnd (gD v36 true (r 25 [v37, v38] h38) h38) fun v39 h39 =>
 bnd (gD v36 true (some (v1, h39)) h39) fun v40 h40 =>
 bnd (gD v36 true (r 45 [v40, (.s [76, 97, 114, 103, 101, 73, 110, 116, 101, 103, 101, 114])] h40) h40) fun v41 h41 =>
 bnd (gD v36 true (aD .eql v39 v41 h41) h41) fun v42 h42 =>
 bnd (aP v36 v42 (.b false) h42) fun v43 h43 =>
 bnd (gD v43 true (some (v16, h43)) h43) fun v44 h44 =>
 bnd (gD v43 true (aD .eql v44 (aE 20) h44) h44) fun v45 h45 =>
 bnd (aP v43 v45 (.b false) h45) fun v46 h46 =>
 bnd (gD v46 true (some (v22, h46)) h46) fun v47 h47 =>
 bnd (gD v46 true (aD .eql v47 (aE 197) h47) h47) fun v48 h48 =>
 bnd (aP v46 v48 (.b false) h48) fun v49 h49 =>
 bnd (gD v49 true (some (v23, h49)) h49) fun v50 h50 =>
 bnd (gD v49 true (aD .eql v50 (aE 0) h50) h50) fun v51 h51 =>
 bnd (aP v49 v51 (.b false) h51) fun v52 h52 =>
 bnd (gD v52 true (some (v30, h52)) h52) fun v53 h53 =>
 bnd (gD v52 true (aD .eql v53 (aE 20) h53) h53) fun v54 h54 =>
 bnd (aP v52 v54 (.b false) h54) fun v55 h55 =>
 bnd (gD v55 true (r 39 [(aE 21)] h55) h55) fun v56 h56 =>
 bnd (gD v55 true (aD .eql v56 (aE 2) h56) h56) fun v57 h57 =>
 bnd (aP v55 v57 (.b false) h57) fun v58 h58 =>
 some (v58, h58))
noncomputable abbrev c13 : Code := cf Tryz.f13
noncomputable abbrev r13 : K := aQ CF Tryz.f13
noncomputable def D13 (r : RT) (n : Nat) (c : Code) (X : Nat → K) (k : K) : K := aM CF r 106 n c X r13 k
theorem dMt : D13 r n c13 x0 r13 = (K0 (s13 r n)) :=
 (by kernel_rfl)
theorem cQn : aF CF r n 13 args h = s13 r n h :=
 (by kernel_rfl : aF CF r n 13 args h = D13 r n c13 x0 r13 (aI args) h).trans ((congrFun (congrFun (dMt r n) (aI args)) h).trans (by kernel_rfl))
noncomputable def aX (r : RT) (n : Nat) (x3 : DV) (h0 : Hp) : aH :=
 bnd (aB 1 x3 h0) fun v1 h1 =>
 bnd (aA v1 h1) fun v2 h2 =>
 some (v2, h2)
noncomputable def pS (r : RT) (n : Nat) (x0 x5 : DV) (h0 : Hp) : aH :=
 bnd (dH x5 h0) fun v1 h1 =>
 bnd (aD .quo v1 (aE 2) h1) fun v2 h2 =>
 bnd (fC x5 none (some v2) h2) fun v3 h3 =>
 bnd (eG .add (.s [115]) v3 h3) fun v4 h4 =>
 bnd (r 44 [x0, v4] h4) fun v5 h5 =>
 bnd (aC 0 v5 h5) fun v6 h6 =>
 bnd (aC 1 v5 h6) fun v7 h7 =>
 some (v6, h7)
noncomputable def aIg (r : RT) (n : Nat) (x0 x5 : DV) (h0 : Hp) : aH :=
 bnd (dH x5 h0) fun v1 h1 =>
 bnd (aD .gtr v1 (aE 60) h1) fun v2 h2 =>
 aS v2 (
 bnd (fC x5 none (some (aE 60)) h2) fun v3 h3 =>
  pS r n x0 v3 h3) (
  pS r n x0 x5 h2)
noncomputable def dR (r : RT) (n : Nat) (x0 x13 : DV) (h0 : Hp) : aH :=
 bnd (r 46 [x0, x13] h0) fun v1 h1 =>
 bnd (aC 0 v1 h1) fun v2 h2 =>
 bnd (aC 1 v1 h2) fun v3 h3 =>
 some (v2, h3)
noncomputable def lA (r : RT) (n : Nat) (kk21 : dL) (x0 x12 x13 x14 : DV) (h0 : Hp) : aH :=
 bnd (aD .rem x12 (aE 10) h0) fun v1 h1 =>
 bnd (aD .lss x14 v1 h1) fun v2 h2 =>
 aS v2 (
 bnd (aD .mul (aE 2) x14 h2) fun v3 h3 =>
 bnd (aD .add v3 (aE 1) h3) fun v4 h4 =>
 bnd (aL [(aE 0)] 1 [(0, 1, v4)] h4) fun v5 h5 =>
 bnd (bA 1 8 x13 v5 h5) fun v6 h6 =>
 bnd (aD .add x14 (aE 1) h6) fun v7 h7 =>
      kk21 x0 x12 v6 v7 h7) (
      dR r n x0 x13 h2)
noncomputable def kR (r : RT) (n : Nat) (m : Nat) : dL :=
 Nat.rec (motive := fun _ => dL) (fun _ _ _ _ _ => none) (fun _ ih => lA r n ih) m
noncomputable def aTw (r : RT) (n : Nat) : dL := kR r n n
noncomputable def aEb (r : RT) (n : Nat) (x0 x12 x13 x14 : DV) (h0 : Hp) : aH :=
 aTw r n x0 x12 x13 x14 h0
noncomputable def aAu (r : RT) (n : Nat) (x0 x12 x13 : DV) (h0 : Hp) : aH :=
 aEb r n x0 x12 x13 (aE 0) h0
noncomputable def pX (r : RT) (n : Nat) (x0 x12 : DV) (h0 : Hp) : aH :=
 aAu r n x0 x12 .l0 h0
noncomputable def aFe (r : RT) (n : Nat) (x0 x12 : DV) (h0 : Hp) : aH :=
 bnd (aD .lss x12 (aE 0) h0) fun v1 h1 =>
 aS v1 (
 bnd (aD .add x12 (aE 1) h1) fun v2 h2 =>
 bnd (gU .neg v2 h2) fun v3 h3 =>
  pX r n x0 v3 h3) (
  pX r n x0 x12 h1)
noncomputable def aCy (r : RT) (n : Nat) (x0 x3 : DV) (h0 : Hp) : aH :=
 bnd (aB 1 x3 h0) fun v1 h1 =>
 bnd (aA v1 h1) fun v2 h2 =>
  aFe r n x0 v2 h2
noncomputable def wJ (r : RT) (n : Nat) (x0 x3 x27 x66 : DV) (h0 : Hp) : aH :=
 aS x66 (
  aCy r n x0 x3 h0) (
 bnd (aD .eql x27 (aE 4) h0) fun v1 h1 =>
 aS v1 (
 bnd (r 23 [x0] h1) fun v2 h2 =>
 bnd (r 45 [x0, (.s [80, 111, 105, 110, 116])] h2) fun v3 h3 =>
 bnd (iP [v2, v3, (aE 0), (aE 2)] h3) fun v4 h4 =>
 bnd (aC 0 v4 h4) fun v5 h5 =>
 bnd (aC 1 v4 h5) fun v6 h6 =>
 some (v5, h6)) (
 bnd (aD .eql x27 (aE 5) h1) fun v7 h7 =>
 aS v7 (
 bnd (aB 1 x3 h7) fun v8 h8 =>
 bnd (aA v8 h8) fun v9 h9 =>
 bnd (aD .eql v9 (aE 16) h9) fun v10 h10 =>
 aS v10 (
 bnd (r 45 [x0, (.s [80, 111, 105, 110, 116])] h10) fun v11 h11 =>
 some (v11, h11)) (
 bnd (aB 1 x3 h10) fun v12 h12 =>
 bnd (aA v12 h12) fun v13 h13 =>
 bnd (r 30 [x0, v13] h13) fun v14 h14 =>
 some (v14, h14))) (
 bnd (aD .eql x27 (aE 6) h7) fun v15 h15 =>
 aS v15 (
 some ((aE 0), h15)) (
 bnd (aD .eql x27 (aE 7) h15) fun v16 h16 =>
 aS v16 (
 some ((aE 2), h16)) (
 bnd (aD .eql x27 (aE 8) h16) fun v17 h17 =>
 aS v17 (
 some ((aE 4), h17)) (
       aX r n x3 h17))))))
noncomputable def aSw (r : RT) (n : Nat) (x0 x3 x27 : DV) (h0 : Hp) : aH :=
 bnd (aD .eql x27 (aE 3) h0) fun v1 h1 =>
  wJ r n x0 x3 x27 v1 h1
noncomputable def yO (r : RT) (n : Nat) (x0 x3 x5 x27 x47 : DV) (h0 : Hp) : aH :=
 aS x47 (
  aIg r n x0 x5 h0) (
  aSw r n x0 x3 x27 h0)
noncomputable def bOp (r : RT) (n : Nat) (x0 x3 x5 x27 : DV) (h0 : Hp) : aH :=
 bnd (aD .eql x27 (aE 2) h0) fun v1 h1 =>
  yO r n x0 x3 x5 x27 v1 h1
noncomputable def aKj (r : RT) (n : Nat) (x0 x3 x5 x27 x38 : DV) (h0 : Hp) : aH :=
 aS x38 (
 bnd (r 43 [x0, x5] h0) fun v1 h1 =>
 bnd (aC 0 v1 h1) fun v2 h2 =>
 bnd (aC 1 v1 h2) fun v3 h3 =>
 some (v2, h3)) (
  bOp r n x0 x3 x5 x27 h0)
noncomputable def bOn (r : RT) (n : Nat) (x0 x3 x5 x27 : DV) (h0 : Hp) : aH :=
 bnd (aD .eql x27 (aE 1) h0) fun v1 h1 =>
  aKj r n x0 x3 x5 x27 v1 h1
noncomputable def aLv (r : RT) (n : Nat) (x0 x3 x5 x27 x28 : DV) (h0 : Hp) : aH :=
 aS x28 (
 bnd (aB 1 x3 h0) fun v1 h1 =>
 bnd (aA v1 h1) fun v2 h2 =>
 bnd (r 42 [x0, v2] h2) fun v3 h3 =>
 bnd (aC 0 v3 h3) fun v4 h4 =>
 bnd (aC 1 v3 h4) fun v5 h5 =>
 some (v4, h5)) (
  bOn r n x0 x3 x5 x27 h0)
noncomputable def aXv (r : RT) (n : Nat) (x0 x3 x5 x27 : DV) (h0 : Hp) : aH :=
 bnd (aD .eql x27 (aE 0) h0) fun v1 h1 =>
  aLv r n x0 x3 x5 x27 v1 h1
noncomputable def aAj (r : RT) (n : Nat) (x0 x3 x5 : DV) (h0 : Hp) : aH :=
 bnd (aB 0 x3 h0) fun v1 h1 =>
 bnd (aA v1 h1) fun v2 h2 =>
  aXv r n x0 x3 x5 v2 h2
noncomputable def aXz (r : RT) (n : Nat) (x0 x3 x5 : DV) (h0 : Hp) : aH :=
 bnd (dH x5 h0) fun v1 h1 =>
 bnd (aD .gtr v1 (aE 250) h1) fun v2 h2 =>
 aS v2 (
 bnd (fC x5 none (some (aE 250)) h2) fun v3 h3 =>
  aAj r n x0 x3 v3 h3) (
  aAj r n x0 x3 x5 h2)
noncomputable def aAi (r : RT) (n : Nat) (x0 x3 : DV) (h0 : Hp) : aH :=
 bnd (aB 2 x3 h0) fun v1 h1 =>
 bnd (aA v1 h1) fun v2 h2 =>
  aXz r n x0 x3 v2 h2
noncomputable def s14 (r : RT) (n : Nat) (x0 x1 : DV) (h0 : Hp) : aH :=
 bnd (bQ x1 h0) fun v1 h1 =>
  aAi r n x0 v1 h1
noncomputable abbrev c14 : Code := cf Tryz.f14
noncomputable abbrev bAn : Code := cR c14
noncomputable abbrev bAp : Code := cR bAn
noncomputable abbrev bBy : Code := cR bAp
noncomputable abbrev dGd : Code := cR bBy
noncomputable abbrev aLj : Code := cL bBy
noncomputable abbrev bVk : Code := cR aLj
noncomputable abbrev aVs : Code := cL bVk
noncomputable abbrev aMj : Code := cR aVs
noncomputable abbrev aLe : Code := cR aMj
noncomputable abbrev vW : Code := cR aLe
noncomputable abbrev xD : Code := cR vW
noncomputable abbrev xZ : Code := cR xD
noncomputable abbrev vK : Code := cL xZ
noncomputable abbrev cSm : Code := cR vK
noncomputable abbrev bNh : Code := cL vK
noncomputable abbrev uV : Code := cR xZ
noncomputable abbrev vV : Code := cR uV
noncomputable abbrev zI : Code := cL vV
noncomputable abbrev aFr : Code := cR zI
noncomputable abbrev aGk : Code := cR aFr
noncomputable abbrev aKb : Code := cR aGk
noncomputable abbrev dDm : Code := cR aKb
noncomputable abbrev vR : Code := cL aKb
noncomputable abbrev aTb : Code := cR vR
noncomputable abbrev aHx : Code := cL aTb
noncomputable abbrev lQ : Code := cL aHx
noncomputable abbrev bZi : Code := cL vR
noncomputable abbrev bOs : Code := cL aGk
noncomputable abbrev bPp : Code := cL aFr
noncomputable abbrev bPf : Code := cL zI
noncomputable abbrev dDk : Code := cR vV
noncomputable abbrev bXn : Code := cL uV
noncomputable abbrev cAp : Code := cL xD
noncomputable abbrev dAk : Code := cL vW
noncomputable abbrev bUw : Code := cL aLe
noncomputable abbrev dAx : Code := cL aMj
noncomputable abbrev bSs : Code := cL aVs
noncomputable abbrev bLw : Code := cL aLj
noncomputable abbrev bRe : Code := cL bAp
noncomputable abbrev bOq : Code := cL bAn
noncomputable abbrev aQq : Code := cL c14
noncomputable abbrev r14 : K := aQ CF Tryz.f14
noncomputable def D14 (r : RT) (n : Nat) (c : Code) (X : Nat → K) (k : K) : K := aM CF r 124 n c X r14 k
theorem dAs : D14 r n dGd x0 r14 = (K1 (aX r n) 3) :=
 (by kernel_rfl)
theorem cLz : D14 r n cSm (xs x0 0 (K1 (aX r n) 3)) (K1 (aX r n) 3) = (K2 (pS r n) 0 5) :=
 (by kernel_rfl)
theorem bRw : D14 r n vK (xs x0 0 (K1 (aX r n) 3)) (K1 (aX r n) 3) = D14 r n bNh (xs x0 0 (K1 (aX r n) 3)) (K2 (pS r n) 0 5) :=
 congrArg (fun k => D14 r n bNh (xs x0 0 (K1 (aX r n) 3)) k) (cLz r n)
theorem cHu : D14 r n vK (xs x0 0 (K1 (aX r n) 3)) (K1 (aX r n) 3) = (K2 (aIg r n) 0 5) :=
 (bRw r n).trans
 ((by kernel_rfl))
theorem cMv : D14 r n dDm (xs x0 0 (K1 (aX r n) 3)) (K1 (aX r n) 3) = (K2 (dR r n) 0 13) :=
 (by kernel_rfl)
theorem bIq (kk21 : dL) (q0 : TT1) (q1 : oL) : D14 r n lQ (xs (xs x0 0 (K1 q0 3)) 1 (K2 q1 0 13)) (K4 kk21 0 12 13 14) = fun (env : aW) (h : Hp) =>
 bnd (aD .rem (env 12) (aE 10) h) fun v1 h1 =>
 bnd (aD .lss (env 14) v1 h1) fun v2 h2 =>
 aS v2 (
 bnd (aD .mul (aE 2) (env 14) h2) fun v3 h3 =>
 bnd (aD .add v3 (aE 1) h3) fun v4 h4 =>
 bnd (aL [(aE 0)] 1 [(0, 1, v4)] h4) fun v5 h5 =>
 bnd (bA 1 8 (env 13) v5 h5) fun v6 h6 =>
 bnd (aD .add (env 14) (aE 1) h6) fun v7 h7 =>
      kk21 (env 0) (env 12) v6 v7 h7) (
      q1 (env 0) (env 13) h2) := by kernel_rfl
theorem bFj (kk21 : dL) : (fun (env : aW) (h : Hp) =>
 bnd (aD .rem (env 12) (aE 10) h) fun v1 h1 =>
 bnd (aD .lss (env 14) v1 h1) fun v2 h2 =>
 aS v2 (
 bnd (aD .mul (aE 2) (env 14) h2) fun v3 h3 =>
 bnd (aD .add v3 (aE 1) h3) fun v4 h4 =>
 bnd (aL [(aE 0)] 1 [(0, 1, v4)] h4) fun v5 h5 =>
 bnd (bA 1 8 (env 13) v5 h5) fun v6 h6 =>
 bnd (aD .add (env 14) (aE 1) h6) fun v7 h7 =>
      kk21 (env 0) (env 12) v6 v7 h7) (
      dR r n (env 0) (env 13) h2)) = (K4 (lA r n kk21) 0 12 13 14) := by kernel_rfl
theorem bUc (kk21 : dL) : D14 r n lQ (xs (xs x0 0 (K1 (aX r n) 3)) 1 (K2 (dR r n) 0 13)) (K4 kk21 0 12 13 14) = (K4 (lA r n kk21) 0 12 13 14) :=
 (bIq r n kk21 (aX r n) (dR r n)).trans (bFj r n kk21)
theorem bTh (m : Nat) : aO (fun kk => D14 r n lQ (xs (xs x0 0 (K1 (aX r n) 3)) 1 (K2 (dR r n) 0 13)) kk) m = (K4 (kR r n m) 0 12 13 14) := by
 induction m with
 | zero => exact (by kernel_rfl : aO (fun kk => D14 r n lQ (xs (xs x0 0 (K1 (aX r n) 3)) 1 (K2 (dR r n) 0 13)) kk) 0 = (K4 (kR r n 0) 0 12 13 14))
 | succ m ih =>
  refine (by kernel_rfl : aO (fun kk => D14 r n lQ (xs (xs x0 0 (K1 (aX r n) 3)) 1 (K2 (dR r n) 0 13)) kk) (m + 1) = D14 r n lQ (xs (xs x0 0 (K1 (aX r n) 3)) 1 (K2 (dR r n) 0 13)) (aO (fun kk => D14 r n lQ (xs (xs x0 0 (K1 (aX r n) 3)) 1 (K2 (dR r n) 0 13)) kk) m)).trans ?_
  rw [ih]
  exact (bUc r n (kR r n m)).trans (by kernel_rfl)
theorem cLl : D14 r n aHx (xs (xs x0 0 (K1 (aX r n) 3)) 1 (K2 (dR r n) 0 13)) (K2 (dR r n) 0 13) = (K4 (aTw r n) 0 12 13 14) :=
 (by kernel_rfl : D14 r n aHx (xs (xs x0 0 (K1 (aX r n) 3)) 1 (K2 (dR r n) 0 13)) (K2 (dR r n) 0 13) = aO (fun kk => D14 r n lQ (xs (xs x0 0 (K1 (aX r n) 3)) 1 (K2 (dR r n) 0 13)) kk) n).trans ((bTh r n n).trans (by kernel_rfl))
theorem cLt : D14 r n aTb (xs x0 0 (K1 (aX r n) 3)) (K2 (dR r n) 0 13) = (K4 (aEb r n) 0 12 13 14) :=
 (by kernel_rfl : D14 r n aTb (xs x0 0 (K1 (aX r n) 3)) (K2 (dR r n) 0 13) = D14 r n aHx (xs (xs x0 0 (K1 (aX r n) 3)) 1 (K2 (dR r n) 0 13)) (K2 (dR r n) 0 13)).trans
 ((cLl r n).trans (by kernel_rfl))
theorem bPj : D14 r n aKb (xs x0 0 (K1 (aX r n) 3)) (K1 (aX r n) 3) = D14 r n vR (xs x0 0 (K1 (aX r n) 3)) (K2 (dR r n) 0 13) :=
 congrArg (fun k => D14 r n vR (xs x0 0 (K1 (aX r n) 3)) k) (cMv r n)
theorem bTl : D14 r n vR (xs x0 0 (K1 (aX r n) 3)) (K2 (dR r n) 0 13) = D14 r n bZi (xs x0 0 (K1 (aX r n) 3)) (K4 (aEb r n) 0 12 13 14) :=
 congrArg (fun k => D14 r n bZi (xs x0 0 (K1 (aX r n) 3)) k) (cLt r n)
theorem cNt : D14 r n aKb (xs x0 0 (K1 (aX r n) 3)) (K1 (aX r n) 3) = (K3 (aAu r n) 0 12 13) :=
 (bPj r n).trans
 ((bTl r n).trans
 ((by kernel_rfl)))
theorem bGo : D14 r n aGk (xs x0 0 (K1 (aX r n) 3)) (K1 (aX r n) 3) = D14 r n bOs (xs x0 0 (K1 (aX r n) 3)) (K3 (aAu r n) 0 12 13) :=
 congrArg (fun k => D14 r n bOs (xs x0 0 (K1 (aX r n) 3)) k) (cNt r n)
theorem cCl : D14 r n aGk (xs x0 0 (K1 (aX r n) 3)) (K1 (aX r n) 3) = (K2 (pX r n) 0 12) :=
 (bGo r n).trans
 ((by kernel_rfl))
theorem bVv : D14 r n aFr (xs x0 0 (K1 (aX r n) 3)) (K1 (aX r n) 3) = D14 r n bPp (xs x0 0 (K1 (aX r n) 3)) (K2 (pX r n) 0 12) :=
 congrArg (fun k => D14 r n bPp (xs x0 0 (K1 (aX r n) 3)) k) (cCl r n)
theorem cEk : D14 r n aFr (xs x0 0 (K1 (aX r n) 3)) (K1 (aX r n) 3) = (K2 (aFe r n) 0 12) :=
 (bVv r n).trans
 ((by kernel_rfl))
theorem bRb : D14 r n zI (xs x0 0 (K1 (aX r n) 3)) (K1 (aX r n) 3) = D14 r n bPf (xs x0 0 (K1 (aX r n) 3)) (K2 (aFe r n) 0 12) :=
 congrArg (fun k => D14 r n bPf (xs x0 0 (K1 (aX r n) 3)) k) (cEk r n)
theorem cPp : D14 r n zI (xs x0 0 (K1 (aX r n) 3)) (K1 (aX r n) 3) = (K2 (aCy r n) 0 3) :=
 (bRb r n).trans
 ((by kernel_rfl))
theorem cHd : D14 r n vV (xs x0 0 (K1 (aX r n) 3)) (K1 (aX r n) 3) = (K4 (wJ r n) 0 3 27 66) :=
 (by kernel_rfl : D14 r n vV (xs x0 0 (K1 (aX r n) 3)) (K1 (aX r n) 3) = (fun (env : aW) (h : Hp) => aS (opr env (cC vV)) (D14 r n zI (xs x0 0 (K1 (aX r n) 3)) (K1 (aX r n) 3) env h) (D14 r n dDk (xs x0 0 (K1 (aX r n) 3)) (K1 (aX r n) 3) env h))).trans (by rw [cPp r n]; kernel_rfl)
theorem cAd : D14 r n uV (xs x0 0 (K1 (aX r n) 3)) (K1 (aX r n) 3) = D14 r n bXn (xs x0 0 (K1 (aX r n) 3)) (K4 (wJ r n) 0 3 27 66) :=
 congrArg (fun k => D14 r n bXn (xs x0 0 (K1 (aX r n) 3)) k) (cHd r n)
theorem cKw : D14 r n uV (xs x0 0 (K1 (aX r n) 3)) (K1 (aX r n) 3) = (K3 (aSw r n) 0 3 27) :=
 (cAd r n).trans
 ((by kernel_rfl))
theorem cOz : D14 r n xZ (xs x0 0 (K1 (aX r n) 3)) (K1 (aX r n) 3) = (K5 (yO r n) 0 3 5 27 47) :=
 (by kernel_rfl : D14 r n xZ (xs x0 0 (K1 (aX r n) 3)) (K1 (aX r n) 3) = (fun (env : aW) (h : Hp) => aS (opr env (cC xZ)) (D14 r n vK (xs x0 0 (K1 (aX r n) 3)) (K1 (aX r n) 3) env h) (D14 r n uV (xs x0 0 (K1 (aX r n) 3)) (K1 (aX r n) 3) env h))).trans (by rw [cHu r n, cKw r n]; kernel_rfl)
theorem cJo : D14 r n xD (xs x0 0 (K1 (aX r n) 3)) (K1 (aX r n) 3) = D14 r n cAp (xs x0 0 (K1 (aX r n) 3)) (K5 (yO r n) 0 3 5 27 47) :=
 congrArg (fun k => D14 r n cAp (xs x0 0 (K1 (aX r n) 3)) k) (cOz r n)
theorem cVb : D14 r n xD (xs x0 0 (K1 (aX r n) 3)) (K1 (aX r n) 3) = (K4 (bOp r n) 0 3 5 27) :=
 (cJo r n).trans
 ((by kernel_rfl))
theorem cWo : D14 r n vW (xs x0 0 (K1 (aX r n) 3)) (K1 (aX r n) 3) = (K5 (aKj r n) 0 3 5 27 38) :=
 (by kernel_rfl : D14 r n vW (xs x0 0 (K1 (aX r n) 3)) (K1 (aX r n) 3) = (fun (env : aW) (h : Hp) => aS (opr env (cC vW)) (D14 r n dAk (xs x0 0 (K1 (aX r n) 3)) (K1 (aX r n) 3) env h) (D14 r n xD (xs x0 0 (K1 (aX r n) 3)) (K1 (aX r n) 3) env h))).trans (by rw [cVb r n]; kernel_rfl)
theorem bUz : D14 r n aLe (xs x0 0 (K1 (aX r n) 3)) (K1 (aX r n) 3) = D14 r n bUw (xs x0 0 (K1 (aX r n) 3)) (K5 (aKj r n) 0 3 5 27 38) :=
 congrArg (fun k => D14 r n bUw (xs x0 0 (K1 (aX r n) 3)) k) (cWo r n)
theorem dCp : D14 r n aLe (xs x0 0 (K1 (aX r n) 3)) (K1 (aX r n) 3) = (K4 (bOn r n) 0 3 5 27) :=
 (bUz r n).trans
 ((by kernel_rfl))
theorem cYj : D14 r n aMj (xs x0 0 (K1 (aX r n) 3)) (K1 (aX r n) 3) = (K5 (aLv r n) 0 3 5 27 28) :=
 (by kernel_rfl : D14 r n aMj (xs x0 0 (K1 (aX r n) 3)) (K1 (aX r n) 3) = (fun (env : aW) (h : Hp) => aS (opr env (cC aMj)) (D14 r n dAx (xs x0 0 (K1 (aX r n) 3)) (K1 (aX r n) 3) env h) (D14 r n aLe (xs x0 0 (K1 (aX r n) 3)) (K1 (aX r n) 3) env h))).trans (by rw [dCp r n]; kernel_rfl)
theorem bRo : D14 r n aVs (xs x0 0 (K1 (aX r n) 3)) (K1 (aX r n) 3) = D14 r n bSs (xs x0 0 (K1 (aX r n) 3)) (K5 (aLv r n) 0 3 5 27 28) :=
 congrArg (fun k => D14 r n bSs (xs x0 0 (K1 (aX r n) 3)) k) (cYj r n)
theorem dCs : D14 r n bVk x0 (K1 (aX r n) 3) = (K4 (aXv r n) 0 3 5 27) :=
 (by kernel_rfl : D14 r n bVk x0 (K1 (aX r n) 3) = D14 r n aVs (xs x0 0 (K1 (aX r n) 3)) (K1 (aX r n) 3)).trans
 ((bRo r n).trans
 ((by kernel_rfl)))
theorem cAb : D14 r n bBy x0 r14 = D14 r n aLj x0 (K1 (aX r n) 3) :=
 congrArg (fun k => D14 r n aLj x0 k) (dAs r n)
theorem bJc : D14 r n aLj x0 (K1 (aX r n) 3) = D14 r n bLw x0 (K4 (aXv r n) 0 3 5 27) :=
 congrArg (fun k => D14 r n bLw x0 k) (dCs r n)
theorem cZp : D14 r n bBy x0 r14 = (K3 (aAj r n) 0 3 5) :=
 (cAb r n).trans
 ((bJc r n).trans
 ((by kernel_rfl)))
theorem bIr : D14 r n bAp x0 r14 = D14 r n bRe x0 (K3 (aAj r n) 0 3 5) :=
 congrArg (fun k => D14 r n bRe x0 k) (cZp r n)
theorem cTm : D14 r n bAp x0 r14 = (K3 (aXz r n) 0 3 5) :=
 (bIr r n).trans
 ((by kernel_rfl))
theorem bUn : D14 r n bAn x0 r14 = D14 r n bOq x0 (K3 (aXz r n) 0 3 5) :=
 congrArg (fun k => D14 r n bOq x0 k) (cTm r n)
theorem cWc : D14 r n bAn x0 r14 = (K2 (aAi r n) 0 3) :=
 (bUn r n).trans
 ((by kernel_rfl))
theorem cUd : D14 r n c14 x0 r14 = D14 r n aQq x0 (K2 (aAi r n) 0 3) :=
 congrArg (fun k => D14 r n aQq x0 k) (cWc r n)
theorem cWy (q0 : oL) : D14 r n aQq x0 (K2 q0 0 3) = fun (env : aW) (h : Hp) =>
 bnd (bQ (env 1) h) fun v1 h1 =>
  q0 (env 0) v1 h1 := by kernel_rfl
theorem cNr : (fun (env : aW) (h : Hp) =>
 bnd (bQ (env 1) h) fun v1 h1 =>
  aAi r n (env 0) v1 h1) = (K2 (s14 r n) 0 1) := by kernel_rfl
theorem dOh : D14 r n c14 x0 r14 = (K2 (s14 r n) 0 1) :=
 (cUd r n).trans
 ((cWy r n (aAi r n)).trans (cNr r n))
theorem cQr : aF CF r n 14 args h = s14 r n (aT args 0) (aT args 1) h :=
 (by kernel_rfl : aF CF r n 14 args h = D14 r n c14 x0 r14 (aI args) h).trans ((congrFun (congrFun (dOh r n) (aI args)) h).trans (by kernel_rfl))
noncomputable def s15 (r : RT) (n : Nat) (x0 x1 : DV) (h0 : Hp) : aH :=
 bnd (gN [x1] h0) fun v1 h1 =>
 aS v1 (
 bnd (kZ [x1] h1) fun v2 h2 =>
 some (.t [v2, (.b true)], h2)) (
 bnd (aN x0 h1) fun v3 h3 =>
 bnd (aB 0 v3 h3) fun v4 h4 =>
 bnd (aA v4 h4) fun v5 h5 =>
 bnd (isF [v5, x1] h5) fun v6 h6 =>
 bnd (gD v6 true (some (x0, h6)) h6) fun v7 h7 =>
 bnd (gD v6 true (aN v7 h7) h7) fun v8 h8 =>
 bnd (gD v6 true (aB 0 v8 h8) h8) fun v9 h9 =>
 bnd (gD v6 true (aA v9 h9) h9) fun v10 h10 =>
 bnd (gD v6 true (some (x1, h10)) h10) fun v11 h11 =>
 bnd (gD v6 true (iK [v10, v11] h11) h11) fun v12 h12 =>
 bnd (gD v6 true (some (x0, h12)) h12) fun v13 h13 =>
 bnd (gD v6 true (r 30 [v13, (aE 8)] h13) h13) fun v14 h14 =>
 bnd (gD v6 true (aD .eql v12 v14 h14) h14) fun v15 h15 =>
 bnd (aP v6 v15 (.b false) h15) fun v16 h16 =>
 bnd (gD v16 true (some (x0, h16)) h16) fun v17 h17 =>
 bnd (gD v16 true (aN v17 h17) h17) fun v18 h18 =>
 bnd (gD v16 true (aB 0 v18 h18) h18) fun v19 h19 =>
 bnd (gD v16 true (aA v19 h19) h19) fun v20 h20 =>
 bnd (gD v16 true (some (x1, h20)) h20) fun v21 h21 =>
 bnd (gD v16 true (jN [v20, v21] h21) h21) fun v22 h22 =>
 bnd (gD v16 true (aD .eql v22 (aE 1) h22) h22) fun v23 h23 =>
 bnd (aP v16 v23 (.b false) h23) fun v24 h24 =>
 aS v24 (
 bnd (r 51 [x0, x1, (aE 0)] h24) fun v25 h25 =>
 some (.t [v25, (.b true)], h25)) (
 some (.t [(aE 0), (.b false)], h24)))
noncomputable abbrev c15 : Code := cf Tryz.f15
noncomputable abbrev r15 : K := aQ CF Tryz.f15
noncomputable def D15 (r : RT) (n : Nat) (c : Code) (X : Nat → K) (k : K) : K := aM CF r 41 n c X r15 k
theorem dPu : D15 r n c15 x0 r15 = (K2 (s15 r n) 0 1) :=
 (by kernel_rfl)
theorem dHo : aF CF r n 15 args h = s15 r n (aT args 0) (aT args 1) h :=
 (by kernel_rfl : aF CF r n 15 args h = D15 r n c15 x0 r15 (aI args) h).trans ((congrFun (congrFun (dPu r n) (aI args)) h).trans (by kernel_rfl))
noncomputable def bB (r : RT) (n : Nat) (x12 : DV) (h0 : Hp) : aH :=
 bnd (cV CF r x12 [] h0) fun v1 h1 =>
 bnd (aC 0 v1 h1) fun v2 h2 =>
 bnd (aC 1 v1 h2) fun v3 h3 =>
 some (.t [v2, v3], h3)
noncomputable def aFp (r : RT) (n : Nat) (x11 x12 x69 : DV) (h0 : Hp) : aH :=
 aS x69 (
  bB r n (.f 61 [x11] []) h0) (
  bB r n x12 h0)
noncomputable def bWq (r : RT) (n : Nat) (x11 x12 x42 : DV) (h0 : Hp) : aH :=
 bnd (aD .eql x42 (aE 50) h0) fun v1 h1 =>
 aS v1 (
  aFp r n x11 x12 v1 h1) (
 bnd (aD .eql x42 (aE 51) h1) fun v2 h2 =>
  aFp r n x11 x12 v2 h2)
noncomputable def aDy (r : RT) (n : Nat) (x11 x12 x42 x64 : DV) (h0 : Hp) : aH :=
 aS x64 (
  bB r n (.f 60 [x11] []) h0) (
  bWq r n x11 x12 x42 h0)
noncomputable def bUj (r : RT) (n : Nat) (x11 x12 x42 : DV) (h0 : Hp) : aH :=
 bnd (aD .eql x42 (aE 40) h0) fun v1 h1 =>
 aS v1 (
  aDy r n x11 x12 x42 v1 h1) (
 bnd (aD .eql x42 (aE 41) h1) fun v2 h2 =>
  aDy r n x11 x12 x42 v2 h2)
noncomputable def aEn (r : RT) (n : Nat) (x11 x12 x42 x59 : DV) (h0 : Hp) : aH :=
 aS x59 (
  bB r n (.f 59 [x11] []) h0) (
  bUj r n x11 x12 x42 h0)
noncomputable def bHl (r : RT) (n : Nat) (x11 x12 x42 : DV) (h0 : Hp) : aH :=
 bnd (aD .eql x42 (aE 25) h0) fun v1 h1 =>
 aS v1 (
  aEn r n x11 x12 x42 v1 h1) (
 bnd (aD .eql x42 (aE 26) h1) fun v2 h2 =>
  aEn r n x11 x12 x42 v2 h2)
noncomputable def aHe (r : RT) (n : Nat) (x11 x12 x42 x54 : DV) (h0 : Hp) : aH :=
 aS x54 (
  bB r n (.f 58 [x11] []) h0) (
  bHl r n x11 x12 x42 h0)
noncomputable def bXi (r : RT) (n : Nat) (x11 x12 x42 : DV) (h0 : Hp) : aH :=
 bnd (aD .eql x42 (aE 23) h0) fun v1 h1 =>
 aS v1 (
  aHe r n x11 x12 x42 v1 h1) (
 bnd (aD .eql x42 (aE 24) h1) fun v2 h2 =>
  aHe r n x11 x12 x42 v2 h2)
noncomputable def xV (r : RT) (n : Nat) (x11 x12 x42 x48 : DV) (h0 : Hp) : aH :=
 aS x48 (
  bB r n (.f 57 [x11] []) h0) (
  bXi r n x11 x12 x42 h0)
noncomputable def cQq (r : RT) (n : Nat) (x11 x12 x42 : DV) (h0 : Hp) : aH :=
 bnd (aD .eql x42 (aE 20) h0) fun v1 h1 =>
 aS v1 (
  xV r n x11 x12 x42 v1 h1) (
 bnd (aD .eql x42 (aE 21) h1) fun v2 h2 =>
 aS v2 (
   xV r n x11 x12 x42 v2 h2) (
 bnd (aD .eql x42 (aE 22) h2) fun v3 h3 =>
      xV r n x11 x12 x42 v3 h3))
noncomputable def aZw (r : RT) (n : Nat) (x11 x12 x42 x43 : DV) (h0 : Hp) : aH :=
 aS x43 (
  bB r n (.f 56 [x11] []) h0) (
  cQq r n x11 x12 x42 h0)
noncomputable def bMf (r : RT) (n : Nat) (x11 x12 x42 : DV) (h0 : Hp) : aH :=
 bnd (aD .eql x42 (aE 10) h0) fun v1 h1 =>
 aS v1 (
  aZw r n x11 x12 x42 v1 h1) (
 bnd (aD .eql x42 (aE 11) h1) fun v2 h2 =>
  aZw r n x11 x12 x42 v2 h2)
noncomputable def bIg (r : RT) (n : Nat) (x1 x11 x12 : DV) (h0 : Hp) : aH :=
 bMf r n x11 x12 x1 h0
noncomputable def nB (r : RT) (n : Nat) (x1 x11 : DV) (h0 : Hp) : aH :=
 bIg r n x1 x11 (.f 55 [x11] []) h0
noncomputable def yK (r : RT) (n : Nat) (x0 x1 x2 x3 : DV) (h0 : Hp) : aH :=
 bnd (bC [.p0, (aE 0), (aE 0), .l0] [(0, 1, x0), (1, 1, x1), (2, 1, x2), (3, 1, x3)] h0) fun v1 h1 =>
 bnd (bQ v1 h1) fun v2 h2 =>
  nB r n x1 v2 h2
noncomputable def zZ (r : RT) (n : Nat) (x0 x1 x2 x3 x10 : DV) (h0 : Hp) : aH :=
 bnd (r 39 [x1] h0) fun v1 h1 =>
 bnd (bX x3 h1) fun v2 h2 =>
 bnd (aD .neq v1 v2 h2) fun v3 h3 =>
 bnd (gD v3 false (aA x10 h3) h3) fun v4 h4 =>
 bnd (gD v3 false (some (x2, h4)) h4) fun v5 h5 =>
 bnd (gD v3 false (zM [v4, v5] h5) h5) fun v6 h6 =>
 bnd (gD v3 false (gU .not v6 h6) h6) fun v7 h7 =>
 bnd (aP v3 (.b true) v7 h7) fun v8 h8 =>
 bnd (gD v8 false (some (x3, h8)) h8) fun v9 h9 =>
 bnd (gD v8 false (some ((.f 53 [] [x10]), h9)) h9) fun v10 h10 =>
 bnd (gD v8 false (r 52 [v9, v10] h10) h10) fun v11 h11 =>
 bnd (aP v8 (.b true) v11 h11) fun v12 h12 =>
 aS v12 (
 bnd (r 54 [] h12) fun v13 h13 =>
 bnd (aC 0 v13 h13) fun v14 h14 =>
 bnd (aC 1 v13 h14) fun v15 h15 =>
 some (.t [v14, v15], h15)) (
  yK r n x0 x1 x2 x3 h12)
noncomputable def aKu (r : RT) (n : Nat) (x0 x1 x2 x3 : DV) (h0 : Hp) : aH :=
 bnd (r 23 [x0] h0) fun v1 h1 =>
 bnd (bL [.p0] h1) fun v2 h2 =>
 bnd (aG 1 v2 v1 h2) fun _ h3 =>
  zZ r n x0 x1 x2 x3 v2 h3
noncomputable def s16 (r : RT) (n : Nat) (x0 x1 x2 x3 : DV) (h0 : Hp) : aH :=
 aKu r n x0 x1 x2 x3 h0
noncomputable abbrev c16 : Code := cf Tryz.f16
noncomputable abbrev bAx : Code := cR c16
noncomputable abbrev aYr : Code := cR bAx
noncomputable abbrev bAw : Code := cR aYr
noncomputable abbrev aWe : Code := cR bAw
noncomputable abbrev aZh : Code := cR aWe
noncomputable abbrev dGf : Code := cR aZh
noncomputable abbrev aMw : Code := cL aZh
noncomputable abbrev bRn : Code := cR aMw
noncomputable abbrev aVa : Code := cL bRn
noncomputable abbrev vQ : Code := cR aVa
noncomputable abbrev wO : Code := cR vQ
noncomputable abbrev xI : Code := cR wO
noncomputable abbrev zH : Code := cR xI
noncomputable abbrev vC : Code := cR zH
noncomputable abbrev uS : Code := cR vC
noncomputable abbrev yU : Code := cR uS
noncomputable abbrev wY : Code := cR yU
noncomputable abbrev wH : Code := cR wY
noncomputable abbrev wX : Code := cR wH
noncomputable abbrev dCt : Code := cR wX
noncomputable abbrev bHa : Code := cL wX
noncomputable abbrev cRv : Code := cL wH
noncomputable abbrev bTt : Code := cL wY
noncomputable abbrev cUg : Code := cL yU
noncomputable abbrev cAt : Code := cL uS
noncomputable abbrev dCo : Code := cL vC
noncomputable abbrev bWb : Code := cL zH
noncomputable abbrev dCu : Code := cL xI
noncomputable abbrev bIc : Code := cL wO
noncomputable abbrev dDd : Code := cL vQ
noncomputable abbrev bMb : Code := cL aVa
noncomputable abbrev bHe : Code := cL aMw
noncomputable abbrev cAo : Code := cL aWe
noncomputable abbrev aRh : Code := cL bAw
noncomputable abbrev bMw : Code := cL aYr
noncomputable abbrev aOe : Code := cL bAx
noncomputable abbrev bPv : Code := cL c16
noncomputable abbrev r16 : K := aQ CF Tryz.f16
noncomputable def D16 (r : RT) (n : Nat) (c : Code) (X : Nat → K) (k : K) : K := aM CF r 78 n c X r16 k
theorem cSe : D16 r n dGf x0 r16 = (K1 (bB r n) 12) :=
 (by kernel_rfl)
theorem cCa : D16 r n dCt (xs x0 0 (K1 (bB r n) 12)) (K1 (bB r n) 12) = (K3 (aFp r n) 11 12 69) :=
 (by kernel_rfl)
theorem bHg : D16 r n wX (xs x0 0 (K1 (bB r n) 12)) (K1 (bB r n) 12) = D16 r n bHa (xs x0 0 (K1 (bB r n) 12)) (K3 (aFp r n) 11 12 69) :=
 congrArg (fun k => D16 r n bHa (xs x0 0 (K1 (bB r n) 12)) k) (cCa r n)
theorem cPk : D16 r n wX (xs x0 0 (K1 (bB r n) 12)) (K1 (bB r n) 12) = (K3 (bWq r n) 11 12 42) :=
 (bHg r n).trans
 ((by kernel_rfl))
theorem cNk : D16 r n wH (xs x0 0 (K1 (bB r n) 12)) (K1 (bB r n) 12) = (K4 (aDy r n) 11 12 42 64) :=
 (by kernel_rfl : D16 r n wH (xs x0 0 (K1 (bB r n) 12)) (K1 (bB r n) 12) = (fun (env : aW) (h : Hp) => aS (opr env (cC wH)) (D16 r n cRv (xs x0 0 (K1 (bB r n) 12)) (K1 (bB r n) 12) env h) (D16 r n wX (xs x0 0 (K1 (bB r n) 12)) (K1 (bB r n) 12) env h))).trans (by rw [cPk r n]; kernel_rfl)
theorem bPc : D16 r n wY (xs x0 0 (K1 (bB r n) 12)) (K1 (bB r n) 12) = D16 r n bTt (xs x0 0 (K1 (bB r n) 12)) (K4 (aDy r n) 11 12 42 64) :=
 congrArg (fun k => D16 r n bTt (xs x0 0 (K1 (bB r n) 12)) k) (cNk r n)
theorem cNm : D16 r n wY (xs x0 0 (K1 (bB r n) 12)) (K1 (bB r n) 12) = (K3 (bUj r n) 11 12 42) :=
 (bPc r n).trans
 ((by kernel_rfl))
theorem cOk : D16 r n yU (xs x0 0 (K1 (bB r n) 12)) (K1 (bB r n) 12) = (K4 (aEn r n) 11 12 42 59) :=
 (by kernel_rfl : D16 r n yU (xs x0 0 (K1 (bB r n) 12)) (K1 (bB r n) 12) = (fun (env : aW) (h : Hp) => aS (opr env (cC yU)) (D16 r n cUg (xs x0 0 (K1 (bB r n) 12)) (K1 (bB r n) 12) env h) (D16 r n wY (xs x0 0 (K1 (bB r n) 12)) (K1 (bB r n) 12) env h))).trans (by rw [cNm r n]; kernel_rfl)
theorem bQu : D16 r n uS (xs x0 0 (K1 (bB r n) 12)) (K1 (bB r n) 12) = D16 r n cAt (xs x0 0 (K1 (bB r n) 12)) (K4 (aEn r n) 11 12 42 59) :=
 congrArg (fun k => D16 r n cAt (xs x0 0 (K1 (bB r n) 12)) k) (cOk r n)
theorem cJr : D16 r n uS (xs x0 0 (K1 (bB r n) 12)) (K1 (bB r n) 12) = (K3 (bHl r n) 11 12 42) :=
 (bQu r n).trans
 ((by kernel_rfl))
theorem cEd : D16 r n vC (xs x0 0 (K1 (bB r n) 12)) (K1 (bB r n) 12) = (K4 (aHe r n) 11 12 42 54) :=
 (by kernel_rfl : D16 r n vC (xs x0 0 (K1 (bB r n) 12)) (K1 (bB r n) 12) = (fun (env : aW) (h : Hp) => aS (opr env (cC vC)) (D16 r n dCo (xs x0 0 (K1 (bB r n) 12)) (K1 (bB r n) 12) env h) (D16 r n uS (xs x0 0 (K1 (bB r n) 12)) (K1 (bB r n) 12) env h))).trans (by rw [cJr r n]; kernel_rfl)
theorem bXl : D16 r n zH (xs x0 0 (K1 (bB r n) 12)) (K1 (bB r n) 12) = D16 r n bWb (xs x0 0 (K1 (bB r n) 12)) (K4 (aHe r n) 11 12 42 54) :=
 congrArg (fun k => D16 r n bWb (xs x0 0 (K1 (bB r n) 12)) k) (cEd r n)
theorem cFx : D16 r n zH (xs x0 0 (K1 (bB r n) 12)) (K1 (bB r n) 12) = (K3 (bXi r n) 11 12 42) :=
 (bXl r n).trans
 ((by kernel_rfl))
theorem cDg : D16 r n xI (xs x0 0 (K1 (bB r n) 12)) (K1 (bB r n) 12) = (K4 (xV r n) 11 12 42 48) :=
 (by kernel_rfl : D16 r n xI (xs x0 0 (K1 (bB r n) 12)) (K1 (bB r n) 12) = (fun (env : aW) (h : Hp) => aS (opr env (cC xI)) (D16 r n dCu (xs x0 0 (K1 (bB r n) 12)) (K1 (bB r n) 12) env h) (D16 r n zH (xs x0 0 (K1 (bB r n) 12)) (K1 (bB r n) 12) env h))).trans (by rw [cFx r n]; kernel_rfl)
theorem cIm : D16 r n wO (xs x0 0 (K1 (bB r n) 12)) (K1 (bB r n) 12) = D16 r n bIc (xs x0 0 (K1 (bB r n) 12)) (K4 (xV r n) 11 12 42 48) :=
 congrArg (fun k => D16 r n bIc (xs x0 0 (K1 (bB r n) 12)) k) (cDg r n)
theorem dCb : D16 r n wO (xs x0 0 (K1 (bB r n) 12)) (K1 (bB r n) 12) = (K3 (cQq r n) 11 12 42) :=
 (cIm r n).trans
 ((by kernel_rfl))
theorem cYd : D16 r n vQ (xs x0 0 (K1 (bB r n) 12)) (K1 (bB r n) 12) = (K4 (aZw r n) 11 12 42 43) :=
 (by kernel_rfl : D16 r n vQ (xs x0 0 (K1 (bB r n) 12)) (K1 (bB r n) 12) = (fun (env : aW) (h : Hp) => aS (opr env (cC vQ)) (D16 r n dDd (xs x0 0 (K1 (bB r n) 12)) (K1 (bB r n) 12) env h) (D16 r n wO (xs x0 0 (K1 (bB r n) 12)) (K1 (bB r n) 12) env h))).trans (by rw [dCb r n]; kernel_rfl)
theorem cJy : D16 r n aVa (xs x0 0 (K1 (bB r n) 12)) (K1 (bB r n) 12) = D16 r n bMb (xs x0 0 (K1 (bB r n) 12)) (K4 (aZw r n) 11 12 42 43) :=
 congrArg (fun k => D16 r n bMb (xs x0 0 (K1 (bB r n) 12)) k) (cYd r n)
theorem cSu : D16 r n bRn x0 (K1 (bB r n) 12) = (K3 (bMf r n) 11 12 42) :=
 (by kernel_rfl : D16 r n bRn x0 (K1 (bB r n) 12) = D16 r n aVa (xs x0 0 (K1 (bB r n) 12)) (K1 (bB r n) 12)).trans
 ((cJy r n).trans
 ((by kernel_rfl)))
theorem cOy : D16 r n aZh x0 r16 = D16 r n aMw x0 (K1 (bB r n) 12) :=
 congrArg (fun k => D16 r n aMw x0 k) (cSe r n)
theorem cJv : D16 r n aMw x0 (K1 (bB r n) 12) = D16 r n bHe x0 (K3 (bMf r n) 11 12 42) :=
 congrArg (fun k => D16 r n bHe x0 k) (cSu r n)
theorem cWj : D16 r n aZh x0 r16 = (K3 (bIg r n) 1 11 12) :=
 (cOy r n).trans
 ((cJv r n).trans
 ((by kernel_rfl)))
theorem cLm : D16 r n aWe x0 r16 = D16 r n cAo x0 (K3 (bIg r n) 1 11 12) :=
 congrArg (fun k => D16 r n cAo x0 k) (cWj r n)
theorem cSd : D16 r n aWe x0 r16 = (K2 (nB r n) 1 11) :=
 (cLm r n).trans
 ((by kernel_rfl))
theorem bMo : D16 r n bAw x0 r16 = D16 r n aRh x0 (K2 (nB r n) 1 11) :=
 congrArg (fun k => D16 r n aRh x0 k) (cSd r n)
theorem bLh (q0 : oL) : D16 r n aRh x0 (K2 q0 1 11) = fun (env : aW) (h : Hp) =>
 bnd (bC [.p0, (aE 0), (aE 0), .l0] [(0, 1, (env 0)), (1, 1, (env 1)), (2, 1, (env 2)), (3, 1, (env 3))] h) fun v1 h1 =>
 bnd (bQ v1 h1) fun v2 h2 =>
  q0 (env 1) v2 h2 := by kernel_rfl
theorem bFw : (fun (env : aW) (h : Hp) =>
 bnd (bC [.p0, (aE 0), (aE 0), .l0] [(0, 1, (env 0)), (1, 1, (env 1)), (2, 1, (env 2)), (3, 1, (env 3))] h) fun v1 h1 =>
 bnd (bQ v1 h1) fun v2 h2 =>
  nB r n (env 1) v2 h2) = (K4 (yK r n) 0 1 2 3) := by kernel_rfl
theorem cWd : D16 r n bAw x0 r16 = (K4 (yK r n) 0 1 2 3) :=
 (bMo r n).trans
 ((bLh r n (nB r n)).trans (bFw r n))
theorem bKd : D16 r n aYr x0 r16 = D16 r n bMw x0 (K4 (yK r n) 0 1 2 3) :=
 congrArg (fun k => D16 r n bMw x0 k) (cWd r n)
theorem dBj : D16 r n aYr x0 r16 = (K5 (zZ r n) 0 1 2 3 10) :=
 (bKd r n).trans
 ((by kernel_rfl))
theorem bTr : D16 r n bAx x0 r16 = D16 r n aOe x0 (K5 (zZ r n) 0 1 2 3 10) :=
 congrArg (fun k => D16 r n aOe x0 k) (dBj r n)
theorem cAc (q0 : cD) : D16 r n aOe x0 (K5 q0 0 1 2 3 10) = fun (env : aW) (h : Hp) =>
 bnd (r 23 [(env 0)] h) fun v1 h1 =>
 bnd (bL [.p0] h1) fun v2 h2 =>
 bnd (aG 1 v2 v1 h2) fun _ h3 =>
  q0 (env 0) (env 1) (env 2) (env 3) v2 h3 := by kernel_rfl
theorem bFr : (fun (env : aW) (h : Hp) =>
 bnd (r 23 [(env 0)] h) fun v1 h1 =>
 bnd (bL [.p0] h1) fun v2 h2 =>
 bnd (aG 1 v2 v1 h2) fun _ h3 =>
  zZ r n (env 0) (env 1) (env 2) (env 3) v2 h3) = (K4 (aKu r n) 0 1 2 3) := by kernel_rfl
theorem dDq : D16 r n bAx x0 r16 = (K4 (aKu r n) 0 1 2 3) :=
 (bTr r n).trans
 ((cAc r n (zZ r n)).trans (bFr r n))
theorem cTa : D16 r n c16 x0 r16 = D16 r n bPv x0 (K4 (aKu r n) 0 1 2 3) :=
 congrArg (fun k => D16 r n bPv x0 k) (dDq r n)
theorem dNw : D16 r n c16 x0 r16 = (K4 (s16 r n) 0 1 2 3) :=
 (cTa r n).trans
 ((by kernel_rfl))
theorem cQm : aF CF r n 16 args h = s16 r n (aT args 0) (aT args 1) (aT args 2) (aT args 3) h :=
 (by kernel_rfl : aF CF r n 16 args h = D16 r n c16 x0 r16 (aI args) h).trans ((congrFun (congrFun (dNw r n) (aI args)) h).trans (by kernel_rfl))
noncomputable def s17 (r : RT) (n : Nat) (x0 : DV) (h0 : Hp) : aH :=
 aS x0 (
 some ((aE 2), h0)) (
 some ((aE 4), h0))
noncomputable abbrev c17 : Code := cf Tryz.f17
noncomputable abbrev r17 : K := aQ CF Tryz.f17
noncomputable def D17 (r : RT) (n : Nat) (c : Code) (X : Nat → K) (k : K) : K := aM CF r 4 n c X r17 k
theorem dPo : D17 r n c17 x0 r17 = (K1 (s17 r n) 0) :=
 (by kernel_rfl)
theorem cRb : aF CF r n 17 args h = s17 r n (aT args 0) h :=
 (by kernel_rfl : aF CF r n 17 args h = D17 r n c17 x0 r17 (aI args) h).trans ((congrFun (congrFun (dPo r n) (aI args)) h).trans (by kernel_rfl))
noncomputable def s23 (r : RT) (n : Nat) (x0 : DV) (h0 : Hp) : aH :=
 bnd (aN x0 h0) fun v1 h1 =>
 bnd (aB 0 v1 h1) fun v2 h2 =>
 bnd (aA v2 h2) fun v3 h3 =>
 some (v3, h3)
noncomputable abbrev c23 : Code := cf Tryz.f23
noncomputable abbrev r23 : K := aQ CF Tryz.f23
noncomputable def D23 (r : RT) (n : Nat) (c : Code) (X : Nat → K) (k : K) : K := aM CF r 7 n c X r23 k
theorem dNb : D23 r n c23 x0 r23 = (K1 (s23 r n) 0) :=
 (by kernel_rfl)
theorem cRn : aF CF r n 23 args h = s23 r n (aT args 0) h :=
 (by kernel_rfl : aF CF r n 23 args h = D23 r n c23 x0 r23 (aI args) h).trans ((congrFun (congrFun (dNb r n) (aI args)) h).trans (by kernel_rfl))
noncomputable def s25 (r : RT) (n : Nat) (x0 x1 : DV) (h0 : Hp) : aH :=
 bnd (aN x0 h0) fun v1 h1 =>
 bnd (aB 0 v1 h1) fun v2 h2 =>
 bnd (aA v2 h2) fun v3 h3 =>
 bnd (isF [v3, x1] h3) fun v4 h4 =>
 aS v4 (
 bnd (aN x0 h4) fun v5 h5 =>
 bnd (aB 0 v5 h5) fun v6 h6 =>
 bnd (aA v6 h6) fun v7 h7 =>
 bnd (iK [v7, x1] h7) fun v8 h8 =>
 some (v8, h8)) (
 bnd (gN [x1] h4) fun v9 h9 =>
 aS v9 (
 bnd (r 30 [x0, (aE 7)] h9) fun v10 h10 =>
 some (v10, h10)) (
 bnd (aD .eql x1 (aE 0) h9) fun v11 h11 =>
 aS v11 (
 bnd (r 30 [x0, (aE 2)] h11) fun v12 h12 =>
 some (v12, h12)) (
 bnd (aD .eql x1 (aE 2) h11) fun v13 h13 =>
 aS v13 (
 bnd (r 30 [x0, (aE 4)] h13) fun v14 h14 =>
 some (v14, h14)) (
 bnd (aD .eql x1 (aE 4) h13) fun v15 h15 =>
 aS v15 (
 bnd (r 30 [x0, (aE 5)] h15) fun v16 h16 =>
 some (v16, h16)) (
 some ((aE 0), h15))))))
noncomputable abbrev c25 : Code := cf Tryz.f25
noncomputable abbrev r25 : K := aQ CF Tryz.f25
noncomputable def D25 (r : RT) (n : Nat) (c : Code) (X : Nat → K) (k : K) : K := aM CF r 38 n c X r25 k
theorem dQb : D25 r n c25 x0 r25 = (K2 (s25 r n) 0 1) :=
 (by kernel_rfl)
theorem cQw : aF CF r n 25 args h = s25 r n (aT args 0) (aT args 1) h :=
 (by kernel_rfl : aF CF r n 25 args h = D25 r n c25 x0 r25 (aI args) h).trans ((congrFun (congrFun (dQb r n) (aI args)) h).trans (by kernel_rfl))
noncomputable def fW (r : RT) (n : Nat) (x5 : DV) (h0 : Hp) : aH :=
 some (x5, h0)
noncomputable def aOs (r : RT) (n : Nat) (kk5 : dL) (x0 x1 x5 x6 : DV) (h0 : Hp) : aH :=
 bnd (r 23 [x0] h0) fun v1 h1 =>
 bnd (fF [v1, x1] h1) fun v2 h2 =>
 bnd (aD .lss x6 v2 h2) fun v3 h3 =>
 aS v3 (
 bnd (r 23 [x0] h3) fun v4 h4 =>
 bnd (yS [v4, x1, x6] h4) fun v5 h5 =>
 bnd (aC 0 v5 h5) fun v6 h6 =>
 bnd (aC 1 v5 h6) fun v7 h7 =>
 bnd (aL [(aE 0)] 1 [(0, 1, v6)] h7) fun v8 h8 =>
 bnd (bA 1 8 x5 v8 h8) fun v9 h9 =>
 bnd (aD .add x6 (aE 1) h9) fun v10 h10 =>
      kk5 x0 x1 v9 v10 h10) (
      fW r n x5 h3)
noncomputable def aFj (r : RT) (n : Nat) (m : Nat) : dL :=
 Nat.rec (motive := fun _ => dL) (fun _ _ _ _ _ => none) (fun _ ih => aOs r n ih) m
noncomputable def cRd (r : RT) (n : Nat) : dL := aFj r n n
noncomputable def bOx (r : RT) (n : Nat) (x0 x1 x5 x6 : DV) (h0 : Hp) : aH :=
 cRd r n x0 x1 x5 x6 h0
noncomputable def bGy (r : RT) (n : Nat) (x0 x1 x5 : DV) (h0 : Hp) : aH :=
 bOx r n x0 x1 x5 (aE 0) h0
noncomputable def bNk (r : RT) (n : Nat) (x0 x1 : DV) (h0 : Hp) : aH :=
 bGy r n x0 x1 .l0 h0
noncomputable def s29 (r : RT) (n : Nat) (x0 x1 : DV) (h0 : Hp) : aH :=
 bNk r n x0 x1 h0
noncomputable abbrev c29 : Code := cf Tryz.f29
noncomputable abbrev aWb : Code := cR c29
noncomputable abbrev bAl : Code := cR aWb
noncomputable abbrev dIa : Code := cR bAl
noncomputable abbrev aMt : Code := cL bAl
noncomputable abbrev bPh : Code := cR aMt
noncomputable abbrev bAv : Code := cL bPh
noncomputable abbrev rN : Code := cL bAv
noncomputable abbrev cQy : Code := cL aMt
noncomputable abbrev cRi : Code := cL aWb
noncomputable abbrev bYh : Code := cL c29
noncomputable abbrev r29 : K := aQ CF Tryz.f29
noncomputable def D29 (r : RT) (n : Nat) (c : Code) (X : Nat → K) (k : K) : K := aM CF r 30 n c X r29 k
theorem cTk : D29 r n dIa x0 r29 = (K1 (fW r n) 5) :=
 (by kernel_rfl)
theorem cIr (kk5 : dL) (q0 : TT1) : D29 r n rN (xs x0 0 (K1 q0 5)) (K4 kk5 0 1 5 6) = fun (env : aW) (h : Hp) =>
 bnd (r 23 [(env 0)] h) fun v1 h1 =>
 bnd (fF [v1, (env 1)] h1) fun v2 h2 =>
 bnd (aD .lss (env 6) v2 h2) fun v3 h3 =>
 aS v3 (
 bnd (r 23 [(env 0)] h3) fun v4 h4 =>
 bnd (yS [v4, (env 1), (env 6)] h4) fun v5 h5 =>
 bnd (aC 0 v5 h5) fun v6 h6 =>
 bnd (aC 1 v5 h6) fun v7 h7 =>
 bnd (aL [(aE 0)] 1 [(0, 1, v6)] h7) fun v8 h8 =>
 bnd (bA 1 8 (env 5) v8 h8) fun v9 h9 =>
 bnd (aD .add (env 6) (aE 1) h9) fun v10 h10 =>
      kk5 (env 0) (env 1) v9 v10 h10) (
      q0 (env 5) h3) := by kernel_rfl
theorem bZz (kk5 : dL) : (fun (env : aW) (h : Hp) =>
 bnd (r 23 [(env 0)] h) fun v1 h1 =>
 bnd (fF [v1, (env 1)] h1) fun v2 h2 =>
 bnd (aD .lss (env 6) v2 h2) fun v3 h3 =>
 aS v3 (
 bnd (r 23 [(env 0)] h3) fun v4 h4 =>
 bnd (yS [v4, (env 1), (env 6)] h4) fun v5 h5 =>
 bnd (aC 0 v5 h5) fun v6 h6 =>
 bnd (aC 1 v5 h6) fun v7 h7 =>
 bnd (aL [(aE 0)] 1 [(0, 1, v6)] h7) fun v8 h8 =>
 bnd (bA 1 8 (env 5) v8 h8) fun v9 h9 =>
 bnd (aD .add (env 6) (aE 1) h9) fun v10 h10 =>
      kk5 (env 0) (env 1) v9 v10 h10) (
      fW r n (env 5) h3)) = (K4 (aOs r n kk5) 0 1 5 6) := by kernel_rfl
theorem cFc (kk5 : dL) : D29 r n rN (xs x0 0 (K1 (fW r n) 5)) (K4 kk5 0 1 5 6) = (K4 (aOs r n kk5) 0 1 5 6) :=
 (cIr r n kk5 (fW r n)).trans (bZz r n kk5)
theorem cHb (m : Nat) : aO (fun kk => D29 r n rN (xs x0 0 (K1 (fW r n) 5)) kk) m = (K4 (aFj r n m) 0 1 5 6) := by
 induction m with
 | zero => exact (by kernel_rfl : aO (fun kk => D29 r n rN (xs x0 0 (K1 (fW r n) 5)) kk) 0 = (K4 (aFj r n 0) 0 1 5 6))
 | succ m ih =>
  refine (by kernel_rfl : aO (fun kk => D29 r n rN (xs x0 0 (K1 (fW r n) 5)) kk) (m + 1) = D29 r n rN (xs x0 0 (K1 (fW r n) 5)) (aO (fun kk => D29 r n rN (xs x0 0 (K1 (fW r n) 5)) kk) m)).trans ?_
  rw [ih]
  exact (cFc r n (aFj r n m)).trans (by kernel_rfl)
theorem cXp : D29 r n bAv (xs x0 0 (K1 (fW r n) 5)) (K1 (fW r n) 5) = (K4 (cRd r n) 0 1 5 6) :=
 (by kernel_rfl : D29 r n bAv (xs x0 0 (K1 (fW r n) 5)) (K1 (fW r n) 5) = aO (fun kk => D29 r n rN (xs x0 0 (K1 (fW r n) 5)) kk) n).trans ((cHb r n n).trans (by kernel_rfl))
theorem cSp : D29 r n bPh x0 (K1 (fW r n) 5) = (K4 (bOx r n) 0 1 5 6) :=
 (by kernel_rfl : D29 r n bPh x0 (K1 (fW r n) 5) = D29 r n bAv (xs x0 0 (K1 (fW r n) 5)) (K1 (fW r n) 5)).trans
 ((cXp r n).trans (by kernel_rfl))
theorem cMe : D29 r n bAl x0 r29 = D29 r n aMt x0 (K1 (fW r n) 5) :=
 congrArg (fun k => D29 r n aMt x0 k) (cTk r n)
theorem cIs : D29 r n aMt x0 (K1 (fW r n) 5) = D29 r n cQy x0 (K4 (bOx r n) 0 1 5 6) :=
 congrArg (fun k => D29 r n cQy x0 k) (cSp r n)
theorem cVk : D29 r n bAl x0 r29 = (K3 (bGy r n) 0 1 5) :=
 (cMe r n).trans
 ((cIs r n).trans
 ((by kernel_rfl)))
theorem cLv : D29 r n aWb x0 r29 = D29 r n cRi x0 (K3 (bGy r n) 0 1 5) :=
 congrArg (fun k => D29 r n cRi x0 k) (cVk r n)
theorem dCm : D29 r n aWb x0 r29 = (K2 (bNk r n) 0 1) :=
 (cLv r n).trans
 ((by kernel_rfl))
theorem dLm : D29 r n c29 x0 r29 = D29 r n bYh x0 (K2 (bNk r n) 0 1) :=
 congrArg (fun k => D29 r n bYh x0 k) (dCm r n)
theorem dPw : D29 r n c29 x0 r29 = (K2 (s29 r n) 0 1) :=
 (dLm r n).trans
 ((by kernel_rfl))
theorem dKz : aF CF r n 29 args h = s29 r n (aT args 0) (aT args 1) h :=
 (by kernel_rfl : aF CF r n 29 args h = D29 r n c29 x0 r29 (aI args) h).trans ((congrFun (congrFun (dPw r n) (aI args)) h).trans (by kernel_rfl))
noncomputable def s30 (r : RT) (n : Nat) (x0 x1 : DV) (h0 : Hp) : aH :=
 bnd (aD .lss x1 (aE 0) h0) fun v1 h1 =>
 bnd (gD v1 false (some (x1, h1)) h1) fun v2 h2 =>
 bnd (gD v1 false (aD .geq v2 (aE 16) h2) h2) fun v3 h3 =>
 bnd (aP v1 (.b true) v3 h3) fun v4 h4 =>
 aS v4 (
 some ((aE 0), h4)) (
 bnd (aN x0 h4) fun v5 h5 =>
 bnd (aB 1 v5 h5) fun v6 h6 =>
 bnd (aA v6 h6) fun v7 h7 =>
 bnd (aD .add (aE 2) x1 h7) fun v8 h8 =>
 bnd (aJ 1 v7 v8 h8) fun v9 h9 =>
 bnd (aA v9 h9) fun v10 h10 =>
 some (v10, h10))
noncomputable abbrev c30 : Code := cf Tryz.f30
noncomputable abbrev r30 : K := aQ CF Tryz.f30
noncomputable def D30 (r : RT) (n : Nat) (c : Code) (X : Nat → K) (k : K) : K := aM CF r 19 n c X r30 k
theorem dOi : D30 r n c30 x0 r30 = (K2 (s30 r n) 0 1) :=
 (by kernel_rfl)
theorem bYb : aF CF r n 30 args h = s30 r n (aT args 0) (aT args 1) h :=
 (by kernel_rfl : aF CF r n 30 args h = D30 r n c30 x0 r30 (aI args) h).trans ((congrFun (congrFun (dOi r n) (aI args)) h).trans (by kernel_rfl))
noncomputable def s32 (r : RT) (n : Nat) (x0 x1 : DV) (h0 : Hp) : aH :=
 bnd (r 67 [x0, x1] h0) fun v1 h1 =>
 bnd (gU .not v1 h1) fun v2 h2 =>
 aS v2 (
 some ((.i .i64 (Int.negSucc 0)), h2)) (
 bnd (r 51 [x0, x1, (aE 5)] h2) fun v3 h3 =>
 bnd (kZ [v3] h3) fun v4 h4 =>
 some (v4, h4))
noncomputable abbrev c32 : Code := cf Tryz.f32
noncomputable abbrev r32 : K := aQ CF Tryz.f32
noncomputable def D32 (r : RT) (n : Nat) (c : Code) (X : Nat → K) (k : K) : K := aM CF r 13 n c X r32 k
theorem dQz : D32 r n c32 x0 r32 = (K2 (s32 r n) 0 1) :=
 (by kernel_rfl)
theorem dIv : aF CF r n 32 args h = s32 r n (aT args 0) (aT args 1) h :=
 (by kernel_rfl : aF CF r n 32 args h = D32 r n c32 x0 r32 (aI args) h).trans ((congrFun (congrFun (dQz r n) (aI args)) h).trans (by kernel_rfl))
noncomputable def fR (r : RT) (n : Nat) (x7 : DV) (h0 : Hp) : aH :=
 bnd (fV x7 h0) fun v1 h1 =>
 some (.t [v1, (.b true)], h1)
noncomputable def nJ (r : RT) (n : Nat) (kk7 : cD) (x0 x1 x7 x48 x49 : DV) (h0 : Hp) : aH :=
 bnd (aD .lss x49 x48 h0) fun v1 h1 =>
 aS v1 (
 bnd (r 51 [x0, x1, x49] h1) fun v2 h2 =>
 bnd (dU .u8 v2 h2) fun v3 h3 =>
 bnd (aL [(.i .u8 (Int.ofNat 0))] 1 [(0, 1, v3)] h3) fun v4 h4 =>
 bnd (bA 1 1 x7 v4 h4) fun v5 h5 =>
 bnd (aD .add x49 (aE 1) h5) fun v6 h6 =>
      kk7 x0 x1 v5 x48 v6 h6) (
      fR r n x7 h1)
noncomputable def oJ (r : RT) (n : Nat) (m : Nat) : cD :=
 Nat.rec (motive := fun _ => cD) (fun _ _ _ _ _ _ => none) (fun _ ih => nJ r n ih) m
noncomputable def bXg (r : RT) (n : Nat) : cD := oJ r n n
noncomputable def aWq (r : RT) (n : Nat) (x0 x1 x7 x48 x49 : DV) (h0 : Hp) : aH :=
 bXg r n x0 x1 x7 x48 x49 h0
noncomputable def bAz (r : RT) (n : Nat) (x0 x1 x7 : DV) (h0 : Hp) : aH :=
 bnd (aN x0 h0) fun v1 h1 =>
 bnd (aB 0 v1 h1) fun v2 h2 =>
 bnd (aA v2 h2) fun v3 h3 =>
 bnd (fF [v3, x1] h3) fun v4 h4 =>
  aWq r n x0 x1 x7 v4 (aE 0) h4
noncomputable def aKv (r : RT) (n : Nat) (x0 x1 : DV) (h0 : Hp) : aH :=
 bAz r n x0 x1 .l0 h0
noncomputable def aNg (r : RT) (n : Nat) (x0 x1 x6 : DV) (h0 : Hp) : aH :=
 bnd (aN x0 h0) fun v1 h1 =>
 bnd (aB 0 v1 h1) fun v2 h2 =>
 bnd (aA v2 h2) fun v3 h3 =>
 bnd (isF [v3, x1] h3) fun v4 h4 =>
 bnd (gU .not v4 h4) fun v5 h5 =>
 bnd (gD v5 false (some (x6, h5)) h5) fun v6 h6 =>
 bnd (gD v5 false (some (x0, h6)) h6) fun v7 h7 =>
 bnd (gD v5 false (r 30 [v7, (aE 10)] h7) h7) fun v8 h8 =>
 bnd (gD v5 false (aD .neq v6 v8 h8) h8) fun v9 h9 =>
 bnd (gD v5 false (some (v9, h9)) h9) fun v10 h10 =>
 bnd (gD v10 true (some (x6, h10)) h10) fun v11 h11 =>
 bnd (gD v10 true (some (x0, h11)) h11) fun v12 h12 =>
 bnd (gD v10 true (r 30 [v12, (aE 11)] h12) h12) fun v13 h13 =>
 bnd (gD v10 true (aD .neq v11 v13 h13) h13) fun v14 h14 =>
 bnd (gD v5 false (aP v10 v14 (.b false) h14) h14) fun v15 h15 =>
 bnd (aP v5 (.b true) v15 h15) fun v16 h16 =>
 bnd (gD v16 false (some (x0, h16)) h16) fun v17 h17 =>
 bnd (gD v16 false (aN v17 h17) h17) fun v18 h18 =>
 bnd (gD v16 false (aB 0 v18 h18) h18) fun v19 h19 =>
 bnd (gD v16 false (aA v19 h19) h19) fun v20 h20 =>
 bnd (gD v16 false (some (x1, h20)) h20) fun v21 h21 =>
 bnd (gD v16 false (jN [v20, v21] h21) h21) fun v22 h22 =>
 bnd (gD v16 false (aD .neq v22 (aE 2) h22) h22) fun v23 h23 =>
 bnd (aP v16 (.b true) v23 h23) fun v24 h24 =>
 aS v24 (
 some (.t [(.s []), (.b false)], h24)) (
  aKv r n x0 x1 h24)
noncomputable def aNi (r : RT) (n : Nat) (x0 x1 : DV) (h0 : Hp) : aH :=
 bnd (aN x0 h0) fun v1 h1 =>
 bnd (aB 0 v1 h1) fun v2 h2 =>
 bnd (aA v2 h2) fun v3 h3 =>
 bnd (iK [v3, x1] h3) fun v4 h4 =>
  aNg r n x0 x1 v4 h4
noncomputable def s33 (r : RT) (n : Nat) (x0 x1 : DV) (h0 : Hp) : aH :=
 aNi r n x0 x1 h0
noncomputable abbrev c33 : Code := cf Tryz.f33
noncomputable abbrev aYy : Code := cR c33
noncomputable abbrev bAe : Code := cR aYy
noncomputable abbrev aZf : Code := cR bAe
noncomputable abbrev bAh : Code := cR aZf
noncomputable abbrev dEv : Code := cR bAh
noncomputable abbrev aMe : Code := cL bAh
noncomputable abbrev bSe : Code := cR aMe
noncomputable abbrev aZa : Code := cL bSe
noncomputable abbrev rK : Code := cL aZa
noncomputable abbrev bHb : Code := cL aMe
noncomputable abbrev bSj : Code := cL aZf
noncomputable abbrev bLv : Code := cL bAe
noncomputable abbrev bIb : Code := cL aYy
noncomputable abbrev bTz : Code := cL c33
noncomputable abbrev r33 : K := aQ CF Tryz.f33
noncomputable def D33 (r : RT) (n : Nat) (c : Code) (X : Nat → K) (k : K) : K := aM CF r 63 n c X r33 k
theorem cYo : D33 r n dEv x0 r33 = (K1 (fR r n) 7) :=
 (by kernel_rfl)
theorem cMd (kk7 : cD) (q0 : TT1) : D33 r n rK (xs x0 0 (K1 q0 7)) (K5 kk7 0 1 7 48 49) = fun (env : aW) (h : Hp) =>
 bnd (aD .lss (env 49) (env 48) h) fun v1 h1 =>
 aS v1 (
 bnd (r 51 [(env 0), (env 1), (env 49)] h1) fun v2 h2 =>
 bnd (dU .u8 v2 h2) fun v3 h3 =>
 bnd (aL [(.i .u8 (Int.ofNat 0))] 1 [(0, 1, v3)] h3) fun v4 h4 =>
 bnd (bA 1 1 (env 7) v4 h4) fun v5 h5 =>
 bnd (aD .add (env 49) (aE 1) h5) fun v6 h6 =>
      kk7 (env 0) (env 1) v5 (env 48) v6 h6) (
      q0 (env 7) h1) := by kernel_rfl
theorem bPt (kk7 : cD) : (fun (env : aW) (h : Hp) =>
 bnd (aD .lss (env 49) (env 48) h) fun v1 h1 =>
 aS v1 (
 bnd (r 51 [(env 0), (env 1), (env 49)] h1) fun v2 h2 =>
 bnd (dU .u8 v2 h2) fun v3 h3 =>
 bnd (aL [(.i .u8 (Int.ofNat 0))] 1 [(0, 1, v3)] h3) fun v4 h4 =>
 bnd (bA 1 1 (env 7) v4 h4) fun v5 h5 =>
 bnd (aD .add (env 49) (aE 1) h5) fun v6 h6 =>
      kk7 (env 0) (env 1) v5 (env 48) v6 h6) (
      fR r n (env 7) h1)) = (K5 (nJ r n kk7) 0 1 7 48 49) := by kernel_rfl
theorem cGr (kk7 : cD) : D33 r n rK (xs x0 0 (K1 (fR r n) 7)) (K5 kk7 0 1 7 48 49) = (K5 (nJ r n kk7) 0 1 7 48 49) :=
 (cMd r n kk7 (fR r n)).trans (bPt r n kk7)
theorem cFz (m : Nat) : aO (fun kk => D33 r n rK (xs x0 0 (K1 (fR r n) 7)) kk) m = (K5 (oJ r n m) 0 1 7 48 49) := by
 induction m with
 | zero => exact (by kernel_rfl : aO (fun kk => D33 r n rK (xs x0 0 (K1 (fR r n) 7)) kk) 0 = (K5 (oJ r n 0) 0 1 7 48 49))
 | succ m ih =>
  refine (by kernel_rfl : aO (fun kk => D33 r n rK (xs x0 0 (K1 (fR r n) 7)) kk) (m + 1) = D33 r n rK (xs x0 0 (K1 (fR r n) 7)) (aO (fun kk => D33 r n rK (xs x0 0 (K1 (fR r n) 7)) kk) m)).trans ?_
  rw [ih]
  exact (cGr r n (oJ r n m)).trans (by kernel_rfl)
theorem cXb : D33 r n aZa (xs x0 0 (K1 (fR r n) 7)) (K1 (fR r n) 7) = (K5 (bXg r n) 0 1 7 48 49) :=
 (by kernel_rfl : D33 r n aZa (xs x0 0 (K1 (fR r n) 7)) (K1 (fR r n) 7) = aO (fun kk => D33 r n rK (xs x0 0 (K1 (fR r n) 7)) kk) n).trans ((cFz r n n).trans (by kernel_rfl))
theorem cZi : D33 r n bSe x0 (K1 (fR r n) 7) = (K5 (aWq r n) 0 1 7 48 49) :=
 (by kernel_rfl : D33 r n bSe x0 (K1 (fR r n) 7) = D33 r n aZa (xs x0 0 (K1 (fR r n) 7)) (K1 (fR r n) 7)).trans
 ((cXb r n).trans (by kernel_rfl))
theorem cEu : D33 r n bAh x0 r33 = D33 r n aMe x0 (K1 (fR r n) 7) :=
 congrArg (fun k => D33 r n aMe x0 k) (cYo r n)
theorem cFd : D33 r n aMe x0 (K1 (fR r n) 7) = D33 r n bHb x0 (K5 (aWq r n) 0 1 7 48 49) :=
 congrArg (fun k => D33 r n bHb x0 k) (cZi r n)
theorem cUq : D33 r n bAh x0 r33 = (K3 (bAz r n) 0 1 7) :=
 (cEu r n).trans
 ((cFd r n).trans
 ((by kernel_rfl)))
theorem cDr : D33 r n aZf x0 r33 = D33 r n bSj x0 (K3 (bAz r n) 0 1 7) :=
 congrArg (fun k => D33 r n bSj x0 k) (cUq r n)
theorem cWf : D33 r n aZf x0 r33 = (K2 (aKv r n) 0 1) :=
 (cDr r n).trans
 ((by kernel_rfl))
theorem cCr : D33 r n bAe x0 r33 = D33 r n bLv x0 (K2 (aKv r n) 0 1) :=
 congrArg (fun k => D33 r n bLv x0 k) (cWf r n)
theorem cVq : D33 r n bAe x0 r33 = (K3 (aNg r n) 0 1 6) :=
 (cCr r n).trans
 ((by kernel_rfl))
theorem cNg : D33 r n aYy x0 r33 = D33 r n bIb x0 (K3 (aNg r n) 0 1 6) :=
 congrArg (fun k => D33 r n bIb x0 k) (cVq r n)
theorem cWt : D33 r n aYy x0 r33 = (K2 (aNi r n) 0 1) :=
 (cNg r n).trans
 ((by kernel_rfl))
theorem dEq : D33 r n c33 x0 r33 = D33 r n bTz x0 (K2 (aNi r n) 0 1) :=
 congrArg (fun k => D33 r n bTz x0 k) (cWt r n)
theorem dQs : D33 r n c33 x0 r33 = (K2 (s33 r n) 0 1) :=
 (dEq r n).trans
 ((by kernel_rfl))
theorem bUu : aF CF r n 33 args h = s33 r n (aT args 0) (aT args 1) h :=
 (by kernel_rfl : aF CF r n 33 args h = D33 r n c33 x0 r33 (aI args) h).trans ((congrFun (congrFun (dQs r n) (aI args)) h).trans (by kernel_rfl))
noncomputable def s34 (r : RT) (n : Nat) (x0 x1 : DV) (h0 : Hp) : aH :=
 bnd (r 67 [x0, x1] h0) fun v1 h1 =>
 bnd (gU .not v1 h1) fun v2 h2 =>
 aS v2 (
 some ((.s []), h2)) (
 bnd (r 51 [x0, x1, (aE 0)] h2) fun v3 h3 =>
 bnd (r 33 [x0, v3] h3) fun v4 h4 =>
 bnd (aC 0 v4 h4) fun v5 h5 =>
 bnd (aC 1 v4 h5) fun v6 h6 =>
 some (v5, h6))
noncomputable abbrev c34 : Code := cf Tryz.f34
noncomputable abbrev r34 : K := aQ CF Tryz.f34
noncomputable def D34 (r : RT) (n : Nat) (c : Code) (X : Nat → K) (k : K) : K := aM CF r 20 n c X r34 k
theorem dNz : D34 r n c34 x0 r34 = (K2 (s34 r n) 0 1) :=
 (by kernel_rfl)
theorem dJy : aF CF r n 34 args h = s34 r n (aT args 0) (aT args 1) h :=
 (by kernel_rfl : aF CF r n 34 args h = D34 r n c34 x0 r34 (aI args) h).trans ((congrFun (congrFun (dNz r n) (aI args)) h).trans (by kernel_rfl))
noncomputable def s35 (r : RT) (n : Nat) (x0 x1 : DV) (h0 : Hp) : aH :=
 bnd (r 67 [x0, x1] h0) fun v1 h1 =>
 bnd (gU .not v1 h1) fun v2 h2 =>
 aS v2 (
 some ((aE 0), h2)) (
 bnd (r 51 [x0, x1, (aE 1)] h2) fun v3 h3 =>
 some (v3, h3))
noncomputable abbrev c35 : Code := cf Tryz.f35
noncomputable abbrev r35 : K := aQ CF Tryz.f35
noncomputable def D35 (r : RT) (n : Nat) (c : Code) (X : Nat → K) (k : K) : K := aM CF r 12 n c X r35 k
theorem dPd : D35 r n c35 x0 r35 = (K2 (s35 r n) 0 1) :=
 (by kernel_rfl)
theorem dGj : aF CF r n 35 args h = s35 r n (aT args 0) (aT args 1) h :=
 (by kernel_rfl : aF CF r n 35 args h = D35 r n c35 x0 r35 (aI args) h).trans ((congrFun (congrFun (dPd r n) (aI args)) h).trans (by kernel_rfl))
noncomputable def s36 (r : RT) (n : Nat) (x0 : DV) (h0 : Hp) : aH :=
 bnd (aN x0 h0) fun v1 h1 =>
 bnd (aB 2 v1 h1) fun v2 h2 =>
 bnd (aA v2 h2) fun v3 h3 =>
 some (v3, h3)
noncomputable abbrev c36 : Code := cf Tryz.f36
noncomputable abbrev r36 : K := aQ CF Tryz.f36
noncomputable def D36 (r : RT) (n : Nat) (c : Code) (X : Nat → K) (k : K) : K := aM CF r 7 n c X r36 k
theorem dLt : D36 r n c36 x0 r36 = (K1 (s36 r n) 0) :=
 (by kernel_rfl)
theorem dHz : aF CF r n 36 args h = s36 r n (aT args 0) h :=
 (by kernel_rfl : aF CF r n 36 args h = D36 r n c36 x0 r36 (aI args) h).trans ((congrFun (congrFun (dLt r n) (aI args)) h).trans (by kernel_rfl))
end Go.Dd

namespace Go.Dd
open Go.Proofs
variable (r : RT) (n : Nat) (args : List DV) (h : Hp)
noncomputable def s37 (r : RT) (n : Nat) (x0 x1 : DV) (h0 : Hp) : aH :=
 bnd (r 67 [x0, x1] h0) fun v1 h1 =>
 bnd (gU .not v1 h1) fun v2 h2 =>
 aS v2 (
 some ((aE 0), h2)) (
 bnd (r 51 [x0, x1, (aE 2)] h2) fun v3 h3 =>
 bnd (kZ [v3] h3) fun v4 h4 =>
 some (v4, h4))
noncomputable abbrev c37 : Code := cf Tryz.f37
noncomputable abbrev r37 : K := aQ CF Tryz.f37
noncomputable def D37 (r : RT) (n : Nat) (c : Code) (X : Nat → K) (k : K) : K := aM CF r 13 n c X r37 k
theorem dLz : D37 r n c37 x0 r37 = (K2 (s37 r n) 0 1) :=
 (by kernel_rfl)
theorem dEs : aF CF r n 37 args h = s37 r n (aT args 0) (aT args 1) h :=
 (by kernel_rfl : aF CF r n 37 args h = D37 r n c37 x0 r37 (aI args) h).trans ((congrFun (congrFun (dLz r n) (aI args)) h).trans (by kernel_rfl))
noncomputable def cP (r : RT) (n : Nat) (h0 : Hp) : aH :=
 some ((.i .i64 (Int.negSucc 0)), h0)
noncomputable def aMx (r : RT) (n : Nat) (x24 : DV) (h0 : Hp) : aH :=
 aS x24 (
 some ((aE 2), h0)) (
  cP r n h0)
noncomputable def bHc (r : RT) (n : Nat) (x3 : DV) (h0 : Hp) : aH :=
 bnd (aD .eql x3 (aE 21) h0) fun v1 h1 =>
 aS v1 (
  aMx r n v1 h1) (
 bnd (aD .eql x3 (aE 51) h1) fun v2 h2 =>
  aMx r n v2 h2)
noncomputable def iO (r : RT) (n : Nat) (x3 x10 : DV) (h0 : Hp) : aH :=
 aS x10 (
 some ((aE 1), h0)) (
  bHc r n x3 h0)
noncomputable def bRx (r : RT) (n : Nat) (x3 : DV) (h0 : Hp) : aH :=
 bnd (aD .eql x3 (aE 1) h0) fun v1 h1 =>
 aS v1 (
  iO r n x3 v1 h1) (
 bnd (aD .eql x3 (aE 2) h1) fun v2 h2 =>
 aS v2 (
   iO r n x3 v2 h2) (
 bnd (aD .eql x3 (aE 3) h2) fun v3 h3 =>
 aS v3 (
    iO r n x3 v3 h3) (
 bnd (aD .eql x3 (aE 4) h3) fun v4 h4 =>
 aS v4 (
     iO r n x3 v4 h4) (
 bnd (aD .eql x3 (aE 5) h4) fun v5 h5 =>
 aS v5 (
      iO r n x3 v5 h5) (
 bnd (aD .eql x3 (aE 6) h5) fun v6 h6 =>
 aS v6 (
       iO r n x3 v6 h6) (
 bnd (aD .eql x3 (aE 7) h6) fun v7 h7 =>
 aS v7 (
        iO r n x3 v7 h7) (
 bnd (aD .eql x3 (aE 10) h7) fun v8 h8 =>
 aS v8 (
         iO r n x3 v8 h8) (
 bnd (aD .eql x3 (aE 20) h8) fun v9 h9 =>
 aS v9 (
          iO r n x3 v9 h9) (
 bnd (aD .eql x3 (aE 24) h9) fun v10 h10 =>
 aS v10 (
           iO r n x3 v10 h10) (
 bnd (aD .eql x3 (aE 25) h10) fun v11 h11 =>
 aS v11 (
            iO r n x3 v11 h11) (
 bnd (aD .eql x3 (aE 26) h11) fun v12 h12 =>
 aS v12 (
             iO r n x3 v12 h12) (
 bnd (aD .eql x3 (aE 50) h12) fun v13 h13 =>
             iO r n x3 v13 h13))))))))))))
noncomputable def sB (r : RT) (n : Nat) (x3 x4 : DV) (h0 : Hp) : aH :=
 aS x4 (
 some ((aE 0), h0)) (
  bRx r n x3 h0)
noncomputable def bBx (r : RT) (n : Nat) (x3 : DV) (h0 : Hp) : aH :=
 bnd (aD .eql x3 (aE 11) h0) fun v1 h1 =>
 aS v1 (
  sB r n x3 v1 h1) (
 bnd (aD .eql x3 (aE 22) h1) fun v2 h2 =>
 aS v2 (
   sB r n x3 v2 h2) (
 bnd (aD .eql x3 (aE 23) h2) fun v3 h3 =>
 aS v3 (
    sB r n x3 v3 h3) (
 bnd (aD .eql x3 (aE 40) h3) fun v4 h4 =>
 aS v4 (
     sB r n x3 v4 h4) (
 bnd (aD .eql x3 (aE 41) h4) fun v5 h5 =>
     sB r n x3 v5 h5))))
noncomputable def aVj (r : RT) (n : Nat) (x0 : DV) (h0 : Hp) : aH :=
 bBx r n x0 h0
noncomputable def s39 (r : RT) (n : Nat) (x0 : DV) (h0 : Hp) : aH :=
 aVj r n x0 h0
noncomputable abbrev c39 : Code := cf Tryz.f39
noncomputable abbrev aZb : Code := cR c39
noncomputable abbrev dKb : Code := cR aZb
noncomputable abbrev aLz : Code := cL aZb
noncomputable abbrev bZr : Code := cR aLz
noncomputable abbrev aUn : Code := cL bZr
noncomputable abbrev aKn : Code := cR aUn
noncomputable abbrev aLs : Code := cR aKn
noncomputable abbrev aKl : Code := cR aLs
noncomputable abbrev aLw : Code := cR aKl
noncomputable abbrev dAb : Code := cR aLw
noncomputable abbrev bQk : Code := cL aLw
noncomputable abbrev cYt : Code := cL aKl
noncomputable abbrev bRv : Code := cL aLs
noncomputable abbrev cYl : Code := cL aKn
noncomputable abbrev bMe : Code := cL aUn
noncomputable abbrev bKn : Code := cL aLz
noncomputable abbrev bJu : Code := cL c39
noncomputable abbrev r39 : K := aQ CF Tryz.f39
noncomputable def D39 (r : RT) (n : Nat) (c : Code) (X : Nat → K) (k : K) : K := aM CF r 27 n c X r39 k
theorem cZc : D39 r n dKb x0 r39 = (K0 (cP r n)) :=
 (by kernel_rfl)
theorem dDn : D39 r n dAb (xs x0 0 (K0 (cP r n))) (K0 (cP r n)) = (K1 (aMx r n) 24) :=
 (by kernel_rfl)
theorem cEo : D39 r n aLw (xs x0 0 (K0 (cP r n))) (K0 (cP r n)) = D39 r n bQk (xs x0 0 (K0 (cP r n))) (K1 (aMx r n) 24) :=
 congrArg (fun k => D39 r n bQk (xs x0 0 (K0 (cP r n))) k) (dDn r n)
theorem cYc : D39 r n aLw (xs x0 0 (K0 (cP r n))) (K0 (cP r n)) = (K1 (bHc r n) 3) :=
 (cEo r n).trans
 ((by kernel_rfl))
theorem cZq : D39 r n aKl (xs x0 0 (K0 (cP r n))) (K0 (cP r n)) = (K2 (iO r n) 3 10) :=
 (by kernel_rfl : D39 r n aKl (xs x0 0 (K0 (cP r n))) (K0 (cP r n)) = (fun (env : aW) (h : Hp) => aS (opr env (cC aKl)) (D39 r n cYt (xs x0 0 (K0 (cP r n))) (K0 (cP r n)) env h) (D39 r n aLw (xs x0 0 (K0 (cP r n))) (K0 (cP r n)) env h))).trans (by rw [cYc r n]; kernel_rfl)
theorem cGd : D39 r n aLs (xs x0 0 (K0 (cP r n))) (K0 (cP r n)) = D39 r n bRv (xs x0 0 (K0 (cP r n))) (K2 (iO r n) 3 10) :=
 congrArg (fun k => D39 r n bRv (xs x0 0 (K0 (cP r n))) k) (cZq r n)
theorem cYw : D39 r n aLs (xs x0 0 (K0 (cP r n))) (K0 (cP r n)) = (K1 (bRx r n) 3) :=
 (cGd r n).trans
 ((by kernel_rfl))
theorem cXt : D39 r n aKn (xs x0 0 (K0 (cP r n))) (K0 (cP r n)) = (K2 (sB r n) 3 4) :=
 (by kernel_rfl : D39 r n aKn (xs x0 0 (K0 (cP r n))) (K0 (cP r n)) = (fun (env : aW) (h : Hp) => aS (opr env (cC aKn)) (D39 r n cYl (xs x0 0 (K0 (cP r n))) (K0 (cP r n)) env h) (D39 r n aLs (xs x0 0 (K0 (cP r n))) (K0 (cP r n)) env h))).trans (by rw [cYw r n]; kernel_rfl)
theorem cDj : D39 r n aUn (xs x0 0 (K0 (cP r n))) (K0 (cP r n)) = D39 r n bMe (xs x0 0 (K0 (cP r n))) (K2 (sB r n) 3 4) :=
 congrArg (fun k => D39 r n bMe (xs x0 0 (K0 (cP r n))) k) (cXt r n)
theorem cVx : D39 r n bZr x0 (K0 (cP r n)) = (K1 (bBx r n) 3) :=
 (by kernel_rfl : D39 r n bZr x0 (K0 (cP r n)) = D39 r n aUn (xs x0 0 (K0 (cP r n))) (K0 (cP r n))).trans
 ((cDj r n).trans
 ((by kernel_rfl)))
theorem cCx : D39 r n aZb x0 r39 = D39 r n aLz x0 (K0 (cP r n)) :=
 congrArg (fun k => D39 r n aLz x0 k) (cZc r n)
theorem cHa : D39 r n aLz x0 (K0 (cP r n)) = D39 r n bKn x0 (K1 (bBx r n) 3) :=
 congrArg (fun k => D39 r n bKn x0 k) (cVx r n)
theorem dAz : D39 r n aZb x0 r39 = (K1 (aVj r n) 0) :=
 (cCx r n).trans
 ((cHa r n).trans
 ((by kernel_rfl)))
theorem dJe : D39 r n c39 x0 r39 = D39 r n bJu x0 (K1 (aVj r n) 0) :=
 congrArg (fun k => D39 r n bJu x0 k) (dAz r n)
theorem dMz : D39 r n c39 x0 r39 = (K1 (s39 r n) 0) :=
 (dJe r n).trans
 ((by kernel_rfl))
theorem cQt : aF CF r n 39 args h = s39 r n (aT args 0) h :=
 (by kernel_rfl : aF CF r n 39 args h = D39 r n c39 x0 r39 (aI args) h).trans ((congrFun (congrFun (dMz r n) (aI args)) h).trans (by kernel_rfl))
noncomputable def eW (r : RT) (n : Nat) (x5 : DV) (h0 : Hp) : aH :=
 some (.t [x5, (aE 0)], h0)
noncomputable def jS (r : RT) (n : Nat) (kk9 : dL) (x5 x155 x156 x157 : DV) (h0 : Hp) : aH :=
 bnd (aD .lss x157 x156 h0) fun v1 h1 =>
 aS v1 (
 bnd (aJ 1 x155 x157 h1) fun v2 h2 =>
 bnd (aA v2 h2) fun v3 h3 =>
 bnd (aJ 1 v3 (aE 0) h3) fun v4 h4 =>
 bnd (aA v4 h4) fun v5 h5 =>
 bnd (aJ 1 v3 (aE 1) h5) fun v6 h6 =>
 bnd (aA v6 h6) fun v7 h7 =>
 bnd (r 75 [x5, v5, v7] h7) fun v8 h8 =>
 bnd (aC 0 v8 h8) fun v9 h9 =>
 bnd (aC 1 v8 h9) fun v10 h10 =>
 bnd (aC 2 v8 h10) fun v11 h11 =>
 bnd (aC 3 v8 h11) fun v12 h12 =>
 bnd (aD .neq v12 (aE 0) h12) fun v13 h13 =>
 aS v13 (
 some (.t [.p0, v12], h13)) (
 bnd (aD .add x157 (aE 1) h13) fun v14 h14 =>
    kk9 x5 x155 x156 v14 h14)) (
      eW r n x5 h1)
noncomputable def kA (r : RT) (n : Nat) (m : Nat) : dL :=
 Nat.rec (motive := fun _ => dL) (fun _ _ _ _ _ => none) (fun _ ih => jS r n ih) m
noncomputable def bBs (r : RT) (n : Nat) : dL := kA r n n
noncomputable def bHu (r : RT) (n : Nat) (x5 x155 x156 x157 : DV) (h0 : Hp) : aH :=
 bBs r n x5 x155 x156 x157 h0
noncomputable def bF (r : RT) (n : Nat) (x5 : DV) (h0 : Hp) : aH :=
 bnd (r 74 [] h0) fun v1 h1 =>
 bnd (bX v1 h1) fun v2 h2 =>
  bHu r n x5 v1 v2 (aE 0) h2
noncomputable def aZ (r : RT) (n : Nat) (kk11 : cD) (x4 x5 x59 x60 x61 : DV) (h0 : Hp) : aH :=
 bnd (aD .add x61 (aE 1) h0) fun v1 h1 =>
  kk11 x4 x5 x59 x60 v1 h1
noncomputable def eM (r : RT) (n : Nat) (kk11 : cD) (x4 x5 x8 x9 x59 x60 x61 : DV) (h0 : Hp) : aH :=
 bnd (aN x5 h0) fun v1 h1 =>
 bnd (aB 1 v1 h1) fun v2 h2 =>
 bnd (aA v2 h2) fun v3 h3 =>
 bnd (aN x5 h3) fun v4 h4 =>
 bnd (aB 1 v4 h4) fun v5 h5 =>
 bnd (aA v5 h5) fun v6 h6 =>
 bnd (aJ 1 v6 (aE 1) h6) fun v7 h7 =>
 bnd (aA v7 h7) fun v8 h8 =>
 bnd (r 73 [x5, x9, v8] h8) fun v9 h9 =>
 cnd (bI (aA v2 h9) v3 && true) (
 bnd (aC 0 v9 h9) fun v10 h10 =>
 bnd (aC 1 v9 h10) fun v11 h11 =>
 bnd (aJ 1 v3 (aE 1) h11) fun v12 h12 =>
 bnd (aG 1 v12 v10 h12) fun v13 h13 =>
 bnd (aN x5 h13) fun v14 h14 =>
 bnd (aB 3 v14 h14) fun v15 h15 =>
 bnd (aA v15 h15) fun v16 h16 =>
 bnd (aB 0 x8 h16) fun v17 h17 =>
 bnd (aA v17 h17) fun v18 h18 =>
 bnd (fY .string v16 v18 x9 h18) fun v19 h19 =>
  aZ r n kk11 x4 x5 x59 x60 x61 h19)
noncomputable def bAu (r : RT) (n : Nat) (kk11 : cD) (kk25 : aSc) (x4 x5 x8 x9 x59 x60 x61 x117 x118 x119 : DV) (h0 : Hp) : aH :=
 bnd (aD .lss x119 x118 h0) fun v1 h1 =>
 aS v1 (
 bnd (aJ 1 x117 x119 h1) fun v2 h2 =>
 bnd (aA v2 h2) fun v3 h3 =>
 bnd (zN [x4, x9, x119, v3] h3) fun v4 h4 =>
 bnd (aD .add x119 (aE 1) h4) fun v5 h5 =>
      kk25 x4 x5 x8 x9 x59 x60 x61 x117 x118 v5 h5) (
      eM r n kk11 x4 x5 x8 x9 x59 x60 x61 h1)
noncomputable def tB (r : RT) (n : Nat) (kk11 : cD) (m : Nat) : aSc :=
 Nat.rec (motive := fun _ => aSc) (fun _ _ _ _ _ _ _ _ _ _ _ => none) (fun _ ih => bAu r n kk11 ih) m
noncomputable def bLq (r : RT) (n : Nat) (kk11 : cD) : aSc := tB r n kk11 n
noncomputable def yJ (r : RT) (n : Nat) (kk11 : cD) (x4 x5 x8 x9 x59 x60 x61 x117 x118 x119 : DV) (h0 : Hp) : aH :=
 bLq r n kk11 x4 x5 x8 x9 x59 x60 x61 x117 x118 x119 h0
noncomputable def aFd (r : RT) (n : Nat) (kk11 : cD) (x4 x5 x8 x9 x10 x12 x13 x19 x59 x60 x61 : DV) (h0 : Hp) : aH :=
 bnd (r 71 [x13] (resv 1 h0)) fun v1 h1 =>
 bnd (aB 2 x8 h1) fun v2 h2 =>
 bnd (aA v2 h2) fun v3 h3 =>
 cnd (bI (aA v2 (resv 1 h0)) v3 && true) (
 bnd (r 71 [v3] h3) fun v4 h4 =>
 bnd (bK (bW 0 h0.next) [(aE 0), (aE 0), (aE 0), (aE 0), (aE 0), (aE 0)] 6 [(0, 1, x10), (1, 1, x12), (2, 1, v1), (3, 1, x19), (4, 1, (aE 0)), (5, 1, v4)] h4) fun v5 h5 =>
 bnd (bX v5 h5) fun v6 h6 =>
  yJ r n kk11 x4 x5 x8 x9 x59 x60 x61 v5 v6 (aE 0) h6)
noncomputable def nH (r : RT) (n : Nat) (kk11 : cD) (x4 x5 x8 x9 x10 x12 x13 x14 x59 x60 x61 : DV) (h0 : Hp) : aH :=
 bnd (r 46 [x5, x14] h0) fun v1 h1 =>
 bnd (aC 0 v1 h1) fun v2 h2 =>
 bnd (aC 1 v1 h2) fun v3 h3 =>
  aFd r n kk11 x4 x5 x8 x9 x10 x12 x13 v2 x59 x60 x61 h3
noncomputable def vG (r : RT) (n : Nat) (kk11 : cD) (x4 x5 x7 x8 x9 x10 x12 x13 x14 x59 x60 x61 : DV) (h0 : Hp) : aH :=
 bnd (aD .eql x7 (aE 15) h0) fun v1 h1 =>
 aS v1 (
 bnd (r 44 [x5, (.s [115, 101, 108, 101, 99, 116, 111, 114])] h1) fun v2 h2 =>
 bnd (aC 0 v2 h2) fun v3 h3 =>
 bnd (aC 1 v2 h3) fun v4 h4 =>
 bnd (r 44 [x5, (.s [97, 114, 103, 117, 109, 101, 110, 116, 115])] h4) fun v5 h5 =>
 bnd (aC 0 v5 h5) fun v6 h6 =>
 bnd (aC 1 v5 h6) fun v7 h7 =>
 bnd (aL [(aE 0), (aE 0)] 2 [(0, 1, v3), (1, 1, v6)] h7) fun v8 h8 =>
  nH r n kk11 x4 x5 x8 x9 x10 x12 (aE 2) v8 x59 x60 x61 h8) (
  nH r n kk11 x4 x5 x8 x9 x10 x12 x13 x14 x59 x60 x61 h1)
noncomputable def aOl (r : RT) (n : Nat) (kk11 : cD) (x4 x5 x7 x8 x9 x10 x12 x13 x14 x59 x60 x61 : DV) (h0 : Hp) : aH :=
 bnd (aB 1 x8 h0) fun v1 h1 =>
 bnd (aA v1 h1) fun v2 h2 =>
 bnd (aD .geq v2 (aE 0) h2) fun v3 h3 =>
 aS v3 (
 bnd (aB 1 x8 h3) fun v4 h4 =>
 bnd (aA v4 h4) fun v5 h5 =>
 bnd (r 30 [x5, v5] h5) fun v6 h6 =>
  vG r n kk11 x4 x5 x7 x8 x9 x10 v6 x13 x14 x59 x60 x61 h6) (
  vG r n kk11 x4 x5 x7 x8 x9 x10 x12 x13 x14 x59 x60 x61 h3)
noncomputable def aRw (r : RT) (n : Nat) (kk11 : cD) (x4 x5 x7 x8 x9 x10 x59 x60 x61 : DV) (h0 : Hp) : aH :=
 aOl r n kk11 x4 x5 x7 x8 x9 x10 (aE 0) (aE 0) .l0 x59 x60 x61 h0
noncomputable def aRj (r : RT) (n : Nat) (kk11 : cD) (x4 x5 x7 x8 x9 x59 x60 x61 : DV) (h0 : Hp) : aH :=
 bnd (aB 0 x8 h0) fun v1 h1 =>
 bnd (aA v1 h1) fun v2 h2 =>
 bnd (r 44 [x5, v2] h2) fun v3 h3 =>
 bnd (aC 0 v3 h3) fun v4 h4 =>
 bnd (aC 1 v3 h4) fun v5 h5 =>
  aRw r n kk11 x4 x5 x7 x8 x9 v4 x59 x60 x61 h5
noncomputable def aOa (r : RT) (n : Nat) (kk11 : cD) (x4 x5 x7 x8 x9 x59 x60 x61 : DV) (h0 : Hp) : aH :=
 bnd (r 30 [x5, (aE 1)] h0) fun v1 h1 =>
 bnd (kH [x4, x9, v1] h1) fun v2 h2 =>
  aRj r n kk11 x4 x5 x7 x8 x9 x59 x60 x61 h2
noncomputable def xX (r : RT) (n : Nat) (kk11 : cD) (x4 x5 x7 x8 x59 x60 x61 : DV) (h0 : Hp) : aH :=
 bnd (r 30 [x5, x7] h0) fun v1 h1 =>
  aOa r n kk11 x4 x5 x7 x8 v1 x59 x60 x61 h1
noncomputable def aEk (r : RT) (n : Nat) (kk11 : cD) (x4 x5 x59 x60 x61 : DV) (h0 : Hp) : aH :=
 bnd (aJ 3 x59 x61 h0) fun v1 h1 =>
 bnd (aK 3 v1 h1) fun v2 h2 =>
 bnd (bL [(.s []), (aE 0), (aE 0)] h2) fun v3 h3 =>
 bnd (aG 3 v3 v2 h3) fun _ h4 =>
  xX r n kk11 x4 x5 x61 v3 x59 x60 x61 h4
noncomputable def aRz (r : RT) (n : Nat) (kk11 : cD) (x4 x5 x59 x60 x61 x62 : DV) (h0 : Hp) : aH :=
 aS x62 (
  aEk r n kk11 x4 x5 x59 x60 x61 h0) (
  bF r n x5 h0)
noncomputable def bBf (r : RT) (n : Nat) (kk11 : cD) (x4 x5 x59 x60 x61 : DV) (h0 : Hp) : aH :=
 bnd (aD .lss x61 x60 h0) fun v1 h1 =>
  aRz r n kk11 x4 x5 x59 x60 x61 v1 h1
noncomputable def sU (r : RT) (n : Nat) (m : Nat) : cD :=
 Nat.rec (motive := fun _ => cD) (fun _ _ _ _ _ _ => none) (fun _ ih => bBf r n ih) m
noncomputable def bYg (r : RT) (n : Nat) : cD := sU r n n
noncomputable def aPo (r : RT) (n : Nat) (x4 x5 x59 x60 x61 : DV) (h0 : Hp) : aH :=
 bYg r n x4 x5 x59 x60 x61 h0
noncomputable def gS (r : RT) (n : Nat) (x4 x5 : DV) (h0 : Hp) : aH :=
 bnd (r 69 [] h0) fun v1 h1 =>
 bnd (bX v1 h1) fun v2 h2 =>
  aPo r n x4 x5 v1 v2 (aE 0) h2
noncomputable def aUv (r : RT) (n : Nat) (kk27 : mL) (x4 x5 x43 : DV) (h0 : Hp) : aH :=
 bnd (aD .lss x43 (aE 16) h0) fun v1 h1 =>
 aS v1 (
 bnd (aN x5 h1) fun v2 h2 =>
 bnd (aB 1 v2 h2) fun v3 h3 =>
 bnd (aA v3 h3) fun v4 h4 =>
 bnd (aD .add (aE 2) x43 h4) fun v5 h5 =>
 bnd (iP [x4, (aE 0), (aE 0), (aE 6)] h5) fun v6 h6 =>
 cnd (bI (aA v3 h6) v4 && true) (
 bnd (aC 0 v6 h6) fun v7 h7 =>
 bnd (aC 1 v6 h7) fun v8 h8 =>
 bnd (aJ 1 v4 v5 h8) fun v9 h9 =>
 bnd (aG 1 v9 v7 h9) fun v10 h10 =>
 bnd (aD .add x43 (aE 1) h10) fun v11 h11 =>
      kk27 x4 x5 v11 h11)) (
      gS r n x4 x5 h1)
noncomputable def tP (r : RT) (n : Nat) (m : Nat) : mL :=
 Nat.rec (motive := fun _ => mL) (fun _ _ _ _ => none) (fun _ ih => aUv r n ih) m
noncomputable def bKk (r : RT) (n : Nat) : mL := tP r n n
noncomputable def aSz (r : RT) (n : Nat) (x4 x5 x43 : DV) (h0 : Hp) : aH :=
 bKk r n x4 x5 x43 h0
noncomputable def aNf (r : RT) (n : Nat) (x4 x5 : DV) (h0 : Hp) : aH :=
 aSz r n x4 x5 (aE 0) h0
noncomputable def aYo (r : RT) (n : Nat) (x4 : DV) (h0 : Hp) : aH :=
 bnd (cI 1 8 [(aE 0)] (aE 18) (aE 18) h0) fun v1 h1 =>
 bnd (dV h1) fun v2 h2 =>
 bnd (dV h2) fun v3 h3 =>
 bnd (bC [.p0, .l0, .m0, .m0] [(0, 1, x4), (1, 1, v1), (2, 1, v2), (3, 1, v3)] h3) fun v4 h4 =>
 bnd (bQ v4 h4) fun v5 h5 =>
  aNf r n x4 v5 h5
noncomputable def bOo (r : RT) (n : Nat) (x0 x4 : DV) (h0 : Hp) : aH :=
 bnd (pEq (.pointer 73) true x4 .p0 h0) fun v1 h1 =>
 aS v1 (
 some (.t [.p0, (aE 1)], h1)) (
 bnd (aD .lss x0 (aE 16384) h1) fun v2 h2 =>
 aS v2 (
 some (.t [.p0, (aE 4)], h2)) (
   aYo r n x4 h2))
noncomputable def bYd (r : RT) (n : Nat) (x0 : DV) (h0 : Hp) : aH :=
 bnd (aUd [x0] h0) fun v1 h1 =>
  bOo r n x0 v1 h1
noncomputable def s40 (r : RT) (n : Nat) (x0 : DV) (h0 : Hp) : aH :=
 bYd r n x0 h0
noncomputable abbrev c40 : Code := cf Tryz.f40
noncomputable abbrev aUi : Code := cR c40
noncomputable abbrev aYx : Code := cR aUi
noncomputable abbrev aUs : Code := cR aYx
noncomputable abbrev aXc : Code := cR aUs
noncomputable abbrev bBr : Code := cR aXc
noncomputable abbrev bAk : Code := cR bBr
noncomputable abbrev dKg : Code := cR bAk
noncomputable abbrev aMn : Code := cL bAk
noncomputable abbrev bGq : Code := cR aMn
noncomputable abbrev aBf : Code := cL bGq
noncomputable abbrev oK : Code := cL aBf
noncomputable abbrev bVq : Code := cL aMn
noncomputable abbrev yR : Code := cL bBr
noncomputable abbrev aTl : Code := cR yR
noncomputable abbrev aJj : Code := cL aTl
noncomputable abbrev jZ : Code := cL aJj
noncomputable abbrev aEw : Code := cR jZ
noncomputable abbrev aBi : Code := cR aEw
noncomputable abbrev cVl : Code := cR aBi
noncomputable abbrev aJy : Code := cL aBi
noncomputable abbrev aIw : Code := cL aJy
noncomputable abbrev aJk : Code := cR aIw
noncomputable abbrev aBd : Code := cR aJk
noncomputable abbrev aJc : Code := cR aBd
noncomputable abbrev aGt : Code := cR aJc
noncomputable abbrev aIh : Code := cR aGt
noncomputable abbrev aEm : Code := cR aIh
noncomputable abbrev aJr : Code := cR aEm
noncomputable abbrev aDz : Code := cR aJr
noncomputable abbrev cSf : Code := cR aDz
noncomputable abbrev uU : Code := cL aDz
noncomputable abbrev aQy : Code := cR uU
noncomputable abbrev aJg : Code := cL aQy
noncomputable abbrev oF : Code := cL aJg
noncomputable abbrev aQv : Code := cL uU
noncomputable abbrev bWe : Code := cL aJr
noncomputable abbrev aPd : Code := cL aEm
noncomputable abbrev bJm : Code := cL aIh
noncomputable abbrev bMp : Code := cL aGt
noncomputable abbrev bQi : Code := cL aJc
noncomputable abbrev bKf : Code := cL aBd
noncomputable abbrev bXe : Code := cL aJk
noncomputable abbrev aNn : Code := cL aIw
noncomputable abbrev bQy : Code := cL aEw
noncomputable abbrev bWt : Code := cL jZ
noncomputable abbrev bPw : Code := cL yR
noncomputable abbrev xC : Code := cL aXc
noncomputable abbrev aPy : Code := cR xC
noncomputable abbrev aGc : Code := cL aPy
noncomputable abbrev nO : Code := cL aGc
noncomputable abbrev bVe : Code := cL xC
noncomputable abbrev aOz : Code := cL aUs
noncomputable abbrev cAv : Code := cL aYx
noncomputable abbrev bKq : Code := cL aUi
noncomputable abbrev bXt : Code := cL c40
noncomputable abbrev r40 : K := aQ CF Tryz.f40
noncomputable def D40 (r : RT) (n : Nat) (c : Code) (X : Nat → K) (k : K) : K := aM CF r 179 n c X r40 k
theorem bHy : D40 r n dKg x0 r40 = (K1 (eW r n) 5) :=
 (by kernel_rfl)
theorem aXy (kk9 : dL) : D40 r n oK (xs x0 7 (K1 (eW r n) 5)) (K4 kk9 5 155 156 157) = (K4 (jS r n kk9) 5 155 156 157) :=
 (by kernel_rfl)
theorem cGl (m : Nat) : aO (fun kk => D40 r n oK (xs x0 7 (K1 (eW r n) 5)) kk) m = (K4 (kA r n m) 5 155 156 157) := by
 induction m with
 | zero => exact (by kernel_rfl : aO (fun kk => D40 r n oK (xs x0 7 (K1 (eW r n) 5)) kk) 0 = (K4 (kA r n 0) 5 155 156 157))
 | succ m ih =>
  refine (by kernel_rfl : aO (fun kk => D40 r n oK (xs x0 7 (K1 (eW r n) 5)) kk) (m + 1) = D40 r n oK (xs x0 7 (K1 (eW r n) 5)) (aO (fun kk => D40 r n oK (xs x0 7 (K1 (eW r n) 5)) kk) m)).trans ?_
  rw [ih]
  exact (aXy r n (kA r n m)).trans (by kernel_rfl)
theorem bLf : D40 r n aBf (xs x0 7 (K1 (eW r n) 5)) (K1 (eW r n) 5) = (K4 (bBs r n) 5 155 156 157) :=
 (by kernel_rfl : D40 r n aBf (xs x0 7 (K1 (eW r n) 5)) (K1 (eW r n) 5) = aO (fun kk => D40 r n oK (xs x0 7 (K1 (eW r n) 5)) kk) n).trans ((cGl r n n).trans (by kernel_rfl))
theorem cXl : D40 r n bGq x0 (K1 (eW r n) 5) = (K4 (bHu r n) 5 155 156 157) :=
 (by kernel_rfl : D40 r n bGq x0 (K1 (eW r n) 5) = D40 r n aBf (xs x0 7 (K1 (eW r n) 5)) (K1 (eW r n) 5)).trans
 ((bLf r n).trans (by kernel_rfl))
theorem cMo : D40 r n bAk x0 r40 = D40 r n aMn x0 (K1 (eW r n) 5) :=
 congrArg (fun k => D40 r n aMn x0 k) (bHy r n)
theorem cFw : D40 r n aMn x0 (K1 (eW r n) 5) = D40 r n bVq x0 (K4 (bHu r n) 5 155 156 157) :=
 congrArg (fun k => D40 r n bVq x0 k) (cXl r n)
theorem dAv : D40 r n bAk x0 r40 = (K1 (bF r n) 5) :=
 (cMo r n).trans
 ((cFw r n).trans
 ((by kernel_rfl)))
theorem cFp (kk11 : cD) : D40 r n cVl (xs x0 3 (K1 (bF r n) 5)) (K5 kk11 4 5 59 60 61) = (K5 (aZ r n kk11) 4 5 59 60 61) :=
 (by kernel_rfl)
theorem cBd (kk11 : cD) : D40 r n cSf (xs (xs x0 3 (K1 (bF r n) 5)) 4 (K5 (aZ r n kk11) 4 5 59 60 61)) (K5 (aZ r n kk11) 4 5 59 60 61) = (K7 (eM r n kk11) 4 5 8 9 59 60 61) :=
 (by kernel_rfl)
theorem bZa (kk11 : cD) (kk25 : aSc) : D40 r n oF (xs (xs (xs x0 3 (K1 (bF r n) 5)) 4 (K5 (aZ r n kk11) 4 5 59 60 61)) 5 (K7 (eM r n kk11) 4 5 8 9 59 60 61)) (K10 kk25 4 5 8 9 59 60 61 117 118 119) = (K10 (bAu r n kk11 kk25) 4 5 8 9 59 60 61 117 118 119) :=
 (by kernel_rfl)
theorem bLd (kk11 : cD) (m : Nat) : aO (fun kk => D40 r n oF (xs (xs (xs x0 3 (K1 (bF r n) 5)) 4 (K5 (aZ r n kk11) 4 5 59 60 61)) 5 (K7 (eM r n kk11) 4 5 8 9 59 60 61)) kk) m = (K10 (tB r n kk11 m) 4 5 8 9 59 60 61 117 118 119) := by
 induction m with
 | zero => exact (by kernel_rfl : aO (fun kk => D40 r n oF (xs (xs (xs x0 3 (K1 (bF r n) 5)) 4 (K5 (aZ r n kk11) 4 5 59 60 61)) 5 (K7 (eM r n kk11) 4 5 8 9 59 60 61)) kk) 0 = (K10 (tB r n kk11 0) 4 5 8 9 59 60 61 117 118 119))
 | succ m ih =>
  refine (by kernel_rfl : aO (fun kk => D40 r n oF (xs (xs (xs x0 3 (K1 (bF r n) 5)) 4 (K5 (aZ r n kk11) 4 5 59 60 61)) 5 (K7 (eM r n kk11) 4 5 8 9 59 60 61)) kk) (m + 1) = D40 r n oF (xs (xs (xs x0 3 (K1 (bF r n) 5)) 4 (K5 (aZ r n kk11) 4 5 59 60 61)) 5 (K7 (eM r n kk11) 4 5 8 9 59 60 61)) (aO (fun kk => D40 r n oF (xs (xs (xs x0 3 (K1 (bF r n) 5)) 4 (K5 (aZ r n kk11) 4 5 59 60 61)) 5 (K7 (eM r n kk11) 4 5 8 9 59 60 61)) kk) m)).trans ?_
  rw [ih]
  exact (bZa r n kk11 (tB r n kk11 m)).trans (by kernel_rfl)
theorem cOh (kk11 : cD) : D40 r n aJg (xs (xs (xs x0 3 (K1 (bF r n) 5)) 4 (K5 (aZ r n kk11) 4 5 59 60 61)) 5 (K7 (eM r n kk11) 4 5 8 9 59 60 61)) (K7 (eM r n kk11) 4 5 8 9 59 60 61) = (K10 (bLq r n kk11) 4 5 8 9 59 60 61 117 118 119) :=
 (by kernel_rfl : D40 r n aJg (xs (xs (xs x0 3 (K1 (bF r n) 5)) 4 (K5 (aZ r n kk11) 4 5 59 60 61)) 5 (K7 (eM r n kk11) 4 5 8 9 59 60 61)) (K7 (eM r n kk11) 4 5 8 9 59 60 61) = aO (fun kk => D40 r n oF (xs (xs (xs x0 3 (K1 (bF r n) 5)) 4 (K5 (aZ r n kk11) 4 5 59 60 61)) 5 (K7 (eM r n kk11) 4 5 8 9 59 60 61)) kk) n).trans ((bLd r n kk11 n).trans (by kernel_rfl))
theorem cPi (kk11 : cD) : D40 r n aQy (xs (xs x0 3 (K1 (bF r n) 5)) 4 (K5 (aZ r n kk11) 4 5 59 60 61)) (K7 (eM r n kk11) 4 5 8 9 59 60 61) = (K10 (yJ r n kk11) 4 5 8 9 59 60 61 117 118 119) :=
 (by kernel_rfl : D40 r n aQy (xs (xs x0 3 (K1 (bF r n) 5)) 4 (K5 (aZ r n kk11) 4 5 59 60 61)) (K7 (eM r n kk11) 4 5 8 9 59 60 61) = D40 r n aJg (xs (xs (xs x0 3 (K1 (bF r n) 5)) 4 (K5 (aZ r n kk11) 4 5 59 60 61)) 5 (K7 (eM r n kk11) 4 5 8 9 59 60 61)) (K7 (eM r n kk11) 4 5 8 9 59 60 61)).trans
 ((cOh r n kk11).trans (by kernel_rfl))
theorem bQf (kk11 : cD) : D40 r n aDz (xs (xs x0 3 (K1 (bF r n) 5)) 4 (K5 (aZ r n kk11) 4 5 59 60 61)) (K5 (aZ r n kk11) 4 5 59 60 61) = D40 r n uU (xs (xs x0 3 (K1 (bF r n) 5)) 4 (K5 (aZ r n kk11) 4 5 59 60 61)) (K7 (eM r n kk11) 4 5 8 9 59 60 61) :=
 congrArg (fun k => D40 r n uU (xs (xs x0 3 (K1 (bF r n) 5)) 4 (K5 (aZ r n kk11) 4 5 59 60 61)) k) (cBd r n kk11)
theorem bTk (kk11 : cD) : D40 r n uU (xs (xs x0 3 (K1 (bF r n) 5)) 4 (K5 (aZ r n kk11) 4 5 59 60 61)) (K7 (eM r n kk11) 4 5 8 9 59 60 61) = D40 r n aQv (xs (xs x0 3 (K1 (bF r n) 5)) 4 (K5 (aZ r n kk11) 4 5 59 60 61)) (K10 (yJ r n kk11) 4 5 8 9 59 60 61 117 118 119) :=
 congrArg (fun k => D40 r n aQv (xs (xs x0 3 (K1 (bF r n) 5)) 4 (K5 (aZ r n kk11) 4 5 59 60 61)) k) (cPi r n kk11)
theorem bJo (kk11 : cD) (q0 : aSc) (q1 : TT1) (q2 : cD) : D40 r n aQv (xs (xs x0 3 (K1 q1 5)) 4 (K5 q2 4 5 59 60 61)) (K10 q0 4 5 8 9 59 60 61 117 118 119) = fun (env : aW) (h : Hp) =>
 bnd (r 71 [(env 13)] (resv 1 h)) fun v1 h1 =>
 bnd (aB 2 (env 8) h1) fun v2 h2 =>
 bnd (aA v2 h2) fun v3 h3 =>
 cnd (bI (aA v2 (resv 1 h)) v3 && true) (
 bnd (r 71 [v3] h3) fun v4 h4 =>
 bnd (bK (bW 0 h.next) [(aE 0), (aE 0), (aE 0), (aE 0), (aE 0), (aE 0)] 6 [(0, 1, (env 10)), (1, 1, (env 12)), (2, 1, v1), (3, 1, (env 19)), (4, 1, (aE 0)), (5, 1, v4)] h4) fun v5 h5 =>
 bnd (bX v5 h5) fun v6 h6 =>
  q0 (env 4) (env 5) (env 8) (env 9) (env 59) (env 60) (env 61) v5 v6 (aE 0) h6) := by kernel_rfl
theorem bCe (kk11 : cD) : (fun (env : aW) (h : Hp) =>
 bnd (r 71 [(env 13)] (resv 1 h)) fun v1 h1 =>
 bnd (aB 2 (env 8) h1) fun v2 h2 =>
 bnd (aA v2 h2) fun v3 h3 =>
 cnd (bI (aA v2 (resv 1 h)) v3 && true) (
 bnd (r 71 [v3] h3) fun v4 h4 =>
 bnd (bK (bW 0 h.next) [(aE 0), (aE 0), (aE 0), (aE 0), (aE 0), (aE 0)] 6 [(0, 1, (env 10)), (1, 1, (env 12)), (2, 1, v1), (3, 1, (env 19)), (4, 1, (aE 0)), (5, 1, v4)] h4) fun v5 h5 =>
 bnd (bX v5 h5) fun v6 h6 =>
  yJ r n kk11 (env 4) (env 5) (env 8) (env 9) (env 59) (env 60) (env 61) v5 v6 (aE 0) h6)) = (K11 (aFd r n kk11) 4 5 8 9 10 12 13 19 59 60 61) := by kernel_rfl
theorem cIq (kk11 : cD) : D40 r n aDz (xs (xs x0 3 (K1 (bF r n) 5)) 4 (K5 (aZ r n kk11) 4 5 59 60 61)) (K5 (aZ r n kk11) 4 5 59 60 61) = (K11 (aFd r n kk11) 4 5 8 9 10 12 13 19 59 60 61) :=
 (bQf r n kk11).trans
 ((bTk r n kk11).trans
 ((bJo r n kk11 (yJ r n kk11) (bF r n) (aZ r n kk11)).trans (bCe r n kk11)))
theorem bKl (kk11 : cD) : D40 r n aJr (xs (xs x0 3 (K1 (bF r n) 5)) 4 (K5 (aZ r n kk11) 4 5 59 60 61)) (K5 (aZ r n kk11) 4 5 59 60 61) = D40 r n bWe (xs (xs x0 3 (K1 (bF r n) 5)) 4 (K5 (aZ r n kk11) 4 5 59 60 61)) (K11 (aFd r n kk11) 4 5 8 9 10 12 13 19 59 60 61) :=
 congrArg (fun k => D40 r n bWe (xs (xs x0 3 (K1 (bF r n) 5)) 4 (K5 (aZ r n kk11) 4 5 59 60 61)) k) (cIq r n kk11)
theorem cCy (kk11 : cD) : D40 r n aJr (xs (xs x0 3 (K1 (bF r n) 5)) 4 (K5 (aZ r n kk11) 4 5 59 60 61)) (K5 (aZ r n kk11) 4 5 59 60 61) = (K11 (nH r n kk11) 4 5 8 9 10 12 13 14 59 60 61) :=
 (bKl r n kk11).trans
 ((by kernel_rfl))
theorem bZb (kk11 : cD) : D40 r n aEm (xs (xs x0 3 (K1 (bF r n) 5)) 4 (K5 (aZ r n kk11) 4 5 59 60 61)) (K5 (aZ r n kk11) 4 5 59 60 61) = D40 r n aPd (xs (xs x0 3 (K1 (bF r n) 5)) 4 (K5 (aZ r n kk11) 4 5 59 60 61)) (K11 (nH r n kk11) 4 5 8 9 10 12 13 14 59 60 61) :=
 congrArg (fun k => D40 r n aPd (xs (xs x0 3 (K1 (bF r n) 5)) 4 (K5 (aZ r n kk11) 4 5 59 60 61)) k) (cCy r n kk11)
theorem bGz (kk11 : cD) (q0 : dLp) (q1 : TT1) (q2 : cD) : D40 r n aPd (xs (xs x0 3 (K1 q1 5)) 4 (K5 q2 4 5 59 60 61)) (K11 q0 4 5 8 9 10 12 13 14 59 60 61) = fun (env : aW) (h : Hp) =>
 bnd (aD .eql (env 7) (aE 15) h) fun v1 h1 =>
 aS v1 (
 bnd (r 44 [(env 5), (.s [115, 101, 108, 101, 99, 116, 111, 114])] h1) fun v2 h2 =>
 bnd (aC 0 v2 h2) fun v3 h3 =>
 bnd (aC 1 v2 h3) fun v4 h4 =>
 bnd (r 44 [(env 5), (.s [97, 114, 103, 117, 109, 101, 110, 116, 115])] h4) fun v5 h5 =>
 bnd (aC 0 v5 h5) fun v6 h6 =>
 bnd (aC 1 v5 h6) fun v7 h7 =>
 bnd (aL [(aE 0), (aE 0)] 2 [(0, 1, v3), (1, 1, v6)] h7) fun v8 h8 =>
      q0 (env 4) (env 5) (env 8) (env 9) (env 10) (env 12) (aE 2) v8 (env 59) (env 60) (env 61) h8) (
      q0 (env 4) (env 5) (env 8) (env 9) (env 10) (env 12) (env 13) (env 14) (env 59) (env 60) (env 61) h1) := by kernel_rfl
theorem bEn (kk11 : cD) : (fun (env : aW) (h : Hp) =>
 bnd (aD .eql (env 7) (aE 15) h) fun v1 h1 =>
 aS v1 (
 bnd (r 44 [(env 5), (.s [115, 101, 108, 101, 99, 116, 111, 114])] h1) fun v2 h2 =>
 bnd (aC 0 v2 h2) fun v3 h3 =>
 bnd (aC 1 v2 h3) fun v4 h4 =>
 bnd (r 44 [(env 5), (.s [97, 114, 103, 117, 109, 101, 110, 116, 115])] h4) fun v5 h5 =>
 bnd (aC 0 v5 h5) fun v6 h6 =>
 bnd (aC 1 v5 h6) fun v7 h7 =>
 bnd (aL [(aE 0), (aE 0)] 2 [(0, 1, v3), (1, 1, v6)] h7) fun v8 h8 =>
      nH r n kk11 (env 4) (env 5) (env 8) (env 9) (env 10) (env 12) (aE 2) v8 (env 59) (env 60) (env 61) h8) (
      nH r n kk11 (env 4) (env 5) (env 8) (env 9) (env 10) (env 12) (env 13) (env 14) (env 59) (env 60) (env 61) h1)) = (K12 (vG r n kk11) 4 5 7 8 9 10 12 13 14 59 60 61) := by kernel_rfl
theorem cEx (kk11 : cD) : D40 r n aEm (xs (xs x0 3 (K1 (bF r n) 5)) 4 (K5 (aZ r n kk11) 4 5 59 60 61)) (K5 (aZ r n kk11) 4 5 59 60 61) = (K12 (vG r n kk11) 4 5 7 8 9 10 12 13 14 59 60 61) :=
 (bZb r n kk11).trans
 ((bGz r n kk11 (nH r n kk11) (bF r n) (aZ r n kk11)).trans (bEn r n kk11))
theorem bLa (kk11 : cD) : D40 r n aIh (xs (xs x0 3 (K1 (bF r n) 5)) 4 (K5 (aZ r n kk11) 4 5 59 60 61)) (K5 (aZ r n kk11) 4 5 59 60 61) = D40 r n bJm (xs (xs x0 3 (K1 (bF r n) 5)) 4 (K5 (aZ r n kk11) 4 5 59 60 61)) (K12 (vG r n kk11) 4 5 7 8 9 10 12 13 14 59 60 61) :=
 congrArg (fun k => D40 r n bJm (xs (xs x0 3 (K1 (bF r n) 5)) 4 (K5 (aZ r n kk11) 4 5 59 60 61)) k) (cEx r n kk11)
theorem cEs (kk11 : cD) : D40 r n aIh (xs (xs x0 3 (K1 (bF r n) 5)) 4 (K5 (aZ r n kk11) 4 5 59 60 61)) (K5 (aZ r n kk11) 4 5 59 60 61) = (K12 (aOl r n kk11) 4 5 7 8 9 10 12 13 14 59 60 61) :=
 (bLa r n kk11).trans
 ((by kernel_rfl))
theorem bCm (kk11 : cD) : D40 r n aGt (xs (xs x0 3 (K1 (bF r n) 5)) 4 (K5 (aZ r n kk11) 4 5 59 60 61)) (K5 (aZ r n kk11) 4 5 59 60 61) = D40 r n bMp (xs (xs x0 3 (K1 (bF r n) 5)) 4 (K5 (aZ r n kk11) 4 5 59 60 61)) (K12 (aOl r n kk11) 4 5 7 8 9 10 12 13 14 59 60 61) :=
 congrArg (fun k => D40 r n bMp (xs (xs x0 3 (K1 (bF r n) 5)) 4 (K5 (aZ r n kk11) 4 5 59 60 61)) k) (cEs r n kk11)
theorem cBx (kk11 : cD) : D40 r n aGt (xs (xs x0 3 (K1 (bF r n) 5)) 4 (K5 (aZ r n kk11) 4 5 59 60 61)) (K5 (aZ r n kk11) 4 5 59 60 61) = (K9 (aRw r n kk11) 4 5 7 8 9 10 59 60 61) :=
 (bCm r n kk11).trans
 ((by kernel_rfl))
theorem bCu (kk11 : cD) : D40 r n aJc (xs (xs x0 3 (K1 (bF r n) 5)) 4 (K5 (aZ r n kk11) 4 5 59 60 61)) (K5 (aZ r n kk11) 4 5 59 60 61) = D40 r n bQi (xs (xs x0 3 (K1 (bF r n) 5)) 4 (K5 (aZ r n kk11) 4 5 59 60 61)) (K9 (aRw r n kk11) 4 5 7 8 9 10 59 60 61) :=
 congrArg (fun k => D40 r n bQi (xs (xs x0 3 (K1 (bF r n) 5)) 4 (K5 (aZ r n kk11) 4 5 59 60 61)) k) (cBx r n kk11)
theorem cMy (kk11 : cD) : D40 r n aJc (xs (xs x0 3 (K1 (bF r n) 5)) 4 (K5 (aZ r n kk11) 4 5 59 60 61)) (K5 (aZ r n kk11) 4 5 59 60 61) = (K8 (aRj r n kk11) 4 5 7 8 9 59 60 61) :=
 (bCu r n kk11).trans
 ((by kernel_rfl))
theorem bCl (kk11 : cD) : D40 r n aBd (xs (xs x0 3 (K1 (bF r n) 5)) 4 (K5 (aZ r n kk11) 4 5 59 60 61)) (K5 (aZ r n kk11) 4 5 59 60 61) = D40 r n bKf (xs (xs x0 3 (K1 (bF r n) 5)) 4 (K5 (aZ r n kk11) 4 5 59 60 61)) (K8 (aRj r n kk11) 4 5 7 8 9 59 60 61) :=
 congrArg (fun k => D40 r n bKf (xs (xs x0 3 (K1 (bF r n) 5)) 4 (K5 (aZ r n kk11) 4 5 59 60 61)) k) (cMy r n kk11)
theorem cOa (kk11 : cD) : D40 r n aBd (xs (xs x0 3 (K1 (bF r n) 5)) 4 (K5 (aZ r n kk11) 4 5 59 60 61)) (K5 (aZ r n kk11) 4 5 59 60 61) = (K8 (aOa r n kk11) 4 5 7 8 9 59 60 61) :=
 (bCl r n kk11).trans
 ((by kernel_rfl))
theorem bGd (kk11 : cD) : D40 r n aJk (xs (xs x0 3 (K1 (bF r n) 5)) 4 (K5 (aZ r n kk11) 4 5 59 60 61)) (K5 (aZ r n kk11) 4 5 59 60 61) = D40 r n bXe (xs (xs x0 3 (K1 (bF r n) 5)) 4 (K5 (aZ r n kk11) 4 5 59 60 61)) (K8 (aOa r n kk11) 4 5 7 8 9 59 60 61) :=
 congrArg (fun k => D40 r n bXe (xs (xs x0 3 (K1 (bF r n) 5)) 4 (K5 (aZ r n kk11) 4 5 59 60 61)) k) (cOa r n kk11)
theorem cNe (kk11 : cD) : D40 r n aJk (xs (xs x0 3 (K1 (bF r n) 5)) 4 (K5 (aZ r n kk11) 4 5 59 60 61)) (K5 (aZ r n kk11) 4 5 59 60 61) = (K7 (xX r n kk11) 4 5 7 8 59 60 61) :=
 (bGd r n kk11).trans
 ((by kernel_rfl))
theorem bDv (kk11 : cD) : D40 r n aBi (xs x0 3 (K1 (bF r n) 5)) (K5 kk11 4 5 59 60 61) = D40 r n aJy (xs x0 3 (K1 (bF r n) 5)) (K5 (aZ r n kk11) 4 5 59 60 61) :=
 congrArg (fun k => D40 r n aJy (xs x0 3 (K1 (bF r n) 5)) k) (cFp r n kk11)
theorem bFa (kk11 : cD) : D40 r n aIw (xs (xs x0 3 (K1 (bF r n) 5)) 4 (K5 (aZ r n kk11) 4 5 59 60 61)) (K5 (aZ r n kk11) 4 5 59 60 61) = D40 r n aNn (xs (xs x0 3 (K1 (bF r n) 5)) 4 (K5 (aZ r n kk11) 4 5 59 60 61)) (K7 (xX r n kk11) 4 5 7 8 59 60 61) :=
 congrArg (fun k => D40 r n aNn (xs (xs x0 3 (K1 (bF r n) 5)) 4 (K5 (aZ r n kk11) 4 5 59 60 61)) k) (cNe r n kk11)
theorem bCd (kk11 : cD) (q0 : TT7) (q1 : TT1) (q2 : cD) : D40 r n aNn (xs (xs x0 3 (K1 q1 5)) 4 (K5 q2 4 5 59 60 61)) (K7 q0 4 5 7 8 59 60 61) = fun (env : aW) (h : Hp) =>
 bnd (aJ 3 (env 59) (env 61) h) fun v1 h1 =>
 bnd (aK 3 v1 h1) fun v2 h2 =>
 bnd (bL [(.s []), (aE 0), (aE 0)] h2) fun v3 h3 =>
 bnd (aG 3 v3 v2 h3) fun _ h4 =>
  q0 (env 4) (env 5) (env 61) v3 (env 59) (env 60) (env 61) h4 := by kernel_rfl
theorem aNo (kk11 : cD) : (fun (env : aW) (h : Hp) =>
 bnd (aJ 3 (env 59) (env 61) h) fun v1 h1 =>
 bnd (aK 3 v1 h1) fun v2 h2 =>
 bnd (bL [(.s []), (aE 0), (aE 0)] h2) fun v3 h3 =>
 bnd (aG 3 v3 v2 h3) fun _ h4 =>
  xX r n kk11 (env 4) (env 5) (env 61) v3 (env 59) (env 60) (env 61) h4) = (K5 (aEk r n kk11) 4 5 59 60 61) := by kernel_rfl
theorem cKu (kk11 : cD) : D40 r n aBi (xs x0 3 (K1 (bF r n) 5)) (K5 kk11 4 5 59 60 61) = (K5 (aEk r n kk11) 4 5 59 60 61) :=
 (bDv r n kk11).trans
 ((by kernel_rfl : D40 r n aJy (xs x0 3 (K1 (bF r n) 5)) (K5 (aZ r n kk11) 4 5 59 60 61) = D40 r n aIw (xs (xs x0 3 (K1 (bF r n) 5)) 4 (K5 (aZ r n kk11) 4 5 59 60 61)) (K5 (aZ r n kk11) 4 5 59 60 61)).trans
 ((bFa r n kk11).trans
 ((bCd r n kk11 (xX r n kk11) (bF r n) (aZ r n kk11)).trans (aNo r n kk11))))
theorem bFy (kk11 : cD) : D40 r n aEw (xs x0 3 (K1 (bF r n) 5)) (K5 kk11 4 5 59 60 61) = D40 r n bQy (xs x0 3 (K1 (bF r n) 5)) (K5 (aEk r n kk11) 4 5 59 60 61) :=
 congrArg (fun k => D40 r n bQy (xs x0 3 (K1 (bF r n) 5)) k) (cKu r n kk11)
theorem cBq (kk11 : cD) : D40 r n aEw (xs x0 3 (K1 (bF r n) 5)) (K5 kk11 4 5 59 60 61) = (K6 (aRz r n kk11) 4 5 59 60 61 62) :=
 (bFy r n kk11).trans
 ((by kernel_rfl))
theorem bCp (kk11 : cD) : D40 r n jZ (xs x0 3 (K1 (bF r n) 5)) (K5 kk11 4 5 59 60 61) = D40 r n bWt (xs x0 3 (K1 (bF r n) 5)) (K6 (aRz r n kk11) 4 5 59 60 61 62) :=
 congrArg (fun k => D40 r n bWt (xs x0 3 (K1 (bF r n) 5)) k) (cBq r n kk11)
theorem bLy (kk11 : cD) : D40 r n jZ (xs x0 3 (K1 (bF r n) 5)) (K5 kk11 4 5 59 60 61) = (K5 (bBf r n kk11) 4 5 59 60 61) :=
 (bCp r n kk11).trans
 ((by kernel_rfl))
theorem bZs (m : Nat) : aO (fun kk => D40 r n jZ (xs x0 3 (K1 (bF r n) 5)) kk) m = (K5 (sU r n m) 4 5 59 60 61) := by
 induction m with
 | zero => exact (by kernel_rfl : aO (fun kk => D40 r n jZ (xs x0 3 (K1 (bF r n) 5)) kk) 0 = (K5 (sU r n 0) 4 5 59 60 61))
 | succ m ih =>
  refine (by kernel_rfl : aO (fun kk => D40 r n jZ (xs x0 3 (K1 (bF r n) 5)) kk) (m + 1) = D40 r n jZ (xs x0 3 (K1 (bF r n) 5)) (aO (fun kk => D40 r n jZ (xs x0 3 (K1 (bF r n) 5)) kk) m)).trans ?_
  rw [ih]
  exact (bLy r n (sU r n m)).trans (by kernel_rfl)
theorem cHw : D40 r n aJj (xs x0 3 (K1 (bF r n) 5)) (K1 (bF r n) 5) = (K5 (bYg r n) 4 5 59 60 61) :=
 (by kernel_rfl : D40 r n aJj (xs x0 3 (K1 (bF r n) 5)) (K1 (bF r n) 5) = aO (fun kk => D40 r n jZ (xs x0 3 (K1 (bF r n) 5)) kk) n).trans ((bZs r n n).trans (by kernel_rfl))
theorem cEg : D40 r n aTl x0 (K1 (bF r n) 5) = (K5 (aPo r n) 4 5 59 60 61) :=
 (by kernel_rfl : D40 r n aTl x0 (K1 (bF r n) 5) = D40 r n aJj (xs x0 3 (K1 (bF r n) 5)) (K1 (bF r n) 5)).trans
 ((cHw r n).trans (by kernel_rfl))
theorem bKc : D40 r n bBr x0 r40 = D40 r n yR x0 (K1 (bF r n) 5) :=
 congrArg (fun k => D40 r n yR x0 k) (dAv r n)
theorem bGw : D40 r n yR x0 (K1 (bF r n) 5) = D40 r n bPw x0 (K5 (aPo r n) 4 5 59 60 61) :=
 congrArg (fun k => D40 r n bPw x0 k) (cEg r n)
theorem cTs : D40 r n bBr x0 r40 = (K2 (gS r n) 4 5) :=
 (bKc r n).trans
 ((bGw r n).trans
 ((by kernel_rfl)))
theorem bVi (kk27 : mL) : D40 r n nO (xs x0 1 (K2 (gS r n) 4 5)) (K3 kk27 4 5 43) = (K3 (aUv r n kk27) 4 5 43) :=
 (by kernel_rfl)
theorem bPe (m : Nat) : aO (fun kk => D40 r n nO (xs x0 1 (K2 (gS r n) 4 5)) kk) m = (K3 (tP r n m) 4 5 43) := by
 induction m with
 | zero => exact (by kernel_rfl : aO (fun kk => D40 r n nO (xs x0 1 (K2 (gS r n) 4 5)) kk) 0 = (K3 (tP r n 0) 4 5 43))
 | succ m ih =>
  refine (by kernel_rfl : aO (fun kk => D40 r n nO (xs x0 1 (K2 (gS r n) 4 5)) kk) (m + 1) = D40 r n nO (xs x0 1 (K2 (gS r n) 4 5)) (aO (fun kk => D40 r n nO (xs x0 1 (K2 (gS r n) 4 5)) kk) m)).trans ?_
  rw [ih]
  exact (bVi r n (tP r n m)).trans (by kernel_rfl)
theorem cOg : D40 r n aGc (xs x0 1 (K2 (gS r n) 4 5)) (K2 (gS r n) 4 5) = (K3 (bKk r n) 4 5 43) :=
 (by kernel_rfl : D40 r n aGc (xs x0 1 (K2 (gS r n) 4 5)) (K2 (gS r n) 4 5) = aO (fun kk => D40 r n nO (xs x0 1 (K2 (gS r n) 4 5)) kk) n).trans ((bPe r n n).trans (by kernel_rfl))
theorem cOd : D40 r n aPy x0 (K2 (gS r n) 4 5) = (K3 (aSz r n) 4 5 43) :=
 (by kernel_rfl : D40 r n aPy x0 (K2 (gS r n) 4 5) = D40 r n aGc (xs x0 1 (K2 (gS r n) 4 5)) (K2 (gS r n) 4 5)).trans
 ((cOg r n).trans (by kernel_rfl))
theorem bKa : D40 r n aXc x0 r40 = D40 r n xC x0 (K2 (gS r n) 4 5) :=
 congrArg (fun k => D40 r n xC x0 k) (cTs r n)
theorem bSt : D40 r n xC x0 (K2 (gS r n) 4 5) = D40 r n bVe x0 (K3 (aSz r n) 4 5 43) :=
 congrArg (fun k => D40 r n bVe x0 k) (cOd r n)
theorem cYr : D40 r n aXc x0 r40 = (K2 (aNf r n) 4 5) :=
 (bKa r n).trans
 ((bSt r n).trans
 ((by kernel_rfl)))
theorem bUg : D40 r n aUs x0 r40 = D40 r n aOz x0 (K2 (aNf r n) 4 5) :=
 congrArg (fun k => D40 r n aOz x0 k) (cYr r n)
theorem bWh (q0 : oL) : D40 r n aOz x0 (K2 q0 4 5) = fun (env : aW) (h : Hp) =>
 bnd (cI 1 8 [(aE 0)] (aE 18) (aE 18) h) fun v1 h1 =>
 bnd (dV h1) fun v2 h2 =>
 bnd (dV h2) fun v3 h3 =>
 bnd (bC [.p0, .l0, .m0, .m0] [(0, 1, (env 4)), (1, 1, v1), (2, 1, v2), (3, 1, v3)] h3) fun v4 h4 =>
 bnd (bQ v4 h4) fun v5 h5 =>
  q0 (env 4) v5 h5 := by kernel_rfl
theorem bEg : (fun (env : aW) (h : Hp) =>
 bnd (cI 1 8 [(aE 0)] (aE 18) (aE 18) h) fun v1 h1 =>
 bnd (dV h1) fun v2 h2 =>
 bnd (dV h2) fun v3 h3 =>
 bnd (bC [.p0, .l0, .m0, .m0] [(0, 1, (env 4)), (1, 1, v1), (2, 1, v2), (3, 1, v3)] h3) fun v4 h4 =>
 bnd (bQ v4 h4) fun v5 h5 =>
  aNf r n (env 4) v5 h5) = (K1 (aYo r n) 4) := by kernel_rfl
theorem cSx : D40 r n aUs x0 r40 = (K1 (aYo r n) 4) :=
 (bUg r n).trans
 ((bWh r n (aNf r n)).trans (bEg r n))
theorem bHj : D40 r n aYx x0 r40 = D40 r n cAv x0 (K1 (aYo r n) 4) :=
 congrArg (fun k => D40 r n cAv x0 k) (cSx r n)
theorem cUh : D40 r n aYx x0 r40 = (K2 (bOo r n) 0 4) :=
 (bHj r n).trans
 ((by kernel_rfl))
theorem bOh : D40 r n aUi x0 r40 = D40 r n bKq x0 (K2 (bOo r n) 0 4) :=
 congrArg (fun k => D40 r n bKq x0 k) (cUh r n)
theorem cXf : D40 r n aUi x0 r40 = (K1 (bYd r n) 0) :=
 (bOh r n).trans
 ((by kernel_rfl))
theorem cYg : D40 r n c40 x0 r40 = D40 r n bXt x0 (K1 (bYd r n) 0) :=
 congrArg (fun k => D40 r n bXt x0 k) (cXf r n)
theorem dPs : D40 r n c40 x0 r40 = (K1 (s40 r n) 0) :=
 (cYg r n).trans
 ((by kernel_rfl))
theorem dIh : aF CF r n 40 args h = s40 r n (aT args 0) h :=
 (by kernel_rfl : aF CF r n 40 args h = D40 r n c40 x0 r40 (aI args) h).trans ((congrFun (congrFun (dPs r n) (aI args)) h).trans (by kernel_rfl))
noncomputable def s42 (r : RT) (n : Nat) (x0 x1 : DV) (h0 : Hp) : aH :=
 bnd (aD .lss x1 (.i .i64 (Int.negSucc 1152921504606846975)) h0) fun v1 h1 =>
 bnd (gD v1 false (some (x1, h1)) h1) fun v2 h2 =>
 bnd (gD v1 false (aD .gtr v2 (aE 1152921504606846976) h2) h2) fun v3 h3 =>
 bnd (aP v1 (.b true) v3 h3) fun v4 h4 =>
 aS v4 (
 some (.t [(aE 0), (aE 2)], h4)) (
 bnd (gK [x1] h4) fun v5 h5 =>
 bnd (aC 0 v5 h5) fun v6 h6 =>
 bnd (aC 1 v5 h6) fun v7 h7 =>
 aS v7 (
 some (.t [v6, (aE 0)], h7)) (
 bnd (r 30 [x0, (aE 8)] h7) fun v8 h8 =>
 bnd (aL [(aE 0)] 1 [(0, 1, x1)] h8) fun v9 h9 =>
 bnd (r 82 [x0, v8, (aE 1), v9] h9) fun v10 h10 =>
 bnd (aC 0 v10 h10) fun v11 h11 =>
 bnd (aC 1 v10 h11) fun v12 h12 =>
 some (.t [v11, v12], h12)))
noncomputable abbrev c42 : Code := cf Tryz.f42
noncomputable abbrev r42 : K := aQ CF Tryz.f42
noncomputable def D42 (r : RT) (n : Nat) (c : Code) (X : Nat → K) (k : K) : K := aM CF r 29 n c X r42 k
theorem dNc : D42 r n c42 x0 r42 = (K2 (s42 r n) 0 1) :=
 (by kernel_rfl)
theorem cRh : aF CF r n 42 args h = s42 r n (aT args 0) (aT args 1) h :=
 (by kernel_rfl : aF CF r n 42 args h = D42 r n c42 x0 r42 (aI args) h).trans ((congrFun (congrFun (dNc r n) (aI args)) h).trans (by kernel_rfl))
noncomputable def s43 (r : RT) (n : Nat) (x0 x1 : DV) (h0 : Hp) : aH :=
 bnd (dH x1 h0) fun v1 h1 =>
 bnd (aD .gtr v1 (aE 250) h1) fun v2 h2 =>
 aS v2 (
 some (.t [(aE 0), (aE 1)], h2)) (
 bnd (r 30 [x0, (aE 10)] h2) fun v3 h3 =>
 bnd (r 83 [x0, v3, x1] h3) fun v4 h4 =>
 bnd (aC 0 v4 h4) fun v5 h5 =>
 bnd (aC 1 v4 h5) fun v6 h6 =>
 some (.t [v5, v6], h6))
noncomputable abbrev c43 : Code := cf Tryz.f43
noncomputable abbrev r43 : K := aQ CF Tryz.f43
noncomputable def D43 (r : RT) (n : Nat) (c : Code) (X : Nat → K) (k : K) : K := aM CF r 16 n c X r43 k
theorem dOl : D43 r n c43 x0 r43 = (K2 (s43 r n) 0 1) :=
 (by kernel_rfl)
theorem cQf : aF CF r n 43 args h = s43 r n (aT args 0) (aT args 1) h :=
 (by kernel_rfl : aF CF r n 43 args h = D43 r n c43 x0 r43 (aI args) h).trans ((congrFun (congrFun (dOl r n) (aI args)) h).trans (by kernel_rfl))
noncomputable def s44 (r : RT) (n : Nat) (x0 x1 : DV) (h0 : Hp) : aH :=
 bnd (dH x1 h0) fun v1 h1 =>
 bnd (aD .lss v1 (aE 1) h1) fun v2 h2 =>
 bnd (gD v2 false (some (x1, h2)) h2) fun v3 h3 =>
 bnd (gD v2 false (dH v3 h3) h3) fun v4 h4 =>
 bnd (gD v2 false (aD .gtr v4 (aE 60) h4) h4) fun v5 h5 =>
 bnd (aP v2 (.b true) v5 h5) fun v6 h6 =>
 aS v6 (
 some (.t [(aE 0), (aE 1)], h6)) (
 bnd (aN x0 h6) fun v7 h7 =>
 bnd (aB 2 v7 h7) fun v8 h8 =>
 bnd (aA v8 h8) fun v9 h9 =>
 bnd (dO .string (aE 0) false v9 x1 h9) fun v10 h10 =>
 bnd (aD .neq v10 (aE 0) h10) fun v11 h11 =>
 aS v11 (
 some (.t [v10, (aE 0)], h11)) (
 bnd (r 30 [x0, (aE 11)] h11) fun v12 h12 =>
 bnd (r 83 [x0, v12, x1] h12) fun v13 h13 =>
 bnd (aC 0 v13 h13) fun v14 h14 =>
 bnd (aC 1 v13 h14) fun v15 h15 =>
 bnd (aD .neq v15 (aE 0) h15) fun v16 h16 =>
 aS v16 (
 some (.t [(aE 0), v15], h16)) (
 bnd (aN x0 h16) fun v17 h17 =>
 bnd (aB 1 v17 h17) fun v18 h18 =>
 bnd (aA v18 h18) fun v19 h19 =>
 bnd (aJ 1 v19 (aE 0) h19) fun v20 h20 =>
 bnd (aA v20 h20) fun v21 h21 =>
 bnd (r 73 [x0, v14, v21] h21) fun v22 h22 =>
 bnd (aC 0 v22 h22) fun v23 h23 =>
 bnd (aC 1 v22 h23) fun v24 h24 =>
 bnd (aD .neq v24 (aE 0) h24) fun v25 h25 =>
 aS v25 (
 some (.t [(aE 0), v24], h25)) (
 bnd (aN x0 h25) fun v26 h26 =>
 bnd (aB 1 v26 h26) fun v27 h27 =>
 bnd (aA v27 h27) fun v28 h28 =>
 bnd (aN x0 h28) fun v29 h29 =>
 bnd (aB 2 v29 h29) fun v30 h30 =>
 bnd (aA v30 h30) fun v31 h31 =>
 bnd (aJ 1 v28 (aE 0) h31) fun v32 h32 =>
 bnd (aG 1 v32 v23 h32) fun v33 h33 =>
 bnd (fQ .string (aE 0) v31 x1 h33) fun v34 h34 =>
 bnd (aC 1 v34 h34) fun v35 h35 =>
 bnd (dX v31 v35 v14 h35) fun v36 h36 =>
 some (.t [v14, (aE 0)], h36)))))
noncomputable abbrev c44 : Code := cf Tryz.f44
noncomputable abbrev r44 : K := aQ CF Tryz.f44
noncomputable def D44 (r : RT) (n : Nat) (c : Code) (X : Nat → K) (k : K) : K := aM CF r 68 n c X r44 k
theorem dMl : D44 r n c44 x0 r44 = (K2 (s44 r n) 0 1) :=
 (by kernel_rfl)
theorem cQk : aF CF r n 44 args h = s44 r n (aT args 0) (aT args 1) h :=
 (by kernel_rfl : aF CF r n 44 args h = D44 r n c44 x0 r44 (aI args) h).trans ((congrFun (congrFun (dMl r n) (aI args)) h).trans (by kernel_rfl))
noncomputable def s45 (r : RT) (n : Nat) (x0 x1 : DV) (h0 : Hp) : aH :=
 bnd (aN x0 h0) fun v1 h1 =>
 bnd (aB 3 v1 h1) fun v2 h2 =>
 bnd (aA v2 h2) fun v3 h3 =>
 bnd (dO .string (aE 0) false v3 x1 h3) fun v4 h4 =>
 some (v4, h4)
noncomputable abbrev c45 : Code := cf Tryz.f45
noncomputable abbrev r45 : K := aQ CF Tryz.f45
noncomputable def D45 (r : RT) (n : Nat) (c : Code) (X : Nat → K) (k : K) : K := aM CF r 11 n c X r45 k
theorem dPc : D45 r n c45 x0 r45 = (K2 (s45 r n) 0 1) :=
 (by kernel_rfl)
theorem cQh : aF CF r n 45 args h = s45 r n (aT args 0) (aT args 1) h :=
 (by kernel_rfl : aF CF r n 45 args h = D45 r n c45 x0 r45 (aI args) h).trans ((congrFun (congrFun (dPc r n) (aI args)) h).trans (by kernel_rfl))
noncomputable def s46 (r : RT) (n : Nat) (x0 x1 : DV) (h0 : Hp) : aH :=
 bnd (bQ x0 h0) fun v1 h1 =>
 bnd (bX x1 h1) fun v2 h2 =>
 bnd (aD .gtr v2 (aE 250) h2) fun v3 h3 =>
 bnd (gD v3 false (some (x1, h3)) h3) fun v4 h4 =>
 bnd (gD v3 false (some ((.f 84 [] [v1]), h4)) h4) fun v5 h5 =>
 bnd (gD v3 false (r 52 [v4, v5] h5) h5) fun v6 h6 =>
 bnd (aP v3 (.b true) v6 h6) fun v7 h7 =>
 aS v7 (
 some (.t [(aE 0), (aE 1)], h7)) (
 bnd (aA v1 h7) fun v8 h8 =>
 bnd (aA v1 h8) fun v9 h9 =>
 bnd (r 30 [v9, (aE 9)] h9) fun v10 h10 =>
 cnd (bI (aA v1 h10) v8 && true) (
 bnd (r 82 [v8, v10, (aE 0), x1] h10) fun v11 h11 =>
 bnd (aC 0 v11 h11) fun v12 h12 =>
 bnd (aC 1 v11 h12) fun v13 h13 =>
 some (.t [v12, v13], h13)))
noncomputable abbrev c46 : Code := cf Tryz.f46
noncomputable abbrev r46 : K := aQ CF Tryz.f46
noncomputable def D46 (r : RT) (n : Nat) (c : Code) (X : Nat → K) (k : K) : K := aM CF r 21 n c X r46 k
theorem dOc : D46 r n c46 x0 r46 = (K2 (s46 r n) 0 1) :=
 (by kernel_rfl)
theorem cQb : aF CF r n 46 args h = s46 r n (aT args 0) (aT args 1) h :=
 (by kernel_rfl : aF CF r n 46 args h = D46 r n c46 x0 r46 (aI args) h).trans ((congrFun (congrFun (dOc r n) (aI args)) h).trans (by kernel_rfl))
noncomputable def s51 (r : RT) (n : Nat) (x0 x1 x2 : DV) (h0 : Hp) : aH :=
 bnd (aN x0 h0) fun v1 h1 =>
 bnd (aB 0 v1 h1) fun v2 h2 =>
 bnd (aA v2 h2) fun v3 h3 =>
 bnd (yS [v3, x1, x2] h3) fun v4 h4 =>
 bnd (aC 0 v4 h4) fun v5 h5 =>
 bnd (aC 1 v4 h5) fun v6 h6 =>
 some (v5, h6)
noncomputable abbrev c51 : Code := cf Tryz.f51
noncomputable abbrev r51 : K := aQ CF Tryz.f51
noncomputable def D51 (r : RT) (n : Nat) (c : Code) (X : Nat → K) (k : K) : K := aM CF r 20 n c X r51 k
theorem dQa : D51 r n c51 x0 r51 = (K3 (s51 r n) 0 1 2) :=
 (by kernel_rfl)
theorem cRl : aF CF r n 51 args h = s51 r n (aT args 0) (aT args 1) (aT args 2) h :=
 (by kernel_rfl : aF CF r n 51 args h = D51 r n c51 x0 r51 (aI args) h).trans ((congrFun (congrFun (dQa r n) (aI args)) h).trans (by kernel_rfl))
noncomputable def s52 (r : RT) (n : Nat) (x0 x1 : DV) (h0 : Hp) : aH :=
 bnd (r 89 [x0, x1] h0) fun v1 h1 =>
 bnd (aD .geq v1 (aE 0) h1) fun v2 h2 =>
 some (v2, h2)
noncomputable abbrev c52 : Code := cf Tryz.f52
noncomputable abbrev r52 : K := aQ CF Tryz.f52
noncomputable def D52 (r : RT) (n : Nat) (c : Code) (X : Nat → K) (k : K) : K := aM CF r 9 n c X r52 k
theorem dNh : D52 r n c52 x0 r52 = (K2 (s52 r n) 0 1) :=
 (by kernel_rfl)
theorem bLx : aF CF r n 52 args h = s52 r n (aT args 0) (aT args 1) h :=
 (by kernel_rfl : aF CF r n 52 args h = D52 r n c52 x0 r52 (aI args) h).trans ((congrFun (congrFun (dNh r n) (aI args)) h).trans (by kernel_rfl))
noncomputable def s53 (r : RT) (n : Nat) (x0 x1 : DV) (h0 : Hp) : aH :=
 bnd (aA x1 h0) fun v1 h1 =>
 bnd (zM [v1, x0] h1) fun v2 h2 =>
 bnd (gU .not v2 h2) fun v3 h3 =>
 some (v3, h3)
noncomputable abbrev c53 : Code := cf Tryz.f53
noncomputable abbrev r53 : K := aQ CF Tryz.f53
noncomputable def D53 (r : RT) (n : Nat) (c : Code) (X : Nat → K) (k : K) : K := aM CF r 8 n c X r53 k
theorem dMb : D53 r n c53 x0 r53 = (K2 (s53 r n) 0 1) :=
 (by kernel_rfl)
theorem cQv : aF CF r n 53 args h = s53 r n (aT args 0) (aT args 1) h :=
 (by kernel_rfl : aF CF r n 53 args h = D53 r n c53 x0 r53 (aI args) h).trans ((congrFun (congrFun (dMb r n) (aI args)) h).trans (by kernel_rfl))
noncomputable def s54 (r : RT) (n : Nat) (h0 : Hp) : aH :=
 some (.t [(aE 0), (aE 20)], h0)
noncomputable abbrev c54 : Code := cf Tryz.f54
noncomputable abbrev r54 : K := aQ CF Tryz.f54
noncomputable def D54 (r : RT) (n : Nat) (c : Code) (X : Nat → K) (k : K) : K := aM CF r 2 n c X r54 k
theorem dNi : D54 r n c54 x0 r54 = (K0 (s54 r n)) :=
 (by kernel_rfl)
theorem bYn : aF CF r n 54 args h = s54 r n h :=
 (by kernel_rfl : aF CF r n 54 args h = D54 r n c54 x0 r54 (aI args) h).trans ((congrFun (congrFun (dNi r n) (aI args)) h).trans (by kernel_rfl))
noncomputable def s56 (r : RT) (n : Nat) (x0 : DV) (h0 : Hp) : aH :=
 bnd (aN x0 h0) fun v1 h1 =>
 bnd (aB 1 v1 h1) fun v2 h2 =>
 bnd (aA v2 h2) fun v3 h3 =>
 bnd (aD .eql v3 (.i .i64 (Int.ofNat 10)) h3) fun v4 h4 =>
 aS v4 (
 bnd (aN x0 h4) fun v5 h5 =>
 bnd (aB 2 v5 h5) fun v6 h6 =>
 bnd (aA v6 h6) fun v7 h7 =>
 bnd (aN x0 h7) fun v8 h8 =>
 bnd (aB 3 v8 h8) fun v9 h9 =>
 bnd (aA v9 h9) fun v10 h10 =>
 bnd (aJ 1 v10 (.i .i64 (Int.ofNat 0)) h10) fun v11 h11 =>
 bnd (aA v11 h11) fun v12 h12 =>
 bnd (aD .eql v7 v12 h12) fun v13 h13 =>
 bnd (r 95 [v13] h13) fun v14 h14 =>
 bnd (aC 0 v14 h14) fun v15 h15 =>
 bnd (aC 1 v14 h15) fun v16 h16 =>
 some (.t [v15, v16], h16)) (
 bnd (aN x0 h4) fun v17 h17 =>
 bnd (aB 0 v17 h17) fun v18 h18 =>
 bnd (aA v18 h18) fun v19 h19 =>
 bnd (aN x0 h19) fun v20 h20 =>
 bnd (aB 2 v20 h20) fun v21 h21 =>
 bnd (aA v21 h21) fun v22 h22 =>
 bnd (r 25 [v19, v22] h22) fun v23 h23 =>
 some (.t [v23, (.i .i64 (Int.ofNat 0))], h23))
noncomputable abbrev c56 : Code := cf Tryz.f56
noncomputable abbrev r56 : K := aQ CF Tryz.f56
noncomputable def D56 (r : RT) (n : Nat) (c : Code) (X : Nat → K) (k : K) : K := aM CF r 32 n c X r56 k
theorem dMh : D56 r n c56 x0 r56 = (K1 (s56 r n) 0) :=
 (by kernel_rfl)
theorem dIg : aF CF r n 56 args h = s56 r n (aT args 0) h :=
 (by kernel_rfl : aF CF r n 56 args h = D56 r n c56 x0 r56 (aI args) h).trans ((congrFun (congrFun (dMh r n) (aI args)) h).trans (by kernel_rfl))
noncomputable def s57 (r : RT) (n : Nat) (x0 : DV) (h0 : Hp) : aH :=
 bnd (aN x0 h0) fun v1 h1 =>
 bnd (aB 0 v1 h1) fun v2 h2 =>
 bnd (aA v2 h2) fun v3 h3 =>
 bnd (r 23 [v3] h3) fun v4 h4 =>
 bnd (aL [(.i .i64 (Int.ofNat 0)), (.i .i64 (Int.ofNat 0)), (.i .i64 (Int.ofNat 0))] 3 [(0, 1, (.i .i64 (Int.ofNat 9))), (1, 1, (.i .i64 (Int.ofNat 10))), (2, 1, (.i .i64 (Int.ofNat 11)))] h4) fun v5 h5 =>
 bnd (r 96 [x0, v5] h5) fun v6 h6 =>
 bnd (gU .not v6 h6) fun v7 h7 =>
 aS v7 (
 bnd (r 54 [] h7) fun v8 h8 =>
 bnd (aC 0 v8 h8) fun v9 h9 =>
 bnd (aC 1 v8 h9) fun v10 h10 =>
 some (.t [v9, v10], h10)) (
 bnd (aN x0 h7) fun v11 h11 =>
 bnd (aB 1 v11 h11) fun v12 h12 =>
 bnd (aA v12 h12) fun v13 h13 =>
 bnd (aD .eql v13 (.i .i64 (Int.ofNat 22)) h13) fun v14 h14 =>
 aS v14 (
 bnd (aN x0 h14) fun v15 h15 =>
 bnd (aB 0 v15 h15) fun v16 h16 =>
 bnd (aA v16 h16) fun v17 h17 =>
 bnd (aN x0 h17) fun v18 h18 =>
 bnd (aB 2 v18 h18) fun v19 h19 =>
 bnd (aA v19 h19) fun v20 h20 =>
 bnd (fF [v4, v20] h20) fun v21 h21 =>
 cnd (bI (aA v16 h21) v17 && true) (
 bnd (r 42 [v17, v21] h21) fun v22 h22 =>
 bnd (aC 0 v22 h22) fun v23 h23 =>
 bnd (aC 1 v22 h23) fun v24 h24 =>
 some (.t [v23, v24], h24))) (
 bnd (r 97 [x0] h14) fun v25 h25 =>
 bnd (aC 0 v25 h25) fun v26 h26 =>
 bnd (aC 1 v25 h26) fun v27 h27 =>
 bnd (gU .not v27 h27) fun v28 h28 =>
 aS v28 (
 bnd (r 54 [] h28) fun v29 h29 =>
 bnd (aC 0 v29 h29) fun v30 h30 =>
 bnd (aC 1 v29 h30) fun v31 h31 =>
 some (.t [v30, v31], h31)) (
 bnd (aN x0 h28) fun v32 h32 =>
 bnd (aB 1 v32 h32) fun v33 h33 =>
 bnd (aA v33 h33) fun v34 h34 =>
 bnd (aD .eql v34 (.i .i64 (Int.ofNat 21)) h34) fun v35 h35 =>
 aS v35 (
 bnd (r 98 [x0, v26] h35) fun v36 h36 =>
 bnd (aC 0 v36 h36) fun v37 h37 =>
 bnd (aC 1 v36 h37) fun v38 h38 =>
 some (.t [v37, v38], h38)) (
 bnd (aN x0 h35) fun v39 h39 =>
 bnd (aB 2 v39 h39) fun v40 h40 =>
 bnd (aA v40 h40) fun v41 h41 =>
 bnd (yS [v4, v41, v26] h41) fun v42 h42 =>
 bnd (aC 0 v42 h42) fun v43 h43 =>
 bnd (aC 1 v42 h43) fun v44 h44 =>
 bnd (aL [(.i .i64 (Int.ofNat 0))] 1 [(0, 1, (.i .i64 (Int.ofNat 9)))] h44) fun v45 h45 =>
 bnd (r 96 [x0, v45] h45) fun v46 h46 =>
 aS v46 (
 some (.t [v43, (.i .i64 (Int.ofNat 0))], h46)) (
 bnd (aN x0 h46) fun v47 h47 =>
 bnd (aB 0 v47 h47) fun v48 h48 =>
 bnd (aA v48 h48) fun v49 h49 =>
 bnd (r 42 [v49, v43] h49) fun v50 h50 =>
 bnd (aC 0 v50 h50) fun v51 h51 =>
 bnd (aC 1 v50 h51) fun v52 h52 =>
 some (.t [v51, v52], h52))))))
noncomputable abbrev c57 : Code := cf Tryz.f57
noncomputable abbrev r57 : K := aQ CF Tryz.f57
noncomputable def D57 (r : RT) (n : Nat) (c : Code) (X : Nat → K) (k : K) : K := aM CF r 83 n c X r57 k
theorem dOe : D57 r n c57 x0 r57 = (K1 (s57 r n) 0) :=
 (by kernel_rfl)
theorem dDz : aF CF r n 57 args h = s57 r n (aT args 0) h :=
 (by kernel_rfl : aF CF r n 57 args h = D57 r n c57 x0 r57 (aI args) h).trans ((congrFun (congrFun (dOe r n) (aI args)) h).trans (by kernel_rfl))
end Go.Dd

namespace Go.Dd
open Go.Proofs
variable (r : RT) (n : Nat) (args : List DV) (h : Hp)
noncomputable def s58 (r : RT) (n : Nat) (x0 : DV) (h0 : Hp) : aH :=
 bnd (aN x0 h0) fun v1 h1 =>
 bnd (aB 0 v1 h1) fun v2 h2 =>
 bnd (aA v2 h2) fun v3 h3 =>
 bnd (r 23 [v3] h3) fun v4 h4 =>
 bnd (aN x0 h4) fun v5 h5 =>
 bnd (aB 0 v5 h5) fun v6 h6 =>
 bnd (aA v6 h6) fun v7 h7 =>
 cnd (bI (aA v6 h0) v7 && true) (
 bnd (aN x0 h7) fun v8 h8 =>
 bnd (aB 2 v8 h8) fun v9 h9 =>
 bnd (aA v9 h9) fun v10 h10 =>
 cnd (bI (aA v9 h0) v10 && true) (
 bnd (r 32 [v7, v10] h10) fun v11 h11 =>
 bnd (aN x0 h11) fun v12 h12 =>
 bnd (aB 1 v12 h12) fun v13 h13 =>
 bnd (aA v13 h13) fun v14 h14 =>
 bnd (aD .eql v14 (.i .i64 (Int.ofNat 23)) h14) fun v15 h15 =>
 aS v15 (
 bnd (aD .neq v11 (.i .i64 (Int.ofNat 0)) h15) fun v16 h16 =>
 aS v16 (
 bnd (r 54 [] h16) fun v17 h17 =>
 bnd (aC 0 v17 h17) fun v18 h18 =>
 bnd (aC 1 v17 h18) fun v19 h19 =>
 some (.t [v18, v19], h19)) (
 bnd (aN x0 h16) fun v20 h20 =>
 bnd (aB 2 v20 h20) fun v21 h21 =>
 bnd (aA v21 h21) fun v22 h22 =>
 bnd (aN x0 h22) fun v23 h23 =>
 bnd (aB 0 v23 h23) fun v24 h24 =>
 bnd (aA v24 h24) fun v25 h25 =>
 bnd (aN x0 h25) fun v26 h26 =>
 bnd (aB 2 v26 h26) fun v27 h27 =>
 bnd (aA v27 h27) fun v28 h28 =>
 bnd (r 37 [v25, v28] h28) fun v29 h29 =>
 cnd (bI (aA v21 h29) v22 && true) (
 bnd (iP [v4, v22, (.i .i64 (Int.ofNat 0)), v29] h29) fun v30 h30 =>
 bnd (aC 0 v30 h30) fun v31 h31 =>
 bnd (aC 1 v30 h31) fun v32 h32 =>
 some (.t [v31, v32], h32)))) (
 bnd (aN x0 h15) fun v33 h33 =>
 bnd (aB 0 v33 h33) fun v34 h34 =>
 bnd (aA v34 h34) fun v35 h35 =>
 bnd (aN x0 h35) fun v36 h36 =>
 bnd (aB 3 v36 h36) fun v37 h37 =>
 bnd (aA v37 h37) fun v38 h38 =>
 bnd (aJ 1 v38 (.i .i64 (Int.ofNat 0)) h38) fun v39 h39 =>
 bnd (aA v39 h39) fun v40 h40 =>
 bnd (r 15 [v35, v40] h40) fun v41 h41 =>
 bnd (aC 0 v41 h41) fun v42 h42 =>
 bnd (aC 1 v41 h42) fun v43 h43 =>
 bnd (gU .not v43 h43) fun v44 h44 =>
 bnd (gD v44 false (some (v42, h44)) h44) fun v45 h45 =>
 bnd (gD v44 false (aD .lss v45 (.i .i64 (Int.ofNat 0)) h45) h45) fun v46 h46 =>
 bnd (aP v44 (.b true) v46 h46) fun v47 h47 =>
 bnd (gD v47 false (some (v42, h47)) h47) fun v48 h48 =>
 bnd (gD v47 false (aD .gtr v48 (.i .i64 (Int.ofNat 250)) h48) h48) fun v49 h49 =>
 bnd (aP v47 (.b true) v49 h49) fun v50 h50 =>
 aS v50 (
 bnd (r 54 [] h50) fun v51 h51 =>
 bnd (aC 0 v51 h51) fun v52 h52 =>
 bnd (aC 1 v51 h52) fun v53 h53 =>
 some (.t [v52, v53], h53)) (
 bnd (aN x0 h50) fun v54 h54 =>
 bnd (aB 2 v54 h54) fun v55 h55 =>
 bnd (aA v55 h55) fun v56 h56 =>
 bnd (aN x0 h56) fun v57 h57 =>
 bnd (aB 0 v57 h57) fun v58 h58 =>
 bnd (aA v58 h58) fun v59 h59 =>
 bnd (r 30 [v59, (.i .i64 (Int.ofNat 9))] h59) fun v60 h60 =>
 cnd (bI (aA v55 h60) v56 && true) (
 bnd (aD .eql v56 v60 h60) fun v61 h61 =>
 aS v61 (
 bnd (aN x0 h61) fun v62 h62 =>
 bnd (aB 2 v62 h62) fun v63 h63 =>
 bnd (aA v63 h63) fun v64 h64 =>
 bnd (iP [v4, v64, (.i .i64 (Int.ofNat 0)), v42] h64) fun v65 h65 =>
 bnd (aC 0 v65 h65) fun v66 h66 =>
 bnd (aC 1 v65 h66) fun v67 h67 =>
 some (.t [v66, v67], h67)) (
 bnd (aN x0 h61) fun v68 h68 =>
 bnd (aB 2 v68 h68) fun v69 h69 =>
 bnd (aA v69 h69) fun v70 h70 =>
 bnd (aN x0 h70) fun v71 h71 =>
 bnd (aB 0 v71 h71) fun v72 h72 =>
 bnd (aA v72 h72) fun v73 h73 =>
 bnd (r 30 [v73, (.i .i64 (Int.ofNat 10))] h73) fun v74 h74 =>
 cnd (bI (aA v69 h74) v70 && true) (
 bnd (aD .eql v70 v74 h74) fun v75 h75 =>
 aS v75 (
 bnd (aN x0 h75) fun v76 h76 =>
 bnd (aB 2 v76 h76) fun v77 h77 =>
 bnd (aA v77 h77) fun v78 h78 =>
 bnd (iP [v4, v78, (.i .i64 (Int.ofNat 2)), v42] h78) fun v79 h79 =>
 bnd (aC 0 v79 h79) fun v80 h80 =>
 bnd (aC 1 v79 h80) fun v81 h81 =>
 some (.t [v80, v81], h81)) (
 bnd (r 54 [] h75) fun v82 h82 =>
 bnd (aC 0 v82 h82) fun v83 h83 =>
 bnd (aC 1 v82 h83) fun v84 h84 =>
 some (.t [v83, v84], h84)))))))))
noncomputable abbrev c58 : Code := cf Tryz.f58
noncomputable abbrev r58 : K := aQ CF Tryz.f58
noncomputable def D58 (r : RT) (n : Nat) (c : Code) (X : Nat → K) (k : K) : K := aM CF r 120 n c X r58 k
theorem dMy : D58 r n c58 x0 r58 = (K1 (s58 r n) 0) :=
 (by kernel_rfl)
theorem dHw : aF CF r n 58 args h = s58 r n (aT args 0) h :=
 (by kernel_rfl : aF CF r n 58 args h = D58 r n c58 x0 r58 (aI args) h).trans ((congrFun (congrFun (dMy r n) (aI args)) h).trans (by kernel_rfl))
noncomputable def s59 (r : RT) (n : Nat) (x0 : DV) (h0 : Hp) : aH :=
 bnd (aN x0 h0) fun v1 h1 =>
 bnd (aB 0 v1 h1) fun v2 h2 =>
 bnd (aA v2 h2) fun v3 h3 =>
 bnd (aN x0 h3) fun v4 h4 =>
 bnd (aB 2 v4 h4) fun v5 h5 =>
 bnd (aA v5 h5) fun v6 h6 =>
 bnd (r 33 [v3, v6] h6) fun v7 h7 =>
 bnd (aC 0 v7 h7) fun v8 h8 =>
 bnd (aC 1 v7 h8) fun v9 h9 =>
 bnd (aN x0 h9) fun v10 h10 =>
 bnd (aB 0 v10 h10) fun v11 h11 =>
 bnd (aA v11 h11) fun v12 h12 =>
 bnd (aN x0 h12) fun v13 h13 =>
 bnd (aB 3 v13 h13) fun v14 h14 =>
 bnd (aA v14 h14) fun v15 h15 =>
 bnd (aJ 1 v15 (.i .i64 (Int.ofNat 0)) h15) fun v16 h16 =>
 bnd (aA v16 h16) fun v17 h17 =>
 bnd (r 33 [v12, v17] h17) fun v18 h18 =>
 bnd (aC 0 v18 h18) fun v19 h19 =>
 bnd (aC 1 v18 h19) fun v20 h20 =>
 bnd (gU .not v9 h20) fun v21 h21 =>
 aS v21 (
 bnd (r 54 [] h21) fun v22 h22 =>
 bnd (aC 0 v22 h22) fun v23 h23 =>
 bnd (aC 1 v22 h23) fun v24 h24 =>
 some (.t [v23, v24], h24)) (
 bnd (aN x0 h21) fun v25 h25 =>
 bnd (aB 1 v25 h25) fun v26 h26 =>
 bnd (aA v26 h26) fun v27 h27 =>
 bnd (aD .eql v27 (.i .i64 (Int.ofNat 26)) h27) fun v28 h28 =>
 aS v28 (
 bnd (gD v20 true (some (v8, h28)) h28) fun v29 h29 =>
 bnd (gD v20 true (some (v19, h29)) h29) fun v30 h30 =>
 bnd (gD v20 true (eG .eql v29 v30 h30) h30) fun v31 h31 =>
 bnd (aP v20 v31 (.b false) h31) fun v32 h32 =>
 bnd (r 95 [v32] h32) fun v33 h33 =>
 bnd (aC 0 v33 h33) fun v34 h34 =>
 bnd (aC 1 v33 h34) fun v35 h35 =>
 some (.t [v34, v35], h35)) (
 bnd (gU .not v20 h28) fun v36 h36 =>
 bnd (gD v36 false (some (v8, h36)) h36) fun v37 h37 =>
 bnd (gD v36 false (dH v37 h37) h37) fun v38 h38 =>
 bnd (gD v36 false (some (v19, h38)) h38) fun v39 h39 =>
 bnd (gD v36 false (dH v39 h39) h39) fun v40 h40 =>
 bnd (gD v36 false (aD .add v38 v40 h40) h40) fun v41 h41 =>
 bnd (gD v36 false (aD .gtr v41 (.i .i64 (Int.ofNat 250)) h41) h41) fun v42 h42 =>
 bnd (aP v36 (.b true) v42 h42) fun v43 h43 =>
 aS v43 (
 bnd (r 54 [] h43) fun v44 h44 =>
 bnd (aC 0 v44 h44) fun v45 h45 =>
 bnd (aC 1 v44 h45) fun v46 h46 =>
 some (.t [v45, v46], h46)) (
 bnd (aN x0 h43) fun v47 h47 =>
 bnd (aB 0 v47 h47) fun v48 h48 =>
 bnd (aA v48 h48) fun v49 h49 =>
 bnd (eG .add v8 v19 h49) fun v50 h50 =>
 bnd (r 43 [v49, v50] h50) fun v51 h51 =>
 bnd (aC 0 v51 h51) fun v52 h52 =>
 bnd (aC 1 v51 h52) fun v53 h53 =>
 some (.t [v52, v53], h53))))
noncomputable abbrev c59 : Code := cf Tryz.f59
noncomputable abbrev r59 : K := aQ CF Tryz.f59
noncomputable def D59 (r : RT) (n : Nat) (c : Code) (X : Nat → K) (k : K) : K := aM CF r 79 n c X r59 k
theorem dOu : D59 r n c59 x0 r59 = (K1 (s59 r n) 0) :=
 (by kernel_rfl)
theorem cRf : aF CF r n 59 args h = s59 r n (aT args 0) h :=
 (by kernel_rfl : aF CF r n 59 args h = D59 r n c59 x0 r59 (aI args) h).trans ((congrFun (congrFun (dOu r n) (aI args)) h).trans (by kernel_rfl))
noncomputable def s60 (r : RT) (n : Nat) (x0 : DV) (h0 : Hp) : aH :=
 bnd (aN x0 h0) fun v1 h1 =>
 bnd (aB 0 v1 h1) fun v2 h2 =>
 bnd (aA v2 h2) fun v3 h3 =>
 bnd (aN x0 h3) fun v4 h4 =>
 bnd (aB 2 v4 h4) fun v5 h5 =>
 bnd (aA v5 h5) fun v6 h6 =>
 bnd (r 32 [v3, v6] h6) fun v7 h7 =>
 bnd (aD .lss v7 (.i .i64 (Int.ofNat 0)) h7) fun v8 h8 =>
 aS v8 (
 bnd (r 54 [] h8) fun v9 h9 =>
 bnd (aC 0 v9 h9) fun v10 h10 =>
 bnd (aC 1 v9 h10) fun v11 h11 =>
 some (.t [v10, v11], h11)) (
 bnd (aN x0 h8) fun v12 h12 =>
 bnd (aB 1 v12 h12) fun v13 h13 =>
 bnd (aA v13 h13) fun v14 h14 =>
 bnd (aD .eql v14 (.i .i64 (Int.ofNat 41)) h14) fun v15 h15 =>
 aS v15 (
 bnd (aN x0 h15) fun v16 h16 =>
 bnd (aB 0 v16 h16) fun v17 h17 =>
 bnd (aA v17 h17) fun v18 h18 =>
 bnd (aN x0 h18) fun v19 h19 =>
 bnd (aB 2 v19 h19) fun v20 h20 =>
 bnd (aA v20 h20) fun v21 h21 =>
 bnd (r 35 [v18, v21] h21) fun v22 h22 =>
 some (.t [v22, (.i .i64 (Int.ofNat 0))], h22)) (
 bnd (aN x0 h15) fun v23 h23 =>
 bnd (aB 0 v23 h23) fun v24 h24 =>
 bnd (aA v24 h24) fun v25 h25 =>
 bnd (aN x0 h25) fun v26 h26 =>
 bnd (aB 0 v26 h26) fun v27 h27 =>
 bnd (aA v27 h27) fun v28 h28 =>
 bnd (aN x0 h28) fun v29 h29 =>
 bnd (aB 2 v29 h29) fun v30 h30 =>
 bnd (aA v30 h30) fun v31 h31 =>
 bnd (r 34 [v28, v31] h31) fun v32 h32 =>
 cnd (bI (aA v24 h32) v25 && true) (
 bnd (r 44 [v25, v32] h32) fun v33 h33 =>
 bnd (aC 0 v33 h33) fun v34 h34 =>
 bnd (aC 1 v33 h34) fun v35 h35 =>
 some (.t [v34, v35], h35))))
noncomputable abbrev c60 : Code := cf Tryz.f60
noncomputable abbrev r60 : K := aQ CF Tryz.f60
noncomputable def D60 (r : RT) (n : Nat) (c : Code) (X : Nat → K) (k : K) : K := aM CF r 49 n c X r60 k
theorem dQf : D60 r n c60 x0 r60 = (K1 (s60 r n) 0) :=
 (by kernel_rfl)
theorem dEd : aF CF r n 60 args h = s60 r n (aT args 0) h :=
 (by kernel_rfl : aF CF r n 60 args h = D60 r n c60 x0 r60 (aI args) h).trans ((congrFun (congrFun (dQf r n) (aI args)) h).trans (by kernel_rfl))
noncomputable def s67 (r : RT) (n : Nat) (x0 x1 : DV) (h0 : Hp) : aH :=
 bnd (aN x0 h0) fun v1 h1 =>
 bnd (aB 0 v1 h1) fun v2 h2 =>
 bnd (aA v2 h2) fun v3 h3 =>
 bnd (isF [v3, x1] h3) fun v4 h4 =>
 bnd (gD v4 true (some (x0, h4)) h4) fun v5 h5 =>
 bnd (gD v4 true (aN v5 h5) h5) fun v6 h6 =>
 bnd (gD v4 true (aB 0 v6 h6) h6) fun v7 h7 =>
 bnd (gD v4 true (aA v7 h7) h7) fun v8 h8 =>
 bnd (gD v4 true (some (x1, h8)) h8) fun v9 h9 =>
 bnd (gD v4 true (iK [v8, v9] h9) h9) fun v10 h10 =>
 bnd (gD v4 true (some (x0, h10)) h10) fun v11 h11 =>
 bnd (gD v4 true (r 30 [v11, (aE 1)] h11) h11) fun v12 h12 =>
 bnd (gD v4 true (aD .eql v10 v12 h12) h12) fun v13 h13 =>
 bnd (aP v4 v13 (.b false) h13) fun v14 h14 =>
 bnd (gD v14 true (some (x0, h14)) h14) fun v15 h15 =>
 bnd (gD v14 true (aN v15 h15) h15) fun v16 h16 =>
 bnd (gD v14 true (aB 0 v16 h16) h16) fun v17 h17 =>
 bnd (gD v14 true (aA v17 h17) h17) fun v18 h18 =>
 bnd (gD v14 true (some (x1, h18)) h18) fun v19 h19 =>
 bnd (gD v14 true (fF [v18, v19] h19) h19) fun v20 h20 =>
 bnd (gD v14 true (aD .eql v20 (aE 6) h20) h20) fun v21 h21 =>
 bnd (aP v14 v21 (.b false) h21) fun v22 h22 =>
 some (v22, h22)
noncomputable abbrev c67 : Code := cf Tryz.f67
noncomputable abbrev r67 : K := aQ CF Tryz.f67
noncomputable def D67 (r : RT) (n : Nat) (c : Code) (X : Nat → K) (k : K) : K := aM CF r 31 n c X r67 k
theorem dNf : D67 r n c67 x0 r67 = (K2 (s67 r n) 0 1) :=
 (by kernel_rfl)
theorem dFo : aF CF r n 67 args h = s67 r n (aT args 0) (aT args 1) h :=
 (by kernel_rfl : aF CF r n 67 args h = D67 r n c67 x0 r67 (aI args) h).trans ((congrFun (congrFun (dNf r n) (aI args)) h).trans (by kernel_rfl))
noncomputable def s71 (r : RT) (n : Nat) (x0 : DV) (h0 : Hp) : aH :=
 bnd (gK [x0] h0) fun v1 h1 =>
 bnd (aC 0 v1 h1) fun v2 h2 =>
 bnd (aC 1 v1 h2) fun v3 h3 =>
 some (v2, h3)
noncomputable abbrev c71 : Code := cf Tryz.f71
noncomputable abbrev r71 : K := aQ CF Tryz.f71
noncomputable def D71 (r : RT) (n : Nat) (c : Code) (X : Nat → K) (k : K) : K := aM CF r 11 n c X r71 k
theorem dLv : D71 r n c71 x0 r71 = (K1 (s71 r n) 0) :=
 (by kernel_rfl)
theorem dFr : aF CF r n 71 args h = s71 r n (aT args 0) h :=
 (by kernel_rfl : aF CF r n 71 args h = D71 r n c71 x0 r71 (aI args) h).trans ((congrFun (congrFun (dLv r n) (aI args)) h).trans (by kernel_rfl))
noncomputable def s73 (r : RT) (n : Nat) (x0 x1 x2 : DV) (h0 : Hp) : aH :=
 bnd (r 30 [x0, (aE 9)] h0) fun v1 h1 =>
 bnd (aL [(aE 0), (aE 0)] 2 [(0, 1, x1), (1, 1, x2)] h1) fun v2 h2 =>
 bnd (r 82 [x0, v1, (aE 0), v2] h2) fun v3 h3 =>
 bnd (aC 0 v3 h3) fun v4 h4 =>
 bnd (aC 1 v3 h4) fun v5 h5 =>
 some (.t [v4, v5], h5)
noncomputable abbrev c73 : Code := cf Tryz.f73
noncomputable abbrev r73 : K := aQ CF Tryz.f73
noncomputable def D73 (r : RT) (n : Nat) (c : Code) (X : Nat → K) (k : K) : K := aM CF r 17 n c X r73 k
theorem dMm : D73 r n c73 x0 r73 = (K3 (s73 r n) 0 1 2) :=
 (by kernel_rfl)
theorem cRe : aF CF r n 73 args h = s73 r n (aT args 0) (aT args 1) (aT args 2) h :=
 (by kernel_rfl : aF CF r n 73 args h = D73 r n c73 x0 r73 (aI args) h).trans ((congrFun (congrFun (dMm r n) (aI args)) h).trans (by kernel_rfl))
noncomputable def s75 (r : RT) (n : Nat) (x0 x1 x2 : DV) (h0 : Hp) : aH :=
 bnd (r 45 [x0, x1] h0) fun v1 h1 =>
 bnd (aD .eql v1 (aE 0) h1) fun v2 h2 =>
 aS v2 (
 some (.t [(aE 0), (aE 0), (.s []), (aE 24)], h2)) (
 bnd (r 99 [x2] h2) fun v3 h3 =>
 bnd (aC 0 v3 h3) fun v4 h4 =>
 bnd (aC 1 v3 h4) fun v5 h5 =>
 bnd (aC 2 v3 h5) fun v6 h6 =>
 bnd (bL jY h6) fun v7 h7 =>
 bnd (aG 6 v7 v4 h7) fun _ h8 =>
 bnd (aD .neq v6 (aE 0) h8) fun v9 h9 =>
 aS v9 (
 some (.t [(aE 0), v5, (.s []), v6], h9)) (
 bnd (aK 6 v7 (resv 1 h9)) fun v10 h10 =>
 bnd (r 77 [x0, v1] h10) fun v11 h11 =>
 cnd (bI (aK 6 v7 h11) v10 && true) (
 bnd (r 100 [v10, v11] h11) fun v12 h12 =>
 bnd (aC 0 v12 h12) fun v13 h13 =>
 bnd (aC 1 v12 h13) fun v14 h14 =>
 bnd (aC 2 v12 h14) fun v15 h15 =>
 bnd (jW (bW 0 h9.next) [(.s []), (aE 0), (aE 0), (aE 0), .l0, .l0] h15) fun v16 h16 =>
 bnd (aG 6 v16 v13 h16) fun v17 h17 =>
 bnd (aD .neq v15 (aE 0) h17) fun v18 h18 =>
 aS v18 (
 some (.t [(aE 0), (aE 0), v14, v15], h18)) (
 bnd (aK 6 v16 h18) fun v19 h19 =>
 bnd (r 101 [x0, v1, v19] h19) fun v20 h20 =>
 bnd (aC 0 v20 h20) fun v21 h21 =>
 bnd (aC 1 v20 h21) fun v22 h22 =>
 bnd (aD .neq v22 (aE 0) h22) fun v23 h23 =>
 aS v23 (
 some (.t [(aE 0), (aE 0), (.s []), v22], h23)) (
 some (.t [v21, (aE 0), (.s []), (aE 0)], h23))))))
noncomputable abbrev c75 : Code := cf Tryz.f75
noncomputable abbrev r75 : K := aQ CF Tryz.f75
noncomputable def D75 (r : RT) (n : Nat) (c : Code) (X : Nat → K) (k : K) : K := aM CF r 56 n c X r75 k
theorem dOf : D75 r n c75 x0 r75 = (K3 (s75 r n) 0 1 2) :=
 (by kernel_rfl)
theorem dEn : aF CF r n 75 args h = s75 r n (aT args 0) (aT args 1) (aT args 2) h :=
 (by kernel_rfl : aF CF r n 75 args h = D75 r n c75 x0 r75 (aI args) h).trans ((congrFun (congrFun (dOf r n) (aI args)) h).trans (by kernel_rfl))
noncomputable def bY (r : RT) (n : Nat) (x5 : DV) (h0 : Hp) : aH :=
 some (x5, h0)
noncomputable def cU (r : RT) (n : Nat) (kk5 : dL) (x0 x1 x5 x6 : DV) (h0 : Hp) : aH :=
 bnd (aD .sub x6 (aE 1) h0) fun v1 h1 =>
  kk5 x0 x1 x5 v1 h1
noncomputable def eC (r : RT) (n : Nat) (kk5 : dL) (x0 x1 x5 x6 x7 : DV) (h0 : Hp) : aH :=
 bnd (bA 1 16 x7 x5 h0) fun v1 h1 =>
 bnd (r 35 [x0, x1] h1) fun v2 h2 =>
  cU r n kk5 x0 v2 v1 x6 h2
noncomputable def aFw (r : RT) (n : Nat) (kk5 : dL) (kk12 : TT8) (x0 x1 x5 x6 x7 x8 x34 x35 : DV) (h0 : Hp) : aH :=
 bnd (aD .lss x35 x34 h0) fun v1 h1 =>
 aS v1 (
 bnd (r 51 [x0, x8, x35] h1) fun v2 h2 =>
 bnd (r 33 [x0, v2] h2) fun v3 h3 =>
 bnd (aC 0 v3 h3) fun v4 h4 =>
 bnd (aC 1 v3 h4) fun v5 h5 =>
 bnd (aL [(.s [])] 1 [(0, 1, v4)] h5) fun v6 h6 =>
 bnd (bA 1 16 x7 v6 h6) fun v7 h7 =>
 bnd (aD .add x35 (aE 1) h7) fun v8 h8 =>
      kk12 x0 x1 x5 x6 v7 x8 x34 v8 h8) (
      eC r n kk5 x0 x1 x5 x6 x7 h1)
noncomputable def tL (r : RT) (n : Nat) (kk5 : dL) (m : Nat) : TT8 :=
 Nat.rec (motive := fun _ => TT8) (fun _ _ _ _ _ _ _ _ _ => none) (fun _ ih => aFw r n kk5 ih) m
noncomputable def bIf (r : RT) (n : Nat) (kk5 : dL) : TT8 := tL r n kk5 n
noncomputable def aSv (r : RT) (n : Nat) (kk5 : dL) (x0 x1 x5 x6 x7 x8 x34 x35 : DV) (h0 : Hp) : aH :=
 bIf r n kk5 x0 x1 x5 x6 x7 x8 x34 x35 h0
noncomputable def bPo (r : RT) (n : Nat) (kk5 : dL) (x0 x1 x5 x6 x7 x8 : DV) (h0 : Hp) : aH :=
 bnd (aN x0 h0) fun v1 h1 =>
 bnd (aB 0 v1 h1) fun v2 h2 =>
 bnd (aA v2 h2) fun v3 h3 =>
 bnd (fF [v3, x8] h3) fun v4 h4 =>
  aSv r n kk5 x0 x1 x5 x6 x7 x8 v4 (aE 0) h4
noncomputable def bVz (r : RT) (n : Nat) (kk5 : dL) (x0 x1 x5 x6 x7 : DV) (h0 : Hp) : aH :=
 bnd (r 51 [x0, x1, (aE 3)] h0) fun v1 h1 =>
  bPo r n kk5 x0 x1 x5 x6 x7 v1 h1
noncomputable def bQh (r : RT) (n : Nat) (kk5 : dL) (x0 x1 x5 x6 : DV) (h0 : Hp) : aH :=
 bVz r n kk5 x0 x1 x5 x6 .l0 h0
noncomputable def bNt (r : RT) (n : Nat) (kk5 : dL) (x0 x1 x5 x6 : DV) (h0 : Hp) : aH :=
 bnd (aD .gtr x6 (aE 0) h0) fun v1 h1 =>
 bnd (gD v1 true (some (x0, h1)) h1) fun v2 h2 =>
 bnd (gD v1 true (some (x1, h2)) h2) fun v3 h3 =>
 bnd (gD v1 true (r 67 [v2, v3] h3) h3) fun v4 h4 =>
 bnd (aP v1 v4 (.b false) h4) fun v5 h5 =>
 aS v5 (
   bQh r n kk5 x0 x1 x5 x6 h5) (
   bY r n x5 h5)
noncomputable def aIk (r : RT) (n : Nat) (m : Nat) : dL :=
 Nat.rec (motive := fun _ => dL) (fun _ _ _ _ _ => none) (fun _ ih => bNt r n ih) m
noncomputable def cQd (r : RT) (n : Nat) : dL := aIk r n n
noncomputable def bUe (r : RT) (n : Nat) (x0 x1 x5 x6 : DV) (h0 : Hp) : aH :=
 cQd r n x0 x1 x5 x6 h0
noncomputable def bIo (r : RT) (n : Nat) (x0 x1 x5 : DV) (h0 : Hp) : aH :=
 bnd (aN x0 h0) fun v1 h1 =>
 bnd (aB 0 v1 h1) fun v2 h2 =>
 bnd (aA v2 h2) fun v3 h3 =>
 bnd (zV [v3] h3) fun v4 h4 =>
  bUe r n x0 x1 x5 v4 h4
noncomputable def bYz (r : RT) (n : Nat) (x0 x1 : DV) (h0 : Hp) : aH :=
 bIo r n x0 x1 .l0 h0
noncomputable def s77 (r : RT) (n : Nat) (x0 x1 : DV) (h0 : Hp) : aH :=
 bYz r n x0 x1 h0
noncomputable abbrev c77 : Code := cf Tryz.f77
noncomputable abbrev bBd : Code := cR c77
noncomputable abbrev aWs : Code := cR bBd
noncomputable abbrev dFt : Code := cR aWs
noncomputable abbrev aLc : Code := cL aWs
noncomputable abbrev bZo : Code := cR aLc
noncomputable abbrev aXg : Code := cL bZo
noncomputable abbrev mY : Code := cL aXg
noncomputable abbrev aVv : Code := cR mY
noncomputable abbrev dHx : Code := cR aVv
noncomputable abbrev aCm : Code := cL aVv
noncomputable abbrev aIt : Code := cL aCm
noncomputable abbrev aGg : Code := cR aIt
noncomputable abbrev aCz : Code := cR aGg
noncomputable abbrev dAr : Code := cR aCz
noncomputable abbrev xY : Code := cL aCz
noncomputable abbrev aRs : Code := cR xY
noncomputable abbrev aGq : Code := cL aRs
noncomputable abbrev mH : Code := cL aGq
noncomputable abbrev bHz : Code := cL xY
noncomputable abbrev bTy : Code := cL aGg
noncomputable abbrev bUo : Code := cL aIt
noncomputable abbrev bSg : Code := cL mY
noncomputable abbrev bRa : Code := cL aLc
noncomputable abbrev cAi : Code := cL bBd
noncomputable abbrev bRc : Code := cL c77
noncomputable abbrev r77 : K := aQ CF Tryz.f77
noncomputable def D77 (r : RT) (n : Nat) (c : Code) (X : Nat → K) (k : K) : K := aM CF r 59 n c X r77 k
theorem cVf : D77 r n dFt x0 r77 = (K1 (bY r n) 5) :=
 (by kernel_rfl)
theorem cVg (kk5 : dL) : D77 r n dHx (xs x0 0 (K1 (bY r n) 5)) (K4 kk5 0 1 5 6) = (K4 (cU r n kk5) 0 1 5 6) :=
 (by kernel_rfl)
theorem cCb (kk5 : dL) : D77 r n dAr (xs (xs x0 0 (K1 (bY r n) 5)) 1 (K4 (cU r n kk5) 0 1 5 6)) (K4 (cU r n kk5) 0 1 5 6) = (K5 (eC r n kk5) 0 1 5 6 7) :=
 (by kernel_rfl)
theorem bGs (kk5 : dL) (kk12 : TT8) (q0 : TT1) (q1 : dL) (q2 : cD) : D77 r n mH (xs (xs (xs x0 0 (K1 q0 5)) 1 (K4 q1 0 1 5 6)) 2 (K5 q2 0 1 5 6 7)) (K8 kk12 0 1 5 6 7 8 34 35) = fun (env : aW) (h : Hp) =>
 bnd (aD .lss (env 35) (env 34) h) fun v1 h1 =>
 aS v1 (
 bnd (r 51 [(env 0), (env 8), (env 35)] h1) fun v2 h2 =>
 bnd (r 33 [(env 0), v2] h2) fun v3 h3 =>
 bnd (aC 0 v3 h3) fun v4 h4 =>
 bnd (aC 1 v3 h4) fun v5 h5 =>
 bnd (aL [(.s [])] 1 [(0, 1, v4)] h5) fun v6 h6 =>
 bnd (bA 1 16 (env 7) v6 h6) fun v7 h7 =>
 bnd (aD .add (env 35) (aE 1) h7) fun v8 h8 =>
      kk12 (env 0) (env 1) (env 5) (env 6) v7 (env 8) (env 34) v8 h8) (
      q2 (env 0) (env 1) (env 5) (env 6) (env 7) h1) := by kernel_rfl
theorem bDi (kk5 : dL) (kk12 : TT8) : (fun (env : aW) (h : Hp) =>
 bnd (aD .lss (env 35) (env 34) h) fun v1 h1 =>
 aS v1 (
 bnd (r 51 [(env 0), (env 8), (env 35)] h1) fun v2 h2 =>
 bnd (r 33 [(env 0), v2] h2) fun v3 h3 =>
 bnd (aC 0 v3 h3) fun v4 h4 =>
 bnd (aC 1 v3 h4) fun v5 h5 =>
 bnd (aL [(.s [])] 1 [(0, 1, v4)] h5) fun v6 h6 =>
 bnd (bA 1 16 (env 7) v6 h6) fun v7 h7 =>
 bnd (aD .add (env 35) (aE 1) h7) fun v8 h8 =>
      kk12 (env 0) (env 1) (env 5) (env 6) v7 (env 8) (env 34) v8 h8) (
      eC r n kk5 (env 0) (env 1) (env 5) (env 6) (env 7) h1)) = (K8 (aFw r n kk5 kk12) 0 1 5 6 7 8 34 35) := by kernel_rfl
theorem bOa (kk5 : dL) (kk12 : TT8) : D77 r n mH (xs (xs (xs x0 0 (K1 (bY r n) 5)) 1 (K4 (cU r n kk5) 0 1 5 6)) 2 (K5 (eC r n kk5) 0 1 5 6 7)) (K8 kk12 0 1 5 6 7 8 34 35) = (K8 (aFw r n kk5 kk12) 0 1 5 6 7 8 34 35) :=
 (bGs r n kk5 kk12 (bY r n) (cU r n kk5) (eC r n kk5)).trans (bDi r n kk5 kk12)
theorem cAe (kk5 : dL) (m : Nat) : aO (fun kk => D77 r n mH (xs (xs (xs x0 0 (K1 (bY r n) 5)) 1 (K4 (cU r n kk5) 0 1 5 6)) 2 (K5 (eC r n kk5) 0 1 5 6 7)) kk) m = (K8 (tL r n kk5 m) 0 1 5 6 7 8 34 35) := by
 induction m with
 | zero => exact (by kernel_rfl : aO (fun kk => D77 r n mH (xs (xs (xs x0 0 (K1 (bY r n) 5)) 1 (K4 (cU r n kk5) 0 1 5 6)) 2 (K5 (eC r n kk5) 0 1 5 6 7)) kk) 0 = (K8 (tL r n kk5 0) 0 1 5 6 7 8 34 35))
 | succ m ih =>
  refine (by kernel_rfl : aO (fun kk => D77 r n mH (xs (xs (xs x0 0 (K1 (bY r n) 5)) 1 (K4 (cU r n kk5) 0 1 5 6)) 2 (K5 (eC r n kk5) 0 1 5 6 7)) kk) (m + 1) = D77 r n mH (xs (xs (xs x0 0 (K1 (bY r n) 5)) 1 (K4 (cU r n kk5) 0 1 5 6)) 2 (K5 (eC r n kk5) 0 1 5 6 7)) (aO (fun kk => D77 r n mH (xs (xs (xs x0 0 (K1 (bY r n) 5)) 1 (K4 (cU r n kk5) 0 1 5 6)) 2 (K5 (eC r n kk5) 0 1 5 6 7)) kk) m)).trans ?_
  rw [ih]
  exact (bOa r n kk5 (tL r n kk5 m)).trans (by kernel_rfl)
theorem cPf (kk5 : dL) : D77 r n aGq (xs (xs (xs x0 0 (K1 (bY r n) 5)) 1 (K4 (cU r n kk5) 0 1 5 6)) 2 (K5 (eC r n kk5) 0 1 5 6 7)) (K5 (eC r n kk5) 0 1 5 6 7) = (K8 (bIf r n kk5) 0 1 5 6 7 8 34 35) :=
 (by kernel_rfl : D77 r n aGq (xs (xs (xs x0 0 (K1 (bY r n) 5)) 1 (K4 (cU r n kk5) 0 1 5 6)) 2 (K5 (eC r n kk5) 0 1 5 6 7)) (K5 (eC r n kk5) 0 1 5 6 7) = aO (fun kk => D77 r n mH (xs (xs (xs x0 0 (K1 (bY r n) 5)) 1 (K4 (cU r n kk5) 0 1 5 6)) 2 (K5 (eC r n kk5) 0 1 5 6 7)) kk) n).trans ((cAe r n kk5 n).trans (by kernel_rfl))
theorem cKy (kk5 : dL) : D77 r n aRs (xs (xs x0 0 (K1 (bY r n) 5)) 1 (K4 (cU r n kk5) 0 1 5 6)) (K5 (eC r n kk5) 0 1 5 6 7) = (K8 (aSv r n kk5) 0 1 5 6 7 8 34 35) :=
 (by kernel_rfl : D77 r n aRs (xs (xs x0 0 (K1 (bY r n) 5)) 1 (K4 (cU r n kk5) 0 1 5 6)) (K5 (eC r n kk5) 0 1 5 6 7) = D77 r n aGq (xs (xs (xs x0 0 (K1 (bY r n) 5)) 1 (K4 (cU r n kk5) 0 1 5 6)) 2 (K5 (eC r n kk5) 0 1 5 6 7)) (K5 (eC r n kk5) 0 1 5 6 7)).trans
 ((cPf r n kk5).trans (by kernel_rfl))
theorem cGh (kk5 : dL) : D77 r n aCz (xs (xs x0 0 (K1 (bY r n) 5)) 1 (K4 (cU r n kk5) 0 1 5 6)) (K4 (cU r n kk5) 0 1 5 6) = D77 r n xY (xs (xs x0 0 (K1 (bY r n) 5)) 1 (K4 (cU r n kk5) 0 1 5 6)) (K5 (eC r n kk5) 0 1 5 6 7) :=
 congrArg (fun k => D77 r n xY (xs (xs x0 0 (K1 (bY r n) 5)) 1 (K4 (cU r n kk5) 0 1 5 6)) k) (cCb r n kk5)
theorem cFq (kk5 : dL) : D77 r n xY (xs (xs x0 0 (K1 (bY r n) 5)) 1 (K4 (cU r n kk5) 0 1 5 6)) (K5 (eC r n kk5) 0 1 5 6 7) = D77 r n bHz (xs (xs x0 0 (K1 (bY r n) 5)) 1 (K4 (cU r n kk5) 0 1 5 6)) (K8 (aSv r n kk5) 0 1 5 6 7 8 34 35) :=
 congrArg (fun k => D77 r n bHz (xs (xs x0 0 (K1 (bY r n) 5)) 1 (K4 (cU r n kk5) 0 1 5 6)) k) (cKy r n kk5)
theorem cWh (kk5 : dL) : D77 r n aCz (xs (xs x0 0 (K1 (bY r n) 5)) 1 (K4 (cU r n kk5) 0 1 5 6)) (K4 (cU r n kk5) 0 1 5 6) = (K6 (bPo r n kk5) 0 1 5 6 7 8) :=
 (cGh r n kk5).trans
 ((cFq r n kk5).trans
 ((by kernel_rfl)))
theorem cHq (kk5 : dL) : D77 r n aGg (xs (xs x0 0 (K1 (bY r n) 5)) 1 (K4 (cU r n kk5) 0 1 5 6)) (K4 (cU r n kk5) 0 1 5 6) = D77 r n bTy (xs (xs x0 0 (K1 (bY r n) 5)) 1 (K4 (cU r n kk5) 0 1 5 6)) (K6 (bPo r n kk5) 0 1 5 6 7 8) :=
 congrArg (fun k => D77 r n bTy (xs (xs x0 0 (K1 (bY r n) 5)) 1 (K4 (cU r n kk5) 0 1 5 6)) k) (cWh r n kk5)
theorem cTi (kk5 : dL) : D77 r n aGg (xs (xs x0 0 (K1 (bY r n) 5)) 1 (K4 (cU r n kk5) 0 1 5 6)) (K4 (cU r n kk5) 0 1 5 6) = (K5 (bVz r n kk5) 0 1 5 6 7) :=
 (cHq r n kk5).trans
 ((by kernel_rfl))
theorem cKq (kk5 : dL) : D77 r n aVv (xs x0 0 (K1 (bY r n) 5)) (K4 kk5 0 1 5 6) = D77 r n aCm (xs x0 0 (K1 (bY r n) 5)) (K4 (cU r n kk5) 0 1 5 6) :=
 congrArg (fun k => D77 r n aCm (xs x0 0 (K1 (bY r n) 5)) k) (cVg r n kk5)
theorem cCp (kk5 : dL) : D77 r n aIt (xs (xs x0 0 (K1 (bY r n) 5)) 1 (K4 (cU r n kk5) 0 1 5 6)) (K4 (cU r n kk5) 0 1 5 6) = D77 r n bUo (xs (xs x0 0 (K1 (bY r n) 5)) 1 (K4 (cU r n kk5) 0 1 5 6)) (K5 (bVz r n kk5) 0 1 5 6 7) :=
 congrArg (fun k => D77 r n bUo (xs (xs x0 0 (K1 (bY r n) 5)) 1 (K4 (cU r n kk5) 0 1 5 6)) k) (cTi r n kk5)
theorem cYa (kk5 : dL) : D77 r n aVv (xs x0 0 (K1 (bY r n) 5)) (K4 kk5 0 1 5 6) = (K4 (bQh r n kk5) 0 1 5 6) :=
 (cKq r n kk5).trans
 ((by kernel_rfl : D77 r n aCm (xs x0 0 (K1 (bY r n) 5)) (K4 (cU r n kk5) 0 1 5 6) = D77 r n aIt (xs (xs x0 0 (K1 (bY r n) 5)) 1 (K4 (cU r n kk5) 0 1 5 6)) (K4 (cU r n kk5) 0 1 5 6)).trans
 ((cCp r n kk5).trans
 ((by kernel_rfl))))
theorem cCm (kk5 : dL) : D77 r n mY (xs x0 0 (K1 (bY r n) 5)) (K4 kk5 0 1 5 6) = D77 r n bSg (xs x0 0 (K1 (bY r n) 5)) (K4 (bQh r n kk5) 0 1 5 6) :=
 congrArg (fun k => D77 r n bSg (xs x0 0 (K1 (bY r n) 5)) k) (cYa r n kk5)
theorem cJx (kk5 : dL) : D77 r n mY (xs x0 0 (K1 (bY r n) 5)) (K4 kk5 0 1 5 6) = (K4 (bNt r n kk5) 0 1 5 6) :=
 (cCm r n kk5).trans
 ((by kernel_rfl))
theorem cJs (m : Nat) : aO (fun kk => D77 r n mY (xs x0 0 (K1 (bY r n) 5)) kk) m = (K4 (aIk r n m) 0 1 5 6) := by
 induction m with
 | zero => exact (by kernel_rfl : aO (fun kk => D77 r n mY (xs x0 0 (K1 (bY r n) 5)) kk) 0 = (K4 (aIk r n 0) 0 1 5 6))
 | succ m ih =>
  refine (by kernel_rfl : aO (fun kk => D77 r n mY (xs x0 0 (K1 (bY r n) 5)) kk) (m + 1) = D77 r n mY (xs x0 0 (K1 (bY r n) 5)) (aO (fun kk => D77 r n mY (xs x0 0 (K1 (bY r n) 5)) kk) m)).trans ?_
  rw [ih]
  exact (cJx r n (aIk r n m)).trans (by kernel_rfl)
theorem dDh : D77 r n aXg (xs x0 0 (K1 (bY r n) 5)) (K1 (bY r n) 5) = (K4 (cQd r n) 0 1 5 6) :=
 (by kernel_rfl : D77 r n aXg (xs x0 0 (K1 (bY r n) 5)) (K1 (bY r n) 5) = aO (fun kk => D77 r n mY (xs x0 0 (K1 (bY r n) 5)) kk) n).trans ((cJs r n n).trans (by kernel_rfl))
theorem cRz : D77 r n bZo x0 (K1 (bY r n) 5) = (K4 (bUe r n) 0 1 5 6) :=
 (by kernel_rfl : D77 r n bZo x0 (K1 (bY r n) 5) = D77 r n aXg (xs x0 0 (K1 (bY r n) 5)) (K1 (bY r n) 5)).trans
 ((dDh r n).trans (by kernel_rfl))
theorem cIu : D77 r n aWs x0 r77 = D77 r n aLc x0 (K1 (bY r n) 5) :=
 congrArg (fun k => D77 r n aLc x0 k) (cVf r n)
theorem cMx : D77 r n aLc x0 (K1 (bY r n) 5) = D77 r n bRa x0 (K4 (bUe r n) 0 1 5 6) :=
 congrArg (fun k => D77 r n bRa x0 k) (cRz r n)
theorem cYx : D77 r n aWs x0 r77 = (K3 (bIo r n) 0 1 5) :=
 (cIu r n).trans
 ((cMx r n).trans
 ((by kernel_rfl)))
theorem bUt : D77 r n bBd x0 r77 = D77 r n cAi x0 (K3 (bIo r n) 0 1 5) :=
 congrArg (fun k => D77 r n cAi x0 k) (cYx r n)
theorem cYq : D77 r n bBd x0 r77 = (K2 (bYz r n) 0 1) :=
 (bUt r n).trans
 ((by kernel_rfl))
theorem dCn : D77 r n c77 x0 r77 = D77 r n bRc x0 (K2 (bYz r n) 0 1) :=
 congrArg (fun k => D77 r n bRc x0 k) (cYq r n)
theorem dPq : D77 r n c77 x0 r77 = (K2 (s77 r n) 0 1) :=
 (dCn r n).trans
 ((by kernel_rfl))
theorem dKj : aF CF r n 77 args h = s77 r n (aT args 0) (aT args 1) h :=
 (by kernel_rfl : aF CF r n 77 args h = D77 r n c77 x0 r77 (aI args) h).trans ((congrFun (congrFun (dPq r n) (aI args)) h).trans (by kernel_rfl))
noncomputable def gP (r : RT) (n : Nat) (x10 : DV) (h0 : Hp) : aH :=
 some (.t [x10, (aE 0)], h0)
noncomputable def qB (r : RT) (n : Nat) (kk6 : cD) (x0 x10 x29 x30 x31 : DV) (h0 : Hp) : aH :=
 bnd (aD .lss x31 x30 h0) fun v1 h1 =>
 aS v1 (
 bnd (aJ 1 x29 x31 h1) fun v2 h2 =>
 bnd (aA v2 h2) fun v3 h3 =>
 bnd (aN x0 h3) fun v4 h4 =>
 bnd (aB 0 v4 h4) fun v5 h5 =>
 bnd (aA v5 h5) fun v6 h6 =>
 bnd (zN [v6, x10, x31, v3] h6) fun v7 h7 =>
 bnd (aD .add x31 (aE 1) h7) fun v8 h8 =>
      kk6 x0 x10 x29 x30 v8 h8) (
      gP r n x10 h1)
noncomputable def nW (r : RT) (n : Nat) (m : Nat) : cD :=
 Nat.rec (motive := fun _ => cD) (fun _ _ _ _ _ _ => none) (fun _ ih => qB r n ih) m
noncomputable def bVm (r : RT) (n : Nat) : cD := nW r n n
noncomputable def aXr (r : RT) (n : Nat) (x0 x10 x29 x30 x31 : DV) (h0 : Hp) : aH :=
 bVm r n x0 x10 x29 x30 x31 h0
noncomputable def aYp (r : RT) (n : Nat) (x0 x3 x10 : DV) (h0 : Hp) : aH :=
 bnd (bX x3 h0) fun v1 h1 =>
  aXr r n x0 x10 x3 v1 (aE 0) h1
noncomputable def aUy (r : RT) (n : Nat) (x0 x3 x10 x11 : DV) (h0 : Hp) : aH :=
 bnd (aD .neq x11 (aE 0) h0) fun v1 h1 =>
 aS v1 (
 some (.t [(aE 0), x11], h1)) (
  aYp r n x0 x3 x10 h1)
noncomputable def aYz (r : RT) (n : Nat) (x0 x1 x2 x3 : DV) (h0 : Hp) : aH :=
 bnd (aN x0 h0) fun v1 h1 =>
 bnd (aB 0 v1 h1) fun v2 h2 =>
 bnd (aA v2 h2) fun v3 h3 =>
 bnd (bX x3 h3) fun v4 h4 =>
 bnd (iP [v3, x1, x2, v4] h4) fun v5 h5 =>
 bnd (aC 0 v5 h5) fun v6 h6 =>
 bnd (aC 1 v5 h6) fun v7 h7 =>
  aUy r n x0 x3 v6 v7 h7
noncomputable def s82 (r : RT) (n : Nat) (x0 x1 x2 x3 : DV) (h0 : Hp) : aH :=
 aYz r n x0 x1 x2 x3 h0
noncomputable abbrev c82 : Code := cf Tryz.f82
noncomputable abbrev aXp : Code := cR c82
noncomputable abbrev aWf : Code := cR aXp
noncomputable abbrev aYm : Code := cR aWf
noncomputable abbrev dHe : Code := cR aYm
noncomputable abbrev aMv : Code := cL aYm
noncomputable abbrev bSb : Code := cR aMv
noncomputable abbrev aWu : Code := cL bSb
noncomputable abbrev wK : Code := cL aWu
noncomputable abbrev cQj : Code := cL aMv
noncomputable abbrev cAn : Code := cL aWf
noncomputable abbrev bQb : Code := cL aXp
noncomputable abbrev bPk : Code := cL c82
noncomputable abbrev r82 : K := aQ CF Tryz.f82
noncomputable def D82 (r : RT) (n : Nat) (c : Code) (X : Nat → K) (k : K) : K := aM CF r 46 n c X r82 k
theorem cUr : D82 r n dHe x0 r82 = (K1 (gP r n) 10) :=
 (by kernel_rfl)
theorem cBw (kk6 : cD) : D82 r n wK (xs x0 0 (K1 (gP r n) 10)) (K5 kk6 0 10 29 30 31) = (K5 (qB r n kk6) 0 10 29 30 31) :=
 (by kernel_rfl)
theorem cLj (m : Nat) : aO (fun kk => D82 r n wK (xs x0 0 (K1 (gP r n) 10)) kk) m = (K5 (nW r n m) 0 10 29 30 31) := by
 induction m with
 | zero => exact (by kernel_rfl : aO (fun kk => D82 r n wK (xs x0 0 (K1 (gP r n) 10)) kk) 0 = (K5 (nW r n 0) 0 10 29 30 31))
 | succ m ih =>
  refine (by kernel_rfl : aO (fun kk => D82 r n wK (xs x0 0 (K1 (gP r n) 10)) kk) (m + 1) = D82 r n wK (xs x0 0 (K1 (gP r n) 10)) (aO (fun kk => D82 r n wK (xs x0 0 (K1 (gP r n) 10)) kk) m)).trans ?_
  rw [ih]
  exact (cBw r n (nW r n m)).trans (by kernel_rfl)
theorem dDb : D82 r n aWu (xs x0 0 (K1 (gP r n) 10)) (K1 (gP r n) 10) = (K5 (bVm r n) 0 10 29 30 31) :=
 (by kernel_rfl : D82 r n aWu (xs x0 0 (K1 (gP r n) 10)) (K1 (gP r n) 10) = aO (fun kk => D82 r n wK (xs x0 0 (K1 (gP r n) 10)) kk) n).trans ((cLj r n n).trans (by kernel_rfl))
theorem cTe : D82 r n bSb x0 (K1 (gP r n) 10) = (K5 (aXr r n) 0 10 29 30 31) :=
 (by kernel_rfl : D82 r n bSb x0 (K1 (gP r n) 10) = D82 r n aWu (xs x0 0 (K1 (gP r n) 10)) (K1 (gP r n) 10)).trans
 ((dDb r n).trans (by kernel_rfl))
theorem cLi : D82 r n aYm x0 r82 = D82 r n aMv x0 (K1 (gP r n) 10) :=
 congrArg (fun k => D82 r n aMv x0 k) (cUr r n)
theorem cBb : D82 r n aMv x0 (K1 (gP r n) 10) = D82 r n cQj x0 (K5 (aXr r n) 0 10 29 30 31) :=
 congrArg (fun k => D82 r n cQj x0 k) (cTe r n)
theorem dCg : D82 r n aYm x0 r82 = (K3 (aYp r n) 0 3 10) :=
 (cLi r n).trans
 ((cBb r n).trans
 ((by kernel_rfl)))
theorem cFs : D82 r n aWf x0 r82 = D82 r n cAn x0 (K3 (aYp r n) 0 3 10) :=
 congrArg (fun k => D82 r n cAn x0 k) (dCg r n)
theorem cVp : D82 r n aWf x0 r82 = (K4 (aUy r n) 0 3 10 11) :=
 (cFs r n).trans
 ((by kernel_rfl))
theorem cPq : D82 r n aXp x0 r82 = D82 r n bQb x0 (K4 (aUy r n) 0 3 10 11) :=
 congrArg (fun k => D82 r n bQb x0 k) (cVp r n)
theorem cTv : D82 r n aXp x0 r82 = (K4 (aYz r n) 0 1 2 3) :=
 (cPq r n).trans
 ((by kernel_rfl))
theorem dKl : D82 r n c82 x0 r82 = D82 r n bPk x0 (K4 (aYz r n) 0 1 2 3) :=
 congrArg (fun k => D82 r n bPk x0 k) (cTv r n)
theorem dQu : D82 r n c82 x0 r82 = (K4 (s82 r n) 0 1 2 3) :=
 (dKl r n).trans
 ((by kernel_rfl))
theorem cQc : aF CF r n 82 args h = s82 r n (aT args 0) (aT args 1) (aT args 2) (aT args 3) h :=
 (by kernel_rfl : aF CF r n 82 args h = D82 r n c82 x0 r82 (aI args) h).trans ((congrFun (congrFun (dQu r n) (aI args)) h).trans (by kernel_rfl))
noncomputable def fO (r : RT) (n : Nat) (x0 x1 x8 : DV) (h0 : Hp) : aH :=
 bnd (r 82 [x0, x1, (aE 2), x8] h0) fun v1 h1 =>
 bnd (aC 0 v1 h1) fun v2 h2 =>
 bnd (aC 1 v1 h2) fun v3 h3 =>
 some (.t [v2, v3], h3)
noncomputable def nX (r : RT) (n : Nat) (kk5 : fE) (x0 x1 x2 x8 x11 x12 : DV) (h0 : Hp) : aH :=
 bnd (aD .lss x12 x11 h0) fun v1 h1 =>
 aS v1 (
 bnd (fB x2 x12 h1) fun v2 h2 =>
 bnd (dU .i64 v2 h2) fun v3 h3 =>
 bnd (aL [(aE 0)] 1 [(0, 1, v3)] h3) fun v4 h4 =>
 bnd (bA 1 8 x8 v4 h4) fun v5 h5 =>
 bnd (aD .add x12 (aE 1) h5) fun v6 h6 =>
      kk5 x0 x1 x2 v5 x11 v6 h6) (
      fO r n x0 x1 x8 h1)
noncomputable def nG (r : RT) (n : Nat) (m : Nat) : fE :=
 Nat.rec (motive := fun _ => fE) (fun _ _ _ _ _ _ _ => none) (fun _ ih => nX r n ih) m
noncomputable def bQz (r : RT) (n : Nat) : fE := nG r n n
noncomputable def aZm (r : RT) (n : Nat) (x0 x1 x2 x8 x11 x12 : DV) (h0 : Hp) : aH :=
 bQz r n x0 x1 x2 x8 x11 x12 h0
noncomputable def aXb (r : RT) (n : Nat) (x0 x1 x2 x8 : DV) (h0 : Hp) : aH :=
 bnd (dH x2 h0) fun v1 h1 =>
  aZm r n x0 x1 x2 x8 v1 (aE 0) h1
noncomputable def aUx (r : RT) (n : Nat) (x0 x1 x2 : DV) (h0 : Hp) : aH :=
 aXb r n x0 x1 x2 .l0 h0
noncomputable def s83 (r : RT) (n : Nat) (x0 x1 x2 : DV) (h0 : Hp) : aH :=
 aUx r n x0 x1 x2 h0
noncomputable abbrev c83 : Code := cf Tryz.f83
noncomputable abbrev bAm : Code := cR c83
noncomputable abbrev aYq : Code := cR bAm
noncomputable abbrev dHy : Code := cR aYq
noncomputable abbrev aLi : Code := cL aYq
noncomputable abbrev bXm : Code := cR aLi
noncomputable abbrev bAr : Code := cL bXm
noncomputable abbrev rP : Code := cL bAr
noncomputable abbrev cQg : Code := cL aLi
noncomputable abbrev cRm : Code := cL bAm
noncomputable abbrev bSy : Code := cL c83
noncomputable abbrev r83 : K := aQ CF Tryz.f83
noncomputable def D83 (r : RT) (n : Nat) (c : Code) (X : Nat → K) (k : K) : K := aM CF r 29 n c X r83 k
theorem dBs : D83 r n dHy x0 r83 = (K3 (fO r n) 0 1 8) :=
 (by kernel_rfl)
theorem cIl (kk5 : fE) (q0 : mL) : D83 r n rP (xs x0 0 (K3 q0 0 1 8)) (K6 kk5 0 1 2 8 11 12) = fun (env : aW) (h : Hp) =>
 bnd (aD .lss (env 12) (env 11) h) fun v1 h1 =>
 aS v1 (
 bnd (fB (env 2) (env 12) h1) fun v2 h2 =>
 bnd (dU .i64 v2 h2) fun v3 h3 =>
 bnd (aL [(aE 0)] 1 [(0, 1, v3)] h3) fun v4 h4 =>
 bnd (bA 1 8 (env 8) v4 h4) fun v5 h5 =>
 bnd (aD .add (env 12) (aE 1) h5) fun v6 h6 =>
      kk5 (env 0) (env 1) (env 2) v5 (env 11) v6 h6) (
      q0 (env 0) (env 1) (env 8) h1) := by kernel_rfl
theorem bHr (kk5 : fE) : (fun (env : aW) (h : Hp) =>
 bnd (aD .lss (env 12) (env 11) h) fun v1 h1 =>
 aS v1 (
 bnd (fB (env 2) (env 12) h1) fun v2 h2 =>
 bnd (dU .i64 v2 h2) fun v3 h3 =>
 bnd (aL [(aE 0)] 1 [(0, 1, v3)] h3) fun v4 h4 =>
 bnd (bA 1 8 (env 8) v4 h4) fun v5 h5 =>
 bnd (aD .add (env 12) (aE 1) h5) fun v6 h6 =>
      kk5 (env 0) (env 1) (env 2) v5 (env 11) v6 h6) (
      fO r n (env 0) (env 1) (env 8) h1)) = (K6 (nX r n kk5) 0 1 2 8 11 12) := by kernel_rfl
theorem cPb (kk5 : fE) : D83 r n rP (xs x0 0 (K3 (fO r n) 0 1 8)) (K6 kk5 0 1 2 8 11 12) = (K6 (nX r n kk5) 0 1 2 8 11 12) :=
 (cIl r n kk5 (fO r n)).trans (bHr r n kk5)
theorem cCq (m : Nat) : aO (fun kk => D83 r n rP (xs x0 0 (K3 (fO r n) 0 1 8)) kk) m = (K6 (nG r n m) 0 1 2 8 11 12) := by
 induction m with
 | zero => exact (by kernel_rfl : aO (fun kk => D83 r n rP (xs x0 0 (K3 (fO r n) 0 1 8)) kk) 0 = (K6 (nG r n 0) 0 1 2 8 11 12))
 | succ m ih =>
  refine (by kernel_rfl : aO (fun kk => D83 r n rP (xs x0 0 (K3 (fO r n) 0 1 8)) kk) (m + 1) = D83 r n rP (xs x0 0 (K3 (fO r n) 0 1 8)) (aO (fun kk => D83 r n rP (xs x0 0 (K3 (fO r n) 0 1 8)) kk) m)).trans ?_
  rw [ih]
  exact (cPb r n (nG r n m)).trans (by kernel_rfl)
theorem cWw : D83 r n bAr (xs x0 0 (K3 (fO r n) 0 1 8)) (K3 (fO r n) 0 1 8) = (K6 (bQz r n) 0 1 2 8 11 12) :=
 (by kernel_rfl : D83 r n bAr (xs x0 0 (K3 (fO r n) 0 1 8)) (K3 (fO r n) 0 1 8) = aO (fun kk => D83 r n rP (xs x0 0 (K3 (fO r n) 0 1 8)) kk) n).trans ((cCq r n n).trans (by kernel_rfl))
theorem cVy : D83 r n bXm x0 (K3 (fO r n) 0 1 8) = (K6 (aZm r n) 0 1 2 8 11 12) :=
 (by kernel_rfl : D83 r n bXm x0 (K3 (fO r n) 0 1 8) = D83 r n bAr (xs x0 0 (K3 (fO r n) 0 1 8)) (K3 (fO r n) 0 1 8)).trans
 ((cWw r n).trans (by kernel_rfl))
theorem cDo : D83 r n aYq x0 r83 = D83 r n aLi x0 (K3 (fO r n) 0 1 8) :=
 congrArg (fun k => D83 r n aLi x0 k) (dBs r n)
theorem cMg : D83 r n aLi x0 (K3 (fO r n) 0 1 8) = D83 r n cQg x0 (K6 (aZm r n) 0 1 2 8 11 12) :=
 congrArg (fun k => D83 r n cQg x0 k) (cVy r n)
theorem dDi : D83 r n aYq x0 r83 = (K4 (aXb r n) 0 1 2 8) :=
 (cDo r n).trans
 ((cMg r n).trans
 ((by kernel_rfl)))
theorem cFo : D83 r n bAm x0 r83 = D83 r n cRm x0 (K4 (aXb r n) 0 1 2 8) :=
 congrArg (fun k => D83 r n cRm x0 k) (dDi r n)
theorem dBo : D83 r n bAm x0 r83 = (K3 (aUx r n) 0 1 2) :=
 (cFo r n).trans
 ((by kernel_rfl))
theorem dKf : D83 r n c83 x0 r83 = D83 r n bSy x0 (K3 (aUx r n) 0 1 2) :=
 congrArg (fun k => D83 r n bSy x0 k) (dBo r n)
theorem dMv : D83 r n c83 x0 r83 = (K3 (s83 r n) 0 1 2) :=
 (dKf r n).trans
 ((by kernel_rfl))
theorem cQx : aF CF r n 83 args h = s83 r n (aT args 0) (aT args 1) (aT args 2) h :=
 (by kernel_rfl : aF CF r n 83 args h = D83 r n c83 x0 r83 (aI args) h).trans ((congrFun (congrFun (dMv r n) (aI args)) h).trans (by kernel_rfl))
noncomputable def s84 (r : RT) (n : Nat) (x0 x1 : DV) (h0 : Hp) : aH :=
 bnd (aA x1 h0) fun v1 h1 =>
 bnd (aN v1 h1) fun v2 h2 =>
 bnd (aB 0 v2 h2) fun v3 h3 =>
 bnd (aA v3 h3) fun v4 h4 =>
 bnd (zM [v4, x0] h4) fun v5 h5 =>
 bnd (gU .not v5 h5) fun v6 h6 =>
 some (v6, h6)
noncomputable abbrev c84 : Code := cf Tryz.f84
noncomputable abbrev r84 : K := aQ CF Tryz.f84
noncomputable def D84 (r : RT) (n : Nat) (c : Code) (X : Nat → K) (k : K) : K := aM CF r 11 n c X r84 k
theorem dQo : D84 r n c84 x0 r84 = (K2 (s84 r n) 0 1) :=
 (by kernel_rfl)
theorem cQl : aF CF r n 84 args h = s84 r n (aT args 0) (aT args 1) h :=
 (by kernel_rfl : aF CF r n 84 args h = D84 r n c84 x0 r84 (aI args) h).trans ((congrFun (congrFun (dQo r n) (aI args)) h).trans (by kernel_rfl))
noncomputable def gM (r : RT) (n : Nat) (h0 : Hp) : aH :=
 some ((.i .i64 (Int.negSucc 0)), h0)
noncomputable def gR (r : RT) (n : Nat) (kk4 : dL) (x0 x1 x7 x8 : DV) (h0 : Hp) : aH :=
 bnd (aD .lss x8 x7 h0) fun v1 h1 =>
 aS v1 (
 bnd (aJ 1 x0 x8 h1) fun v2 h2 =>
 bnd (aA v2 h2) fun v3 h3 =>
 bnd (cV CF r x1 [v3] h3) fun v4 h4 =>
 aS v4 (
 some (x8, h4)) (
 bnd (aD .add x8 (aE 1) h4) fun v5 h5 =>
    kk4 x0 x1 x7 v5 h5)) (
      gM r n h1)
noncomputable def iL (r : RT) (n : Nat) (m : Nat) : dL :=
 Nat.rec (motive := fun _ => dL) (fun _ _ _ _ _ => none) (fun _ ih => gR r n ih) m
noncomputable def aYf (r : RT) (n : Nat) : dL := iL r n n
noncomputable def aLk (r : RT) (n : Nat) (x0 x1 x7 x8 : DV) (h0 : Hp) : aH :=
 aYf r n x0 x1 x7 x8 h0
noncomputable def aMb (r : RT) (n : Nat) (x0 x1 : DV) (h0 : Hp) : aH :=
 bnd (bX x0 h0) fun v1 h1 =>
  aLk r n x0 x1 v1 (aE 0) h1
noncomputable def s89 (r : RT) (n : Nat) (x0 x1 : DV) (h0 : Hp) : aH :=
 aMb r n x0 x1 h0
noncomputable abbrev c89 : Code := cf Tryz.f89
noncomputable abbrev bBv : Code := cR c89
noncomputable abbrev dFl : Code := cR bBv
noncomputable abbrev aMc : Code := cL bBv
noncomputable abbrev bJq : Code := cR aMc
noncomputable abbrev aVg : Code := cL bJq
noncomputable abbrev wS : Code := cL aVg
noncomputable abbrev cRk : Code := cL aMc
noncomputable abbrev cRo : Code := cL c89
noncomputable abbrev r89 : K := aQ CF Tryz.f89
noncomputable def D89 (r : RT) (n : Nat) (c : Code) (X : Nat → K) (k : K) : K := aM CF r 19 n c X r89 k
theorem cUs : D89 r n dFl x0 r89 = (K0 (gM r n)) :=
 (by kernel_rfl)
theorem cIh (kk4 : dL) : D89 r n wS (xs x0 0 (K0 (gM r n))) (K4 kk4 0 1 7 8) = (K4 (gR r n kk4) 0 1 7 8) :=
 (by kernel_rfl)
theorem cBp (m : Nat) : aO (fun kk => D89 r n wS (xs x0 0 (K0 (gM r n))) kk) m = (K4 (iL r n m) 0 1 7 8) := by
 induction m with
 | zero => exact (by kernel_rfl : aO (fun kk => D89 r n wS (xs x0 0 (K0 (gM r n))) kk) 0 = (K4 (iL r n 0) 0 1 7 8))
 | succ m ih =>
  refine (by kernel_rfl : aO (fun kk => D89 r n wS (xs x0 0 (K0 (gM r n))) kk) (m + 1) = D89 r n wS (xs x0 0 (K0 (gM r n))) (aO (fun kk => D89 r n wS (xs x0 0 (K0 (gM r n))) kk) m)).trans ?_
  rw [ih]
  exact (cIh r n (iL r n m)).trans (by kernel_rfl)
theorem cXa : D89 r n aVg (xs x0 0 (K0 (gM r n))) (K0 (gM r n)) = (K4 (aYf r n) 0 1 7 8) :=
 (by kernel_rfl : D89 r n aVg (xs x0 0 (K0 (gM r n))) (K0 (gM r n)) = aO (fun kk => D89 r n wS (xs x0 0 (K0 (gM r n))) kk) n).trans ((cBp r n n).trans (by kernel_rfl))
theorem cSz : D89 r n bJq x0 (K0 (gM r n)) = (K4 (aLk r n) 0 1 7 8) :=
 (by kernel_rfl : D89 r n bJq x0 (K0 (gM r n)) = D89 r n aVg (xs x0 0 (K0 (gM r n))) (K0 (gM r n))).trans
 ((cXa r n).trans (by kernel_rfl))
theorem cIc : D89 r n bBv x0 r89 = D89 r n aMc x0 (K0 (gM r n)) :=
 congrArg (fun k => D89 r n aMc x0 k) (cUs r n)
theorem cLx : D89 r n aMc x0 (K0 (gM r n)) = D89 r n cRk x0 (K4 (aLk r n) 0 1 7 8) :=
 congrArg (fun k => D89 r n cRk x0 k) (cSz r n)
theorem cVc : D89 r n bBv x0 r89 = (K2 (aMb r n) 0 1) :=
 (cIc r n).trans
 ((cLx r n).trans
 ((by kernel_rfl)))
theorem dKr : D89 r n c89 x0 r89 = D89 r n cRo x0 (K2 (aMb r n) 0 1) :=
 congrArg (fun k => D89 r n cRo x0 k) (cVc r n)
theorem dOk : D89 r n c89 x0 r89 = (K2 (s89 r n) 0 1) :=
 (dKr r n).trans
 ((by kernel_rfl))
theorem bKm : aF CF r n 89 args h = s89 r n (aT args 0) (aT args 1) h :=
 (by kernel_rfl : aF CF r n 89 args h = D89 r n c89 x0 r89 (aI args) h).trans ((congrFun (congrFun (dOk r n) (aI args)) h).trans (by kernel_rfl))
end Go.Dd

