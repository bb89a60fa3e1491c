/- A part of the proof: N O CH RF1 RF2 RF3 RF4 RF5 RF6 RF7 SM SN RS RG MF Qh Q0 Q1 Q2: each text has a comment of its own. -/
import Derived.Test.YtilmobdncapnbaaGreatPn0
import Derived.LoopN
import Derived.Scope
import Derived.OrdersIn
import Derived.LoopNIn
import Derived.LoopIn
import Derived.RangeFuncIn
import Derived.RangeFuncCalls
import Derived.RangeFuncLeaves
import Derived.Test.YtilmobdncapnbaaGreatProg
import Derived.KernelRfl
set_option linter.unusedVariables false
set_option linter.unusedSimpArgs false
set_option linter.constructorNameAsVariable false
set_option maxRecDepth 100000
namespace Go.Dd
open Go.RowKit (Below)
section
variable {C : Cfg} {G : Gd} {rec : FuncId → List DV → Hp → aH} {ops : Array Oper} {nt : Nat} {p0 : Pos}
theorem rC {listed : Array Bool} {i : Nat} : i ∈ Region.ready .any ops listed ↔ i < ops.size ∧ listed.getD i true = false ∧ ∃ o, ops[i]? = some o ∧ ∀ e ∈ o.after, Region.binds .any e = true → listed.getD e.on false = true := by
 unfold Region.ready
 rw [List.mem_filter]
 simp only [List.mem_range, Bool.and_eq_true, Bool.not_eq_eq_eq_not, Bool.not_true]
 constructor
 ·rintro ⟨h1, h2, h3⟩
  refine ⟨h1, h2, ops[i], by simp [h1], fun e he hb => ?_⟩
  simp only [h1, getElem?_pos, Option.map_some, Option.getD_some] at h3
  have := (Array.all_eq_true_iff_forall_mem.1 h3) e he
  simpa [hb] using this
 ·rintro ⟨h1, h2, o, ho, h3⟩
  refine ⟨h1, h2, ?_⟩
  simp only [ho, Option.map_some, Option.getD_some]
  refine Array.all_eq_true_iff_forall_mem.2 fun e he => ?_
  cases hb : Region.binds .any e with
  | false => simp
  | true => simp [h3 e he hb]
noncomputable def idp (C : Cfg) (ops : Array Oper) (p0 : Pos) (p : Nat) : Pos := bZ (cF C.P (ops.toList.take p)) p0
structure Tr1 (C : Cfg) (rec : FuncId → List DV → Hp → aH) (ops : Array Oper) (nt : Nat) (p0 : Pos) (E : Nat → aV) (Hh : Nat → Hp) (V : Nat → DV) : Prop where
 ok : fC C.P ops = true
 st : ∀ p o, ops[p]? = some o → StepT C rec ops (Region.before ops) nt (idp C ops p0 p) E Hh V 0 [(none, Hh 0)] p o
theorem Tr1.same {E : Nat → aV} {Hh : Nat → Hp} {V : Nat → DV} (T : Tr1 C rec ops nt p0 E Hh V) {p : Nat} {o : Oper} (ho : ops[p]? = some o) (hc : bW C.P o.op ≠ .acts) (hm : bW C.P o.op ≠ .makes) : Hh (p + 1) = Hh p := by
 have hs := (T.st p o ho).step hm
 cases hcl : bW C.P o.op with
 | pure => exact (qR hcl _ _ _ hs).1
 | reads => exact nZ hcl hs
 | makes => exact absurd hcl hm
 | acts => exact absurd hcl hc
def dHk (C : Cfg) (ops : Array Oper) (q : Nat) : Prop := q = 0 ∨ ∃ j oj, ops[j]? = some oj ∧ bW C.P oj.op = .acts ∧ q = j + 1
theorem oM {m : Array Nat} {i q : Nat} {Pv : Hp → Prop} {Hh : Nat → Hp} {tl : List (Option Nat × Hp)} : ∀ d, q ≤ d → qK m i Pv (iU C ops Hh 0 d ++ tl) →
  (∀ j oj, ops[j]? = some oj → bW C.P oj.op = .acts → q ≤ j → j < d → ¬ gG m j i = true) → qK m i Pv (iU C ops Hh 0 q ++ tl)
 | 0, hq, hc, _ => by have : q = 0 := by omega
                      subst this; exact hc
 | d + 1, hq, hc, hno => by
  by_cases e : q = d + 1
  ·subst e; exact hc
  ·have hq' : q ≤ d := by omega
   simp only [iU, Nat.zero_add] at hc
   cases ha : jT C ops d with
   | false =>
    rw [ha] at hc
    simp only [Bool.false_eq_true, if_false, List.nil_append] at hc
    exact oM d hq' hc fun j oj h1 h2 h3 h4 => hno j oj h1 h2 h3 (by omega)
   | true =>
    rw [ha] at hc
    simp only [if_true, List.cons_append, List.nil_append] at hc
    obtain ⟨_, h2⟩ := hc
    have ⟨oj, hoj, hcj⟩ : ∃ oj, ops[d]? = some oj ∧ bW C.P oj.op = .acts := by
     unfold jT at ha
     split at ha
     ·rename_i o ho; exact ⟨o, ho, by simpa using ha⟩
     ·cases ha
    rcases h2 with h2 | h2
    ·exact absurd h2 (hno d oj hoj hcj hq' (by omega))
    ·exact oM d hq' h2 fun j oj h1 h2 h3 h4 => hno j oj h1 h2 h3 (by omega)
theorem Tr1.value {E : Nat → aV} {Hh : Nat → Hp} {V : Nat → DV} (T : Tr1 C rec ops nt p0 E Hh V) {listed : Array Bool} {i q : Nat} {o : Oper} (ho : ops[i]? = some o) (hc : bW C.P o.op ≠ .acts) (hm : bW C.P o.op ≠ .makes)
  (hq : dHk C ops q) (hgap : ∀ j oj, ops[j]? = some oj → bW C.P oj.op = .acts → (j < q ↔ S listed j))
  (hni : ¬ S listed i) (hdown : ∀ j x, gG (Region.before ops) j x = true → S listed x → S listed j) (hpre : ∀ j, gG (Region.before ops) j i = true → S listed j) :
  bK C rec ops o (E i) (Hh q) = some (V i, Hh q) := by
 have hst := T.st i o ho
 cases hcl : bW C.P o.op with
 | acts => exact absurd hcl hc
 | makes => exact absurd hcl hm
 | pure => exact (qR hcl _ _ _ (hst.step hm)).2 _
 | reads =>
  rcases Nat.lt_or_ge i q with h | h
  ·rcases hq with rfl | ⟨j, oj, hj, haj, rfl⟩
   ·omega
   ·have hSj : S listed j := (hgap j oj hj haj).1 (by omega)
    have hij : i ≠ j := fun e => by subst e; exact hni hSj
    rcases (T.st j oj hj).acts haj i o (Nat.zero_le _) (by omega) ho hcl with h3 | h3
    ·exact absurd (hdown i j h3 hSj) hni
    ·exact sB hcl h3
  ·have h1 := hst.reads hcl
   rw [Nat.sub_zero] at h1
   have h2 := oM (q := q) i h h1 fun j oj hj haj hqj hji hord => by
    have := (hgap j oj hj haj).2 (hpre j hord)
    omega
   rcases hq with rfl | ⟨j, oj, hj, haj, rfl⟩
   ·exact h2.1
   ·simp only [iU, Nat.zero_add, (bGo hj).2 haj, if_true, List.cons_append, List.nil_append] at h2
    exact h2.1
theorem cVu {listed : Array Bool} {i j : Nat} (hi : i < listed.size) : S (listed.setIfInBounds i true) j ↔ (j = i ∨ S listed j) := by
 unfold S
 by_cases e : j = i
 ·subst e; simp [hi]
 ·simp [Array.getElem?_setIfInBounds_ne (Ne.symm e), e]
theorem qG {listed : Array Bool} {i : Nat} (hi : i < listed.size) : listed.getD i true = listed.getD i false := by
 simp [hi]
theorem dBt {V : Nat → DV} {env : aV} {listed : Array Bool} {i : Nat} {o : Oper} (ho : ops[i]? = some o) (hi : i < listed.size) (hni : ¬ S listed i) (t : Nat)
  (hlast : ∀ j oj, i < j → ops[j]? = some oj → oj.dst = some t → o.dst = some t → ¬ S listed j) :
  ∀ p, i < p → TS ops V env (listed.setIfInBounds i true) p t = if o.dst = some t then V i else TS ops V env listed p t := by
 have hbefore : ∀ p, p ≤ i → TS ops V env (listed.setIfInBounds i true) p = TS ops V env listed p := by
  intro p
  induction p with
  | zero => intro _; rfl
  | succ p ih =>
   intro h
   have e : (listed.setIfInBounds i true).getD p false = listed.getD p false := by simp [Array.getElem?_setIfInBounds_ne (show i ≠ p by omega)]
   simp only [TS, ih (by omega), e]
 intro p
 induction p with
 | zero => intro h; omega
 | succ p ih =>
  intro h
  by_cases hpi : p = i
  ·subst hpi
   have e1 : (listed.setIfInBounds p true).getD p false = true := by simp [hi]
   have e2 : ¬ listed.getD p false = true := hni
   simp only [TS, ho, hbefore p (Nat.le_refl _), e1, if_true, lJ]
   rw [if_neg e2]
  ·have ih' := ih (by omega)
   have e : (listed.setIfInBounds i true).getD p false = listed.getD p false := by simp [Array.getElem?_setIfInBounds_ne (Ne.symm hpi)]
   cases hop : ops[p]? with
   | none => simp only [TS, hop]; exact ih'
   | some op =>
    simp only [TS, hop, e]
    split
    ·rename_i hl
     rw [lJ, lJ, ih']
     by_cases hd : op.dst = some t
     ·rw [if_pos hd, if_pos hd]
      by_cases hod : o.dst = some t
      ·exact absurd hl (hlast p op (by omega) hop hd hod)
      ·rw [if_neg hod]
     ·rw [if_neg hd, if_neg hd]
    ·exact ih'
def iS (C : Cfg) (ops : Array Oper) (listed : Array Bool) (q i : Nat) : Prop := ∃ o, ops[i]? = some o ∧ bW C.P o.op = .makes ∧ S listed i ∧ q ≤ i
def GX (G : Gd) (N : Nat) (C : Cfg) (ops : Array Oper) (listed : Array Bool) (R : Nat → Nat) (q : Nat) : Gd := ⟨G.B, fun k => G.X k ∨ ∃ i, iS C ops listed q i ∧ R i = k, N, G.W, G.ok⟩
structure Made (G : Gd) (C : Cfg) (ops : Array Oper) (p0 : Pos) (Hh : Nat → Hp) (ρ : dD) (w : World) (R : Nat → Nat) (i : Nat) : Prop where
 name : ρ (idp C ops p0 i) = some ⟨R i, 0, 0, none⟩
 low : G.B ≤ R i
 ex : ¬ G.X (R i)
 row : ∃ (arr : Array Value) (t : TypeId) (cs : List DV), w.heap[R i]? = some (.cells arr t (0, 0)) ∧ VRs ρ cs arr.toList ∧ Hh (i + 1) = ⟨(Hh i).next, Tr.set (.row .ex cs) (idp C ops p0 i) (Hh i).bl⟩
theorem aNs {E : Nat → aV} {Hh : Nat → Hp} {V : Nat → DV} (T : Tr1 C rec ops nt p0 E Hh V) {listed : Array Bool} {R : Nat → Nat} {N q : Nat} {ρ : dD} {w : World}
  (hmade : ∀ i, iS C ops listed q i → Made G C ops p0 Hh ρ w R i) (hdist : ∀ i i', iS C ops listed q i → iS C ops listed q i' → R i = R i' → i = i') :
  ∀ p, q ≤ p → p ≤ ops.size → (∀ j oj, ops[j]? = some oj → q ≤ j → j < p → bW C.P oj.op ≠ .acts ∧ (bW C.P oj.op = .makes → S listed j)) →
  HR (GX G N C ops listed R q) ρ (Hh q) w → HR (GX G N C ops listed R p) ρ (Hh p) w := by
 intro p
 induction p with
 | zero => intro h1 _ _ H; have : q = 0 := by omega
           subst this; exact H
 | succ p ih =>
  intro h1 h2 hr H
  by_cases e : q = p + 1
  ·subst e; exact H
  ·have H' := ih (by omega) (by omega) (fun j oj hj hq hjp => hr j oj hj hq (by omega)) H
   obtain ⟨o, ho⟩ : ∃ o, ops[p]? = some o := ⟨ops[p], by simp [show p < ops.size by omega]⟩
   obtain ⟨ha, hm⟩ := hr p o ho (by omega) (by omega)
   have hsub : ∀ k, (GX G N C ops listed R (p + 1)).X k → (GX G N C ops listed R p).X k := by
    rintro k (hk | ⟨i, ⟨oi, h3, h4, h5, h6⟩, h7⟩)
    ·exact .inl hk
    ·exact .inr ⟨i, ⟨oi, h3, h4, h5, by omega⟩, h7⟩
   by_cases hmk : bW C.P o.op = .makes
   ·have hE : iS C ops listed q p := ⟨o, ho, hmk, hm hmk, by omega⟩
    have hM := hmade p hE
    obtain ⟨arr, t, cs, r1, r2, r3⟩ := hM.row
    rw [r3]
    refine dWe (G := GX G N C ops listed R (p + 1)) H' rfl hsub (Nat.le_refl _) rfl hM.name r1 r2 hM.low ?_ (.inr ⟨p, ⟨o, ho, hmk, hm hmk, Nat.le_refl _⟩, rfl⟩)
    rintro (hk | ⟨i, ⟨oi, h3, h4, h5, h6⟩, h7⟩)
    ·exact hM.ex hk
    ·have := hdist i p ⟨oi, h3, h4, h5, by omega⟩ hE h7
     omega
   ·rw [T.same ho ha hmk]
    exact H'.weak rfl hsub (Nat.le_refl _) rfl
def Inv (DD : List Deferred) (C : Cfg) (G : Gd) (ops : Array Oper) (nt : Nat) (p0 : Pos) (N : Nat) (E : Nat → aV) (Hh : Nat → Hp) (V : Nat → DV) (ρ : dD) (w0 : World) (listed : Array Bool) (a : Act) (w : World) : Prop :=
 listed.size = ops.size ∧ (∀ j x, gG (Region.before ops) j x = true → S listed x → S listed j) ∧
 ∃ q, q ≤ ops.size ∧ dHk C ops q ∧ (∀ j oj, ops[j]? = some oj → bW C.P oj.op = .acts → (j < q ↔ S listed j)) ∧
 ∃ (ρ' : dD) (R : Nat → Nat), Ex G ρ ρ' ∧ HR (GX G N C ops listed R q) ρ' (Hh q) w ∧ EnvR ρ' (TS ops V (E 0) listed ops.size) a ∧ Kp G w0 w ∧ nt ≤ a.tmps.size ∧ a.defers = DD ∧
  (∀ i o, ops[i]? = some o → bW C.P o.op = .makes → ¬ S listed i → ρ' (idp C ops p0 i) = none) ∧
  (∀ i, iS C ops listed q i → Made G C ops p0 Hh ρ' w R i) ∧ (∀ i i', iS C ops listed q i → iS C ops listed q i' → R i = R i' → i = i')
theorem bPt {i : Nat} {o : Oper} (ho : ops[i]? = some o) (hm : bW C.P o.op = .makes) : (idp C ops p0 i).toNat < p0.toNat + cF C.P ops.toList := by
 unfold idp
 rw [dY]
 have hlt : i < ops.toList.length := by
  rcases Nat.lt_or_ge i ops.toList.length with h | h
  ·exact h
  ·simp at h; simp [Array.getElem?_eq_none h] at ho
 have key : ∀ (l : List Oper) (i : Nat), l[i]? = some o → cF C.P (l.take i) < cF C.P l := by
  intro l
  induction l with
  | nil => intro i h; simp at h
  | cons x l ih =>
   intro i h
   cases i with
   | zero => simp at h; subst h; simp [cF, hm]; omega
   | succ i => simp at h; have := ih i h; simp only [List.take_succ_cons, cF]; omega
 have := key ops.toList i (by simpa using ho)
 omega
theorem cXe {i i' : Nat} {o o' : Oper} (ho : ops[i]? = some o) (hm : bW C.P o.op = .makes) (ho' : ops[i']? = some o') (hm' : bW C.P o'.op = .makes) (hne : i ≠ i') : idp C ops p0 i ≠ idp C ops p0 i' := by
 have key : ∀ (l : List Oper) (i j : Nat) (o : Oper), l[i]? = some o → bW C.P o.op = .makes → i < j → cF C.P (l.take i) < cF C.P (l.take j) := by
  intro l
  induction l with
  | nil => intro i j o h; simp at h
  | cons x l ih =>
   intro i j o h hm hij
   cases j with
   | zero => omega
   | succ j =>
    cases i with
    | zero => simp at h; subst h; simp only [List.take_succ_cons, cF, hm, List.take_zero]; omega
    | succ i => simp at h; have := ih i j o h hm (by omega); simp only [List.take_succ_cons, cF]; omega
 intro e
 have e' := congrArg Pos.toNat e
 unfold idp at e'
 rw [dY, dY] at e'
 rcases Nat.lt_or_ge i i' with h | h
 ·have := key ops.toList i i' o (by simpa using ho) hm h; omega
 ·have := key ops.toList i' i o' (by simpa using ho') hm' (by omega); omega
theorem bTt {DD : List Deferred} (K : OkC C rec) {N : Nat} {E : Nat → aV} {Hh : Nat → Hp} {V : Nat → DV} (T : Tr1 C rec ops nt p0 E Hh V) (hN : N = p0.toNat + cF C.P ops.toList) (hGN : G.N ≤ p0.toNat) {ρ : dD} {w0 : World} {Q : Exit → Act → World → Prop}
  (hQ : ∀ ρ' a' w', Ex G ρ ρ' → HR G ρ' (Hh ops.size) w' → EnvR ρ' (E ops.size) a' → Kp G w0 w' → nt ≤ a'.tmps.size → a'.defers = DD → Q .normal a' w') :
  ∀ (fuel : Nat) (listed : Array Bool) (a : Act) (w : World), Inv DD C G ops nt p0 N E Hh V ρ w0 listed a w → ((List.range ops.size).filter fun i => !listed.getD i false).length ≤ fuel → wpAny C.P .any ops Q fuel listed a w := by
 have hlt : ∀ p, p < ops.size → ∃ o, ops[p]? = some o := fun p hp => ⟨ops[p], by simp [hp]⟩
 have hin : ∀ (j : Nat) oj, ops[j]? = some oj → j < ops.size := fun j oj hj => by
  rcases Nat.lt_or_ge j ops.size with h | h
  ·exact h
  ·simp [Array.getElem?_eq_none h] at hj
 have hend : ∀ listed a w, Inv DD C G ops nt p0 N E Hh V ρ w0 listed a w → (∀ i, i < ops.size → S listed i) → Q .normal a w := by
  rintro listed a w ⟨hsz, hdown, q, hq, hcand, hgap, ρ', R, h1, h2, h3, h4, h5, h6, h7, h8, h9⟩ hall
  have hH := aNs (G := G) T h8 h9 ops.size hq (Nat.le_refl _) (fun j oj hj hqj hjn => ⟨fun ha => by
   have := (hgap j oj hj ha).2 (hall j hjn)
   omega, fun _ => hall j hjn⟩) h2
  have hE : ∀ t, TS ops V (E 0) listed ops.size t = E ops.size t := fun t =>
   bUo (E := E) rfl (fun p o hp ho => (T.st p o ho).env) (fun p hp => hlt p hp) (fun j o hj _ _ => hall j hj) ops.size (Nat.le_refl _)
  refine hQ ρ' a w h1 (hH.weak rfl (fun k hk => .inl hk) (by show G.N ≤ N; omega) rfl) (fun t => ?_) h4 h5 h6
  rw [← hE t]
  exact h3 t
 have hready : ∀ listed, listed.size = ops.size → Region.ready .any ops listed = [] → ∀ i, i < ops.size → S listed i := by
  intro listed hsz hr i
  induction i using Nat.strongRecOn with
  | _ i ih =>
   intro hi
   obtain ⟨o, ho⟩ := hlt i hi
   by_cases hs : S listed i
   ·exact hs
   ·exfalso
    have hmem : i ∈ Region.ready .any ops listed := by
     rw [rC]
     refine ⟨hi, ?_, o, ho, fun e he hb => ?_⟩
     ·rw [qG (by omega)]
      unfold S at hs
      simpa using hs
     ·have := (dR T.ok ho).1 e he hb
      exact ih e.on this (by omega)
    rw [hr] at hmem
    cases hmem
 intro fuel
 induction fuel with
 | zero =>
  intro listed a w hI hfuel
  have hall : ∀ i, i < ops.size → S listed i := by
   intro i hi
   by_cases hs : S listed i
   ·exact hs
   ·exfalso
    have : i ∈ (List.range ops.size).filter fun i => !listed.getD i false := by
     rw [List.mem_filter]
     refine ⟨by simpa using hi, ?_⟩
     unfold S at hs
     simpa using hs
    have := List.length_pos_of_mem this
    omega
  refine ⟨?_, hend listed a w hI hall⟩
  cases hr : Region.ready .any ops listed with
  | nil => rfl
  | cons x xs =>
   have hx : x ∈ Region.ready .any ops listed := by rw [hr]; simp
   rw [rC] at hx
   have := hall x hx.1
   rw [qG (by rw [hI.1]; exact hx.1)] at hx
   unfold S at this
   rw [this] at hx
   cases hx.2.1
 | succ fuel ih =>
  intro listed a w hI hfuel
  refine ⟨fun hr => hend listed a w hI (hready listed hI.1 hr), fun i hi => ?_⟩
  obtain ⟨hsz, hdown, q, hq, hcand, hgap, ρ', R, h1, h2, h3, h4, h5, h6, h7, h8, h9⟩ := hI
  rw [rC] at hi
  obtain ⟨hisz, hni, o, ho, hpre0⟩ := hi
  rw [qG (by omega)] at hni
  have hnS : ¬ S listed i := by unfold S; rw [hni]; simp
  have hpre : ∀ j, gG (Region.before ops) j i = true → S listed j := by
   intro j hj
   obtain ⟨e, he, hb, h | h⟩ := aMb ho hj
   ·rw [← h]; exact hpre0 e he hb
   ·exact hdown j e.on h (hpre0 e he hb)
  have hst := T.st i o ho
  have hlook : ∀ t ∈ o.looksAt ops, TS ops V (E 0) listed ops.size t = E i t := by
   intro t ht
   rw [cIh (i := i) (fun j oj hij hj hd hS => ?_) ops.size (by omega)]
   ·exact bUo (E := E) rfl (fun p op hp hop => (T.st p op hop).env) (fun p hp => hlt p (by omega)) (fun j oj hj hoj hd => by
     rcases (dR T.ok ho).2.2 j oj hj hoj with h | ⟨h, _⟩
     ·exact hpre j h
     ·exact absurd ht ((Oper.apart_spec h).1 t hd)) i (Nat.le_refl _)
   ·rcases Nat.eq_or_lt_of_le hij with e | e
    ·subst e; exact hnS hS
    ·rcases (dR T.ok hj).2.2 i o e ho with h | ⟨h, _⟩
     ·exact hnS (hdown i j h hS)
     ·exact absurd ht ((Oper.apart_spec h).2.2 t hd)
  have hmkq : ∀ j oj, ops[j]? = some oj → bW C.P oj.op = .makes → j < q → S listed j := by
   intro j oj hj hmj hjq
   rcases hcand with rfl | ⟨l, ol, hl, hal, rfl⟩
   ·omega
   ·have hSl : S listed l := (hgap l ol hl hal).1 (by omega)
    have hjl : j ≠ l := fun e => by subst e; rw [hl] at hj; cases hj; rw [hal] at hmj; cases hmj
    rcases (dR T.ok hl).2.2 j oj (by omega) hj with h | ⟨_, h⟩
    ·exact hdown j l h hSl
    ·exact absurd ⟨.inr hmj, hal⟩ h
  have hdown' : ∀ j x, gG (Region.before ops) j x = true → S (listed.setIfInBounds i true) x → S (listed.setIfInBounds i true) j := by
   intro j x hjx hx
   rw [cVu (by omega)] at hx ⊢
   rcases hx with rfl | hx
   ·exact .inr (hpre j hjx)
   ·exact .inr (hdown j x hjx hx)
  have hTS : ∀ (ρ2 : dD) (v2 : Value), Ext ρ' ρ2 → VR ρ2 (V i) v2 → EnvR ρ2 (TS ops V (E 0) (listed.setIfInBounds i true) ops.size) (a.put o.dst v2) := by
   intro ρ2 v2 e1 e2 t
   rw [dBt ho (by omega) hnS t (fun j oj hij hj hd hod hS => by
    rcases (dR T.ok hj).2.2 i o hij ho with h | ⟨h, _⟩
    ·exact hnS (hdown i j h hS)
    ·exact (Oper.apart_spec h).2.1 t hod hd) ops.size (by omega)]
   have := EnvR.put h3 e1 e2 hst.fits h5 t
   rwa [lJ] at this
  have hcount : ((List.range ops.size).filter fun j => !(listed.setIfInBounds i true).getD j false).length ≤ fuel := by
   have hmem : i ∈ (List.range ops.size).filter fun i => !listed.getD i false := by
    rw [List.mem_filter]
    exact ⟨by simpa using hisz, by simp [hni]⟩
   have hle : ((List.range ops.size).filter fun j => !(listed.setIfInBounds i true).getD j false).length < ((List.range ops.size).filter fun j => !listed.getD j false).length := by
    have hsub : ((List.range ops.size).filter fun j => !(listed.setIfInBounds i true).getD j false) = ((List.range ops.size).filter fun j => !listed.getD j false).filter (fun j => j != i) := by
     rw [List.filter_filter]
     apply List.filter_congr
     intro j hj
     by_cases e : j = i
     ·subst e; simp [show j < listed.size by omega]
     ·simp [Array.getElem?_setIfInBounds_ne (Ne.symm e), e]
    rw [hsub]
    exact List.length_filter_lt_length_iff_exists.2 ⟨i, hmem, by simp⟩
   omega
  have hS' : ∀ j, S (listed.setIfInBounds i true) j ↔ (j = i ∨ S listed j) := fun j => cVu (by omega)
  by_cases hmk : bW C.P o.op = .makes
  ·
   have hqi : q ≤ i := by
    rcases Nat.lt_or_ge i q with h | h
    ·exact absurd (hmkq i o ho hmk h) hnS
    ·exact h
   have hg := (dR T.ok ho).2.1 hmk
   have hbn := h7 i o ho hmk hnS
   have hst1 := hst.made hmk
   have hext : Ext ρ' (nP ρ' (idp C ops p0 i) ⟨w.heap.size, 0, 0, none⟩) := by
    intro x L hx
    by_cases e : x = idp C ops p0 i
    ·subst e; rw [hbn] at hx; cases hx
    ·rw [aZ _ _ e]; exact hx
   have hE0 : dU C o (idp C ops p0 i) (TS ops V (E 0) listed ops.size) (Hh i) = some (V i, Hh (i + 1)) := by
    rw [← hst1]
    refine aAi fun x hx => aBd fun t ht => hlook t ?_
    unfold Oper.looksAt
    refine List.mem_append_left _ (List.mem_filterMap.2 ⟨x, by simpa using hx, ?_⟩)
    rw [ht]
   obtain ⟨cs, arr, t, v', m1, m2, m3, m4⟩ := dDr (w := w) h3 hE0 hbn
   have hidlt := bPt (p0 := p0) ho hmk
   have H2 := h2.early hbn (by have := h2.nx; simp only [GX] at this; omega) arr t
   unfold wpOp
   simp only [ho]
   rw [if_pos (by simp [Region.wanted, hg])]
   refine .inl ?_
   unfold Oper.wp
   rw [m1]
   show wpAny C.P .any ops Q fuel (listed.setIfInBounds i true) (a.put o.dst v') (w.alloc (.cells arr t))
   have hEarly : ∀ j, iS C ops (listed.setIfInBounds i true) q j → j = i ∨ iS C ops listed q j := by
    rintro j ⟨oj, e1, e2, e3, e4⟩
    rcases (hS' j).1 e3 with e | e
    ·exact .inl e
    ·exact .inr ⟨oj, e1, e2, e, e4⟩
   have hRlt : ∀ j, iS C ops listed q j → R j < w.heap.size := fun j hj => h2.sz.2 _ (.inr ⟨j, hj, rfl⟩)
   have hjne : ∀ j, iS C ops listed q j → j ≠ i := by
    rintro j ⟨oj, e1, e2, e3, e4⟩ e
    subst e; exact hnS e3
   refine ih _ _ _ ⟨by simpa using hsz, hdown', q, hq, hcand, fun j oj hj haj => ?_, nP ρ' (idp C ops p0 i) ⟨w.heap.size, 0, 0, none⟩, fun j => if j = i then w.heap.size else R j, ?_, ?_, hTS _ _ hext m4, ?_, by rw [pO]; exact h5, by rw [kX]; exact h6, ?_, ?_, ?_⟩ hcount
   ·rw [hS' j, hgap j oj hj haj]
    constructor
    ·exact .inr
    ·rintro (h | h)
     ·subst h; rw [ho] at hj; cases hj; rw [hmk] at haj; cases haj
     ·exact h
   ·refine h1.trans ⟨hext, fun b L hb => ?_⟩
    by_cases e : b = idp C ops p0 i
    ·right
     rw [e]
     unfold idp
     rw [dY]
     omega
    ·rw [aZ _ _ e] at hb; exact .inl hb
   ·refine H2.weak rfl ?_ (Nat.le_refl _) rfl
    rintro k (hk | ⟨j, hj, hjk⟩)
    ·exact .inl (.inl hk)
    ·rcases hEarly j hj with rfl | hj'
     ·right; simpa using hjk.symm
     ·left; right
      refine ⟨j, hj', ?_⟩
      simpa [hjne j hj'] using hjk
   ·exact h4.trans (fL (G := G) ⟨h2.sz.1, fun k hk => h2.sz.2 k (.inl hk)⟩ _)
   ·intro j oj hj hmj hSj
    have hji : j ≠ i := fun e => hSj ((hS' j).2 (.inl e))
    rw [aZ _ _ (cXe hj hmj ho hmk hji)]
    exact h7 j oj hj hmj fun h => hSj ((hS' j).2 (.inr h))
   ·intro j hj
    rcases hEarly j hj with rfl | hj'
    ·refine ⟨by simp [cH], by simp; exact h2.sz.1, ?_, arr, t, cs, ?_, m2.mono hext, m3⟩
     ·simp only [if_true]
      intro hx
      have := h2.sz.2 _ (.inl hx)
      omega
     ·simp only [if_true]
      show (w.heap.push _)[w.heap.size]? = _
      simp
    ·have hM := h8 j hj'
     obtain ⟨arr', t', cs', r1, r2, r3⟩ := hM.row
     have hji := hjne j hj'
     refine ⟨?_, by simp [hji]; exact hM.low, by simp [hji]; exact hM.ex, arr', t', cs', ?_, r2.mono hext, r3⟩
     ·simp only [hji, if_false]; exact hext _ _ hM.name
     ·simp only [hji, if_false]
      rw [Below.heap_alloc _ _ _ (hRlt j hj')]
      exact r1
   ·intro j j' hj hj' he
    rcases hEarly j hj with rfl | hj1
    ·rcases hEarly j' hj' with rfl | hj1'
     ·rfl
     ·simp only [if_true, hjne j' hj1', if_false] at he
      have := hRlt j' hj1'
      omega
    ·rcases hEarly j' hj' with rfl | hj1'
     ·simp only [if_true, hjne j hj1, if_false] at he
      have := hRlt j hj1
      omega
     ·simp only [hjne j hj1, hjne j' hj1', if_false] at he
      exact h9 j j' hj1 hj1' he
  ·
   have hstep : ∃ q1 q2, q ≤ q1 ∧ q1 ≤ ops.size ∧ q2 ≤ ops.size ∧ q1 ≤ q2 ∧ dHk C ops q2 ∧ HR (GX G N C ops listed R q1) ρ' (Hh q1) w ∧
     bK C rec ops o (TS ops V (E 0) listed ops.size) (Hh q1) = some (V i, Hh q2) ∧
     (∀ j oj, ops[j]? = some oj → bW C.P oj.op = .acts → (j < q2 ↔ S (listed.setIfInBounds i true) j)) ∧
     (∀ j, iS C ops (listed.setIfInBounds i true) q2 j → iS C ops listed q1 j) := by
    rw [show bK C rec ops o (TS ops V (E 0) listed ops.size) = bK C rec ops o (E i) from funext fun h => aLp hlook]
    by_cases ha : bW C.P o.op = .acts
    ·have hqi : q ≤ i := by
      rcases Nat.lt_or_ge i q with h | h
      ·exact absurd ((hgap i o ho ha).1 h) hnS
      ·exact h
     refine ⟨i, i + 1, hqi, by omega, by omega, by omega, .inr ⟨i, o, ho, ha, rfl⟩, ?_, hst.step hmk, fun j oj hj haj => ?_, ?_⟩
     ·refine aNs (G := G) T h8 h9 i hqi (by omega) (fun j oj hj hqj hji => ⟨fun haj => ?_, fun hmj => ?_⟩) h2
      ·rcases (dR T.ok ho).2.2 j oj hji hj with h | ⟨_, h⟩
       ·have := (hgap j oj hj haj).2 (hpre j h); omega
       ·exact absurd ⟨.inl haj, ha⟩ h
      ·rcases (dR T.ok ho).2.2 j oj hji hj with h | ⟨_, h⟩
       ·exact hpre j h
       ·exact absurd ⟨.inr hmj, ha⟩ h
     ·rw [hS' j]
      constructor
      ·intro hlt'
       by_cases e : j = i
       ·exact .inl e
       ·right
        rcases (dR T.ok ho).2.2 j oj (by omega) hj with h | ⟨_, h⟩
        ·exact hpre j h
        ·exact absurd ⟨.inl haj, ha⟩ h
      ·rintro (h | h)
       ·omega
       ·rcases Nat.lt_or_ge i j with hij | hij
        ·rcases (dR T.ok hj).2.2 i o hij ho with h' | ⟨_, h'⟩
         ·exact absurd (hdown i j h' h) hnS
         ·exact absurd ⟨.inl ha, haj⟩ h'
        ·omega
     ·rintro j ⟨oj, e1, e2, e3, e4⟩
      rcases (hS' j).1 e3 with e | e
      ·omega
      ·exact ⟨oj, e1, e2, e, by omega⟩
    ·refine ⟨q, q, Nat.le_refl _, hq, hq, Nat.le_refl _, hcand, h2, T.value ho ha hmk hcand hgap hnS hdown hpre, fun j oj hj haj => ?_, ?_⟩
     ·rw [hS' j, hgap j oj hj haj]
      constructor
      ·exact .inr
      ·rintro (h | h)
       ·subst h; rw [ho] at hj; cases hj; exact absurd haj ha
       ·exact h
     ·rintro j ⟨oj, e1, e2, e3, e4⟩
      rcases (hS' j).1 e3 with e | e
      ·subst e; rw [ho] at e1; cases e1; exact absurd e2 hmk
      ·exact ⟨oj, e1, e2, e, e4⟩
   obtain ⟨q1, q2, k1, k2, k2', k12, k3, k4, k5, k6, k7⟩ := hstep
   refine aFy (aIx K k4 h3 k5) rfl ho k4 fun ρ2 w2 v2 e1 e2 e3 e4 => ?_
   have hEq : ∀ j, iS C ops listed q1 j → iS C ops listed q j := by
    rintro j ⟨oj, f1, f2, f3, f4⟩
    exact ⟨oj, f1, f2, f3, by omega⟩
   refine ih _ _ _ ⟨by simpa using hsz, hdown', q2, k2', k3, k6, ρ2, R, ?_, ?_, hTS _ _ e1.ext e2, ?_, by rw [pO]; exact h5, by rw [kX]; exact h6, ?_, ?_, ?_⟩ hcount
   ·refine h1.trans ⟨e1.ext, fun b L hb => (e1.new b L hb).imp id fun h => ?_⟩
    simp only [GX] at h
    omega
   ·refine e3.weak rfl ?_ (Nat.le_refl _) rfl
    rintro k (hk | ⟨j, hj, hjk⟩)
    ·exact .inl hk
    ·exact .inr ⟨j, k7 j hj, hjk⟩
   ·exact h4.trans ⟨e4.low, fun k hk => e4.ex k (.inl hk)⟩
   ·intro j oj hj hmj hSj
    have hn := h7 j oj hj hmj fun h => hSj ((hS' j).2 (.inr h))
    cases hr : ρ2 (idp C ops p0 j) with
    | none => rfl
    | some L =>
     rcases e1.new _ _ hr with h | h
     ·rw [hn] at h; cases h
     ·have := bPt (p0 := p0) hj hmj
      simp only [GX] at h
      omega
   ·intro j hj
    have hj1 := k7 j hj
    have hM := h8 j (hEq j hj1)
    obtain ⟨arr', t', cs', r1, r2, r3⟩ := hM.row
    exact ⟨e1.ext _ _ hM.name, hM.low, hM.ex, arr', t', cs', by rw [e4.ex _ (.inr ⟨j, hj1, rfl⟩)]; exact r1, r2.mono e1.ext, r3⟩
   ·intro j j' hj hj' he
    exact h9 j j' (hEq j (k7 j hj)) (hEq j' (k7 j' hj')) he
theorem cCf {DD : List Deferred} (K : OkC C rec) {k : Dd.K} {r : DV × Hp} {env : aV} {h : Hp} {ρ : dD} {a : Act} {w : World} {Q : Exit → Act → World → Prop}
  (hok : fC C.P ops = true) (hp : iV C rec nt ops k env h = some r) (H : HR G ρ h w) (he : EnvR ρ env a) (hnt : nt ≤ a.tmps.size) (hd : a.defers = DD)
  (hQ : ∀ ρ' env' h' a' w', Ex G ρ ρ' → HR G ρ' h' w' → EnvR ρ' env' a' → Kp G w w' → nt ≤ a'.tmps.size → a'.defers = DD → k env' h' = some r → Q .normal a' w') :
  wpAny C.P .any ops Q ops.size (Array.replicate ops.size false) a { w with drawn := w.drawn + 1 } := by
 obtain ⟨E, Hh, V, e1, e2, e3, e4⟩ := sG (p0 := h.next) ops.toList 0 0 false [] _ env _ r hp (by simp) (fun _ => ⟨_, _, rfl⟩)
 simp only [Nat.zero_add, Array.length_toList, Nat.sub_zero] at e3 e4
 have T : Tr1 C rec ops nt h.next E Hh V := ⟨hok, fun p o ho => by
  have := (e4 p o (Nat.zero_le _) (by
   rcases Nat.lt_or_ge p ops.size with h | h
   ·exact h
   ·simp [Array.getElem?_eq_none h] at ho) ho).1
  rw [← e2] at this
  exact this⟩
 obtain ⟨n1, n2⟩ := aAw (cF C.P ops.toList) h
 have hNN : (resv (cF C.P ops.toList) h).next.toNat = h.next.toNat + cF C.P ops.toList := by rw [n1, dY]
 refine (bTt (G := G) K T rfl H.nx (ρ := ρ) (w0 := w) (fun ρ' a' w' h1 h2 h3 h4 h5 h6 => hQ ρ' _ _ a' w' h1 h2 h3 h4 h5 h6 e3) ops.size _ a _ ?_ ?_)
 ·have hno : ∀ j, ¬ S (Array.replicate ops.size false) j := by
   intro j hj
   unfold S at hj
   simp [Array.getElem?_replicate] at hj
   split at hj <;> simp at hj
  have hnoE : ∀ j, ¬ iS C ops (Array.replicate ops.size false) 0 j := by
   rintro j ⟨oj, _, _, h3, _⟩
   exact hno j h3
  refine ⟨by simp, fun j x _ hx => absurd hx (hno x), 0, Nat.zero_le _, .inl rfl, fun j oj hj ha => ⟨fun h => by omega, fun h => absurd h (hno j)⟩, ρ, fun _ => 0, Ex.refl G ρ, ?_, ?_, ?_, hnt, hd, ?_, fun j hj => absurd hj (hnoE j), fun j j' hj => absurd hj (hnoE j)⟩
  ·rw [e2]
   have := (H.reserve (cF C.P ops.toList)).congr (w' := { w with drawn := w.drawn + 1 }) rfl
   rw [hNN] at this
   refine this.weak rfl ?_ (Nat.le_refl _) rfl
   rintro k (hk | ⟨j, hj, _⟩)
   ·exact hk
   ·exact absurd hj (hnoE j)
  ·have hT : ∀ p, TS ops V (E 0) (Array.replicate ops.size false) p = E 0 := by
    intro p
    induction p with
    | zero => rfl
    | succ p ih =>
     simp only [TS, ih]
     split
     ·rename_i o ho
      rw [if_neg (show ¬ (Array.replicate ops.size false).getD p false = true from hno p)]
     ·rfl
   intro t
   rw [hT, e1]
   exact he t
  ·exact (Kp.refl G w).drew
  ·intro j oj hj hmj _
   cases hr : ρ (idp C ops h.next j) with
   | none => rfl
   | some L =>
    have h1 := H.lt _ _ hr
    unfold idp at h1
    rw [dY] at h1
    omega
 ·have := List.length_filter_le (fun i => !(Array.replicate ops.size false).getD i false) (List.range ops.size)
  simpa using this
theorem aZw {DD : List Deferred} (K : OkC C rec) (hm : C.P.follows .mixedOrders = true) {id : Nat} {k : Dd.K} {r : DV × Hp} {env : aV} {h : Hp} {ρ : dD} {a : Act} {w : World} {Q : Exit → Act → World → Prop}
  (hok : fC C.P ops = true) (hp : iV C rec nt ops k env h = some r) (H : HR G ρ h w) (he : EnvR ρ env a) (hnt : nt ≤ a.tmps.size) (hd : a.defers = DD)
  (hQ : ∀ ρ' env' h' a' w', Ex G ρ ρ' → HR G ρ' h' w' → EnvR ρ' env' a' → Kp G w w' → nt ≤ a'.tmps.size → a'.defers = DD → k env' h' = some r → Q .normal a' w') :
  (Code.region id ops true).wp C.P Q a w :=
 wp_region_any hm (cCf K hok hp H he hnt hd hQ)
end
end Go.Dd

namespace Go.Dd
open Go.RowKit (Below)
section
variable {C : Cfg} {G : Gd} {rec : FuncId → List DV → Hp → aH} {nt n : Nat}
def St (DD : List Deferred) (G : Gd) (nt : Nat) (ρ : dD) (w0 : World) (k : K) (r : DV × Hp) (a : Act) (w : World) : Prop :=
 ∃ ρ' env h, Ex G ρ ρ' ∧ HR G ρ' h w ∧ EnvR ρ' env a ∧ Kp G w0 w ∧ nt ≤ a.tmps.size ∧ a.defers = DD ∧ k env h = some r
def QQ (DD : List Deferred) (G : Gd) (nt : Nat) (ρ : dD) (w0 : World) (X : Nat → K) (kr k : K) (r : DV × Hp) : Exit → Act → World → Prop
 | .normal, a, w => St DD G nt ρ w0 k r a w
 | .exit id, a, w => St DD G nt ρ w0 (X id) r a w
 | .ret, a, w => St DD G nt ρ w0 kr r a w
 | _, _, _ => False
theorem cTc {DD : List Deferred} (K : OkC C rec) (hm : C.P.follows .mixedOrders = true) {ρ : dD} {w0 : World} {r : DV × Hp} : ∀ (c : Code) (X : Nat → Dd.K) (kr k : Dd.K) (a : Act) (w : World),
  St DD G nt ρ w0 (aN C rec nt n c X kr k) r a w → c.wp C.P (QQ DD G nt ρ w0 X kr k r) a w := by
 intro c
 induction c with
 | skip => intro X kr k a w h; exact wp_skip h
 | region id ops dr =>
  intro X kr k a w h
  obtain ⟨ρ', env, hp, h1, h2, h3, h4, h5, h6, h7⟩ := h
  change (Bool.rec (motive := fun _ => Dd.K) (jE C rec nt ops ops.toList k) (Bool.rec (motive := fun _ => Dd.K) dL (iV C rec nt ops k) (fC C.P ops)) dr) env hp = some r at h7
  cases dr with
  | true =>
   dsimp only at h7
   cases hok : fC C.P ops with
   | false => rw [hok] at h7; cases h7
   | true =>
    rw [hok] at h7
    exact aZw K hm hok h7 h2 h3 h5 h6 fun ρ2 env2 h2' a2 w2 e1 e2 e3 e4 e5 e6 e7 => ⟨ρ2, env2, h2', h1.trans e1, e2, e3, h4.trans e4, e5, e6, e7⟩
  | false =>
   simp only [cond_false] at h7
   obtain ⟨env', h', hr, hk⟩ := vM ops.toList k env hp r h7
   refine wp_region ?_
   have := aSs (Q := QQ DD G nt ρ w0 X kr k r) K ops.toList 0 ρ' env hp a w (by simp) hr h2 h3 h5 h6 fun ρ2 a2 w2 e1 e2 e3 e4 e5 e6 => ⟨ρ2, env', h', h1.trans e1, e2, e3, h4.trans e4, e5, e6, hk⟩
   rw [List.range_eq_range']
   simpa using this
 | seq x y ihx ihy =>
  intro X kr k a w h
  refine wp_seq (wp_mono (ihx X kr (aN C rec nt n y X kr k) a w h) fun e a' w' hq => ?_)
  cases e with
  | normal => exact ihy X kr k a' w' hq
  | exit id => exact hq
  | ret => exact hq
  | goto l => exact hq
  | panic ch => exact hq
  | outgrown => exact hq
 | cond c x y ihx ihy =>
  intro X kr k a w h
  obtain ⟨ρ', env, hp, h1, h2, h3, h4, h5, h6, h7⟩ := h
  change aT (opr env c) (aN C rec nt n x X kr k env hp) (aN C rec nt n y X kr k env hp) = some r at h7
  have hc := bG h3 c
  unfold aT at h7
  split at h7 <;> (try (cases h7; done))
  ·rename_i hcb
   rw [hcb] at hc
   generalize hcv : a.eval c = cv at hc
   cases hc
   exact wp_cond_true hcv (ihx X kr k a w ⟨ρ', env, hp, h1, h2, h3, h4, h5, h6, h7⟩)
  ·rename_i hcb
   rw [hcb] at hc
   generalize hcv : a.eval c = cv at hc
   cases hc
   exact wp_cond_false hcv (ihy X kr k a w ⟨ρ', env, hp, h1, h2, h3, h4, h5, h6, h7⟩)
 | block id x ih =>
  intro X kr k a w h
  refine wp_block (wp_mono (ih (fun j => bif Nat.beq j id then k else X j) kr k a w h) fun e a' w' hq => ?_)
  cases e with
  | normal => exact hq
  | exit id' =>
   simp only [QQ] at hq
   simp only [Exit.inBlock, QQ]
   split
   ·rename_i e
    subst e
    have hb : Nat.beq id' id' = true := Nat.beq_refl id'
    rw [hb] at hq
    exact hq
   ·rename_i e
    have : Nat.beq id' id = false := by
     cases hb : Nat.beq id' id with
     | false => rfl
     | true => exact absurd (Nat.eq_of_beq_eq_true hb) e
    rw [this] at hq
    exact hq
  | ret => exact hq
  | goto l => exact hq
  | panic ch => exact hq
  | outgrown => exact hq
 | loop x ih =>
  intro X kr k a w h
  have key : ∀ (m : Nat) (a : Act) (w : World), St DD G nt ρ w0 (aM (fun kk => aN C rec nt n x X kr kk) m) r a w → Code.rounds C.P x (QQ DD G nt ρ w0 X kr k r) m a w := by
   intro m
   induction m with
   | zero =>
    rintro a w ⟨ρ', env, hp, h1, h2, h3, h4, h5, h6, h7⟩
    cases h7
   | succ m ihm =>
    intro a w hs
    rw [rounds_succ]
    refine wp_mono (ih X kr (aM (fun kk => aN C rec nt n x X kr kk) m) a w hs) fun e a' w' hq => ?_
    cases e with
    | normal => exact ihm a' w' hq
    | exit id => exact hq
    | ret => exact hq
    | goto l => exact hq
    | panic ch => exact hq
    | outgrown => exact hq
  exact wp_loop_rounds n (key n a w h)
 | rangeFunc f ps x y ihx ihy =>
  rintro X kr k a w ⟨ρ', env, hp, h1, h2, h3, h4, h5, h6, h7⟩
  cases h7
 | exit id => intro X kr k a w h; exact wp_exit h
 | scope x ih =>
  intro X kr k a w h
  refine wp_scope_straight (wp_mono (ih X kr k a w h) fun e a' w' hq => ?_)
  cases e with
  | goto l => exact hq
  | normal => exact hq
  | exit id => exact hq
  | ret => exact hq
  | panic ch => exact hq
  | outgrown => exact hq
 | label l => intro X kr k a w h; exact wp_label h
 | goto l =>
  rintro X kr k a w ⟨ρ', env, hp, h1, h2, h3, h4, h5, h6, h7⟩
  cases h7
 | ret => intro X kr k a w h; exact wp_ret h
 | refuse why =>
  rintro X kr k a w ⟨ρ', env, hp, h1, h2, h3, h4, h5, h6, h7⟩
  cases h7
def aDs (tmps : Array Value) (rv : ResultVar) : Sem Value :=
 match rv with
 | .tmp t => pure (tmps.getD t undef)
 | .cell q t => do loadVar t (← asAddr (tmps.getD q undef))
theorem xZ (fn : Func) (tmps : Array Value) : results fn tmps = (do
  let vs ← fn.results.mapM (aDs tmps)
  pure (if h : vs.size = 1 then vs[0] else .tuple vs)) := by
 unfold results
 congr 2
theorem bKi {ρ : dD} {w : World} {h : Hp} {x : DV} {x' : Value} {t : TypeId} {k : DV → aH} {r : DV × Hp} (H : HR G ρ h w) (hx : VR ρ x x') (hr : aAx C t x h k = some r) :
  ∃ v v', (do loadVar t (← asAddr x') : Sem Value).run C.P w = .ok v' w ∧ VR ρ v v' ∧ k v = some r := by
 unfold aAx at hr
 split at hr <;> (try (cases hr; done))
 rename_i d i ht hi
 obtain ⟨v, h', hl, hk⟩ := dN hr
 have hconv : ∀ b o, x = .p b o → (Instr.loadAt t x') = (do loadVar t (← asAddr x')) := by
  rintro b o rfl
  cases hx
  simp [Instr.loadAt, Instr.sureAddr, asAddr]
 cases hd : iY d with
 | true =>
  rw [hd] at hl
  simp only [cond_true] at hl
  unfold aK at hl
  split at hl <;> (try (cases hl; done))
  rename_i b o
  split at hl <;> (try (cases hl; done))
  rename_i cs hc
  simp only [bE, bQ] at hl
  obtain ⟨rfl, _⟩ := hl
  cases hx with
  | p _ _ L hL =>
   obtain ⟨c1, c2, _, vs, c4, c5, c6⟩ := eU H hc hL
   have hrun := dG (P := C.P) vs rfl c6
   rw [c5] at hrun
   refine ⟨_, .agg vs.toArray, ?_, .a cs vs.toArray (by simpa using c4), hk⟩
   simp only [asAddr, Sem.run_bind, Sem.run_pure, Result.andThen_ok, loadVar, rA ht, hd, if_true, rS hi, hrun]
 | false =>
  rw [hd] at hl
  simp only [cond_false] at hl
  unfold aA at hl
  split at hl <;> (try (cases hl; done))
  rename_i b o
  split at hl <;> (try (cases hl; done))
  rename_i u' hc
  simp only [bE, bQ] at hl
  obtain ⟨rfl, _⟩ := hl
  cases hx with
  | p _ _ L hL =>
   unfold cellD rowOf at hc
   split at hc <;> (try (cases hc; done))
   rename_i l hl
   split at hl <;> (try (cases hl; done))
   rename_i kd l0 hb
   simp only [bE] at hl
   subst hl
   split at hc <;> (try (cases hc; done))
   rename_i u0 hu
   split at hc <;> (try (cases hc; done))
   rename_i ho
   simp only [bE] at hc
   subst hc
   obtain ⟨v', h5, h6⟩ := H.cell b kd l0 L o u0 hb hL hu ho
   refine ⟨_, v', ?_, h6, hk⟩
   simp only [asAddr, Sem.run_bind, Sem.run_pure, Result.andThen_ok, loadVar, rA ht, hd, Bool.false_eq_true, if_false, run_load, h5]
theorem vV {ρ : dD} {w : World} {h : Hp} {env : aV} {a : Act} (H : HR G ρ h w) (he : EnvR ρ env a) {r : DV × Hp} : ∀ (l : List ResultVar) (k : List DV → aH), aYz C env h l k = some r →
  ∃ vs vs', (l.mapM (aDs a.tmps)).run C.P w = .ok vs' w ∧ VRs ρ vs vs' ∧ k vs = some r
 | [], k, hr => ⟨[], [], by simp, .nil, hr⟩
 | .tmp t :: l, k, hr => by
  obtain ⟨vs, vs', h1, h2, h3⟩ := vV H he l (fun vs => k (env t :: vs)) hr
  refine ⟨env t :: vs, a.tmps.getD t undef :: vs', ?_, .cons _ _ _ _ (he t) h2, h3⟩
  simp only [List.mapM_cons, Sem.run_bind, aDs, Result.andThen_ok, h1, Sem.run_pure]
 | .cell q t :: l, k, hr => by
  obtain ⟨v, v', h1, h2, h3⟩ := bKi (x' := a.tmps.getD q undef) H (he q) hr
  obtain ⟨vs, vs', h4, h5, h6⟩ := vV H he l (fun vs => k (v :: vs)) h3
  refine ⟨v :: vs, v' :: vs', ?_, .cons _ _ _ _ h2 h5, h6⟩
  simp only [List.mapM_cons, Sem.run_bind, aDs] at h1 ⊢
  simp only [h1, Result.andThen_ok, h4, Sem.run_pure]
theorem aWg {ρ : dD} {w : World} {h h1 : Hp} {env : aV} {a : Act} (H : HR G ρ h w) (he : EnvR ρ env a) {fn : Func} {v : DV} (hr : aP C fn env h = some (v, h1)) :
  h1 = h ∧ ∃ v', (results fn a.tmps).run C.P w = .ok v' w ∧ VR ρ v v' := by
 obtain ⟨us, vs', h2, h3, hk⟩ := vV H he _ _ hr
 unfold bTp at hk
 split at hk
 ·rename_i u
  simp only [bE, bQ] at hk
  obtain ⟨rfl, rfl⟩ := hk
  cases h3 with
  | cons _ v' _ l' hv hn =>
   cases hn
   refine ⟨rfl, v', ?_, hv⟩
   rw [xZ, Array.mapM_eq_mapM_toList]
   simp only [Sem.run_bind, Sem.run_map, h2, Result.andThen_ok, Sem.run_pure]
   simp
 ·rename_i hne
  simp only [bE, bQ] at hk
  obtain ⟨rfl, rfl⟩ := hk
  have hl := h3.length
  have hne1 : vs'.length ≠ 1 := by
   intro e
   rw [e] at hl
   match us, hl with
   | [x], _ => exact hne x rfl
  refine ⟨rfl, .tuple vs'.toArray, ?_, .t _ _ (by simpa using h3)⟩
  rw [xZ, Array.mapM_eq_mapM_toList]
  simp only [Sem.run_bind, Sem.run_map, h2, Result.andThen_ok, Sem.run_pure]
  rw [dif_neg (by simpa using hne1)]
structure POk (P : Program) : Prop where
 mixed : P.follows .mixedOrders = true
 names : ∀ (f : Nat) (fn : Func), P.funcs[f]? = some fn → (fn.name == "runtime.NumGoroutine") = false
theorem qA (K : OkC C rec) (hP : POk C.P) (n : Nat) (f : FuncId) : mV C.P G f (aF C rec n f) := by
 intro args h v h1 hr ρ w args' H hargs
 unfold aF at hr
 split at hr <;> (try (cases hr; done))
 rename_i fn hf
 split at hr <;> (try (cases hr; done))
 rename_i c hb
 refine .inl ⟨?_, ?_⟩
 ·unfold callFunc
  have hn : ¬ fn.name = "runtime.NumGoroutine" := by simpa using hP.names f fn hf
  simp [hf, hn, hb]
 ·refine calls_of_wp hf hb ?_
  have he : EnvR ρ (aI args) { tmps := args' ++ Array.replicate (fn.ntmps - args'.size) undef, defers := [] } := by
   intro t
   unfold aI
   have hlen := hargs.length
   simp only [Array.length_toList] at hlen
   by_cases ht : t < args.length
   ·have hg : args[t]? = some args[t] := by simp [ht]
    obtain ⟨v', h2, h3⟩ := hargs.get t _ hg
    simp only [Array.getElem?_toList] at h2
    rw [show args.getD t aW = args[t] by simp [List.getD, hg]]
    have : (args' ++ Array.replicate (fn.ntmps - args'.size) undef).getD t undef = v' := by
     simp [Array.getElem?_append_left (show t < args'.size by omega), h2]
    rw [this]
    exact h3
   ·have hg : args.getD t aW = aW := by simp [List.getD, List.getElem?_eq_none (Nat.le_of_not_lt ht)]
    rw [hg]
    have : (args' ++ Array.replicate (fn.ntmps - args'.size) undef).getD t undef = undef := by
     rw [Array.getD_eq_getD_getElem?, Array.getElem?_append_right (by omega)]
     simp only [Array.getElem?_replicate]
     split <;> rfl
    rw [this]
    exact .t [] #[] .nil
  have hst : St [] G fn.ntmps ρ w (aN C rec fn.ntmps n c (fun _ => dL) (aP C fn) (aP C fn)) (v, h1) { tmps := args' ++ Array.replicate (fn.ntmps - args'.size) undef, defers := [] } w :=
   ⟨ρ, aI args, h, Ex.refl G ρ, H, he, Kp.refl G w, by simp; omega, rfl, hr⟩
  refine wp_mono (cTc K hP.mixed c _ _ _ _ _ hst) fun e a' w' hq => ?_
  have hfin : St [] G fn.ntmps ρ w (aP C fn) (v, h1) a' w' → a'.defers = [] ∧ ∃ v', (results fn a'.tmps).run C.P w' = .ok v' w' ∧ lW G ρ w v h1 (.returned v') w' := by
   rintro ⟨ρ', env, h', e1, e2, e3, e4, e5, e6, e7⟩
   obtain ⟨rfl, v', r1, r2⟩ := aWg e2 e3 e7
   exact ⟨e6, v', r1, ρ', v', rfl, e1, r2, e2, e4⟩
  cases e with
  | normal => exact hfin hq
  | ret => exact hfin hq
  | exit id =>
   obtain ⟨ρ', env, h', e1, e2, e3, e4, e5, e6, e7⟩ := hq
   cases e7
  | goto l => exact hq.elim
  | panic ch => exact hq.elim
  | outgrown => exact hq.elim
theorem bJq (hP : POk C.P) (hI : ∀ G g F, C.I g = some F → mV C.P G g F) : ∀ (n : Nat) (G : Gd) (f : FuncId), mV C.P G f (fnD C n f)
 | 0, G, f => fun args h v h1 hr => by cases hr
 | n + 1, G, f => qA (rec := fnD C n) ⟨hI, fun G g => bJq hP hI n G g⟩ hP n f
end
end Go.Dd

namespace Go.Dd
open Go.RowKit (Below)
section
variable {C : Cfg} {G : Gd} {rec : FuncId → List DV → Hp → aH} {nt : Nat}
def nM (h : Hp) : Prop := ∀ b o, h.bl.get b = some o → b.toNat < h.next.toNat
theorem HR.isFresh {ρ : dD} {h : Hp} {w : World} (H : HR G ρ h w) : nM h := fun b o hb => by
 obtain ⟨L, hL⟩ := H.dom b o hb
 exact H.lt b L hL
def aNl (C : Cfg) (rec : FuncId → List DV → Hp → aH) (nt : Nat) (ops : Array Oper) (lW : aV → Hp → Prop) : Nat → Array Bool → aV → Hp → Prop
 | 0, listed, env, h => Region.ready .any ops listed = [] ∧ lW env h
 | f + 1, listed, env, h => (Region.ready .any ops listed = [] → lW env h) ∧
   ∀ i ∈ Region.ready .any ops listed, ∃ o v h', ops[i]? = some o ∧ dA nt o.dst = true ∧ bK C rec ops o env h = some (v, h') ∧
    aNl C rec nt ops lW f (listed.setIfInBounds i true) (bO env o.dst v) h'
theorem bYm (K : OkC C rec) {ops : Array Oper} {lW : aV → Hp → Prop} {Q : Exit → Act → World → Prop} : ∀ (fuel : Nat) (listed : Array Bool) (ρ : dD) (env : aV) (h : Hp) (a : Act) (w : World),
  aNl C rec nt ops lW fuel listed env h → HR G ρ h w → EnvR ρ env a → nt ≤ a.tmps.size → a.defers = [] →
  (∀ ρ' env' h' a' w', lW env' h' → Ex G ρ ρ' → HR G ρ' h' w' → EnvR ρ' env' a' → Kp G w w' → nt ≤ a'.tmps.size → a'.defers = [] → Q .normal a' w') →
  wpAny C.P .any ops Q fuel listed a w
 | 0, listed, ρ, env, h, a, w, hp, H, he, hnt, hd, hQ => ⟨hp.1, hQ ρ env h a w hp.2 (Ex.refl G ρ) H he (Kp.refl G w) hnt hd⟩
 | f + 1, listed, ρ, env, h, a, w, hp, H, he, hnt, hd, hQ => by
  refine ⟨fun hr => hQ ρ env h a w (hp.1 hr) (Ex.refl G ρ) H he (Kp.refl G w) hnt hd, fun i hi => ?_⟩
  obtain ⟨o, v, h', ho, hf, hs, hn⟩ := hp.2 i hi
  refine aFy (aIx K H he hs) rfl ho H fun ρ' w' v' h2 h3 h4 h5 => ?_
  exact bYm K f _ ρ' _ h' _ w' hn h4 (he.put h2.ext h3 hf hnt) (by rw [pO]; exact hnt) (by rw [kX]; exact hd)
   fun ρ2 env2 hh a2 w2 e0 e1 e2 e3 e4 e5 e6 => hQ ρ2 env2 hh a2 w2 e0 (h2.trans e1) e2 e3 (h5.trans e4) e5 e6
def rL (C : Cfg) (rec : FuncId → List DV → Hp → aH) (nt : Nat) : Code → (Nat → aV → Hp → Prop) → (aV → Hp → Prop) → (aV → Hp → Prop) → aV → Hp → Prop
 | .skip, _, _, N => N
 | .region _ ops dr, _, _, N => fun env h => if dr then (aNl C rec nt ops (fun e h => nM h → N e h) ops.size (Array.replicate ops.size false) env h ∨
    (fC C.P ops = true ∧ ∃ k r, iV C rec nt ops k env h = some r ∧ ∀ env' h', k env' h' = some r → nM h' → N env' h'))
   else ∃ env' h', aEp C rec nt ops ops.toList env h env' h' ∧ (nM h' → N env' h')
 | .seq a b, X, R, N => rL C rec nt a X R (rL C rec nt b X R N)
 | .cond c a b, X, R, N => fun env h => (opr env c = .b true ∧ rL C rec nt a X R N env h) ∨ (opr env c = .b false ∧ rL C rec nt b X R N env h)
 | .block id a, X, R, N => rL C rec nt a (fun j => if j = id then N else X j) R N
 | .exit id, X, _, _ => X id
 | .scope a, X, R, N => rL C rec nt a X R N
 | .ret, _, R, _ => R
 | _, _, _, _ => fun _ _ => False
def StP (G : Gd) (nt : Nat) (ρ : dD) (w0 : World) (N : aV → Hp → Prop) (a : Act) (w : World) : Prop :=
 ∃ ρ' env h, Ex G ρ ρ' ∧ HR G ρ' h w ∧ EnvR ρ' env a ∧ Kp G w0 w ∧ nt ≤ a.tmps.size ∧ a.defers = [] ∧ N env h
def QP (G : Gd) (nt : Nat) (ρ : dD) (w0 : World) (X : Nat → aV → Hp → Prop) (R N : aV → Hp → Prop) : Exit → Act → World → Prop
 | .normal, a, w => StP G nt ρ w0 N a w
 | .exit id, a, w => StP G nt ρ w0 (X id) a w
 | .ret, a, w => StP G nt ρ w0 R a w
 | _, _, _ => False
theorem cCz (K : OkC C rec) (hm : C.P.follows .mixedOrders = true) {ρ : dD} {w0 : World} : ∀ (c : Code) (X : Nat → aV → Hp → Prop) (R N : aV → Hp → Prop) (a : Act) (w : World),
  StP G nt ρ w0 (rL C rec nt c X R N) a w → c.wp C.P (QP G nt ρ w0 X R N) a w := by
 intro c
 induction c with
 | skip => intro X R N a w h; exact wp_skip h
 | region id ops dr =>
  intro X R N a w h
  obtain ⟨ρ', env, hp, h1, h2, h3, h4, h5, h6, h7⟩ := h
  cases dr with
  | true =>
   simp only [rL, if_true] at h7
   rcases h7 with h7 | ⟨hok, k, r, h7, h8⟩
   ·refine wp_region_any hm (bYm K ops.size _ ρ' env hp a _ h7 (h2.congr rfl) h3 h5 h6 fun ρ2 env2 h2' a2 w2 e0 e1 e2 e3 e4 e5 e6 => ?_)
    exact ⟨ρ2, env2, h2', h1.trans e1, e2, e3, (h4.trans ((Kp.refl G w).drew)).trans e4, e5, e6, e0 e2.isFresh⟩
   ·exact aZw K hm hok h7 h2 h3 h5 h6 fun ρ2 env2 h2' a2 w2 e1 e2 e3 e4 e5 e6 e7 => ⟨ρ2, env2, h2', h1.trans e1, e2, e3, h4.trans e4, e5, e6, h8 _ _ e7 e2.isFresh⟩
  | false =>
   simp only [rL, Bool.false_eq_true, if_false] at h7
   obtain ⟨env', h', hr, hk⟩ := h7
   refine wp_region ?_
   have := aSs (Q := QP G nt ρ w0 X R N) K ops.toList 0 ρ' env hp a w (by simp) hr h2 h3 h5 h6 fun ρ2 a2 w2 e1 e2 e3 e4 e5 e6 => ⟨ρ2, env', h', h1.trans e1, e2, e3, h4.trans e4, e5, e6, hk e2.isFresh⟩
   rw [List.range_eq_range']
   simpa using this
 | seq x y ihx ihy =>
  intro X R N a w h
  refine wp_seq (wp_mono (ihx X R (rL C rec nt y X R N) a w h) fun e a' w' hq => ?_)
  cases e with
  | normal => exact ihy X R N a' w' hq
  | exit id => exact hq
  | ret => exact hq
  | goto l => exact hq
  | panic ch => exact hq
  | outgrown => exact hq
 | cond c x y ihx ihy =>
  intro X R N a w h
  obtain ⟨ρ', env, hp, h1, h2, h3, h4, h5, h6, h7⟩ := h
  have hc := bG h3 c
  rcases h7 with ⟨hcb, h7⟩ | ⟨hcb, h7⟩
  ·rw [hcb] at hc
   generalize hcv : a.eval c = cv at hc
   cases hc
   exact wp_cond_true hcv (ihx X R N a w ⟨ρ', env, hp, h1, h2, h3, h4, h5, h6, h7⟩)
  ·rw [hcb] at hc
   generalize hcv : a.eval c = cv at hc
   cases hc
   exact wp_cond_false hcv (ihy X R N a w ⟨ρ', env, hp, h1, h2, h3, h4, h5, h6, h7⟩)
 | block id x ih =>
  intro X R N a w h
  refine wp_block (wp_mono (ih (fun j => if j = id then N else X j) R N a w h) fun e a' w' hq => ?_)
  cases e with
  | normal => exact hq
  | exit id' =>
   simp only [QP] at hq
   simp only [Exit.inBlock]
   split
   ·rename_i e
    rw [if_pos e] at hq
    exact hq
   ·rename_i e
    rw [if_neg e] at hq
    exact hq
  | ret => exact hq
  | goto l => exact hq
  | panic ch => exact hq
  | outgrown => exact hq
 | loop x ih => rintro X R N a w ⟨ρ', env, hp, h1, h2, h3, h4, h5, h6, h7⟩; exact h7.elim
 | rangeFunc f ps x y ihx ihy => rintro X R N a w ⟨ρ', env, hp, h1, h2, h3, h4, h5, h6, h7⟩; exact h7.elim
 | exit id => intro X R N a w h; exact wp_exit h
 | scope x ih =>
  intro X R N a w h
  refine wp_scope_straight (wp_mono (ih X R N a w h) fun e a' w' hq => ?_)
  cases e with
  | goto l => exact hq
  | normal => exact hq
  | exit id => exact hq
  | ret => exact hq
  | panic ch => exact hq
  | outgrown => exact hq
 | label l => rintro X R N a w ⟨ρ', env, hp, h1, h2, h3, h4, h5, h6, h7⟩; exact h7.elim
 | goto l => rintro X R N a w ⟨ρ', env, hp, h1, h2, h3, h4, h5, h6, h7⟩; exact h7.elim
 | ret => intro X R N a w h; exact wp_ret h
 | refuse why => rintro X R N a w ⟨ρ', env, hp, h1, h2, h3, h4, h5, h6, h7⟩; exact h7.elim
def Le (h2 h1 : Hp) : Prop := ∀ G ρ w, HR G ρ h2 w → HR G ρ h1 w
theorem dCn (K : OkC C rec) (hP : POk C.P) {f : FuncId} {fn : Func} {c : Code} (hf : C.P.funcs[f]? = some fn) (hb : fn.body = some c) {F : List DV → Hp → aH}
  (hF : ∀ args h v h1, F args h = some (v, h1) → nM h → rL C rec fn.ntmps c (fun _ _ _ => False) (fun env h' => ∃ h2, aP C fn env h' = some (v, h2) ∧ Le h2 h1)
   (fun env h' => ∃ h2, aP C fn env h' = some (v, h2) ∧ Le h2 h1) (aI args) h) : mV C.P G f F := by
 intro args h v h1 hr ρ w args' H hargs
 refine .inl ⟨?_, ?_⟩
 ·unfold callFunc
  have hn : ¬ fn.name = "runtime.NumGoroutine" := by simpa using hP.names f fn hf
  simp [hf, hn, hb]
 ·refine calls_of_wp hf hb ?_
  have he : EnvR ρ (aI args) { tmps := args' ++ Array.replicate (fn.ntmps - args'.size) undef, defers := [] } := by
   intro t
   unfold aI
   have hlen := hargs.length
   simp only [Array.length_toList] at hlen
   by_cases ht : t < args.length
   ·have hg : args[t]? = some args[t] := by simp [ht]
    obtain ⟨v', h2, h3⟩ := hargs.get t _ hg
    simp only [Array.getElem?_toList] at h2
    rw [show args.getD t aW = args[t] by simp [List.getD, hg]]
    have : (args' ++ Array.replicate (fn.ntmps - args'.size) undef).getD t undef = v' := by
     simp [Array.getElem?_append_left (show t < args'.size by omega), h2]
    rw [this]
    exact h3
   ·have hg : args.getD t aW = aW := by simp [List.getD, List.getElem?_eq_none (Nat.le_of_not_lt ht)]
    rw [hg]
    have : (args' ++ Array.replicate (fn.ntmps - args'.size) undef).getD t undef = undef := by
     rw [Array.getD_eq_getD_getElem?, Array.getElem?_append_right (by omega)]
     simp only [Array.getElem?_replicate]
     split <;> rfl
    rw [this]
    exact .t [] #[] .nil
  have hst : StP G fn.ntmps ρ w _ { tmps := args' ++ Array.replicate (fn.ntmps - args'.size) undef, defers := [] } w :=
   ⟨ρ, aI args, h, Ex.refl G ρ, H, he, Kp.refl G w, by simp; omega, rfl, hF args h v h1 hr H.isFresh⟩
  refine wp_mono (cCz K hP.mixed c _ _ _ _ _ hst) fun e a' w' hq => ?_
  have hfin : StP G fn.ntmps ρ w (fun env h' => ∃ h2, aP C fn env h' = some (v, h2) ∧ Le h2 h1) a' w' → a'.defers = [] ∧ ∃ v', (results fn a'.tmps).run C.P w' = .ok v' w' ∧ lW G ρ w v h1 (.returned v') w' := by
   rintro ⟨ρ', env, h', e1, e2, e3, e4, e5, e6, h2, e7, e8⟩
   obtain ⟨rfl, v', r1, r2⟩ := aWg e2 e3 e7
   exact ⟨e6, v', r1, ρ', v', rfl, e1, r2, e8 _ _ _ e2, e4⟩
  cases e with
  | normal => exact hfin hq
  | ret => exact hfin hq
  | exit id => obtain ⟨ρ', env, h', e1, e2, e3, e4, e5, e6, e7⟩ := hq; exact e7.elim
  | goto l => exact hq.elim
  | panic ch => exact hq.elim
  | outgrown => exact hq.elim
end
end Go.Dd

namespace Go.Dd
open Go.RowKit (Below)
section
variable {ro : Option Nat} {n : Nat} {P : Program} {Q : Exit → Act → World → Prop}
end
section
variable {C : Cfg} {G : Gd} {rec : FuncId → List DV → Hp → aH} {nt n : Nat}
end
end Go.Dd

namespace Go.Dd
open Go.RowKit (Below)
section
variable {G G' : Gd} {ρ : dD} {h : Hp} {w : World}
end
end Go.Dd

namespace Go.Dd
open Go.RowKit (Below)
structure ItC where
 gf : FuncId
 nt : Nat
 pre : Code
 b0 : Nat
 test : Code
 b1 : Nat
 rid : Nat
 front : List Oper
 y : Oper
 back : List Oper
 after : Code
 post : Code
 step : Code
 yd : Tmp
 yt : Tmp
 yx : Tmp
def ItC.ops (I : ItC) : Array Oper := (I.front ++ I.y :: I.back).toArray
def aNx : Nat → K := fun _ => dL
def ylB (v : DV) (b : Pos) : Bool := match v with
 | .yl b' => b' == b
 | _ => false
section
variable (C : Cfg) (rec : FuncId → List DV → Hp → aH) (n : Nat) (I : ItC)
noncomputable def aOe (b : Bool) (kr k : K) (e1 : aV) : Hp → aH := fun h =>
 cnd (dA I.nt (some I.yd)) (jE C rec I.nt I.ops I.back (aN C rec I.nt n I.after aNx kr k) (bO e1 (some I.yd) (.b b)) h)
noncomputable def aQh (nt : Nat) (p : Tmp) (x y : Code) (env : aV) (X : Nat → K) (kr kk : K) : K := fun e1 h1 =>
 cnd (dA nt (some p)) (aN C rec nt n x aNx dL (aN C rec nt n y
   (fun i _ h2 => aOe C rec n I false (fun _ h3 => X i env h3) dL e1 h2)
   (fun _ h2 => aOe C rec n I false (fun _ h3 => kr env h3) dL e1 h2)
   (fun _ h2 => aOe C rec n I true dL (aN C rec I.nt n I.post aNx dL (aN C rec I.nt n I.step aNx dL kk)) e1 h2))
  (bO env (some p) (e1 I.yx)) h1)
noncomputable def aEn (nt : Nat) (g : Operand) (p : Tmp) (x y : Code) (X : Nat → K) (kr k : K) : K := fun env h =>
 match opr env g with
 | .f gf [] cap => cnd (Nat.beq gf I.gf) (aN C rec I.nt n I.pre aNx dL
   (aM (fun kk => aN C rec I.nt n I.test (fun j => bif Nat.beq j I.b0 then (fun _ h => k env h) else dL) dL
    (jE C rec I.nt I.ops I.front (fun e1 h1 => cnd (ylB (e1 I.yt) h.next) (aQh C rec n I nt p x y env X kr kk e1 h1)))) n)
   (aI (.yl h.next :: cap)) (resv 2 h))
 | _ => none
end
section
variable {C : Cfg} {G : Gd} {rec : FuncId → List DV → Hp → aH} {n : Nat} {I : ItC} {N : Nat}
end
end Go.Dd

namespace Go.Dd
open Go.RowKit (Below)
section
variable {C : Cfg} {G : Gd} {rec : FuncId → List DV → Hp → aH} {n : Nat} {I : ItC} {N : Nat}
section
variable {ρ : dD} {w0 : World} {D l : Nat} {nt : Nat} {p : Tmp} {x y : Code} {f0 : FuncId} {a0 : Act} {env : aV} {X : Nat → Dd.K} {kr k : Dd.K} {r : DV × Hp} {b : Pos}
end
end
end Go.Dd

namespace Go.Dd
open Go.RowKit (Below)
section
variable {C : Cfg} {G : Gd} {rec : FuncId → List DV → Hp → aH} {n : Nat} {I : ItC} {N : Nat}
variable {ρ : dD} {w0 : World} {D l : Nat} {nt : Nat} {p : Tmp} {x y : Code} {f0 : FuncId} {a0 : Act} {env : aV} {X : Nat → Dd.K} {kr k : Dd.K} {r : DV × Hp} {b : Pos}
end
end Go.Dd

namespace Go.Dd
open Go.RowKit (Below)
section
variable {C : Cfg} {G : Gd} {rec : FuncId → List DV → Hp → aH} {n : Nat} {I : ItC} {N : Nat}
end
end Go.Dd

namespace Go.Dd
open Go.RowKit (Below)
noncomputable def dTk (ps : Array Tmp) (k : Tmp → K) : K := match ps.toList with
 | [p] => k p
 | _ => dL
section
variable (C : Cfg) (rec : FuncId → List DV → Hp → aH) (nt n : Nat) (I : ItC)
noncomputable def bTm (c : Code) : (Nat → K) → K → K → K :=
 Code.rec (motive := fun _ => (Nat → K) → K → K → K)
  (fun _ _ k => k)
  (fun _ ops dr _ _ k => Bool.rec (motive := fun _ => K) (jE C rec nt ops ops.toList k) (Bool.rec (motive := fun _ => K) dL (iV C rec nt ops k) (fC C.P ops)) dr)
  (fun _ _ iha ihb X kr k => iha X kr (ihb X kr k))
  (fun c _ _ iha ihb X kr k => fun env h => aT (opr env c) (iha X kr k env h) (ihb X kr k env h))
  (fun id _ ih X kr k => ih (fun j => bif Nat.beq j id then k else X j) kr k)
  (fun _ ih X kr _ => aM (fun kk => ih X kr kk) n)
  (fun g ps x y _ _ X kr k => dTk ps fun p => aEn C rec n I nt g p x y X kr k)
  (fun id X _ _ => X id)
  (fun _ _ _ _ _ => dL)
  (fun _ _ _ _ => dL)
  (fun _ _ _ _ => dL)
  (fun _ kr _ => kr)
  (fun _ _ _ _ => dL) c
noncomputable def mE (f : FuncId) (args : List DV) (h : Hp) : aH :=
 match C.P.funcs[f]? with
 | some fn => match fn.body with
  | some c => bTm C rec fn.ntmps n I c (fun _ => dL) (aP C fn) (aP C fn) (aI args) h
  | none => none
 | none => none
end
section
variable {C : Cfg} {G : Gd} {rec : FuncId → List DV → Hp → aH} {nt n : Nat} {I : ItC}
end
end Go.Dd

namespace Go.Dd
noncomputable section
def WT.get (t : WT) : Nat → Int :=
 WT.rec (motive := fun _ => Nat → Int) (fun _ => .ofNat 0)
  (fun _ v _ ihl ihr k => bif Nat.beq k 0 then v else bif Nat.beq (Nat.mod k 2) 1 then ihl (Nat.div k 2) else ihr (Nat.div (Nat.sub k 1) 2)) t
def dVn (x : Int) (fuel : Nat) : Nat → WT → WT :=
 Nat.rec (motive := fun _ => Nat → WT → WT) (fun _ t => t)
  (fun _ ih k t => WT.rec (motive := fun _ => WT)
   (bif Nat.beq k 0 then .n .e x .e else bif Nat.beq (Nat.mod k 2) 1 then .n (ih (Nat.div k 2) .e) (.ofNat 0) .e else .n .e (.ofNat 0) (ih (Nat.div (Nat.sub k 1) 2) .e))
   (fun l v r _ _ => bif Nat.beq k 0 then .n l x r else bif Nat.beq (Nat.mod k 2) 1 then .n (ih (Nat.div k 2) l) v r else .n l v (ih (Nat.div (Nat.sub k 1) 2) r)) t) fuel
def WT.set (t : WT) (k : Nat) (x : Int) : WT := dVn x 24 k t
theorem WT.get_e (k : Nat) : WT.e.get k = 0 := rfl
theorem dVk (l : WT) (v : Int) (r : WT) (k : Nat) : (WT.n l v r).get k = if k = 0 then v else if k % 2 = 1 then l.get (k / 2) else r.get ((k - 1) / 2) := by
 show (bif Nat.beq k 0 then v else bif Nat.beq (Nat.mod k 2) 1 then l.get (Nat.div k 2) else r.get (Nat.div (Nat.sub k 1) 2)) = _
 cases h0 : Nat.beq k 0 with
 | true => have := Nat.eq_of_beq_eq_true h0; subst this; rfl
 | false =>
  have n0 : k ≠ 0 := by intro e; subst e; cases h0
  rw [if_neg n0]
  cases h1 : Nat.beq (Nat.mod k 2) 1 with
  | true => have : k % 2 = 1 := Nat.eq_of_beq_eq_true h1; rw [if_pos this]; rfl
  | false =>
   have n1 : k % 2 ≠ 1 := by intro e; have e' : Nat.mod k 2 = 1 := e; rw [e'] at h1; cases h1
   rw [if_neg n1]; rfl
theorem dVw (x : Int) (f k : Nat) (t : WT) : dVn x (f + 1) k t = match t with
  | .e => if k = 0 then .n .e x .e else if k % 2 = 1 then .n (dVn x f (k / 2) .e) 0 .e else .n .e 0 (dVn x f ((k - 1) / 2) .e)
  | .n l v r => if k = 0 then .n l x r else if k % 2 = 1 then .n (dVn x f (k / 2) l) v r else .n l v (dVn x f ((k - 1) / 2) r) := by
 have hb : ∀ {α : Type} (a b c : α), (bif Nat.beq k 0 then a else bif Nat.beq (Nat.mod k 2) 1 then b else c) = if k = 0 then a else if k % 2 = 1 then b else c := by
  intro α a b c
  cases h0 : Nat.beq k 0 with
  | true => have := Nat.eq_of_beq_eq_true h0; subst this; rfl
  | false =>
   have n0 : k ≠ 0 := by intro e; subst e; cases h0
   rw [if_neg n0]
   cases h1 : Nat.beq (Nat.mod k 2) 1 with
   | true => have : k % 2 = 1 := Nat.eq_of_beq_eq_true h1; rw [if_pos this]; rfl
   | false =>
    have n1 : k % 2 ≠ 1 := by intro e; have e' : Nat.mod k 2 = 1 := e; rw [e'] at h1; cases h1
    rw [if_neg n1]; rfl
 cases t with
 | e => exact hb _ _ _
 | n l v r => exact hb _ _ _
theorem dVq (x : Int) : ∀ (f k : Nat) (t : WT) (j : Nat), k + 1 < 2 ^ f → (dVn x f k t).get j = if j = k then x else t.get j
 | 0, k, t, j, h => by simp at h
 | f + 1, k, t, j, h => by
  have h2 : 2 ^ (f + 1) = 2 * 2 ^ f := by rw [Nat.pow_succ]; omega
  have ih := fun k t j (h : k + 1 < 2 ^ f) => dVq x f k t j h
  rw [dVw]
  cases t with
  | e =>
   simp only
   split
   ·subst_vars
    rw [dVk]
    split
    ·rfl
    ·simp [WT.get_e]
   ·split
    ·rw [dVk]
     split
     ·subst_vars; rw [if_neg (by omega)]; rfl
     ·split
      ·rw [ih _ _ _ (by omega), WT.get_e, WT.get_e]
       by_cases hj : j = k
       ·rw [if_pos hj, if_pos (by omega)]
       ·rw [if_neg hj, if_neg (by omega)]
      ·rw [WT.get_e, if_neg (by omega)]; rfl
    ·rw [dVk]
     split
     ·subst_vars; rw [if_neg (by omega)]; rfl
     ·split
      ·rw [WT.get_e, if_neg (by omega)]; rfl
      ·rw [ih _ _ _ (by omega), WT.get_e, WT.get_e]
       by_cases hj : j = k
       ·rw [if_pos hj, if_pos (by omega)]
       ·rw [if_neg hj, if_neg (by omega)]
  | n l v r =>
   simp only
   split
   ·subst_vars
    rw [dVk, dVk]
    split
    ·rfl
    ·rfl
   ·split
    ·rw [dVk, dVk]
     split
     ·subst_vars; rw [if_neg (by omega)]
     ·split
      ·rw [ih _ _ _ (by omega)]
       by_cases hj : j = k
       ·rw [if_pos hj, if_pos (by omega)]
       ·rw [if_neg hj, if_neg (by omega)]
      ·rw [if_neg (by omega)]
    ·rw [dVk, dVk]
     split
     ·subst_vars; rw [if_neg (by omega)]
     ·split
      ·rw [if_neg (by omega)]
      ·rw [ih _ _ _ (by omega)]
       by_cases hj : j = k
       ·rw [if_pos hj, if_pos (by omega)]
       ·rw [if_neg hj, if_neg (by omega)]
theorem WT.get_set (t : WT) (k : Nat) (x : Int) (j : Nat) (h : k < 16000000) : (t.set k x).get j = if j = k then x else t.get j :=
 dVq x 24 k t j (by omega)
def iA (n : Nat) (t : WT) : List DV := (List.range n).map fun i => .i .i64 (t.get i)
def uE (g : Bool) : Ob → Ob → Prop
 | .big n t, o => if g then o = .big n t else o = .row .ex (iA n t)
 | .mi t, o => if g then o = .mi t else ∃ es, o = .mp es ∧ ∀ a : Int, dK (.int .i64) (.i .i64 a) es = some (if 0 ≤ a ∧ t.get a.toNat ≠ 0 then some (.b true) else none)
 | o, o' => o' = o
structure Sim (g : Bool) (h h' : Hp) : Prop where
 next : h'.next = h.next
 get : ∀ b o, h.bl.get b = some o → ∃ o', h'.bl.get b = some o' ∧ uE g o o'
def SimR (g : Bool) (r r' : aH) : Prop := ∀ v h, r = some (v, h) → ∃ h', r' = some (v, h') ∧ Sim g h h'
def SimP (g : Bool) (p p' : Hp → aH) : Prop := ∀ h h', Sim g h h' → SimR g (p h) (p' h')
variable {h h' : Hp} {g : Bool}
theorem Sim.row (S : Sim g h h') {b : Pos} {k : Kind} {l : List DV} (hb : h.bl.get b = some (.row k l)) : h'.bl.get b = some (.row k l) := by
 obtain ⟨o', h1, h2⟩ := S.get b _ hb
 rw [h1, show o' = .row k l from h2]
theorem Sim.it (S : Sim g h h') {b : Pos} {s : List Nat} {p : Nat} (hb : h.bl.get b = some (.it s p)) : h'.bl.get b = some (.it s p) := by
 obtain ⟨o', h1, h2⟩ := S.get b _ hb
 rw [h1, show o' = .it s p from h2]
theorem Sim.mp (S : Sim g h h') {b : Pos} {es : List (DV × DV)} (hb : h.bl.get b = some (.mp es)) : h'.bl.get b = some (.mp es) := by
 obtain ⟨o', h1, h2⟩ := S.get b _ hb
 rw [h1, show o' = .mp es from h2]
theorem Sim.set (S : Sim g h h') {o o' : Ob} (hr : uE g o o') (b n : Pos) : Sim g ⟨n, Tr.set o b h.bl⟩ ⟨n, Tr.set o' b h'.bl⟩ := by
 refine ⟨rfl, fun x ob hx => ?_⟩
 by_cases e : x = b
 ·subst e
  simp only [dUs, bE] at hx ⊢
  subst hx
  exact ⟨o', rfl, hr⟩
 ·simp only [dUr _ _ _ _ e] at hx ⊢
  exact S.get x ob hx
theorem Sim.setR (S : Sim g h h') (k : Kind) (l : List DV) (b n : Pos) : Sim g ⟨n, Tr.set (.row k l) b h.bl⟩ ⟨n, Tr.set (.row k l) b h'.bl⟩ := S.set (show uE g (.row k l) (.row k l) from rfl) b n
theorem Sim.setM (S : Sim g h h') (es : List (DV × DV)) (b n : Pos) : Sim g ⟨n, Tr.set (.mp es) b h.bl⟩ ⟨n, Tr.set (.mp es) b h'.bl⟩ := S.set (show uE g (.mp es) (.mp es) from rfl) b n
theorem Sim.setI (S : Sim g h h') (s : List Nat) (p : Nat) (b n : Pos) : Sim g ⟨n, Tr.set (.it s p) b h.bl⟩ ⟨n, Tr.set (.it s p) b h'.bl⟩ := S.set (show uE g (.it s p) (.it s p) from rfl) b n
theorem Sim.new (S : Sim g h h') {o o' : Ob} (hr : uE g o o') : Sim g ⟨h.next.succ, Tr.set o h.next h.bl⟩ ⟨h'.next.succ, Tr.set o' h'.next h'.bl⟩ := by
 rw [S.next]; exact S.set hr _ _
theorem SimR.none (r : aH) : SimR g none r := fun v h e => by cases e
theorem SimR.some (S : Sim g h h') (v : DV) : SimR g (some (v, h)) (some (v, h')) := fun u k e => by
 simp only [bE, bQ] at e
 obtain ⟨rfl, rfl⟩ := e
 exact ⟨h', rfl, S⟩
theorem dUv {F : Hp → aH} (hF : PureP F) : SimP g F F := fun h h' S v k e => by
 obtain ⟨rfl, h2⟩ := hF h v k e
 exact ⟨h', h2 h', S⟩
theorem Sim.rowOf (S : Sim g h h') {b : Pos} {l : List DV} (hb : rowOf b h = some l) : rowOf b h' = some l := by
 unfold Dd.rowOf at hb ⊢
 split at hb <;> (try (cases hb; done))
 rename_i k l0 h0
 rw [S.row h0]; exact hb
theorem Sim.cellsAt (S : Sim g h h') {b : Pos} {o n : Nat} {cs : List DV} (hb : cellsAt b o n h = some cs) : cellsAt b o n h' = some cs := by
 unfold Dd.cellsAt at hb ⊢
 split at hb <;> (try (cases hb; done))
 rename_i l h0
 rw [S.rowOf h0]; exact hb
theorem Sim.cellD (S : Sim g h h') {b : Pos} {o : Nat} {v : DV} (hb : cellD b o h = some v) : cellD b o h' = some v := by
 unfold Dd.cellD at hb ⊢
 split at hb <;> (try (cases hb; done))
 rename_i l h0
 rw [S.rowOf h0]; exact hb
theorem Sim.storeAt (S : Sim g h h') {b : Pos} {o : Nat} {vs : List DV} {k : Hp} (hb : dI b o vs h = some k) : ∃ k', dI b o vs h' = some k' ∧ Sim g k k' := by
 unfold dI at hb ⊢
 split at hb <;> (try (cases hb; done))
 rename_i kd l h0
 rw [S.row h0]
 dsimp only
 split at hb <;> (try (cases hb; done))
 rename_i hw
 rw [if_pos hw]
 split at hb <;> (try (cases hb; done))
 rename_i l' hp
 simp only [bE] at hb
 subst hb
 try simp only [hp]
 exact ⟨_, rfl, by rw [S.next]; exact S.set (show uE g (.row kd l') (.row kd l') from rfl) _ _⟩
theorem aHk (cs : List DV) : SimP g (bN cs) (bN cs) := fun h h' S v k e => by
 simp only [bN, bE, bQ] at e ⊢
 obtain ⟨rfl, rfl⟩ := e
 exact ⟨_, ⟨by rw [S.next], rfl⟩, S.new rfl⟩
theorem aAr (b : Pos) (cs : List DV) : SimP g (lD b cs) (lD b cs) := fun h h' S v k e => by
 simp only [lD, bE, bQ] at e ⊢
 obtain ⟨rfl, rfl⟩ := e
 exact ⟨_, ⟨rfl, rfl⟩, by rw [S.next]; first | exact S.setR _ _ _ _ | exact S.setM _ _ _ | exact S.setI _ _ _ _⟩
theorem cEq (x : DV) : SimP g (bR x) (bR x) := by
 unfold bR
 cases dJ x with
 | none => exact fun h h' S => SimR.none _
 | some cs => exact aHk cs
theorem bIh (b : Pos) (x : DV) : SimP g (wN b x) (wN b x) := by
 unfold wN
 cases dJ x with
 | none => exact fun h h' S => SimR.none _
 | some cs => exact aAr b cs
theorem kK (x : DV) : SimP g (aA x) (aA x) := fun h h' S v k e => by
 unfold aA at e ⊢
 split at e <;> (try (cases e; done))
 split at e <;> (try (cases e; done))
 rename_i hc
 simp only [bE, bQ] at e
 obtain ⟨rfl, rfl⟩ := e
 simp only [S.cellD hc]
 exact ⟨_, rfl, S⟩
theorem kJ (n : Nat) (x : DV) : SimP g (aK n x) (aK n x) := fun h h' S v k e => by
 unfold aK at e ⊢
 split at e <;> (try (cases e; done))
 split at e <;> (try (cases e; done))
 rename_i hc
 simp only [bE, bQ] at e
 obtain ⟨rfl, rfl⟩ := e
 simp only [S.cellsAt hc]
 exact ⟨_, rfl, S⟩
theorem kU (n : Nat) (x y : DV) : SimP g (aG n x y) (aG n x y) := fun h h' S v k e => by
 unfold aG at e ⊢
 split at e <;> (try (cases e; done))
 rename_i b o cs hc
 try rw [hc]
 try dsimp only
 split at e <;> (try (cases e; done))
 rename_i hn
 rw [if_pos hn]
 split at e <;> (try (cases e; done))
 rename_i k0 hs
 simp only [bE, bQ] at e
 obtain ⟨rfl, rfl⟩ := e
 obtain ⟨k', h1, h2⟩ := S.storeAt hs
 try simp only [h1]
 exact ⟨_, rfl, h2⟩
theorem bFh (size : Nat) (x : DV) (lo hi : Option DV) : SimP g (cV size x lo hi) (cV size x lo hi) := fun h h' S v k e => by
 unfold cV at e ⊢
 split at e <;> (try (cases e; done))
 ·split at e <;> (try (cases e; done))
  rename_i en he
  try simp only [he]
  split at e <;> (try (cases e; done))
  rename_i s hs
  try simp only [hs]
  split at e <;> (try (cases e; done))
  ·rename_i l0 hb
   rw [S.row hb]
   simp only [bE, bQ] at e
   obtain ⟨rfl, rfl⟩ := e
   exact ⟨_, rfl, S⟩
  ·rename_i l0 hb
   rw [S.row hb]
   simp only [bE, bQ] at e
   obtain ⟨rfl, rfl⟩ := e
   exact ⟨_, rfl, S⟩
  ·rename_i k0 l0 n1 n2 hb
   rw [S.row hb]
   cases k0 with
   | ro => exact absurd rfl n1
   | ex => exact absurd rfl n2
   | gr es =>
    dsimp only
    split at e
    ·rename_i hcs
     simp only [bE, bQ] at e
     obtain ⟨rfl, rfl⟩ := e
     rw [if_pos hcs]
     exact ⟨_, rfl, S⟩
    ·rename_i hcs
     simp only [bE, bQ] at e
     obtain ⟨rfl, rfl⟩ := e
     rw [if_neg hcs]
     exact ⟨_, rfl, S⟩
   | sp =>
    dsimp only
    split at e
    ·rename_i hcs
     simp only [bE, bQ] at e
     obtain ⟨rfl, rfl⟩ := e
     rw [if_pos hcs]
     exact ⟨_, rfl, S⟩
    ·rename_i hcs
     simp only [bE, bQ] at e
     obtain ⟨rfl, rfl⟩ := e
     rw [if_neg hcs]
     exact ⟨_, rfl, S⟩
 all_goals
  split at e <;> (try (cases e; done))
  rename_i en he
  try simp only [he]
  split at e <;> (try (cases e; done))
  rename_i s hs
  try simp only [hs]
  simp only [bE, bQ] at e
  obtain ⟨rfl, rfl⟩ := e
  exact ⟨_, rfl, S⟩
theorem aUx (x : DV) (lo : Option DV) (hi mx : DV) : SimP g (mY x lo hi mx) (mY x lo hi mx) := fun h h' S v k e => by
 unfold mY at e ⊢
 split at e <;> (try (cases e; done))
 all_goals
  split at e <;> (try (cases e; done))
 ·rename_i m e1
  try simp only [e1]
  split at e <;> (try (cases e; done))
  rename_i n e2
  try simp only [e2]
  simp only [bE, bQ] at e
  obtain ⟨rfl, rfl⟩ := e
  exact ⟨_, rfl, S⟩
 ·rename_i m e1
  try simp only [e1]
  split at e <;> (try (cases e; done))
  rename_i n e2
  try simp only [e2]
  simp only [bE, bQ] at e
  obtain ⟨rfl, rfl⟩ := e
  exact ⟨_, rfl, S⟩
 ·rename_i n1 n2 e1 e2
  try simp only [e1, e2]
  simp only [bE, bQ] at e
  obtain ⟨rfl, rfl⟩ := e
  exact ⟨_, rfl, S⟩
 ·rename_i n1 n2 e1 e2
  try simp only [e1, e2]
  simp only [bE, bQ] at e
  obtain ⟨rfl, rfl⟩ := e
  exact ⟨_, rfl, S⟩
theorem bEp (x : DV) : SimP g (gQ x) (gQ x) := fun h h' S v k e => by
 unfold gQ at e ⊢
 split at e <;> (try (cases e; done))
 ·simp only [bE, bQ] at e
  obtain ⟨rfl, rfl⟩ := e
  exact ⟨_, rfl, S⟩
 ·split at e <;> (try (cases e; done))
  rename_i cs hc
  simp only [S.cellsAt hc]
  split at e <;> (try (cases e; done))
  rename_i l hl
  try simp only [hl]
  simp only [bE, bQ] at e
  obtain ⟨rfl, rfl⟩ := e
  exact ⟨_, rfl, S⟩
theorem xA (z : List DV) (n : Nat) (ps : List (Nat × Nat × DV)) : SimP g (aL z n ps) (aL z n ps) := fun h h' S v k e => by
 unfold aL at e ⊢
 split at e <;> (try (cases e; done))
 rename_i cs hf
 try simp only [hf]
 simp only [bE, bQ] at e ⊢
 obtain ⟨rfl, rfl⟩ := e
 exact ⟨_, ⟨by rw [S.next], rfl⟩, S.new rfl⟩
theorem rR (b : Pos) (z : List DV) (n : Nat) (ps : List (Nat × Nat × DV)) : SimP g (bL b z n ps) (bL b z n ps) := fun h h' S v k e => by
 unfold bL at e ⊢
 split at e <;> (try (cases e; done))
 rename_i cs hf
 try simp only [hf]
 simp only [bE, bQ] at e ⊢
 obtain ⟨rfl, rfl⟩ := e
 exact ⟨_, ⟨rfl, rfl⟩, by rw [S.next]; first | exact S.setR _ _ _ _ | exact S.setM _ _ _ | exact S.setI _ _ _ _⟩
theorem aNq : SimP g dX dX := fun h h' S v k e => by
 simp only [dX, bE, bQ] at e ⊢
 obtain ⟨rfl, rfl⟩ := e
 exact ⟨_, ⟨by rw [S.next], rfl⟩, S.new rfl⟩
theorem Sim.entries (S : Sim g h h') {x : DV} {es : List (DV × DV)} (he : fQ x h = some es) : fQ x h' = some es := by
 unfold fQ at he ⊢
 split at he <;> (try (cases he; done))
 ·exact he
 ·split at he <;> (try (cases he; done))
  rename_i hb
  rw [S.mp hb]; exact he
theorem aRy (d : TypeDesc) (z : DV) (ok : Bool) (x key : DV) : SimP g (dP d z ok x key) (dP d z ok x key) := fun h h' S v k e => by
 unfold dP at e ⊢
 split at e <;> (try (cases e; done))
 rename_i es he
 simp only [S.entries he]
 split at e <;> (try (cases e; done))
 all_goals
  rename_i hf
  try simp only [hf]
  simp only [bE, bQ] at e
  obtain ⟨rfl, rfl⟩ := e
  exact ⟨_, rfl, S⟩
theorem aQx (d : TypeDesc) (x key y : DV) : SimP g (gC d x key y) (gC d x key y) := fun h h' S v k e => by
 unfold gC at e ⊢
 split at e <;> (try (cases e; done))
 split at e <;> (try (cases e; done))
 rename_i b _ es hb
 rw [S.mp hb]
 dsimp only
 split at e <;> (try (cases e; done))
 rename_i hf
 try simp only [hf]
 simp only [bE, bQ] at e
 obtain ⟨rfl, rfl⟩ := e
 exact ⟨_, rfl, by rw [S.next]; first | exact S.setR _ _ _ _ | exact S.setM _ _ _ | exact S.setI _ _ _ _⟩
theorem aDu (d : TypeDesc) (z x key : DV) : SimP g (fS d z x key) (fS d z x key) := fun h h' S v k e => by
 unfold fS at e ⊢
 split at e <;> (try (cases e; done))
 split at e <;> (try (cases e; done))
 rename_i b _ es hb
 rw [S.mp hb]
 dsimp only
 split at e <;> (try (cases e; done))
 all_goals
  rename_i hf
  try simp only [hf]
  simp only [bE, bQ] at e
  obtain ⟨rfl, rfl⟩ := e
  exact ⟨_, rfl, by rw [S.next]; first | exact S.setR _ _ _ _ | exact S.setM _ _ _ | exact S.setI _ _ _ _⟩
theorem vU (x s y : DV) : SimP g (eA x s y) (eA x s y) := fun h h' S v k e => by
 unfold eA at e ⊢
 split at e <;> (try (cases e; done))
 split at e <;> (try (cases e; done))
 rename_i es hb
 rw [S.mp hb]
 dsimp only
 split at e <;> (try (cases e; done))
 rename_i hf
 try simp only [hf]
 simp only [bE, bQ] at e
 obtain ⟨rfl, rfl⟩ := e
 exact ⟨_, rfl, by rw [S.next]; first | exact S.setR _ _ _ _ | exact S.setM _ _ _ | exact S.setI _ _ _ _⟩
theorem aAm (size bytes : Nat) (z : List DV) (n c : DV) : SimP g (cN size bytes z n c) (cN size bytes z n c) := fun h h' S v k e => by
 unfold cN at e ⊢
 split at e <;> (try (cases e; done))
 split at e <;> (try (cases e; done))
 rename_i hc
 rw [if_pos hc]
 simp only [bE, bQ] at e ⊢
 obtain ⟨rfl, rfl⟩ := e
 exact ⟨_, ⟨by rw [S.next], rfl⟩, S.new rfl⟩
theorem bFd (z : List DV) (x : DV) : SimP g (jL z x) (jL z x) := fun h h' S v k e => by
 unfold jL at e ⊢
 split at e <;> (try (cases e; done))
 ·simp only [bE, bQ] at e
  obtain ⟨rfl, rfl⟩ := e
  exact ⟨_, rfl, S⟩
 ·simp only [bE, bQ] at e
  obtain ⟨rfl, rfl⟩ := e
  exact ⟨_, rfl, S⟩
 ·split at e
  ·rename_i hn
   simp only [bE, bQ] at e
   obtain ⟨rfl, rfl⟩ := e
   simp only [hn, if_true]
   exact ⟨_, rfl, S⟩
  ·rename_i hn
   rw [if_neg hn]
   split at e <;> (try (cases e; done))
   rename_i k0 hs
   simp only [bE, bQ] at e
   obtain ⟨rfl, rfl⟩ := e
   obtain ⟨k', h1, h2⟩ := S.storeAt hs
   try simp only [h1]
   exact ⟨_, rfl, h2⟩
theorem Sim.src (S : Sim g h h') {size : Nat} {x : DV} {r : Nat × List DV} (hs : sQ size x h = some r) : sQ size x h' = some r := by
 unfold sQ at hs ⊢
 split at hs <;> (try (cases hs; done))
 ·exact hs
 ·exact hs
 ·split at hs <;> (try (cases hs; done))
  rename_i hc
  simp only [S.cellsAt hc]; exact hs
 ·split at hs <;> (try (cases hs; done))
  rename_i hc
  simp only [S.cellsAt hc]; exact hs
 ·exact hs
theorem aSk (size bytes : Nat) (s x : DV) : SimP g (aY size bytes s x) (aY size bytes s x) := fun h h' S v k e => by
 unfold aY at e ⊢
 split at e <;> (try (cases e; done))
 rename_i n new hs
 simp only [S.src hs]
 split at e <;> (try (cases e; done))
 ·split at e
  ·rename_i hn
   rw [if_pos hn]
   simp only [bE, bQ] at e
   obtain ⟨rfl, rfl⟩ := e
   exact ⟨_, rfl, S⟩
  ·rename_i hn
   rw [if_neg hn]
   split at e <;> (try (cases e; done))
   rename_i hr
   rw [if_pos hr]
   simp only [bE, bQ] at e ⊢
   obtain ⟨rfl, rfl⟩ := e
   exact ⟨_, ⟨by rw [S.next], rfl⟩, S.new rfl⟩
 ·split at e <;> (try (cases e; done))
  rename_i hn
  rw [if_pos hn]
  simp only [bE, bQ] at e
  obtain ⟨rfl, rfl⟩ := e
  exact ⟨_, rfl, S⟩
 ·rename_i b o len cap
  split at e
  ·rename_i hle
   rw [if_pos hle]
   split at e <;> (try (cases e; done))
   rename_i k0 hst
   simp only [bE, bQ] at e
   obtain ⟨rfl, rfl⟩ := e
   obtain ⟨k', h1, h2⟩ := S.storeAt hst
   try simp only [h1]
   exact ⟨_, rfl, h2⟩
  ·rename_i hle
   rw [if_neg hle]
   split at e <;> (try (cases e; done))
   rename_i k0 l old hb hold
   rw [S.row hb, S.cellsAt hold]
   dsimp only
   split at e <;> (try (cases e; done))
   rename_i hroom
   rw [if_pos hroom]
   split at e <;> (try (cases e; done))
   ·simp only [bE, bQ] at e ⊢
    obtain ⟨rfl, rfl⟩ := e
    exact ⟨_, ⟨by rw [S.next], rfl⟩, S.new rfl⟩
   ·simp only [bE, bQ] at e ⊢
    obtain ⟨rfl, rfl⟩ := e
    exact ⟨_, ⟨by rw [S.next], rfl⟩, S.new rfl⟩
   ·split at e <;> (try (cases e; done))
    rename_i hes
    rw [if_pos hes]
    simp only [bE, bQ] at e ⊢
    obtain ⟨rfl, rfl⟩ := e
    refine ⟨_, ⟨by rw [S.next], rfl⟩, ?_⟩
    have S1 : Sim g ⟨h.next, Tr.set (.row .sp (bT o l)) b h.bl⟩ ⟨h'.next, Tr.set (.row .sp (bT o l)) b h'.bl⟩ := by
     rw [S.next]; exact S.set (show uE g (.row .sp (bT o l)) (.row .sp (bT o l)) from rfl) _ _
    exact S1.new rfl
 ·rename_i b o len cap
  split at e
  ·rename_i hn
   rw [if_pos hn]
   split at e <;> (try (cases e; done))
   rename_i hc
   rw [if_pos hc]
   simp only [bE, bQ] at e
   obtain ⟨rfl, rfl⟩ := e
   exact ⟨_, rfl, S⟩
  ·rename_i hn
   rw [if_neg hn]
   split at e <;> (try (cases e; done))
   rename_i hc
   rw [if_neg hc]
   split at e <;> (try (cases e; done))
   rename_i old hold
   simp only [S.cellsAt hold]
   split at e <;> (try (cases e; done))
   rename_i hr
   rw [if_pos hr]
   simp only [bE, bQ] at e ⊢
   obtain ⟨rfl, rfl⟩ := e
   exact ⟨_, ⟨by rw [S.next], rfl⟩, S.new rfl⟩
theorem bIa (x : DV) : SimP g (oR x) (oR x) := fun h h' S v k e => by
 unfold oR at e ⊢
 split at e <;> (try (cases e; done))
 simp only [bE, bQ] at e ⊢
 obtain ⟨rfl, rfl⟩ := e
 exact ⟨_, ⟨by rw [S.next], rfl⟩, S.new rfl⟩
theorem bLr (x : DV) : SimP g (zY x) (zY x) := fun h h' S v k e => by
 unfold zY at e ⊢
 split at e <;> (try (cases e; done))
 split at e <;> (try (cases e; done))
 rename_i b _ l pos hb
 rw [S.it hb]
 dsimp only
 split at e
 ·rename_i c hc
  try simp only [hc]
  split at e <;> (try (cases e; done))
  rename_i hlt
  rw [if_pos hlt]
  simp only [bE, bQ] at e ⊢
  obtain ⟨rfl, rfl⟩ := e
  exact ⟨_, ⟨rfl, rfl⟩, by rw [S.next]; first | exact S.setR _ _ _ _ | exact S.setM _ _ _ | exact S.setI _ _ _ _⟩
 ·rename_i hc
  try simp only [hc]
  simp only [bE, bQ] at e ⊢
  obtain ⟨rfl, rfl⟩ := e
  exact ⟨_, ⟨rfl, rfl⟩, S⟩
end
end Go.Dd

namespace Go.Dd
theorem SimP.none {gg : Bool} (p : Hp → aH) : SimP gg (fun _ => Option.none) p := fun h h' S => SimR.none _
theorem SimP.val {gg : Bool} (v : DV) : SimP gg (fun h => some (v, h)) (fun h => some (v, h)) := fun h h' S => SimR.some S v
section
variable {gg : Bool} {P : Program} {I2 I1 : FuncId → Option (List DV → Hp → aH)} {rec2 rec1 : FuncId → List DV → Hp → aH}
theorem aLn (b : Builtin) (ts : List TypeId) (args : List DV) : SimP gg (jN ⟨P, I2⟩ b ts args) (jN ⟨P, I1⟩ b ts args) := by
 unfold jN
 cases b <;> try exact SimP.none _
 case len =>
  match ts, args with
  | [t], [x] =>
   dsimp only
   cases P.underlying t with
   | none => exact SimP.none _
   | some d => cases d <;> first | exact SimP.none _ | exact dUv (aAv x) | exact dUv (mQ x)
  | [], _ => exact SimP.none _
  | [_], [] => exact SimP.none _
  | [_], _ :: _ :: _ => exact SimP.none _
  | _ :: _ :: _, _ => exact SimP.none _
 case min =>
  show SimP gg (qP args) (qP args)
  unfold qP
  match args with
  | [x, y] => exact dUv (aNu x y)
  | [] => exact SimP.none _
  | [_] => exact SimP.none _
  | _ :: _ :: _ :: _ => exact SimP.none _
 case max =>
  show SimP gg (qS args) (qS args)
  unfold qS
  match args with
  | [x, y] => exact dUv (aNg x y)
  | [] => exact SimP.none _
  | [_] => exact SimP.none _
  | _ :: _ :: _ :: _ => exact SimP.none _
 case clear =>
  match ts, args with
  | [t], [x] =>
   dsimp only
   cases P.underlying t with
   | none => exact SimP.none _
   | some d =>
    cases d <;> try exact SimP.none _
    rename_i e
    dsimp only
    cases P.info? e with
    | none => exact SimP.none _
    | some i =>
     dsimp only
     cases i.zero with
     | none => exact SimP.none _
     | some z =>
      dsimp only
      by_cases h0 : 0 < z.cells.size
      ·simp only [h0, if_true]; exact bFd _ _
      ·simp only [h0, if_false]; exact SimP.none _
  | [], _ => exact SimP.none _
  | [_], [] => exact SimP.none _
  | [_], _ :: _ :: _ => exact SimP.none _
  | _ :: _ :: _, _ => exact SimP.none _
 case append =>
  match ts, args with
  | [t, u], [s, x] =>
   dsimp only
   have hmain : ∀ e, SimP gg (fun h => match P.info? e with
     | some i => match i.zero with
      | some z => if 0 < i.size ∧ 0 < i.bytes ∧ z.cells.size = i.size then aY i.size i.bytes s x h else none
      | none => none
     | none => none) (fun h => match P.info? e with
     | some i => match i.zero with
      | some z => if 0 < i.size ∧ 0 < i.bytes ∧ z.cells.size = i.size then aY i.size i.bytes s x h else none
      | none => none
     | none => none) := by
    intro e
    cases P.info? e with
    | none => exact SimP.none _
    | some i =>
     dsimp only
     cases i.zero with
     | none => exact SimP.none _
     | some z =>
      dsimp only
      split
      ·exact aSk _ _ _ _
      ·exact SimP.none _
   cases P.underlying t with
   | none => exact SimP.none _
   | some d =>
    cases d <;> try exact SimP.none _
    rename_i e
    cases P.underlying u with
    | none => exact SimP.none _
    | some d2 => cases d2 <;> first | exact SimP.none _ | exact hmain e
  | [], _ => exact SimP.none _
  | [_], _ => exact SimP.none _
  | [_, _], [] => exact SimP.none _
  | [_, _], [_] => exact SimP.none _
  | [_, _], _ :: _ :: _ :: _ => exact SimP.none _
  | _ :: _ :: _ :: _, _ => exact SimP.none _
theorem aBh (HC : ∀ g args, SimP gg (bP ⟨P, I2⟩ rec2 g args) (bP ⟨P, I1⟩ rec1 g args)) (o : Oper) (env : aV) : SimP gg (iZ ⟨P, I2⟩ rec2 o env) (iZ ⟨P, I1⟩ rec1 o env) := by
 obtain ⟨dst, op, ty, pos, after, guard⟩ := o
 unfold iZ
 cases op <;> (try dsimp only) <;> try exact SimP.none _
 case move x => exact SimP.val _
 case assign x => exact SimP.val _
 case pick c x y => exact dUv (aBc _ _ _)
 case alloc t =>
  cases P.info? t with
  | none => exact SimP.none _
  | some i =>
   try dsimp only
   cases i.zero with
   | none => exact SimP.none _
   | some z => exact aHk _
 case box t x => exact cEq _
 case build t ps =>
  cases P.underlying t with
  | none => exact SimP.none _
  | some d =>
   cases d <;> (try dsimp only) <;> try exact SimP.none _
   rename_i fs
   cases P.info? t with
   | none => exact SimP.none _
   | some i =>
    try dsimp only
    cases i.zero with
    | none => exact SimP.none _
    | some z =>
     try dsimp only
     generalize fs.toList.mapM (fun f => (P.info? f.type).map fun fi => (f.offset, fi.size)) = pl
     cases pl with
     | none => exact SimP.none _
     | some pl =>
      try dsimp only
      generalize ps.toList.mapM (fun (q : Nat × Operand) => (pl[q.1]?).map fun s => (s.1, s.2, opr env q.2)) = l
      cases l with
      | none => exact SimP.none _
      | some l => exact dUv (xJ _ _)
 case buildSlice t n ps =>
  cases P.underlying t with
  | none => exact SimP.none _
  | some d =>
   cases d <;> (try dsimp only) <;> try exact SimP.none _
   rename_i e
   cases P.info? e with
   | none => exact SimP.none _
   | some i =>
    try dsimp only
    cases i.zero with
    | none => exact SimP.none _
    | some z =>
     try dsimp only
     split
     ·exact xA _ _ _
     ·exact SimP.none _
 case load t x =>
  cases P.underlying t with
  | none => exact SimP.none _
  | some d =>
   cases P.info? t with
   | none => exact SimP.none _
   | some i =>
    try dsimp only
    cases iY d with
    | true => exact kJ _ _
    | false => exact kK _
 case store t x y =>
  cases P.info? t with
  | none => exact SimP.none _
  | some i => exact kU _ _ _
 case nilCheck x => exact dUv (aLq _)
 case binOp op t x y yt =>
  cases P.underlying t with
  | none => exact SimP.none _
  | some d => exact dUv (aMe _ _ _ _)
 case unOp op t x => exact dUv (aXh _ _)
 case convert src dst x =>
  cases P.underlying src with
  | none => exact SimP.none _
  | some d =>
   cases P.underlying dst with
   | none => cases d <;> exact SimP.none _
   | some d2 =>
    cases d2 <;> cases d <;> (try dsimp only) <;> first | exact SimP.none _ | exact dUv (nV _ _) | exact dUv (oE _) | skip
    all_goals
     rename_i e
     cases P.underlying e with
     | none => exact SimP.none _
     | some d3 =>
      cases d3 <;> (try dsimp only) <;> try exact SimP.none _
      rename_i k
      cases k <;> first | exact SimP.none _ | exact bEp _
 case makeFunc fn first cap =>
  cases fn <;> first | exact SimP.none _ | exact SimP.val _
 case slice t x lo hi mx =>
  cases P.underlying t with
  | none => exact SimP.none _
  | some d =>
   cases mx with
   | none =>
    cases d <;> (try dsimp only) <;> first | exact SimP.none _ | exact dUv (mO _ _ _) | skip
    rename_i e
    cases P.info? e with
    | none => exact SimP.none _
    | some i => exact bFh _ _ _ _
   | some m =>
    cases d <;> (try dsimp only) <;> try exact SimP.none _
    rename_i e
    cases P.info? e with
    | none => exact SimP.none _
    | some i =>
     cases hi with
     | none => exact SimP.none _
     | some hv => exact aUx _ _ _ _
 case fieldAddr t x f =>
  cases P.underlying t with
  | none => exact SimP.none _
  | some d =>
   cases d <;> (try dsimp only) <;> try exact SimP.none _
   rename_i fs
   cases fs[f]? with
   | none => exact SimP.none _
   | some fl =>
    try dsimp only
    cases P.info? fl.type with
    | none => exact SimP.none _
    | some i =>
     try dsimp only
     split
     ·exact SimP.none _
     ·exact dUv (xK _ _)
 case field t x f =>
  cases P.underlying t with
  | none => exact SimP.none _
  | some d =>
   cases d <;> (try dsimp only) <;> try exact SimP.none _
   rename_i fs
   cases fs[f]? with
   | none => exact SimP.none _
   | some fl =>
    try dsimp only
    cases P.underlying fl.type with
    | none => exact SimP.none _
    | some d2 =>
     cases P.info? fl.type with
     | none => exact SimP.none _
     | some i =>
      try dsimp only
      cases iY d2 with
      | true => exact dUv (yH _ _ _)
      | false => exact dUv (vZ _ _)
 case indexAddr t x ix =>
  cases P.underlying t with
  | none => exact SimP.none _
  | some d =>
   cases d <;> (try dsimp only) <;> try exact SimP.none _
   ·rename_i e
    cases P.info? e with
    | none => exact SimP.none _
    | some i => exact dUv (mH _ _ _)
   ·rename_i n e
    cases P.info? e with
    | none => exact SimP.none _
    | some i => exact dUv (nN _ _ _ _)
 case index t x ix =>
  cases P.underlying t with
  | none => exact SimP.none _
  | some d => cases d <;> first | exact SimP.none _ | exact dUv (sC _ _)
 case extract x i => exact dUv (pF _ _)
 case range t x =>
  cases P.underlying t with
  | none => exact SimP.none _
  | some d => cases d <;> first | exact SimP.none _ | exact bIa _
 case next x str =>
  cases str with
  | true => simp only [if_true]; exact bLr _
  | false => simp only [Bool.false_eq_true, if_false]; exact SimP.none _
 case makeMap t r => cases r <;> first | exact SimP.none _ | exact aNq
 case lookup t x k ok =>
  cases P.underlying t with
  | none => exact SimP.none _
  | some d =>
   cases d <;> (try dsimp only) <;> try exact SimP.none _
   rename_i kt et
   cases P.underlying kt with
   | none => exact SimP.none _
   | some d2 =>
    cases P.info? et with
    | none => exact SimP.none _
    | some i =>
     try dsimp only
     cases i.zero with
     | none => exact SimP.none _
     | some z =>
      try dsimp only
      cases jS d2 with
      | true => exact aRy _ _ _ _ _
      | false => exact SimP.none _
 case mapUpdate t m k x =>
  cases P.underlying t with
  | none => exact SimP.none _
  | some d =>
   cases d <;> (try dsimp only) <;> try exact SimP.none _
   rename_i kt et
   cases P.underlying kt with
   | none => exact SimP.none _
   | some d2 =>
    try dsimp only
    cases jS d2 with
    | true => exact aQx _ _ _ _
    | false => exact SimP.none _
 case mapEntry t m k =>
  cases P.underlying t with
  | none => exact SimP.none _
  | some d =>
   cases d <;> (try dsimp only) <;> try exact SimP.none _
   rename_i kt et
   cases P.underlying kt with
   | none => exact SimP.none _
   | some d2 =>
    cases P.info? et with
    | none => exact SimP.none _
    | some i =>
     try dsimp only
     cases i.zero with
     | none => exact SimP.none _
     | some z =>
      try dsimp only
      cases jS d2 with
      | true => exact aDu _ _ _ _
      | false => exact SimP.none _
 case entryStore t m s x => exact vU _ _ _
 case makeSlice t n c =>
  cases P.underlying t with
  | none => exact SimP.none _
  | some d =>
   cases d <;> (try dsimp only) <;> try exact SimP.none _
   rename_i e
   cases P.info? e with
   | none => exact SimP.none _
   | some i =>
    try dsimp only
    cases i.zero with
    | none => exact SimP.none _
    | some z =>
     try dsimp only
     split
     ·exact aAm _ _ _ _ _
     ·exact SimP.none _
 case call c =>
  obtain ⟨callee, args, ats⟩ := c
  cases callee with
  | value f =>
   try dsimp only
   unfold cZ
   cases opr env f <;> first | exact SimP.none _ | exact HC _ _
  | invoke r m => exact SimP.none _
  | builtin b => exact aLn _ _ _
theorem kP (HC : ∀ g args, SimP gg (bP ⟨P, I2⟩ rec2 g args) (bP ⟨P, I1⟩ rec1 g args)) (all : Array Oper) (o : Oper) (env : aV) :
  SimP gg (bK ⟨P, I2⟩ rec2 all o env) (bK ⟨P, I1⟩ rec1 all o env) := by
 unfold bK
 cases o.guard with
 | none => exact aBh HC o env
 | some g =>
  obtain ⟨j, want⟩ := g
  dsimp only
  unfold gD
  cases aVu all j env <;> try exact SimP.none _
  ·rename_i x
   dsimp only
   split
   ·exact aBh HC o env
   ·exact SimP.val _
  ·rename_i vs
   cases vs with
   | nil => exact SimP.val _
   | cons a b => exact SimP.none _
def SimK (gg : Bool) (k k' : K) : Prop := ∀ env, SimP gg (k env) (k' env)
theorem dUz {r r' : aH} {k k' : DV → Hp → aH} (h : SimR gg r r') (hk : ∀ v, SimP gg (k v) (k' v)) : SimR gg (bnd r k) (bnd r' k') := by
 intro v h1 e
 obtain ⟨u, h0, e1, e2⟩ := dN e
 obtain ⟨h0', f1, S⟩ := h u h0 e1
 obtain ⟨h1', g1, S1⟩ := hk u h0 h0' S v h1 e2
 exact ⟨h1', by rw [f1]; exact g1, S1⟩
theorem dVo {b b' : Bool} {r r' : aH} (hb : b = true → b' = true) (h : SimR gg r r') : SimR gg (cnd b r) (cnd b' r') := by
 cases b with
 | false => exact fun v k e => by cases e
 | true => rw [hb rfl]; exact h
theorem pI (HC : ∀ g args, SimP gg (bP ⟨P, I2⟩ rec2 g args) (bP ⟨P, I1⟩ rec1 g args)) (nt : Nat) (all : Array Oper) {k k' : K} (hk : SimK gg k k') :
  ∀ l : List Oper, SimK gg (jE ⟨P, I2⟩ rec2 nt all l k) (jE ⟨P, I1⟩ rec1 nt all l k')
 | [] => hk
 | o :: l => fun env h h' S => by
  change SimR gg (cnd (dA nt o.dst) (bnd (bK ⟨P, I2⟩ rec2 all o env h) fun v h1 => jE ⟨P, I2⟩ rec2 nt all l k (bO env o.dst v) h1))
   (cnd (dA nt o.dst) (bnd (bK ⟨P, I1⟩ rec1 all o env h') fun v h1 => jE ⟨P, I1⟩ rec1 nt all l k' (bO env o.dst v) h1))
  exact dVo id (dUz (kP HC all o env h h' S) fun v => pI HC nt all hk l _)
theorem dHm (o : Oper) (b : Pos) (env : aV) : SimP gg (dU ⟨P, I2⟩ o b env) (dU ⟨P, I1⟩ o b env) := by
 obtain ⟨dst, op, ty, pos, after, guard⟩ := o
 unfold dU
 cases op <;> (try dsimp only) <;> try exact SimP.none _
 case alloc t =>
  cases P.info? t with
  | none => exact SimP.none _
  | some i =>
   dsimp only
   cases i.zero with
   | none => exact SimP.none _
   | some z => exact aAr _ _
 case box t x => exact bIh _ _
 case buildSlice t n ps =>
  cases P.underlying t with
  | none => exact SimP.none _
  | some d =>
   cases d <;> (try dsimp only) <;> try exact SimP.none _
   rename_i e
   cases P.info? e with
   | none => exact SimP.none _
   | some i =>
    dsimp only
    cases i.zero with
    | none => exact SimP.none _
    | some z =>
     dsimp only
     split
     ·exact rR _ _ _ _
     ·exact SimP.none _
theorem SimR.same {r r' : aH} (h : SimR gg r r') {v : DV} (hs : bI r v = true) : bI r' v = true := by
 unfold bI at hs ⊢
 split at hs
 ·rename_i x k
  obtain ⟨k', e, _⟩ := h x k rfl
  rw [e]; exact hs
 ·cases hs
inductive SimHs (gg : Bool) : List (Option Nat × Hp) → List (Option Nat × Hp) → Prop
 | nil : SimHs gg [] []
 | cons {j : Option Nat} {h h' : Hp} {l l' : List (Option Nat × Hp)} (S : Sim gg h h') (T : SimHs gg l l') : SimHs gg ((j, h) :: l) ((j, h') :: l')
theorem sL (m : Array Nat) (i : Nat) (v : DV) {look look' : Hp → aH} (hl : SimP gg look look') : ∀ (dirty : Bool) {hs hs' : List (Option Nat × Hp)}, SimHs gg hs hs' →
  eJ m i v look dirty hs = true → eJ m i v look' dirty hs' = true
 | dirty, _, _, .nil, h => h
 | dirty, _, _, .cons (j := j) S T, h => by
  unfold eJ at h ⊢
  rw [Bool.and_eq_true] at h ⊢
  refine ⟨?_, ?_⟩
  ·have h1 := h.1
   cases dirty with
   | true => exact SimR.same (hl _ _ S) h1
   | false => exact h1
  ·have h2 := h.2
   cases j with
   | none => exact h2
   | some j =>
    dsimp only at h2 ⊢
    cases ho : gG m j i with
    | true => rfl
    | false =>
     rw [ho] at h2
     exact sL m i v hl true T h2
inductive SimSeen (gg : Bool) : List Seen → List Seen → Prop
 | nil : SimSeen gg [] []
 | cons {i : Nat} {look look' : Hp → aH} {v : DV} {l l' : List Seen} (S : SimP gg look look') (T : SimSeen gg l l') : SimSeen gg (⟨i, look, v⟩ :: l) (⟨i, look', v⟩ :: l')
theorem SimSeen.all {m : Array Nat} {i : Nat} {h h' : Hp} (S : Sim gg h h') : ∀ {l l' : List Seen}, SimSeen gg l l' →
  l.all (fun q => gG m q.at_ i || bI (q.look h) q.v) = true → l'.all (fun q => gG m q.at_ i || bI (q.look h') q.v) = true
 | _, _, .nil, e => e
 | _, _, .cons (i := i0) (v := v) S1 T, e => by
  rw [List.all_cons, Bool.and_eq_true] at e ⊢
  refine ⟨?_, SimSeen.all S T e.2⟩
  have h1 := e.1
  rw [Bool.or_eq_true] at h1 ⊢
  exact h1.imp id fun hs => SimR.same (S1 _ _ S) hs
theorem mP (HC : ∀ g args, SimP gg (bP ⟨P, I2⟩ rec2 g args) (bP ⟨P, I1⟩ rec1 g args)) (nt : Nat) (all : Array Oper) (m : Array Nat) (p0 : Pos) {k k' : K} (hk : SimK gg k k') :
  ∀ (l : List Oper) (i c : Nat) (dirty : Bool) {rd rd' : List Seen} {hs hs' : List (Option Nat × Hp)}, SimSeen gg rd rd' → SimHs gg hs hs' →
   SimK gg (eI ⟨P, I2⟩ rec2 nt all m p0 l k i c dirty rd hs) (eI ⟨P, I1⟩ rec1 nt all m p0 l k' i c dirty rd' hs')
 | [], i, c, dirty, rd, rd', hs, hs', R, T => hk
 | o :: l, i, c, dirty, rd, rd', hs, hs', R, T => fun env h h' S => by
  change SimR gg (cnd (dA nt o.dst) (
   match bW P o.op with
   | .pure => bnd (bK ⟨P, I2⟩ rec2 all o env h) fun v h' => eI ⟨P, I2⟩ rec2 nt all m p0 l k (i + 1) c dirty rd hs (bO env o.dst v) h'
   | .reads => bnd (bK ⟨P, I2⟩ rec2 all o env h) fun v h' =>
     cnd (eJ m i v (bK ⟨P, I2⟩ rec2 all o env) dirty hs) (eI ⟨P, I2⟩ rec2 nt all m p0 l k (i + 1) c dirty (⟨i, bK ⟨P, I2⟩ rec2 all o env, v⟩ :: rd) hs (bO env o.dst v) h')
   | .makes => bnd (dU ⟨P, I2⟩ o (bZ c p0) env h) fun v h' => eI ⟨P, I2⟩ rec2 nt all m p0 l k (i + 1) (c + 1) true rd hs (bO env o.dst v) h'
   | .acts => bnd (bK ⟨P, I2⟩ rec2 all o env h) fun v h' =>
     cnd (rd.all (fun q => gG m q.at_ i || bI (q.look h') q.v)) (eI ⟨P, I2⟩ rec2 nt all m p0 l k (i + 1) c false rd ((some i, h') :: hs) (bO env o.dst v) h')))
   (cnd (dA nt o.dst) (
   match bW P o.op with
   | .pure => bnd (bK ⟨P, I1⟩ rec1 all o env h') fun v h' => eI ⟨P, I1⟩ rec1 nt all m p0 l k' (i + 1) c dirty rd' hs' (bO env o.dst v) h'
   | .reads => bnd (bK ⟨P, I1⟩ rec1 all o env h') fun v h' =>
     cnd (eJ m i v (bK ⟨P, I1⟩ rec1 all o env) dirty hs') (eI ⟨P, I1⟩ rec1 nt all m p0 l k' (i + 1) c dirty (⟨i, bK ⟨P, I1⟩ rec1 all o env, v⟩ :: rd') hs' (bO env o.dst v) h')
   | .makes => bnd (dU ⟨P, I1⟩ o (bZ c p0) env h') fun v h' => eI ⟨P, I1⟩ rec1 nt all m p0 l k' (i + 1) (c + 1) true rd' hs' (bO env o.dst v) h'
   | .acts => bnd (bK ⟨P, I1⟩ rec1 all o env h') fun v h' =>
     cnd (rd'.all (fun q => gG m q.at_ i || bI (q.look h') q.v)) (eI ⟨P, I1⟩ rec1 nt all m p0 l k' (i + 1) c false rd' ((some i, h') :: hs') (bO env o.dst v) h')))
  refine dVo id ?_
  cases bW P o.op with
  | pure => exact dUz (kP HC all o env h h' S) fun v => mP HC nt all m p0 hk l _ _ _ R T _
  | reads =>
   exact dUz (kP HC all o env h h' S) fun v h1 h1' S1 => dVo (sL m i v (kP HC all o env) dirty T)
    (mP HC nt all m p0 hk l _ _ _ (.cons (kP HC all o env) R) T _ _ _ S1)
  | makes => exact dUz (dHm o _ env h h' S) fun v => mP HC nt all m p0 hk l _ _ _ R T _
  | acts =>
   exact dUz (kP HC all o env h h' S) fun v h1 h1' S1 => dVo (SimSeen.all S1 R)
    (mP HC nt all m p0 hk l _ _ _ R (.cons S1 T) _ _ _ S1)
theorem Sim.resv {gg : Bool} {h h' : Hp} (S : Sim gg h h') (k : Nat) : Sim gg (resv k h) (resv k h') := by
 cases k with
 | zero => exact S
 | succ k => exact ⟨by show bZ (k + 1) h'.next = bZ (k + 1) h.next; rw [S.next], S.get⟩
theorem bTz (HC : ∀ g args, SimP gg (bP ⟨P, I2⟩ rec2 g args) (bP ⟨P, I1⟩ rec1 g args)) (nt : Nat) (ops : Array Oper) {k k' : K} (hk : SimK gg k k') :
  SimK gg (iV ⟨P, I2⟩ rec2 nt ops k) (iV ⟨P, I1⟩ rec1 nt ops k') := fun env h h' S => by
 unfold iV
 rw [S.next]
 exact mP HC nt ops _ _ hk _ _ _ _ .nil (.cons (S.resv _) .nil) env _ _ (S.resv _)
theorem aKk {c : DV} {a b a' b' : aH} (ha : SimR gg a a') (hb : SimR gg b b') : SimR gg (aT c a b) (aT c a' b') := by
 unfold aT
 cases c <;> try exact SimR.none _
 rename_i x
 cases x
 ·exact hb
 ·exact ha
theorem pN {b b' : K → K} (hb : ∀ k k', SimK gg k k' → SimK gg (b k) (b' k')) : ∀ (n d : Nat), SimK gg (aM b n) (aM b' (n + d))
 | 0, d => fun env h h' S v k e => by cases e
 | n + 1, d => by
  rw [show n + 1 + d = (n + d) + 1 from by omega]
  exact hb _ _ (pN hb n d)
theorem gA (HC : ∀ g args, SimP gg (bP ⟨P, I2⟩ rec2 g args) (bP ⟨P, I1⟩ rec1 g args)) (nt n d : Nat) : ∀ (c : Code) (X X' : Nat → K) (kr kr' k k' : K), (∀ j, SimK gg (X j) (X' j)) → SimK gg kr kr' → SimK gg k k' →
  SimK gg (aN ⟨P, I2⟩ rec2 nt n c X kr k) (aN ⟨P, I1⟩ rec1 nt (n + d) c X' kr' k') := by
 intro c
 have hfail : ∀ k', SimK gg dL k' := fun k' env h h' S v k e => by cases e
 induction c with
 | skip => intro X X' kr kr' k k' hX hr hk; exact hk
 | region id ops dr =>
  intro X X' kr kr' k k' hX hr hk
  change SimK gg (Bool.rec (motive := fun _ => K) (jE ⟨P, I2⟩ rec2 nt ops ops.toList k) (Bool.rec (motive := fun _ => K) dL (iV ⟨P, I2⟩ rec2 nt ops k) (fC P ops)) dr)
   (Bool.rec (motive := fun _ => K) (jE ⟨P, I1⟩ rec1 nt ops ops.toList k') (Bool.rec (motive := fun _ => K) dL (iV ⟨P, I1⟩ rec1 nt ops k') (fC P ops)) dr)
  cases dr with
  | false => exact pI HC nt ops hk _
  | true =>
   cases fC P ops with
   | false => exact hfail _
   | true => exact bTz HC nt ops hk
 | seq x y ihx ihy => intro X X' kr kr' k k' hX hr hk; exact ihx _ _ _ _ _ _ hX hr (ihy _ _ _ _ _ _ hX hr hk)
 | cond c x y ihx ihy =>
  intro X X' kr kr' k k' hX hr hk env h h' S
  exact aKk (ihx _ _ _ _ _ _ hX hr hk env h h' S) (ihy _ _ _ _ _ _ hX hr hk env h h' S)
 | block id x ih =>
  intro X X' kr kr' k k' hX hr hk
  refine ih _ _ _ _ _ _ (fun j => ?_) hr hk
  cases hj : Nat.beq j id with
  | true => exact hk
  | false => exact hX j
 | loop x ih =>
  intro X X' kr kr' k k' hX hr hk
  exact pN (fun k k' hk => ih _ _ _ _ _ _ hX hr hk) n d
 | rangeFunc f ps x y ihx ihy => intro X X' kr kr' k k' hX hr hk; exact hfail _
 | exit id => intro X X' kr kr' k k' hX hr hk; exact hX id
 | scope x ih => intro X X' kr kr' k k' hX hr hk; exact ih _ _ _ _ _ _ hX hr hk
 | label l => intro X X' kr kr' k k' hX hr hk; exact hk
 | goto l => intro X X' kr kr' k k' hX hr hk; exact hfail _
 | ret => intro X X' kr kr' k k' hX hr hk; exact hr
 | refuse why => intro X X' kr kr' k k' hX hr hk; exact hfail _
theorem bEq {h h' : Hp} (S : Sim gg h h') (t : TypeId) (x : DV) {k k' : DV → aH} (hk : ∀ v, SimR gg (k v) (k' v)) : SimR gg (aAx ⟨P, I2⟩ t x h k) (aAx ⟨P, I1⟩ t x h' k') := by
 unfold aAx
 dsimp only
 cases P.underlying t with
 | none => exact SimR.none _
 | some d =>
  cases P.info? t with
  | none => exact SimR.none _
  | some i =>
   dsimp only
   refine dUz ?_ fun v _ _ _ => hk v
   cases iY d with
   | true => exact kJ _ _ h h' S
   | false => exact kK _ h h' S
theorem rG {h h' : Hp} (S : Sim gg h h') (env : aV) : ∀ (l : List ResultVar) (k k' : List DV → aH), (∀ vs, SimR gg (k vs) (k' vs)) → SimR gg (aYz ⟨P, I2⟩ env h l k) (aYz ⟨P, I1⟩ env h' l k')
 | [], k, k', hk => hk []
 | .tmp t :: l, k, k', hk => rG S env l _ _ fun vs => hk _
 | .cell a t :: l, k, k', hk => bEq S t (env a) fun v => rG S env l _ _ fun vs => hk _
theorem oV (fn : Func) : SimK gg (aP ⟨P, I2⟩ fn) (aP ⟨P, I1⟩ fn) := fun env h h' S => by
 unfold aP
 refine rG S env _ _ _ fun vs => ?_
 unfold bTp
 match vs with
 | [v] => exact SimR.some S _
 | [] => exact SimR.some S _
 | _ :: _ :: _ => exact SimR.some S _
theorem mJ (HC : ∀ g args, SimP gg (bP ⟨P, I2⟩ rec2 g args) (bP ⟨P, I1⟩ rec1 g args)) (n d : Nat) (f : FuncId) (args : List DV) :
  SimP gg (aF ⟨P, I2⟩ rec2 n f args) (aF ⟨P, I1⟩ rec1 (n + d) f args) := by
 intro h h' S
 unfold aF
 dsimp only
 cases P.funcs[f]? with
 | none => exact SimR.none _
 | some fn =>
  dsimp only
  cases fn.body with
  | none => exact SimR.none _
  | some c => exact gA HC fn.ntmps n d c _ _ _ _ _ _ (fun _ _ _ _ _ _ _ e => by cases e) (oV fn) (oV fn) _ h h' S
end
theorem bSj {gg : Bool} {P : Program} {I2 I1 : FuncId → Option (List DV → Hp → aH)} (d : Nat) (h0 : ∀ g, I2 g = none → I1 g = none)
  (hI : ∀ g F, I2 g = some F → ∀ n args, SimP gg (F args) (bP ⟨P, I1⟩ (fnD ⟨P, I1⟩ (n + d)) g args)) : ∀ (n : Nat) (f : FuncId) (args : List DV), SimP gg (fnD ⟨P, I2⟩ n f args) (fnD ⟨P, I1⟩ (n + d) f args)
 | 0, f, args => fun h h' S v k e => by cases e
 | n + 1, f, args => by
  rw [show n + 1 + d = (n + d) + 1 from by omega]
  refine mJ (fun g az => ?_) n d f args
  unfold bP
  dsimp only
  cases hg : I2 g with
  | none =>
   rw [h0 g hg]
   exact bSj d h0 hI n g az
  | some F =>
   have := hI g F hg n az
   unfold bP at this
   exact this
end Go.Dd

namespace Go.Dd
section
variable {gg : Bool} {P : Program} {I2 I1 : FuncId → Option (List DV → Hp → aH)} {rec2 rec1 : FuncId → List DV → Hp → aH}
theorem nC {c : Bool} {q q' : aH} (h : SimR gg q q') : SimR gg (cnd c q) (cnd c q') := by
 cases c with
 | false => exact SimR.none _
 | true => exact h
theorem dUx (k' : K) : SimK gg dL k' := fun env h h' S v k e => by cases e
theorem xU (HC : ∀ g args, SimP gg (bP ⟨P, I2⟩ rec2 g args) (bP ⟨P, I1⟩ rec1 g args)) (n d : Nat) (I : ItC) (b : Bool) {kr kr' k k' : K} (hr : SimK gg kr kr') (hk : SimK gg k k') (e1 : aV) :
  SimP gg (aOe ⟨P, I2⟩ rec2 n I b kr k e1) (aOe ⟨P, I1⟩ rec1 (n + d) I b kr' k' e1) := fun h h' S =>
 nC (pI HC I.nt I.ops (gA HC I.nt n d I.after _ _ _ _ _ _ (fun _ => dUx _) hr hk) _ _ h h' S)
theorem bEb (HC : ∀ g args, SimP gg (bP ⟨P, I2⟩ rec2 g args) (bP ⟨P, I1⟩ rec1 g args)) (n d : Nat) (I : ItC) (nt : Nat) (p : Tmp) (x y : Code) (env : aV) {X X' : Nat → K} {kr kr' kk kk' : K} (hX : ∀ j, SimK gg (X j) (X' j)) (hr : SimK gg kr kr') (hk : SimK gg kk kk') :
  SimK gg (aQh ⟨P, I2⟩ rec2 n I nt p x y env X kr kk) (aQh ⟨P, I1⟩ rec1 (n + d) I nt p x y env X' kr' kk') := fun e1 h h' S =>
 nC (gA HC nt n d x _ _ _ _ _ _ (fun _ => dUx _) (dUx _)
  (gA HC nt n d y _ _ _ _ _ _ (fun i _ => xU HC n d I false (fun _ => hX i env) (dUx _) e1) (fun _ => xU HC n d I false (fun _ => hr env) (dUx _) e1)
   (fun _ => xU HC n d I true (dUx _) (gA HC I.nt n d I.post _ _ _ _ _ _ (fun _ => dUx _) (dUx _) (gA HC I.nt n d I.step _ _ _ _ _ _ (fun _ => dUx _) (dUx _) hk)) e1)) _ h h' S)
theorem aVo (HC : ∀ g args, SimP gg (bP ⟨P, I2⟩ rec2 g args) (bP ⟨P, I1⟩ rec1 g args)) (n d : Nat) (I : ItC) (nt : Nat) (g : Operand) (p : Tmp) (x y : Code) {X X' : Nat → K} {kr kr' k k' : K} (hX : ∀ j, SimK gg (X j) (X' j)) (hr : SimK gg kr kr') (hk : SimK gg k k') :
  SimK gg (aEn ⟨P, I2⟩ rec2 n I nt g p x y X kr k) (aEn ⟨P, I1⟩ rec1 (n + d) I nt g p x y X' kr' k') := by
 intro env h h' S
 unfold aEn
 cases opr env g with
 | f gf first cap =>
  cases first with
  | cons _ _ => exact SimR.none _
  | nil =>
   refine nC ?_
   rw [S.next]
   refine gA HC I.nt n d I.pre _ _ _ _ _ _ (fun _ => dUx _) (dUx _) (pN (fun kk kk' hkk => ?_) n d) _ _ _ (S.resv 2)
   refine gA HC I.nt n d I.test _ _ _ _ _ _ (fun j => ?_) (dUx _) (pI HC I.nt I.ops ?_ I.front)
   ·cases Nat.beq j I.b0 with
    | true => exact fun _ => hk env
    | false => exact dUx _
   ·intro e1 h1 h1' S1
    exact nC (c := ylB (e1 I.yt) h.next) (bEb HC n d I nt p x y env hX hr hkk e1 h1 h1' S1)
 | _ => exact SimR.none _
theorem bFr (HC : ∀ g args, SimP gg (bP ⟨P, I2⟩ rec2 g args) (bP ⟨P, I1⟩ rec1 g args)) (nt n d : Nat) (I : ItC) : ∀ (c : Code) (X X' : Nat → K) (kr kr' k k' : K), (∀ j, SimK gg (X j) (X' j)) → SimK gg kr kr' → SimK gg k k' →
  SimK gg (bTm ⟨P, I2⟩ rec2 nt n I c X kr k) (bTm ⟨P, I1⟩ rec1 nt (n + d) I c X' kr' k') := by
 intro c
 induction c with
 | skip => intro X X' kr kr' k k' hX hr hk; exact hk
 | region id ops dr => intro X X' kr kr' k k' hX hr hk; exact gA HC nt n d (.region id ops dr) _ _ _ _ _ _ hX hr hk
 | seq x y ihx ihy => intro X X' kr kr' k k' hX hr hk; exact ihx _ _ _ _ _ _ hX hr (ihy _ _ _ _ _ _ hX hr hk)
 | cond c x y ihx ihy =>
  intro X X' kr kr' k k' hX hr hk env h h' S
  exact aKk (ihx _ _ _ _ _ _ hX hr hk env h h' S) (ihy _ _ _ _ _ _ hX hr hk env h h' S)
 | block id x ih =>
  intro X X' kr kr' k k' hX hr hk
  refine ih _ _ _ _ _ _ (fun j => ?_) hr hk
  cases hj : Nat.beq j id with
  | true => exact hk
  | false => exact hX j
 | loop x ih =>
  intro X X' kr kr' k k' hX hr hk
  exact pN (fun k k' hk => ih _ _ _ _ _ _ hX hr hk) n d
 | rangeFunc g ps x y ihx ihy =>
  intro X X' kr kr' k k' hX hr hk
  obtain ⟨l⟩ := ps
  match l with
  | [p] => exact aVo HC n d I nt g p x y hX hr hk
  | [] => exact dUx _
  | _ :: _ :: _ => exact dUx _
 | exit id => intro X X' kr kr' k k' hX hr hk; exact hX id
 | ret => intro X X' kr kr' k k' hX hr hk; exact hr
 | _ => intros; exact dUx _
theorem bHy (HC : ∀ g args, SimP gg (bP ⟨P, I2⟩ rec2 g args) (bP ⟨P, I1⟩ rec1 g args)) (n d : Nat) (I : ItC) (f : FuncId) (args : List DV) :
  SimP gg (mE ⟨P, I2⟩ rec2 n I f args) (mE ⟨P, I1⟩ rec1 (n + d) I f args) := by
 intro h h' S
 unfold mE
 dsimp only
 cases P.funcs[f]? with
 | none => exact SimR.none _
 | some fn =>
  dsimp only
  cases fn.body with
  | none => exact SimR.none _
  | some c => exact bFr HC fn.ntmps n d I c _ _ _ _ _ _ (fun _ => dUx _) (oV fn) (oV fn) _ h h' S
end
end Go.Dd

namespace Go.Dd
noncomputable def fnR (C : Cfg) (I : ItC) (q : FuncId → Bool) (n : Nat) : FuncId → List DV → Hp → aH :=
 Nat.rec (motive := fun _ => FuncId → List DV → Hp → aH) (fun _ _ _ => none) (fun m ih f => bif q f then mE C ih m I f else aF C ih m f) n
theorem aBp {gg : Bool} {P : Program} {I2 I1 : FuncId → Option (List DV → Hp → aH)} {I : ItC} {q : FuncId → Bool} (d : Nat) (h0 : ∀ g, I2 g = none → I1 g = none)
  (hI : ∀ g F, I2 g = some F → ∀ n args, SimP gg (F args) (bP ⟨P, I1⟩ (fnR ⟨P, I1⟩ I q (n + d)) g args)) : ∀ (n : Nat) (f : FuncId) (args : List DV), SimP gg (fnR ⟨P, I2⟩ I q n f args) (fnR ⟨P, I1⟩ I q (n + d) f args)
 | 0, f, args => fun h h' S v k e => by cases e
 | n + 1, f, args => by
  rw [show n + 1 + d = (n + d) + 1 from by omega]
  have HC : ∀ g az, SimP gg (bP ⟨P, I2⟩ (fnR ⟨P, I2⟩ I q n) g az) (bP ⟨P, I1⟩ (fnR ⟨P, I1⟩ I q (n + d)) g az) := fun g az => by
   unfold bP
   dsimp only
   cases hg : I2 g with
   | none =>
    rw [h0 g hg]
    exact aBp d h0 hI n g az
   | some F =>
    have := hI g F hg n az
    unfold bP at this
    exact this
  show SimP gg ((bif q f then mE ⟨P, I2⟩ (fnR ⟨P, I2⟩ I q n) n I f else aF ⟨P, I2⟩ (fnR ⟨P, I2⟩ I q n) n f) args) ((bif q f then mE ⟨P, I1⟩ (fnR ⟨P, I1⟩ I q (n + d)) (n + d) I f else aF ⟨P, I1⟩ (fnR ⟨P, I1⟩ I q (n + d)) (n + d) f) args)
  cases q f with
  | true => exact bHy HC n d I f args
  | false => exact mJ HC n d f args
end Go.Dd

namespace Go.Dd
noncomputable section
def iG (w : Int) : Nat :=
 match w with
 | .ofNat w => bif Nat.beq (Nat.mod w 2) 0 && (Nat.ble 6 w && Nat.ble w 262144) then Nat.div w 2 else 0
 | .negSucc _ => 0
def cX (w : Int) : Bool :=
 match w with
 | .ofNat w => Nat.beq (Nat.mod w 2) 1 && Nat.blt w 2147483648
 | .negSucc w => Nat.beq (Nat.mod w 2) 0 && Nat.blt w 2147483648
def oY (w : Int) : Int :=
 match w with
 | .ofNat w => .ofNat (Nat.div w 2)
 | .negSucc w => .negSucc (Nat.div w 2)
structure MemV where
 wb : Pos
 n : Nat
 fin : Nat
 made : Nat
 pb : Pos
 t : WT
 pl : WT
def lA (m : Pos) (h : Hp) : Option MemV :=
 match h.bl.get m with
 | some (.row .ex [.l wb 0 n c, .i .i64 (.ofNat fin), .i .i64 (.ofNat made), .m pb]) =>
  match h.bl.get wb, h.bl.get pb with
  | some (.big n' t), some (.mi pl) => bif Nat.beq n n' && Nat.beq n c then (bif Nat.blt n 1000000 && (Nat.ble fin n && Nat.blt made 1000000) then some ⟨wb, n, fin, made, pb, t, pl⟩ else none) else none
  | _, _ => none
 | _ => none
def bV (o : Int) (pl : WT) : Nat :=
 bif Nat.beq (iG o) 0 then 0 else match pl.get (iG o) with
  | .ofNat 0 => 0
  | _ => iG o
def dW (w : Int) (pl : WT) : Bool :=
 match w with
 | .ofNat 0 => true
 | .ofNat 2 => true
 | .ofNat 4 => true
 | w => cX w || !(Nat.beq (bV w pl) 0)
def qI (w : Int) (pl : WT) : Bool :=
 match w with
 | .ofNat 0 => true
 | w => !(Nat.beq (bV w pl) 0)
def jC (args : List DV) (h : Hp) (k : MemV → List DV → aH) : aH :=
 match args with
 | .p m 0 :: rest => match lA m h with
  | some M => k M rest
  | none => none
 | _ => none
def err (e : Nat) (h : Hp) : aH := some (.t [.i .i64 (.ofNat 0), .i .i64 (.ofNat e)], h)
def isF (args : List DV) (h : Hp) : aH := jC args h fun M r => match r with
 | [.i .i64 w] => some (.b (!(Nat.beq (bV w M.pl) 0)), h)
 | _ => none
def aHp (args : List DV) (h : Hp) : aH := jC args h fun M r => match r with
 | [.i .i64 w] => some (.b (dW w M.pl), h)
 | _ => none
def aAs (args : List DV) (h : Hp) : aH := jC args h fun M r => match r with
 | [] => some (.i .i64 (.ofNat M.n), h)
 | _ => none
def bDn (args : List DV) (h : Hp) : aH := jC args h fun M r => match r with
 | [] => some (.i .i64 (.ofNat (Nat.sub M.n M.fin)), h)
 | _ => none
def iB (M : MemV) (o : Int) (k : Nat → aH) : aH :=
 bif Nat.blt (Nat.add (bV o M.pl) 1) M.n then (match M.t.get (bV o M.pl) with
  | .ofNat hd => bif Nat.blt hd 1000000000000 then k hd else none
  | .negSucc _ => none) else none
def iW (args : List DV) (h : Hp) : aH := jC args h fun M r => match r with
 | [.i .i64 o] => iB M o fun _ => some (.i .i64 (M.t.get (Nat.add (bV o M.pl) 1)), h)
 | _ => none
def jD (args : List DV) (h : Hp) : aH := jC args h fun M r => match r with
 | [.i .i64 o] => iB M o fun hd => some (.i .i64 (.ofNat (Nat.mod hd 4)), h)
 | _ => none
def fT (args : List DV) (h : Hp) : aH := jC args h fun M r => match r with
 | [.i .i64 o] => iB M o fun hd => some (.i .i64 (.ofNat (Nat.div hd 4)), h)
 | _ => none
def gS (M : MemV) (o i : Int) (bad : Nat → aH) (k : Nat → Nat → aH) : aH :=
 bif Nat.beq (bV o M.pl) 0 then bad 1 else match i with
  | .negSucc _ => bad 5
  | .ofNat i => iB M o fun hd => bif Nat.ble (Nat.div hd 4) i then bad 5 else
    (bif Nat.blt (Nat.add (Nat.add (bV o M.pl) 3) i) M.n then k hd (Nat.add (Nat.add (bV o M.pl) 3) i) else none)
def sT (args : List DV) (h : Hp) : aH := jC args h fun M r => match r with
 | [.i .i64 o, .i .i64 i] => gS M o i (fun e => err e h) fun _ a => some (.t [.i .i64 (M.t.get a), .i .i64 (.ofNat 0)], h)
 | _ => none
def mS (M : MemV) (a : Nat) (w : Int) (h : Hp) : aH := some (.i .i64 (.ofNat 0), ⟨h.next, Tr.set (.big M.n (M.t.set a w)) M.wb h.bl⟩)
def aAj (args : List DV) (h : Hp) : aH := jC args h fun M r => match r with
 | [.i .i64 o, .i .i64 i, .i .i64 w] => gS M o i (fun e => some (.i .i64 (.ofNat e), h)) fun hd a =>
   match Nat.mod hd 4 with
   | 0 => bif dW w M.pl then mS M a w h else some (.i .i64 (.ofNat 6), h)
   | 2 => (match w with
    | .ofNat c => bif Nat.ble c 255 then mS M a w h else some (.i .i64 (.ofNat 6), h)
    | .negSucc _ => some (.i .i64 (.ofNat 6), h))
   | _ => mS M a w h
 | _ => none
def kT (args : List DV) (h : Hp) : aH := jC args h fun M r => match r with
 | [.i .i64 o, .i .i64 c] => bif Nat.beq (bV o M.pl) 0 || !(qI c M.pl) then some (.i .i64 (.ofNat 1), h) else
   (bif Nat.blt (Nat.add (bV o M.pl) 1) M.n then mS M (Nat.add (bV o M.pl) 1) c h else none)
 | _ => none
def kS (t : WT) (c : Nat) : Nat → WT :=
 Nat.rec (motive := fun _ => Nat → WT) (fun _ => t) (fun _ ih a => (ih (Nat.add a 1)).set a (.ofNat 0)) c
def gL (args : List DV) (h : Hp) : aH :=
 match args with
 | [.p m 0, .i .i64 cls, .i .i64 fmt, .i .i64 cnt] => match lA m h with
  | none => none
  | some M => bif !(qI cls M.pl) then err 1 h else match fmt, cnt with
   | .ofNat f, .ofNat c => bif Nat.ble f 2 && Nat.ble c 256 then
     (bif Nat.blt (Nat.sub M.n M.fin) (Nat.add c 3) then err 4 h else
      (bif Nat.ble 3 M.fin && Nat.ble M.fin 131072 then
       some (.t [.i .i64 (.ofNat (Nat.mul M.fin 2)), .i .i64 (.ofNat 0)],
        ⟨h.next, Tr.set (.row .ex [.l M.wb 0 M.n M.n, .i .i64 (.ofNat (Nat.add M.fin (Nat.add c 3))), .i .i64 (.ofNat (Nat.succ M.made)), .m M.pb]) m
         (Tr.set (.mi (M.pl.set M.fin (.ofNat 1))) M.pb
          (Tr.set (.big M.n (kS (((M.t.set M.fin (.ofNat (Nat.add (Nat.mul c 4) f))).set (Nat.add M.fin 1) cls).set (Nat.add M.fin 2) (.ofNat (Nat.succ M.made))) c (Nat.add M.fin 3))) M.wb h.bl))⟩)
       else none))
     else err 1 h
   | _, _ => err 1 h
 | _ => none
def aTv (args : List DV) (h : Hp) : aH :=
 match args with
 | [.i .i64 (.ofNat n)] => bif Nat.blt n 16 || Nat.blt 131072 n then some (.p0, h) else
   some (.p (bZ 2 h.next) 0, ⟨bZ 3 h.next, Tr.set (.row .ex [.l h.next 0 n n, .i .i64 (.ofNat 3), .i .i64 (.ofNat 0), .m (bZ 1 h.next)]) (bZ 2 h.next)
    (Tr.set (.mi .e) (bZ 1 h.next) (Tr.set (.big n .e) h.next h.bl))⟩)
 | [.i .i64 (.negSucc _)] => some (.p0, h)
 | _ => none
def eM (args : List DV) (h : Hp) : aH :=
 match args with
 | [.i .i64 w] => some (.b (cX w), h)
 | _ => none
def jQ (args : List DV) (h : Hp) : aH :=
 match args with
 | [.i .i64 w] => bif cX w then some (.i .i64 (oY w), h) else some (.i .i64 (.ofNat 0), h)
 | _ => none
def gV (args : List DV) (h : Hp) : aH :=
 match args with
 | [.i .i64 (.ofNat n)] => bif Nat.blt n 1073741824 then some (.t [.i .i64 (.ofNat (Nat.succ (Nat.mul n 2))), .b true], h) else some (.t [.i .i64 (.ofNat 0), .b false], h)
 | [.i .i64 (.negSucc n)] => bif Nat.blt n 1073741824 then some (.t [.i .i64 (.negSucc (Nat.mul n 2)), .b true], h) else some (.t [.i .i64 (.ofNat 0), .b false], h)
 | _ => none
def aAl (g : Nat) : Option (List DV → Hp → aH) :=
 bif Nat.beq g 24 then some aHp else bif Nat.beq g 31 then some isF else bif Nat.beq g 102 then some aAs else bif Nat.beq g 86 then some bDn else
 bif Nat.beq g 47 then some gL else bif Nat.beq g 68 then some aTv else bif Nat.beq g 70 then some kT else bif Nat.beq g 72 then some aAj else
 bif Nat.beq g 50 then some iW else bif Nat.beq g 38 then some jD else bif Nat.beq g 27 then some fT else bif Nat.beq g 48 then some eM else
 bif Nat.beq g 81 then some gV else bif Nat.beq g 49 then some jQ else bif Nat.beq g 28 then some sT else none
end
end Go.Dd

namespace Go.Dd
open Go.Proofs
def cf (f : Func) : Code := match f.body with
 | some c => c
 | none => .skip
def cL : Code → Code
 | .seq a _ => a
 | .cond _ a _ => a
 | .block _ a => a
 | .loop a => a
 | .scope a => a
 | c => c
def cR : Code → Code
 | .seq _ b => b
 | .cond _ _ b => b
 | c => c
def cC : Code → Operand
 | .cond c _ _ => c
 | _ => .const .nilFunc
def x0 : Nat → K := fun _ => dL
def xs (X : Nat → K) (i : Nat) (k : K) : Nat → K := fun j => bif Nat.beq j i then k else X j
def aLx (c : Nat) : List Nat → Nat → Int
 | [], _ => .negSucc 0
 | x :: l, i => bif Nat.beq x c then .ofNat i else aLx c l (i + 1)
def lV (args : List DV) (h : Hp) : aH :=
 match args with
 | [.s l, .i .u8 (.ofNat c)] => bif Nat.blt c 256 then some (.i .i64 (aLx c l 0), h) else none
 | _ => none
noncomputable def CF0 : Cfg := ⟨Tryz.prog, fun _ => none⟩
noncomputable def lL (p : Pos) : Pos → Bool := Pos.rec (motive := fun _ => Pos → Bool) (fun q => Pos.rec (motive := fun _ => Bool) true (fun _ _ => false) (fun _ _ => false) q)
 (fun _ ih q => Pos.rec (motive := fun _ => Bool) false (fun q _ => ih q) (fun _ _ => false) q) (fun _ ih q => Pos.rec (motive := fun _ => Bool) false (fun _ _ => false) (fun q _ => ih q) q) p
noncomputable def jR (q : Pos) (l1 : DV) (cs : List DV) (h : Hp) : aH :=
 match l1 with
 | .l0 => some (.l h.next 0 1 1, ⟨h.next.succ, Tr.set (.row (.gr 4) cs) h.next h.bl⟩)
 | .l b o len cap => cnd (Nat.ble cap len && !(lL b q)) (match h.bl.get b, cellsAt b o (len * 4) h with
  | some (.row (.gr es) l), some old => if es = 4 ∧ o + cap * 4 = l.length ∧ (len + 1) * 56 ≤ lU then
    some (.l h.next 0 (len + 1) (len + 1), ⟨h.next.succ, Tr.set (.row (.gr 4) (old ++ cs)) h.next (Tr.set (.row .sp (bT o l)) b h.bl)⟩) else none
  | _, _ => none)
 | _ => none
noncomputable def rT (c q : Pos) (h : Hp) : aH :=
 bnd (aA (.p c 4) h) fun l1 _ =>
 bnd (cA l1 h) fun n _ =>
 bnd (aK 4 (.p q 0) h) fun x _ =>
 match x with
 | .a cs => cnd (!(lL c q)) (
  bnd (jR q l1 cs ⟨h.next.succ.succ, h.bl⟩) fun l2 h3 =>
  bnd (aG 1 (.p c 4) l2 h3) fun _ h4 => some (n, h4))
 | _ => none
noncomputable def lB (args : List DV) (h : Hp) : aH :=
 match args with
 | [.p c 0, .a lit] =>
  bnd (bN lit h) fun _ h1 =>
  bnd (aA (.p c 4) h1) fun ls h2 =>
  bnd (fnD CF0 60 187 [ls, .f 188 [] [.p h.next 0]] h2) fun i h3 =>
  bnd (aD .lss i (.i .i64 (Int.ofNat 0)) h3) fun t h4 =>
  aT t (rT c h.next h4) (some (i, h4))
 | _ => none
noncomputable def CF1 : Cfg := ⟨Tryz.prog, fun g => bif Nat.beq g 176 then some lV else bif Nat.beq g 159 then some lB else none⟩
noncomputable def CF : Cfg := ⟨Tryz.prog, fun g => bif Nat.beq g 176 then some lV else bif Nat.beq g 159 then some lB else aAl g⟩
def fY : Code → Array Oper
 | .region _ ops _ => ops
 | _ => #[]
def itm : ItC := { gf := 0, nt := 0, pre := .skip, b0 := 0, test := .skip, b1 := 1, rid := 0, front := [], y := ⟨none, .move (.const .nilFunc), 0, "", #[], none⟩, back := [], after := .skip, post := .skip, step := .skip, yd := 0, yt := 0, yx := 0 }
def rgB (g : FuncId) : Bool := false
noncomputable abbrev fU (C : Cfg) (n : Nat) : FuncId → List DV → Hp → aH := fnR C itm rgB n
theorem cE (f : FuncId) (hf : rgB f = false) (C : Cfg) (n : Nat) (args : List DV) (h : Hp) : fU C (n + 1) f args h = aF C (fU C n) n f args h := by
 show (bif rgB f then mE C (fU C n) n itm f else aF C (fU C n) n f) args h = _
 rw [hf]
 rfl
abbrev RT := FuncId → List DV → Hp → aH
abbrev TT0 := Hp → aH
abbrev TT1 := DV → Hp → aH
abbrev gO := DV → DV → Hp → aH
abbrev nA := DV → DV → DV → Hp → aH
abbrev dM := DV → DV → DV → DV → Hp → aH
abbrev cG := DV → DV → DV → DV → DV → Hp → aH
abbrev fH := DV → DV → DV → DV → DV → DV → Hp → aH
abbrev TT7 := DV → DV → DV → DV → DV → DV → DV → Hp → aH
abbrev TT8 := DV → DV → DV → DV → DV → DV → DV → DV → Hp → aH
abbrev TT9 := DV → DV → DV → DV → DV → DV → DV → DV → DV → Hp → aH
abbrev aOp := DV → DV → DV → DV → DV → DV → DV → DV → DV → DV → Hp → aH
abbrev dIu := DV → DV → DV → DV → DV → DV → DV → DV → DV → DV → DV → Hp → aH
abbrev dPj := DV → DV → DV → DV → DV → DV → DV → DV → DV → DV → DV → DV → Hp → aH
abbrev dRm := DV → DV → DV → DV → DV → DV → DV → DV → DV → DV → DV → DV → DV → Hp → aH
abbrev dQt := DV → DV → DV → DV → DV → DV → DV → DV → DV → DV → DV → DV → DV → DV → Hp → aH
abbrev dRc := DV → DV → DV → DV → DV → DV → DV → DV → DV → DV → DV → DV → DV → DV → DV → Hp → aH
abbrev dPk := DV → DV → DV → DV → DV → DV → DV → DV → DV → DV → DV → DV → DV → DV → DV → DV → Hp → aH
abbrev dTq := DV → DV → DV → DV → DV → DV → DV → DV → DV → DV → DV → DV → DV → DV → DV → DV → DV → Hp → aH
abbrev dQe := DV → DV → DV → DV → DV → DV → DV → DV → DV → DV → DV → DV → DV → DV → DV → DV → DV → DV → Hp → aH
abbrev dSs := DV → DV → DV → DV → DV → DV → DV → DV → DV → DV → DV → DV → DV → DV → DV → DV → DV → DV → DV → Hp → aH
abbrev dRp := DV → DV → DV → DV → DV → DV → DV → DV → DV → DV → DV → DV → DV → DV → DV → DV → DV → DV → DV → DV → Hp → aH
abbrev K0 (f : TT0) : K := fun env h => f h
abbrev K1 (f : TT1) (a0 : Nat) : K := fun env h => f (env a0) h
abbrev K2 (f : gO) (a0 a1 : Nat) : K := fun env h => f (env a0) (env a1) h
abbrev K3 (f : nA) (a0 a1 a2 : Nat) : K := fun env h => f (env a0) (env a1) (env a2) h
abbrev K4 (f : dM) (a0 a1 a2 a3 : Nat) : K := fun env h => f (env a0) (env a1) (env a2) (env a3) h
abbrev K5 (f : cG) (a0 a1 a2 a3 a4 : Nat) : K := fun env h => f (env a0) (env a1) (env a2) (env a3) (env a4) h
abbrev K6 (f : fH) (a0 a1 a2 a3 a4 a5 : Nat) : K := fun env h => f (env a0) (env a1) (env a2) (env a3) (env a4) (env a5) h
abbrev K7 (f : TT7) (a0 a1 a2 a3 a4 a5 a6 : Nat) : K := fun env h => f (env a0) (env a1) (env a2) (env a3) (env a4) (env a5) (env a6) h
abbrev K8 (f : TT8) (a0 a1 a2 a3 a4 a5 a6 a7 : Nat) : K := fun env h => f (env a0) (env a1) (env a2) (env a3) (env a4) (env a5) (env a6) (env a7) h
abbrev K9 (f : TT9) (a0 a1 a2 a3 a4 a5 a6 a7 a8 : Nat) : K := fun env h => f (env a0) (env a1) (env a2) (env a3) (env a4) (env a5) (env a6) (env a7) (env a8) h
abbrev K10 (f : aOp) (a0 a1 a2 a3 a4 a5 a6 a7 a8 a9 : Nat) : K := fun env h => f (env a0) (env a1) (env a2) (env a3) (env a4) (env a5) (env a6) (env a7) (env a8) (env a9) h
abbrev K11 (f : dIu) (a0 a1 a2 a3 a4 a5 a6 a7 a8 a9 a10 : Nat) : K := fun env h => f (env a0) (env a1) (env a2) (env a3) (env a4) (env a5) (env a6) (env a7) (env a8) (env a9) (env a10) h
abbrev K12 (f : dPj) (a0 a1 a2 a3 a4 a5 a6 a7 a8 a9 a10 a11 : Nat) : K := fun env h => f (env a0) (env a1) (env a2) (env a3) (env a4) (env a5) (env a6) (env a7) (env a8) (env a9) (env a10) (env a11) h
abbrev K13 (f : dRm) (a0 a1 a2 a3 a4 a5 a6 a7 a8 a9 a10 a11 a12 : Nat) : K := fun env h => f (env a0) (env a1) (env a2) (env a3) (env a4) (env a5) (env a6) (env a7) (env a8) (env a9) (env a10) (env a11) (env a12) h
abbrev K14 (f : dQt) (a0 a1 a2 a3 a4 a5 a6 a7 a8 a9 a10 a11 a12 a13 : Nat) : K := fun env h => f (env a0) (env a1) (env a2) (env a3) (env a4) (env a5) (env a6) (env a7) (env a8) (env a9) (env a10) (env a11) (env a12) (env a13) h
abbrev K15 (f : dRc) (a0 a1 a2 a3 a4 a5 a6 a7 a8 a9 a10 a11 a12 a13 a14 : Nat) : K := fun env h => f (env a0) (env a1) (env a2) (env a3) (env a4) (env a5) (env a6) (env a7) (env a8) (env a9) (env a10) (env a11) (env a12) (env a13) (env a14) h
abbrev K16 (f : dPk) (a0 a1 a2 a3 a4 a5 a6 a7 a8 a9 a10 a11 a12 a13 a14 a15 : Nat) : K := fun env h => f (env a0) (env a1) (env a2) (env a3) (env a4) (env a5) (env a6) (env a7) (env a8) (env a9) (env a10) (env a11) (env a12) (env a13) (env a14) (env a15) h
abbrev K17 (f : dTq) (a0 a1 a2 a3 a4 a5 a6 a7 a8 a9 a10 a11 a12 a13 a14 a15 a16 : Nat) : K := fun env h => f (env a0) (env a1) (env a2) (env a3) (env a4) (env a5) (env a6) (env a7) (env a8) (env a9) (env a10) (env a11) (env a12) (env a13) (env a14) (env a15) (env a16) h
abbrev K18 (f : dQe) (a0 a1 a2 a3 a4 a5 a6 a7 a8 a9 a10 a11 a12 a13 a14 a15 a16 a17 : Nat) : K := fun env h => f (env a0) (env a1) (env a2) (env a3) (env a4) (env a5) (env a6) (env a7) (env a8) (env a9) (env a10) (env a11) (env a12) (env a13) (env a14) (env a15) (env a16) (env a17) h
abbrev K19 (f : dSs) (a0 a1 a2 a3 a4 a5 a6 a7 a8 a9 a10 a11 a12 a13 a14 a15 a16 a17 a18 : Nat) : K := fun env h => f (env a0) (env a1) (env a2) (env a3) (env a4) (env a5) (env a6) (env a7) (env a8) (env a9) (env a10) (env a11) (env a12) (env a13) (env a14) (env a15) (env a16) (env a17) (env a18) h
abbrev K20 (f : dRp) (a0 a1 a2 a3 a4 a5 a6 a7 a8 a9 a10 a11 a12 a13 a14 a15 a16 a17 a18 a19 : Nat) : K := fun env h => f (env a0) (env a1) (env a2) (env a3) (env a4) (env a5) (env a6) (env a7) (env a8) (env a9) (env a10) (env a11) (env a12) (env a13) (env a14) (env a15) (env a16) (env a17) (env a18) (env a19) h
theorem okG {d s : K} (m : d = s) (args : List DV) (h : Hp) {a b : aH} (e1 : a = d (aI args) h) (e2 : s (aI args) h = b) : a = b :=
 e1.trans ((congrFun (congrFun m (aI args)) h).trans e2)
abbrev aE (n : Nat) : DV := .i .i64 (Int.ofNat n)
abbrev iJ : List DV := [(.i .i64 (Int.ofNat 0)), (.s []), (.i .i64 (Int.ofNat 0)), .l0, .l0, .l0]
abbrev aU (args : List DV) (i : Nat) : DV := args.getD i aW
end Go.Dd

namespace Go.Dd
open Go.Proofs
variable (r : RT) (n : Nat) (args : List DV) (h : Hp)
noncomputable def s12 (r : RT) (n : Nat) (h0 : Hp) : aH :=
 bnd (r 40 [(aE 30000)] h0) fun v1 h1 =>
 bnd (aC 0 v1 h1) fun v2 h2 =>
 bnd (aC 1 v1 h2) fun v3 h3 =>
 bnd (pEq (.pointer 64) true v2 .p0 h3) fun v4 h4 =>
 bnd (gD v4 false (some (v3, h4)) h4) fun v5 h5 =>
 bnd (gD v4 false (aD .neq v5 (aE 0) h5) h5) fun v6 h6 =>
 bnd (aR v4 (.b true) v6 h6) fun v7 h7 =>
 aT v7 (
 some (.p0, h7)) (
 bnd (aL [(.s []), (.s [])] 2 [(0, 1, (.s [120])), (1, 1, (.s [121]))] h7) fun v8 h8 =>
 bnd (r 41 [v2, (.s [80, 111, 105, 110, 116]), (.s [79, 98, 106, 101, 99, 116]), v8] h8) fun v9 h9 =>
 bnd (aC 0 v9 h9) fun v10 h10 =>
 bnd (aC 1 v9 h10) fun v11 h11 =>
 bnd (aD .neq v11 (aE 0) h11) fun v12 h12 =>
 aT v12 (
 some (.p0, h12)) (
 some (v2, h12)))
noncomputable abbrev c12 : Code := cf Tryz.f12
noncomputable abbrev r12 : K := aP CF Tryz.f12
noncomputable def D12 (r : RT) (n : Nat) (c : Code) (X : Nat → K) (k : K) : K := aN CF r 24 n c X r12 k
theorem dTx : D12 r n c12 x0 r12 = (K0 (s12 r n)) :=
 (by kernel_rfl)
theorem cVb : aF CF r n 12 args h = s12 r n h :=
 (by kernel_rfl : aF CF r n 12 args h = D12 r n c12 x0 r12 (aI args) h).trans ((congrFun (congrFun (dTx r n) (aI args)) h).trans (by kernel_rfl))
noncomputable def s13 (r : RT) (n : Nat) (h0 : Hp) : aH :=
 bnd (r 12 [] h0) fun v1 h1 =>
 bnd (pEq (.pointer 64) true v1 .p0 h1) fun v2 h2 =>
 aT v2 (
 some ((.b false), h2)) (
 bnd (r 42 [v1, (aE 1073741823)] h2) fun v3 h3 =>
 bnd (aC 0 v3 h3) fun v4 h4 =>
 bnd (aC 1 v3 h4) fun v5 h5 =>
 bnd (aL [(aE 0)] 1 [(0, 1, (aE 3))] h5) fun v6 h6 =>
 bnd (r 16 [v1, (aE 1), v4, v6] h6) fun v7 h7 =>
 bnd (aC 0 v7 h7) fun v8 h8 =>
 bnd (aC 1 v7 h8) fun v9 h9 =>
 bnd (r 15 [v1, v8] h9) fun v10 h10 =>
 bnd (aC 0 v10 h10) fun v11 h11 =>
 bnd (aC 1 v10 h11) fun v12 h12 =>
 bnd (aL [(aE 0)] 1 [(0, 1, (aE 1))] h12) fun v13 h13 =>
 bnd (r 16 [v1, (aE 4), (aE 15), v13] h13) fun v14 h14 =>
 bnd (aC 0 v14 h14) fun v15 h15 =>
 bnd (aC 1 v14 h15) fun v16 h16 =>
 bnd (r 43 [v1, (.s [97, 98])] h16) fun v17 h17 =>
 bnd (aC 0 v17 h17) fun v18 h18 =>
 bnd (aC 1 v17 h18) fun v19 h19 =>
 bnd (aL [(aE 0)] 1 [(0, 1, (aE 5))] h19) fun v20 h20 =>
 bnd (r 16 [v1, (aE 20), v18, v20] h20) fun v21 h21 =>
 bnd (aC 0 v21 h21) fun v22 h22 =>
 bnd (aC 1 v21 h22) fun v23 h23 =>
 bnd (r 44 [v1, (.s [97, 98])] h23) fun v24 h24 =>
 bnd (aC 0 v24 h24) fun v25 h25 =>
 bnd (aC 1 v24 h25) fun v26 h26 =>
 bnd (aL [(aE 0), (aE 0)] 2 [(0, 1, (aE 3)), (1, 1, (aE 199))] h26) fun v27 h27 =>
 bnd (r 16 [v1, (aE 21), v25, v27] h27) fun v28 h28 =>
 bnd (aC 0 v28 h28) fun v29 h29 =>
 bnd (aC 1 v28 h29) fun v30 h30 =>
 bnd (aD .eql v9 (aE 0) h30) fun v31 h31 =>
 bnd (gD v31 true (some (v12, h31)) h31) fun v32 h32 =>
 bnd (aR v31 v32 (.b false) h32) fun v33 h33 =>
 bnd (gD v33 true (some (v11, h33)) h33) fun v34 h34 =>
 bnd (gD v33 true (aD .eql v34 (aE 1073741824) h34) h34) fun v35 h35 =>
 bnd (aR v33 v35 (.b false) h35) fun v36 h36 =>
 bnd (gD v36 true (some (v1, h36)) h36) fun v37 h37 =>
 bnd (gD v36 true (some (v8, h37)) h37) fun v38 h38 =>
 bnd (gD v36 true (r 25 [v37, v38] h38) h38) fun v39 h39 =>
 bnd (gD v36 true (some (v1, h39)) h39) fun v40 h40 =>
 bnd (gD v36 true (r 45 [v40, (.s [76, 97, 114, 103, 101, 73, 110, 116, 101, 103, 101, 114])] h40) h40) fun v41 h41 =>
 bnd (gD v36 true (aD .eql v39 v41 h41) h41) fun v42 h42 =>
 bnd (aR v36 v42 (.b false) h42) fun v43 h43 =>
 bnd (gD v43 true (some (v16, h43)) h43) fun v44 h44 =>
 bnd (gD v43 true (aD .eql v44 (aE 20) h44) h44) fun v45 h45 =>
 bnd (aR v43 v45 (.b false) h45) fun v46 h46 =>
 bnd (gD v46 true (some (v22, h46)) h46) fun v47 h47 =>
 bnd (gD v46 true (aD .eql v47 (aE 197) h47) h47) fun v48 h48 =>
 bnd (aR v46 v48 (.b false) h48) fun v49 h49 =>
 bnd (gD v49 true (some (v23, h49)) h49) fun v50 h50 =>
 bnd (gD v49 true (aD .eql v50 (aE 0) h50) h50) fun v51 h51 =>
 bnd (aR v49 v51 (.b false) h51) fun v52 h52 =>
 bnd (gD v52 true (some (v30, h52)) h52) fun v53 h53 =>
 bnd (gD v52 true (aD .eql v53 (aE 20) h53) h53) fun v54 h54 =>
 bnd (aR v52 v54 (.b false) h54) fun v55 h55 =>
 bnd (gD v55 true (r 39 [(aE 21)] h55) h55) fun v56 h56 =>
 bnd (gD v55 true (aD .eql v56 (aE 2) h56) h56) fun v57 h57 =>
 bnd (aR v55 v57 (.b false) h57) fun v58 h58 =>
 some (v58, h58))
noncomputable abbrev c13 : Code := cf Tryz.f13
noncomputable abbrev r13 : K := aP CF Tryz.f13
noncomputable def D13 (r : RT) (n : Nat) (c : Code) (X : Nat → K) (k : K) : K := aN CF r 106 n c X r13 k
theorem dUb : D13 r n c13 x0 r13 = (K0 (s13 r n)) :=
 (by kernel_rfl)
theorem cVw : aF CF r n 13 args h = s13 r n h :=
 (by kernel_rfl : aF CF r n 13 args h = D13 r n c13 x0 r13 (aI args) h).trans ((congrFun (congrFun (dUb r n) (aI args)) h).trans (by kernel_rfl))
noncomputable def aX (r : RT) (n : Nat) (x3 : DV) (h0 : Hp) : aH :=
 bnd (aB 1 x3 h0) fun v1 h1 =>
 bnd (aA v1 h1) fun v2 h2 =>
 some (v2, h2)
noncomputable def qH (r : RT) (n : Nat) (x0 x5 : DV) (h0 : Hp) : aH :=
 bnd (dV x5 h0) fun v1 h1 =>
 bnd (aD .quo v1 (aE 2) h1) fun v2 h2 =>
 bnd (fE x5 none (some v2) h2) fun v3 h3 =>
 bnd (fN .add (.s [115]) v3 h3) fun v4 h4 =>
 bnd (r 44 [x0, v4] h4) fun v5 h5 =>
 bnd (aC 0 v5 h5) fun v6 h6 =>
 bnd (aC 1 v5 h6) fun v7 h7 =>
 some (v6, h7)
noncomputable def aHj (r : RT) (n : Nat) (x0 x5 : DV) (h0 : Hp) : aH :=
 bnd (dV x5 h0) fun v1 h1 =>
 bnd (aD .gtr v1 (aE 60) h1) fun v2 h2 =>
 aT v2 (
 bnd (fE x5 none (some (aE 60)) h2) fun v3 h3 =>
  qH r n x0 v3 h3) (
  qH r n x0 x5 h2)
noncomputable def dS (r : RT) (n : Nat) (x0 x13 : DV) (h0 : Hp) : aH :=
 bnd (r 46 [x0, x13] h0) fun v1 h1 =>
 bnd (aC 0 v1 h1) fun v2 h2 =>
 bnd (aC 1 v1 h2) fun v3 h3 =>
 some (v2, h3)
noncomputable def kZ (r : RT) (n : Nat) (kk21 : dM) (x0 x12 x13 x14 : DV) (h0 : Hp) : aH :=
 bnd (aD .rem x12 (aE 10) h0) fun v1 h1 =>
 bnd (aD .lss x14 v1 h1) fun v2 h2 =>
 aT v2 (
 bnd (aD .mul (aE 2) x14 h2) fun v3 h3 =>
 bnd (aD .add v3 (aE 1) h3) fun v4 h4 =>
 bnd (aL [(aE 0)] 1 [(0, 1, v4)] h4) fun v5 h5 =>
 bnd (aY 1 8 x13 v5 h5) fun v6 h6 =>
 bnd (aD .add x14 (aE 1) h6) fun v7 h7 =>
      kk21 x0 x12 v6 v7 h7) (
      dS r n x0 x13 h2)
noncomputable def lO (r : RT) (n : Nat) (m : Nat) : dM :=
 Nat.rec (motive := fun _ => dM) (fun _ _ _ _ _ => none) (fun _ ih => kZ r n ih) m
noncomputable def aPw (r : RT) (n : Nat) : dM := lO r n n
noncomputable def aCy (r : RT) (n : Nat) (x0 x12 x13 x14 : DV) (h0 : Hp) : aH :=
 aPw r n x0 x12 x13 x14 h0
noncomputable def aKa (r : RT) (n : Nat) (x0 x12 x13 : DV) (h0 : Hp) : aH :=
 aCy r n x0 x12 x13 (aE 0) h0
noncomputable def rO (r : RT) (n : Nat) (x0 x12 : DV) (h0 : Hp) : aH :=
 aKa r n x0 x12 .l0 h0
noncomputable def aKe (r : RT) (n : Nat) (x0 x12 : DV) (h0 : Hp) : aH :=
 bnd (aD .lss x12 (aE 0) h0) fun v1 h1 =>
 aT v1 (
 bnd (aD .add x12 (aE 1) h1) fun v2 h2 =>
 bnd (hY .neg v2 h2) fun v3 h3 =>
  rO r n x0 v3 h3) (
  rO r n x0 x12 h1)
noncomputable def aEz (r : RT) (n : Nat) (x0 x3 : DV) (h0 : Hp) : aH :=
 bnd (aB 1 x3 h0) fun v1 h1 =>
 bnd (aA v1 h1) fun v2 h2 =>
  aKe r n x0 v2 h2
noncomputable def yN (r : RT) (n : Nat) (x0 x3 x27 x66 : DV) (h0 : Hp) : aH :=
 aT x66 (
  aEz r n x0 x3 h0) (
 bnd (aD .eql x27 (aE 4) h0) fun v1 h1 =>
 aT v1 (
 bnd (r 23 [x0] h1) fun v2 h2 =>
 bnd (r 45 [x0, (.s [80, 111, 105, 110, 116])] h2) fun v3 h3 =>
 bnd (gL [v2, v3, (aE 0), (aE 2)] h3) fun v4 h4 =>
 bnd (aC 0 v4 h4) fun v5 h5 =>
 bnd (aC 1 v4 h5) fun v6 h6 =>
 some (v5, h6)) (
 bnd (aD .eql x27 (aE 5) h1) fun v7 h7 =>
 aT v7 (
 bnd (aB 1 x3 h7) fun v8 h8 =>
 bnd (aA v8 h8) fun v9 h9 =>
 bnd (aD .eql v9 (aE 16) h9) fun v10 h10 =>
 aT v10 (
 bnd (r 45 [x0, (.s [80, 111, 105, 110, 116])] h10) fun v11 h11 =>
 some (v11, h11)) (
 bnd (aB 1 x3 h10) fun v12 h12 =>
 bnd (aA v12 h12) fun v13 h13 =>
 bnd (r 30 [x0, v13] h13) fun v14 h14 =>
 some (v14, h14))) (
 bnd (aD .eql x27 (aE 6) h7) fun v15 h15 =>
 aT v15 (
 some ((aE 0), h15)) (
 bnd (aD .eql x27 (aE 7) h15) fun v16 h16 =>
 aT v16 (
 some ((aE 2), h16)) (
 bnd (aD .eql x27 (aE 8) h16) fun v17 h17 =>
 aT v17 (
 some ((aE 4), h17)) (
       aX r n x3 h17))))))
noncomputable def aSh (r : RT) (n : Nat) (x0 x3 x27 : DV) (h0 : Hp) : aH :=
 bnd (aD .eql x27 (aE 3) h0) fun v1 h1 =>
  yN r n x0 x3 x27 v1 h1
noncomputable def vN (r : RT) (n : Nat) (x0 x3 x5 x27 x47 : DV) (h0 : Hp) : aH :=
 aT x47 (
  aHj r n x0 x5 h0) (
  aSh r n x0 x3 x27 h0)
noncomputable def bPh (r : RT) (n : Nat) (x0 x3 x5 x27 : DV) (h0 : Hp) : aH :=
 bnd (aD .eql x27 (aE 2) h0) fun v1 h1 =>
  vN r n x0 x3 x5 x27 v1 h1
noncomputable def aMw (r : RT) (n : Nat) (x0 x3 x5 x27 x38 : DV) (h0 : Hp) : aH :=
 aT x38 (
 bnd (r 43 [x0, x5] h0) fun v1 h1 =>
 bnd (aC 0 v1 h1) fun v2 h2 =>
 bnd (aC 1 v1 h2) fun v3 h3 =>
 some (v2, h3)) (
  bPh r n x0 x3 x5 x27 h0)
noncomputable def bOw (r : RT) (n : Nat) (x0 x3 x5 x27 : DV) (h0 : Hp) : aH :=
 bnd (aD .eql x27 (aE 1) h0) fun v1 h1 =>
  aMw r n x0 x3 x5 x27 v1 h1
noncomputable def aOh (r : RT) (n : Nat) (x0 x3 x5 x27 x28 : DV) (h0 : Hp) : aH :=
 aT x28 (
 bnd (aB 1 x3 h0) fun v1 h1 =>
 bnd (aA v1 h1) fun v2 h2 =>
 bnd (r 42 [x0, v2] h2) fun v3 h3 =>
 bnd (aC 0 v3 h3) fun v4 h4 =>
 bnd (aC 1 v3 h4) fun v5 h5 =>
 some (v4, h5)) (
  bOw r n x0 x3 x5 x27 h0)
noncomputable def aXr (r : RT) (n : Nat) (x0 x3 x5 x27 : DV) (h0 : Hp) : aH :=
 bnd (aD .eql x27 (aE 0) h0) fun v1 h1 =>
  aOh r n x0 x3 x5 x27 v1 h1
noncomputable def aBa (r : RT) (n : Nat) (x0 x3 x5 : DV) (h0 : Hp) : aH :=
 bnd (aB 0 x3 h0) fun v1 h1 =>
 bnd (aA v1 h1) fun v2 h2 =>
  aXr r n x0 x3 x5 v2 h2
noncomputable def aYk (r : RT) (n : Nat) (x0 x3 x5 : DV) (h0 : Hp) : aH :=
 bnd (dV x5 h0) fun v1 h1 =>
 bnd (aD .gtr v1 (aE 250) h1) fun v2 h2 =>
 aT v2 (
 bnd (fE x5 none (some (aE 250)) h2) fun v3 h3 =>
  aBa r n x0 x3 v3 h3) (
  aBa r n x0 x3 x5 h2)
noncomputable def aAz (r : RT) (n : Nat) (x0 x3 : DV) (h0 : Hp) : aH :=
 bnd (aB 2 x3 h0) fun v1 h1 =>
 bnd (aA v1 h1) fun v2 h2 =>
  aYk r n x0 x3 v2 h2
noncomputable def s14 (r : RT) (n : Nat) (x0 x1 : DV) (h0 : Hp) : aH :=
 bnd (bR x1 h0) fun v1 h1 =>
  aAz r n x0 v1 h1
noncomputable abbrev c14 : Code := cf Tryz.f14
noncomputable abbrev bAr : Code := cR c14
noncomputable abbrev aZp : Code := cR bAr
noncomputable abbrev aYo : Code := cR aZp
noncomputable abbrev dNf : Code := cR aYo
noncomputable abbrev aMs : Code := cL aYo
noncomputable abbrev bSu : Code := cR aMs
noncomputable abbrev aYl : Code := cL bSu
noncomputable abbrev aNd : Code := cR aYl
noncomputable abbrev aMa : Code := cR aNd
noncomputable abbrev zW : Code := cR aMa
noncomputable abbrev wB : Code := cR zW
noncomputable abbrev wE : Code := cR wB
noncomputable abbrev aAh : Code := cL wE
noncomputable abbrev cZk : Code := cR aAh
noncomputable abbrev cDw : Code := cL aAh
noncomputable abbrev zQ : Code := cR wE
noncomputable abbrev zR : Code := cR zQ
noncomputable abbrev xR : Code := cL zR
noncomputable abbrev aEl : Code := cR xR
noncomputable abbrev aHe : Code := cR aEl
noncomputable abbrev aEh : Code := cR aHe
noncomputable abbrev dFw : Code := cR aEh
noncomputable abbrev yD : Code := cL aEh
noncomputable abbrev aSc : Code := cR yD
noncomputable abbrev aGs : Code := cL aSc
noncomputable abbrev mA : Code := cL aGs
noncomputable abbrev bWg : Code := cL yD
noncomputable abbrev bQm : Code := cL aHe
noncomputable abbrev cBv : Code := cL aEl
noncomputable abbrev bRd : Code := cL xR
noncomputable abbrev dBd : Code := cR zR
noncomputable abbrev bXp : Code := cL zQ
noncomputable abbrev bMc : Code := cL wB
noncomputable abbrev cYn : Code := cL zW
noncomputable abbrev bIz : Code := cL aMa
noncomputable abbrev cYq : Code := cL aNd
noncomputable abbrev bXy : Code := cL aYl
noncomputable abbrev bPk : Code := cL aMs
noncomputable abbrev bMh : Code := cL aZp
noncomputable abbrev bYl : Code := cL bAr
noncomputable abbrev aQu : Code := cL c14
noncomputable abbrev r14 : K := aP CF Tryz.f14
noncomputable def D14 (r : RT) (n : Nat) (c : Code) (X : Nat → K) (k : K) : K := aN CF r 124 n c X r14 k
theorem dDa : D14 r n dNf x0 r14 = (K1 (aX r n) 3) :=
 (by kernel_rfl)
theorem cPn : D14 r n cZk (xs x0 0 (K1 (aX r n) 3)) (K1 (aX r n) 3) = (K2 (qH r n) 0 5) :=
 (by kernel_rfl)
theorem bRv : D14 r n aAh (xs x0 0 (K1 (aX r n) 3)) (K1 (aX r n) 3) = D14 r n cDw (xs x0 0 (K1 (aX r n) 3)) (K2 (qH r n) 0 5) :=
 congrArg (fun k => D14 r n cDw (xs x0 0 (K1 (aX r n) 3)) k) (cPn r n)
theorem cGm : D14 r n aAh (xs x0 0 (K1 (aX r n) 3)) (K1 (aX r n) 3) = (K2 (aHj r n) 0 5) :=
 (bRv r n).trans
 ((by kernel_rfl))
theorem cQx : D14 r n dFw (xs x0 0 (K1 (aX r n) 3)) (K1 (aX r n) 3) = (K2 (dS r n) 0 13) :=
 (by kernel_rfl)
theorem bRs (kk21 : dM) (q0 : TT1) (q1 : gO) : D14 r n mA (xs (xs x0 0 (K1 q0 3)) 1 (K2 q1 0 13)) (K4 kk21 0 12 13 14) = fun (env : aV) (h : Hp) =>
 bnd (aD .rem (env 12) (aE 10) h) fun v1 h1 =>
 bnd (aD .lss (env 14) v1 h1) fun v2 h2 =>
 aT v2 (
 bnd (aD .mul (aE 2) (env 14) h2) fun v3 h3 =>
 bnd (aD .add v3 (aE 1) h3) fun v4 h4 =>
 bnd (aL [(aE 0)] 1 [(0, 1, v4)] h4) fun v5 h5 =>
 bnd (aY 1 8 (env 13) v5 h5) fun v6 h6 =>
 bnd (aD .add (env 14) (aE 1) h6) fun v7 h7 =>
      kk21 (env 0) (env 12) v6 v7 h7) (
      q1 (env 0) (env 13) h2) := by kernel_rfl
theorem bGf (kk21 : dM) : (fun (env : aV) (h : Hp) =>
 bnd (aD .rem (env 12) (aE 10) h) fun v1 h1 =>
 bnd (aD .lss (env 14) v1 h1) fun v2 h2 =>
 aT v2 (
 bnd (aD .mul (aE 2) (env 14) h2) fun v3 h3 =>
 bnd (aD .add v3 (aE 1) h3) fun v4 h4 =>
 bnd (aL [(aE 0)] 1 [(0, 1, v4)] h4) fun v5 h5 =>
 bnd (aY 1 8 (env 13) v5 h5) fun v6 h6 =>
 bnd (aD .add (env 14) (aE 1) h6) fun v7 h7 =>
      kk21 (env 0) (env 12) v6 v7 h7) (
      dS r n (env 0) (env 13) h2)) = (K4 (kZ r n kk21) 0 12 13 14) := by kernel_rfl
theorem cAi (kk21 : dM) : D14 r n mA (xs (xs x0 0 (K1 (aX r n) 3)) 1 (K2 (dS r n) 0 13)) (K4 kk21 0 12 13 14) = (K4 (kZ r n kk21) 0 12 13 14) :=
 (bRs r n kk21 (aX r n) (dS r n)).trans (bGf r n kk21)
theorem cBj (m : Nat) : aM (fun kk => D14 r n mA (xs (xs x0 0 (K1 (aX r n) 3)) 1 (K2 (dS r n) 0 13)) kk) m = (K4 (lO r n m) 0 12 13 14) := by
 induction m with
 | zero => exact (by kernel_rfl : aM (fun kk => D14 r n mA (xs (xs x0 0 (K1 (aX r n) 3)) 1 (K2 (dS r n) 0 13)) kk) 0 = (K4 (lO r n 0) 0 12 13 14))
 | succ m ih =>
  refine (by kernel_rfl : aM (fun kk => D14 r n mA (xs (xs x0 0 (K1 (aX r n) 3)) 1 (K2 (dS r n) 0 13)) kk) (m + 1) = D14 r n mA (xs (xs x0 0 (K1 (aX r n) 3)) 1 (K2 (dS r n) 0 13)) (aM (fun kk => D14 r n mA (xs (xs x0 0 (K1 (aX r n) 3)) 1 (K2 (dS r n) 0 13)) kk) m)).trans ?_
  rw [ih]
  exact (cAi r n (lO r n m)).trans (by kernel_rfl)
theorem cOs : D14 r n aGs (xs (xs x0 0 (K1 (aX r n) 3)) 1 (K2 (dS r n) 0 13)) (K2 (dS r n) 0 13) = (K4 (aPw r n) 0 12 13 14) :=
 (by kernel_rfl : D14 r n aGs (xs (xs x0 0 (K1 (aX r n) 3)) 1 (K2 (dS r n) 0 13)) (K2 (dS r n) 0 13) = aM (fun kk => D14 r n mA (xs (xs x0 0 (K1 (aX r n) 3)) 1 (K2 (dS r n) 0 13)) kk) n).trans ((cBj r n n).trans (by kernel_rfl))
theorem cSj : D14 r n aSc (xs x0 0 (K1 (aX r n) 3)) (K2 (dS r n) 0 13) = (K4 (aCy r n) 0 12 13 14) :=
 (by kernel_rfl : D14 r n aSc (xs x0 0 (K1 (aX r n) 3)) (K2 (dS r n) 0 13) = D14 r n aGs (xs (xs x0 0 (K1 (aX r n) 3)) 1 (K2 (dS r n) 0 13)) (K2 (dS r n) 0 13)).trans
 ((cOs r n).trans (by kernel_rfl))
theorem bTq : D14 r n aEh (xs x0 0 (K1 (aX r n) 3)) (K1 (aX r n) 3) = D14 r n yD (xs x0 0 (K1 (aX r n) 3)) (K2 (dS r n) 0 13) :=
 congrArg (fun k => D14 r n yD (xs x0 0 (K1 (aX r n) 3)) k) (cQx r n)
theorem bOl : D14 r n yD (xs x0 0 (K1 (aX r n) 3)) (K2 (dS r n) 0 13) = D14 r n bWg (xs x0 0 (K1 (aX r n) 3)) (K4 (aCy r n) 0 12 13 14) :=
 congrArg (fun k => D14 r n bWg (xs x0 0 (K1 (aX r n) 3)) k) (cSj r n)
theorem cRe : D14 r n aEh (xs x0 0 (K1 (aX r n) 3)) (K1 (aX r n) 3) = (K3 (aKa r n) 0 12 13) :=
 (bTq r n).trans
 ((bOl r n).trans
 ((by kernel_rfl)))
theorem bPj : D14 r n aHe (xs x0 0 (K1 (aX r n) 3)) (K1 (aX r n) 3) = D14 r n bQm (xs x0 0 (K1 (aX r n) 3)) (K3 (aKa r n) 0 12 13) :=
 congrArg (fun k => D14 r n bQm (xs x0 0 (K1 (aX r n) 3)) k) (cRe r n)
theorem cQa : D14 r n aHe (xs x0 0 (K1 (aX r n) 3)) (K1 (aX r n) 3) = (K2 (rO r n) 0 12) :=
 (bPj r n).trans
 ((by kernel_rfl))
theorem bLb : D14 r n aEl (xs x0 0 (K1 (aX r n) 3)) (K1 (aX r n) 3) = D14 r n cBv (xs x0 0 (K1 (aX r n) 3)) (K2 (rO r n) 0 12) :=
 congrArg (fun k => D14 r n cBv (xs x0 0 (K1 (aX r n) 3)) k) (cQa r n)
theorem cKe : D14 r n aEl (xs x0 0 (K1 (aX r n) 3)) (K1 (aX r n) 3) = (K2 (aKe r n) 0 12) :=
 (bLb r n).trans
 ((by kernel_rfl))
theorem bLy : D14 r n xR (xs x0 0 (K1 (aX r n) 3)) (K1 (aX r n) 3) = D14 r n bRd (xs x0 0 (K1 (aX r n) 3)) (K2 (aKe r n) 0 12) :=
 congrArg (fun k => D14 r n bRd (xs x0 0 (K1 (aX r n) 3)) k) (cKe r n)
theorem cHc : D14 r n xR (xs x0 0 (K1 (aX r n) 3)) (K1 (aX r n) 3) = (K2 (aEz r n) 0 3) :=
 (bLy r n).trans
 ((by kernel_rfl))
theorem cRn : D14 r n zR (xs x0 0 (K1 (aX r n) 3)) (K1 (aX r n) 3) = (K4 (yN r n) 0 3 27 66) :=
 (by kernel_rfl : D14 r n zR (xs x0 0 (K1 (aX r n) 3)) (K1 (aX r n) 3) = (fun (env : aV) (h : Hp) => aT (opr env (cC zR)) (D14 r n xR (xs x0 0 (K1 (aX r n) 3)) (K1 (aX r n) 3) env h) (D14 r n dBd (xs x0 0 (K1 (aX r n) 3)) (K1 (aX r n) 3) env h))).trans (by rw [cHc r n]; kernel_rfl)
theorem bSh : D14 r n zQ (xs x0 0 (K1 (aX r n) 3)) (K1 (aX r n) 3) = D14 r n bXp (xs x0 0 (K1 (aX r n) 3)) (K4 (yN r n) 0 3 27 66) :=
 congrArg (fun k => D14 r n bXp (xs x0 0 (K1 (aX r n) 3)) k) (cRn r n)
theorem cTn : D14 r n zQ (xs x0 0 (K1 (aX r n) 3)) (K1 (aX r n) 3) = (K3 (aSh r n) 0 3 27) :=
 (bSh r n).trans
 ((by kernel_rfl))
theorem cOc : D14 r n wE (xs x0 0 (K1 (aX r n) 3)) (K1 (aX r n) 3) = (K5 (vN r n) 0 3 5 27 47) :=
 (by kernel_rfl : D14 r n wE (xs x0 0 (K1 (aX r n) 3)) (K1 (aX r n) 3) = (fun (env : aV) (h : Hp) => aT (opr env (cC wE)) (D14 r n aAh (xs x0 0 (K1 (aX r n) 3)) (K1 (aX r n) 3) env h) (D14 r n zQ (xs x0 0 (K1 (aX r n) 3)) (K1 (aX r n) 3) env h))).trans (by rw [cGm r n, cTn r n]; kernel_rfl)
theorem cOm : D14 r n wB (xs x0 0 (K1 (aX r n) 3)) (K1 (aX r n) 3) = D14 r n bMc (xs x0 0 (K1 (aX r n) 3)) (K5 (vN r n) 0 3 5 27 47) :=
 congrArg (fun k => D14 r n bMc (xs x0 0 (K1 (aX r n) 3)) k) (cOc r n)
theorem dAr : D14 r n wB (xs x0 0 (K1 (aX r n) 3)) (K1 (aX r n) 3) = (K4 (bPh r n) 0 3 5 27) :=
 (cOm r n).trans
 ((by kernel_rfl))
theorem cXu : D14 r n zW (xs x0 0 (K1 (aX r n) 3)) (K1 (aX r n) 3) = (K5 (aMw r n) 0 3 5 27 38) :=
 (by kernel_rfl : D14 r n zW (xs x0 0 (K1 (aX r n) 3)) (K1 (aX r n) 3) = (fun (env : aV) (h : Hp) => aT (opr env (cC zW)) (D14 r n cYn (xs x0 0 (K1 (aX r n) 3)) (K1 (aX r n) 3) env h) (D14 r n wB (xs x0 0 (K1 (aX r n) 3)) (K1 (aX r n) 3) env h))).trans (by rw [dAr r n]; kernel_rfl)
theorem cBo : D14 r n aMa (xs x0 0 (K1 (aX r n) 3)) (K1 (aX r n) 3) = D14 r n bIz (xs x0 0 (K1 (aX r n) 3)) (K5 (aMw r n) 0 3 5 27 38) :=
 congrArg (fun k => D14 r n bIz (xs x0 0 (K1 (aX r n) 3)) k) (cXu r n)
theorem dFo : D14 r n aMa (xs x0 0 (K1 (aX r n) 3)) (K1 (aX r n) 3) = (K4 (bOw r n) 0 3 5 27) :=
 (cBo r n).trans
 ((by kernel_rfl))
theorem dHw : D14 r n aNd (xs x0 0 (K1 (aX r n) 3)) (K1 (aX r n) 3) = (K5 (aOh r n) 0 3 5 27 28) :=
 (by kernel_rfl : D14 r n aNd (xs x0 0 (K1 (aX r n) 3)) (K1 (aX r n) 3) = (fun (env : aV) (h : Hp) => aT (opr env (cC aNd)) (D14 r n cYq (xs x0 0 (K1 (aX r n) 3)) (K1 (aX r n) 3) env h) (D14 r n aMa (xs x0 0 (K1 (aX r n) 3)) (K1 (aX r n) 3) env h))).trans (by rw [dFo r n]; kernel_rfl)
theorem bNo : D14 r n aYl (xs x0 0 (K1 (aX r n) 3)) (K1 (aX r n) 3) = D14 r n bXy (xs x0 0 (K1 (aX r n) 3)) (K5 (aOh r n) 0 3 5 27 28) :=
 congrArg (fun k => D14 r n bXy (xs x0 0 (K1 (aX r n) 3)) k) (dHw r n)
theorem cZy : D14 r n bSu x0 (K1 (aX r n) 3) = (K4 (aXr r n) 0 3 5 27) :=
 (by kernel_rfl : D14 r n bSu x0 (K1 (aX r n) 3) = D14 r n aYl (xs x0 0 (K1 (aX r n) 3)) (K1 (aX r n) 3)).trans
 ((bNo r n).trans
 ((by kernel_rfl)))
theorem bUp : D14 r n aYo x0 r14 = D14 r n aMs x0 (K1 (aX r n) 3) :=
 congrArg (fun k => D14 r n aMs x0 k) (dDa r n)
theorem bWy : D14 r n aMs x0 (K1 (aX r n) 3) = D14 r n bPk x0 (K4 (aXr r n) 0 3 5 27) :=
 congrArg (fun k => D14 r n bPk x0 k) (cZy r n)
theorem dBu : D14 r n aYo x0 r14 = (K3 (aBa r n) 0 3 5) :=
 (bUp r n).trans
 ((bWy r n).trans
 ((by kernel_rfl)))
theorem bKd : D14 r n aZp x0 r14 = D14 r n bMh x0 (K3 (aBa r n) 0 3 5) :=
 congrArg (fun k => D14 r n bMh x0 k) (dBu r n)
theorem cWj : D14 r n aZp x0 r14 = (K3 (aYk r n) 0 3 5) :=
 (bKd r n).trans
 ((by kernel_rfl))
theorem cCj : D14 r n bAr x0 r14 = D14 r n bYl x0 (K3 (aYk r n) 0 3 5) :=
 congrArg (fun k => D14 r n bYl x0 k) (cWj r n)
theorem cZq : D14 r n bAr x0 r14 = (K2 (aAz r n) 0 3) :=
 (cCj r n).trans
 ((by kernel_rfl))
theorem dFc : D14 r n c14 x0 r14 = D14 r n aQu x0 (K2 (aAz r n) 0 3) :=
 congrArg (fun k => D14 r n aQu x0 k) (cZq r n)
theorem dIe (q0 : gO) : D14 r n aQu x0 (K2 q0 0 3) = fun (env : aV) (h : Hp) =>
 bnd (bR (env 1) h) fun v1 h1 =>
  q0 (env 0) v1 h1 := by kernel_rfl
theorem cPf : (fun (env : aV) (h : Hp) =>
 bnd (bR (env 1) h) fun v1 h1 =>
  aAz r n (env 0) v1 h1) = (K2 (s14 r n) 0 1) := by kernel_rfl
theorem dSy : D14 r n c14 x0 r14 = (K2 (s14 r n) 0 1) :=
 (dFc r n).trans
 ((dIe r n (aAz r n)).trans (cPf r n))
theorem cVk : aF CF r n 14 args h = s14 r n (aU args 0) (aU args 1) h :=
 (by kernel_rfl : aF CF r n 14 args h = D14 r n c14 x0 r14 (aI args) h).trans ((congrFun (congrFun (dSy r n) (aI args)) h).trans (by kernel_rfl))
noncomputable def s15 (r : RT) (n : Nat) (x0 x1 : DV) (h0 : Hp) : aH :=
 bnd (eM [x1] h0) fun v1 h1 =>
 aT v1 (
 bnd (jQ [x1] h1) fun v2 h2 =>
 some (.t [v2, (.b true)], h2)) (
 bnd (aQ x0 h1) fun v3 h3 =>
 bnd (aB 0 v3 h3) fun v4 h4 =>
 bnd (aA v4 h4) fun v5 h5 =>
 bnd (isF [v5, x1] h5) fun v6 h6 =>
 bnd (gD v6 true (some (x0, h6)) h6) fun v7 h7 =>
 bnd (gD v6 true (aQ v7 h7) h7) fun v8 h8 =>
 bnd (gD v6 true (aB 0 v8 h8) h8) fun v9 h9 =>
 bnd (gD v6 true (aA v9 h9) h9) fun v10 h10 =>
 bnd (gD v6 true (some (x1, h10)) h10) fun v11 h11 =>
 bnd (gD v6 true (iW [v10, v11] h11) h11) fun v12 h12 =>
 bnd (gD v6 true (some (x0, h12)) h12) fun v13 h13 =>
 bnd (gD v6 true (r 30 [v13, (aE 8)] h13) h13) fun v14 h14 =>
 bnd (gD v6 true (aD .eql v12 v14 h14) h14) fun v15 h15 =>
 bnd (aR v6 v15 (.b false) h15) fun v16 h16 =>
 bnd (gD v16 true (some (x0, h16)) h16) fun v17 h17 =>
 bnd (gD v16 true (aQ v17 h17) h17) fun v18 h18 =>
 bnd (gD v16 true (aB 0 v18 h18) h18) fun v19 h19 =>
 bnd (gD v16 true (aA v19 h19) h19) fun v20 h20 =>
 bnd (gD v16 true (some (x1, h20)) h20) fun v21 h21 =>
 bnd (gD v16 true (jD [v20, v21] h21) h21) fun v22 h22 =>
 bnd (gD v16 true (aD .eql v22 (aE 1) h22) h22) fun v23 h23 =>
 bnd (aR v16 v23 (.b false) h23) fun v24 h24 =>
 aT v24 (
 bnd (r 51 [x0, x1, (aE 0)] h24) fun v25 h25 =>
 some (.t [v25, (.b true)], h25)) (
 some (.t [(aE 0), (.b false)], h24)))
noncomputable abbrev c15 : Code := cf Tryz.f15
noncomputable abbrev r15 : K := aP CF Tryz.f15
noncomputable def D15 (r : RT) (n : Nat) (c : Code) (X : Nat → K) (k : K) : K := aN CF r 41 n c X r15 k
theorem dUc : D15 r n c15 x0 r15 = (K2 (s15 r n) 0 1) :=
 (by kernel_rfl)
theorem cUk : aF CF r n 15 args h = s15 r n (aU args 0) (aU args 1) h :=
 (by kernel_rfl : aF CF r n 15 args h = D15 r n c15 x0 r15 (aI args) h).trans ((congrFun (congrFun (dUc r n) (aI args)) h).trans (by kernel_rfl))
noncomputable def bC (r : RT) (n : Nat) (x12 : DV) (h0 : Hp) : aH :=
 bnd (cZ CF r x12 [] h0) fun v1 h1 =>
 bnd (aC 0 v1 h1) fun v2 h2 =>
 bnd (aC 1 v1 h2) fun v3 h3 =>
 some (.t [v2, v3], h3)
noncomputable def aCi (r : RT) (n : Nat) (x11 x12 x69 : DV) (h0 : Hp) : aH :=
 aT x69 (
  bC r n (.f 61 [x11] []) h0) (
  bC r n x12 h0)
noncomputable def bUl (r : RT) (n : Nat) (x11 x12 x42 : DV) (h0 : Hp) : aH :=
 bnd (aD .eql x42 (aE 50) h0) fun v1 h1 =>
 aT v1 (
  aCi r n x11 x12 v1 h1) (
 bnd (aD .eql x42 (aE 51) h1) fun v2 h2 =>
  aCi r n x11 x12 v2 h2)
noncomputable def aDk (r : RT) (n : Nat) (x11 x12 x42 x64 : DV) (h0 : Hp) : aH :=
 aT x64 (
  bC r n (.f 60 [x11] []) h0) (
  bUl r n x11 x12 x42 h0)
noncomputable def bKm (r : RT) (n : Nat) (x11 x12 x42 : DV) (h0 : Hp) : aH :=
 bnd (aD .eql x42 (aE 40) h0) fun v1 h1 =>
 aT v1 (
  aDk r n x11 x12 x42 v1 h1) (
 bnd (aD .eql x42 (aE 41) h1) fun v2 h2 =>
  aDk r n x11 x12 x42 v2 h2)
noncomputable def aKq (r : RT) (n : Nat) (x11 x12 x42 x59 : DV) (h0 : Hp) : aH :=
 aT x59 (
  bC r n (.f 59 [x11] []) h0) (
  bKm r n x11 x12 x42 h0)
noncomputable def bPe (r : RT) (n : Nat) (x11 x12 x42 : DV) (h0 : Hp) : aH :=
 bnd (aD .eql x42 (aE 25) h0) fun v1 h1 =>
 aT v1 (
  aKq r n x11 x12 x42 v1 h1) (
 bnd (aD .eql x42 (aE 26) h1) fun v2 h2 =>
  aKq r n x11 x12 x42 v2 h2)
noncomputable def aGz (r : RT) (n : Nat) (x11 x12 x42 x54 : DV) (h0 : Hp) : aH :=
 aT x54 (
  bC r n (.f 58 [x11] []) h0) (
  bPe r n x11 x12 x42 h0)
noncomputable def bYq (r : RT) (n : Nat) (x11 x12 x42 : DV) (h0 : Hp) : aH :=
 bnd (aD .eql x42 (aE 23) h0) fun v1 h1 =>
 aT v1 (
  aGz r n x11 x12 x42 v1 h1) (
 bnd (aD .eql x42 (aE 24) h1) fun v2 h2 =>
  aGz r n x11 x12 x42 v2 h2)
noncomputable def zL (r : RT) (n : Nat) (x11 x12 x42 x48 : DV) (h0 : Hp) : aH :=
 aT x48 (
  bC r n (.f 57 [x11] []) h0) (
  bYq r n x11 x12 x42 h0)
noncomputable def cUy (r : RT) (n : Nat) (x11 x12 x42 : DV) (h0 : Hp) : aH :=
 bnd (aD .eql x42 (aE 20) h0) fun v1 h1 =>
 aT v1 (
  zL r n x11 x12 x42 v1 h1) (
 bnd (aD .eql x42 (aE 21) h1) fun v2 h2 =>
 aT v2 (
   zL r n x11 x12 x42 v2 h2) (
 bnd (aD .eql x42 (aE 22) h2) fun v3 h3 =>
      zL r n x11 x12 x42 v3 h3))
noncomputable def bBg (r : RT) (n : Nat) (x11 x12 x42 x43 : DV) (h0 : Hp) : aH :=
 aT x43 (
  bC r n (.f 56 [x11] []) h0) (
  cUy r n x11 x12 x42 h0)
noncomputable def bYu (r : RT) (n : Nat) (x11 x12 x42 : DV) (h0 : Hp) : aH :=
 bnd (aD .eql x42 (aE 10) h0) fun v1 h1 =>
 aT v1 (
  bBg r n x11 x12 x42 v1 h1) (
 bnd (aD .eql x42 (aE 11) h1) fun v2 h2 =>
  bBg r n x11 x12 x42 v2 h2)
noncomputable def bTv (r : RT) (n : Nat) (x1 x11 x12 : DV) (h0 : Hp) : aH :=
 bYu r n x11 x12 x1 h0
noncomputable def pE (r : RT) (n : Nat) (x1 x11 : DV) (h0 : Hp) : aH :=
 bTv r n x1 x11 (.f 55 [x11] []) h0
noncomputable def wG (r : RT) (n : Nat) (x0 x1 x2 x3 : DV) (h0 : Hp) : aH :=
 bnd (bB [.p0, (aE 0), (aE 0), .l0] [(0, 1, x0), (1, 1, x1), (2, 1, x2), (3, 1, x3)] h0) fun v1 h1 =>
 bnd (bR v1 h1) fun v2 h2 =>
  pE r n x1 v2 h2
noncomputable def aBi (r : RT) (n : Nat) (x0 x1 x2 x3 x10 : DV) (h0 : Hp) : aH :=
 bnd (r 39 [x1] h0) fun v1 h1 =>
 bnd (cA x3 h1) fun v2 h2 =>
 bnd (aD .neq v1 v2 h2) fun v3 h3 =>
 bnd (gD v3 false (aA x10 h3) h3) fun v4 h4 =>
 bnd (gD v3 false (some (x2, h4)) h4) fun v5 h5 =>
 bnd (gD v3 false (aHp [v4, v5] h5) h5) fun v6 h6 =>
 bnd (gD v3 false (hY .not v6 h6) h6) fun v7 h7 =>
 bnd (aR v3 (.b true) v7 h7) fun v8 h8 =>
 bnd (gD v8 false (some (x3, h8)) h8) fun v9 h9 =>
 bnd (gD v8 false (some ((.f 53 [] [x10]), h9)) h9) fun v10 h10 =>
 bnd (gD v8 false (r 52 [v9, v10] h10) h10) fun v11 h11 =>
 bnd (aR v8 (.b true) v11 h11) fun v12 h12 =>
 aT v12 (
 bnd (r 54 [] h12) fun v13 h13 =>
 bnd (aC 0 v13 h13) fun v14 h14 =>
 bnd (aC 1 v13 h14) fun v15 h15 =>
 some (.t [v14, v15], h15)) (
  wG r n x0 x1 x2 x3 h12)
noncomputable def aMk (r : RT) (n : Nat) (x0 x1 x2 x3 : DV) (h0 : Hp) : aH :=
 bnd (r 23 [x0] h0) fun v1 h1 =>
 bnd (bN [.p0] h1) fun v2 h2 =>
 bnd (aG 1 v2 v1 h2) fun _ h3 =>
  aBi r n x0 x1 x2 x3 v2 h3
noncomputable def s16 (r : RT) (n : Nat) (x0 x1 x2 x3 : DV) (h0 : Hp) : aH :=
 aMk r n x0 x1 x2 x3 h0
noncomputable abbrev c16 : Code := cf Tryz.f16
noncomputable abbrev aZd : Code := cR c16
noncomputable abbrev bAf : Code := cR aZd
noncomputable abbrev aZu : Code := cR bAf
noncomputable abbrev aVr : Code := cR aZu
noncomputable abbrev aXx : Code := cR aVr
noncomputable abbrev dNa : Code := cR aXx
noncomputable abbrev aMy : Code := cL aXx
noncomputable abbrev bRl : Code := cR aMy
noncomputable abbrev bDs : Code := cL bRl
noncomputable abbrev xP : Code := cR bDs
noncomputable abbrev wV : Code := cR xP
noncomputable abbrev yO : Code := cR wV
noncomputable abbrev wU : Code := cR yO
noncomputable abbrev aAg : Code := cR wU
noncomputable abbrev aAe : Code := cR aAg
noncomputable abbrev vS : Code := cR aAe
noncomputable abbrev yJ : Code := cR vS
noncomputable abbrev wO : Code := cR yJ
noncomputable abbrev yK : Code := cR wO
noncomputable abbrev dCk : Code := cR yK
noncomputable abbrev bQd : Code := cL yK
noncomputable abbrev cYv : Code := cL wO
noncomputable abbrev bMw : Code := cL yJ
noncomputable abbrev dGb : Code := cL vS
noncomputable abbrev bTd : Code := cL aAe
noncomputable abbrev cYa : Code := cL aAg
noncomputable abbrev bLv : Code := cL wU
noncomputable abbrev dEo : Code := cL yO
noncomputable abbrev bNl : Code := cL wV
noncomputable abbrev dFd : Code := cL xP
noncomputable abbrev bMr : Code := cL bDs
noncomputable abbrev bSv : Code := cL aMy
noncomputable abbrev bZd : Code := cL aVr
noncomputable abbrev aTy : Code := cL aZu
noncomputable abbrev cDi : Code := cL bAf
noncomputable abbrev aTm : Code := cL aZd
noncomputable abbrev bQg : Code := cL c16
noncomputable abbrev r16 : K := aP CF Tryz.f16
noncomputable def D16 (r : RT) (n : Nat) (c : Code) (X : Nat → K) (k : K) : K := aN CF r 78 n c X r16 k
theorem cXo : D16 r n dNa x0 r16 = (K1 (bC r n) 12) :=
 (by kernel_rfl)
theorem cRh : D16 r n dCk (xs x0 0 (K1 (bC r n) 12)) (K1 (bC r n) 12) = (K3 (aCi r n) 11 12 69) :=
 (by kernel_rfl)
theorem bNy : D16 r n yK (xs x0 0 (K1 (bC r n) 12)) (K1 (bC r n) 12) = D16 r n bQd (xs x0 0 (K1 (bC r n) 12)) (K3 (aCi r n) 11 12 69) :=
 congrArg (fun k => D16 r n bQd (xs x0 0 (K1 (bC r n) 12)) k) (cRh r n)
theorem cHb : D16 r n yK (xs x0 0 (K1 (bC r n) 12)) (K1 (bC r n) 12) = (K3 (bUl r n) 11 12 42) :=
 (bNy r n).trans
 ((by kernel_rfl))
theorem cKw : D16 r n wO (xs x0 0 (K1 (bC r n) 12)) (K1 (bC r n) 12) = (K4 (aDk r n) 11 12 42 64) :=
 (by kernel_rfl : D16 r n wO (xs x0 0 (K1 (bC r n) 12)) (K1 (bC r n) 12) = (fun (env : aV) (h : Hp) => aT (opr env (cC wO)) (D16 r n cYv (xs x0 0 (K1 (bC r n) 12)) (K1 (bC r n) 12) env h) (D16 r n yK (xs x0 0 (K1 (bC r n) 12)) (K1 (bC r n) 12) env h))).trans (by rw [cHb r n]; kernel_rfl)
theorem bVj : D16 r n yJ (xs x0 0 (K1 (bC r n) 12)) (K1 (bC r n) 12) = D16 r n bMw (xs x0 0 (K1 (bC r n) 12)) (K4 (aDk r n) 11 12 42 64) :=
 congrArg (fun k => D16 r n bMw (xs x0 0 (K1 (bC r n) 12)) k) (cKw r n)
theorem cMx : D16 r n yJ (xs x0 0 (K1 (bC r n) 12)) (K1 (bC r n) 12) = (K3 (bKm r n) 11 12 42) :=
 (bVj r n).trans
 ((by kernel_rfl))
theorem cNw : D16 r n vS (xs x0 0 (K1 (bC r n) 12)) (K1 (bC r n) 12) = (K4 (aKq r n) 11 12 42 59) :=
 (by kernel_rfl : D16 r n vS (xs x0 0 (K1 (bC r n) 12)) (K1 (bC r n) 12) = (fun (env : aV) (h : Hp) => aT (opr env (cC vS)) (D16 r n dGb (xs x0 0 (K1 (bC r n) 12)) (K1 (bC r n) 12) env h) (D16 r n yJ (xs x0 0 (K1 (bC r n) 12)) (K1 (bC r n) 12) env h))).trans (by rw [cMx r n]; kernel_rfl)
theorem cAe : D16 r n aAe (xs x0 0 (K1 (bC r n) 12)) (K1 (bC r n) 12) = D16 r n bTd (xs x0 0 (K1 (bC r n) 12)) (K4 (aKq r n) 11 12 42 59) :=
 congrArg (fun k => D16 r n bTd (xs x0 0 (K1 (bC r n) 12)) k) (cNw r n)
theorem cTu : D16 r n aAe (xs x0 0 (K1 (bC r n) 12)) (K1 (bC r n) 12) = (K3 (bPe r n) 11 12 42) :=
 (cAe r n).trans
 ((by kernel_rfl))
theorem cNp : D16 r n aAg (xs x0 0 (K1 (bC r n) 12)) (K1 (bC r n) 12) = (K4 (aGz r n) 11 12 42 54) :=
 (by kernel_rfl : D16 r n aAg (xs x0 0 (K1 (bC r n) 12)) (K1 (bC r n) 12) = (fun (env : aV) (h : Hp) => aT (opr env (cC aAg)) (D16 r n cYa (xs x0 0 (K1 (bC r n) 12)) (K1 (bC r n) 12) env h) (D16 r n aAe (xs x0 0 (K1 (bC r n) 12)) (K1 (bC r n) 12) env h))).trans (by rw [cTu r n]; kernel_rfl)
theorem bVf : D16 r n wU (xs x0 0 (K1 (bC r n) 12)) (K1 (bC r n) 12) = D16 r n bLv (xs x0 0 (K1 (bC r n) 12)) (K4 (aGz r n) 11 12 42 54) :=
 congrArg (fun k => D16 r n bLv (xs x0 0 (K1 (bC r n) 12)) k) (cNp r n)
theorem cHh : D16 r n wU (xs x0 0 (K1 (bC r n) 12)) (K1 (bC r n) 12) = (K3 (bYq r n) 11 12 42) :=
 (bVf r n).trans
 ((by kernel_rfl))
theorem cGk : D16 r n yO (xs x0 0 (K1 (bC r n) 12)) (K1 (bC r n) 12) = (K4 (zL r n) 11 12 42 48) :=
 (by kernel_rfl : D16 r n yO (xs x0 0 (K1 (bC r n) 12)) (K1 (bC r n) 12) = (fun (env : aV) (h : Hp) => aT (opr env (cC yO)) (D16 r n dEo (xs x0 0 (K1 (bC r n) 12)) (K1 (bC r n) 12) env h) (D16 r n wU (xs x0 0 (K1 (bC r n) 12)) (K1 (bC r n) 12) env h))).trans (by rw [cHh r n]; kernel_rfl)
theorem cQo : D16 r n wV (xs x0 0 (K1 (bC r n) 12)) (K1 (bC r n) 12) = D16 r n bNl (xs x0 0 (K1 (bC r n) 12)) (K4 (zL r n) 11 12 42 48) :=
 congrArg (fun k => D16 r n bNl (xs x0 0 (K1 (bC r n) 12)) k) (cGk r n)
theorem dBq : D16 r n wV (xs x0 0 (K1 (bC r n) 12)) (K1 (bC r n) 12) = (K3 (cUy r n) 11 12 42) :=
 (cQo r n).trans
 ((by kernel_rfl))
theorem dEg : D16 r n xP (xs x0 0 (K1 (bC r n) 12)) (K1 (bC r n) 12) = (K4 (bBg r n) 11 12 42 43) :=
 (by kernel_rfl : D16 r n xP (xs x0 0 (K1 (bC r n) 12)) (K1 (bC r n) 12) = (fun (env : aV) (h : Hp) => aT (opr env (cC xP)) (D16 r n dFd (xs x0 0 (K1 (bC r n) 12)) (K1 (bC r n) 12) env h) (D16 r n wV (xs x0 0 (K1 (bC r n) 12)) (K1 (bC r n) 12) env h))).trans (by rw [dBq r n]; kernel_rfl)
theorem cMb : D16 r n bDs (xs x0 0 (K1 (bC r n) 12)) (K1 (bC r n) 12) = D16 r n bMr (xs x0 0 (K1 (bC r n) 12)) (K4 (bBg r n) 11 12 42 43) :=
 congrArg (fun k => D16 r n bMr (xs x0 0 (K1 (bC r n) 12)) k) (dEg r n)
theorem dBx : D16 r n bRl x0 (K1 (bC r n) 12) = (K3 (bYu r n) 11 12 42) :=
 (by kernel_rfl : D16 r n bRl x0 (K1 (bC r n) 12) = D16 r n bDs (xs x0 0 (K1 (bC r n) 12)) (K1 (bC r n) 12)).trans
 ((cMb r n).trans
 ((by kernel_rfl)))
theorem cNh : D16 r n aXx x0 r16 = D16 r n aMy x0 (K1 (bC r n) 12) :=
 congrArg (fun k => D16 r n aMy x0 k) (cXo r n)
theorem cTm : D16 r n aMy x0 (K1 (bC r n) 12) = D16 r n bSv x0 (K3 (bYu r n) 11 12 42) :=
 congrArg (fun k => D16 r n bSv x0 k) (dBx r n)
theorem cYf : D16 r n aXx x0 r16 = (K3 (bTv r n) 1 11 12) :=
 (cNh r n).trans
 ((cTm r n).trans
 ((by kernel_rfl)))
theorem cGd : D16 r n aVr x0 r16 = D16 r n bZd x0 (K3 (bTv r n) 1 11 12) :=
 congrArg (fun k => D16 r n bZd x0 k) (cYf r n)
theorem dFg : D16 r n aVr x0 r16 = (K2 (pE r n) 1 11) :=
 (cGd r n).trans
 ((by kernel_rfl))
theorem bMt : D16 r n aZu x0 r16 = D16 r n aTy x0 (K2 (pE r n) 1 11) :=
 congrArg (fun k => D16 r n aTy x0 k) (dFg r n)
theorem bKp (q0 : gO) : D16 r n aTy x0 (K2 q0 1 11) = fun (env : aV) (h : Hp) =>
 bnd (bB [.p0, (aE 0), (aE 0), .l0] [(0, 1, (env 0)), (1, 1, (env 1)), (2, 1, (env 2)), (3, 1, (env 3))] h) fun v1 h1 =>
 bnd (bR v1 h1) fun v2 h2 =>
  q0 (env 1) v2 h2 := by kernel_rfl
theorem bHt : (fun (env : aV) (h : Hp) =>
 bnd (bB [.p0, (aE 0), (aE 0), .l0] [(0, 1, (env 0)), (1, 1, (env 1)), (2, 1, (env 2)), (3, 1, (env 3))] h) fun v1 h1 =>
 bnd (bR v1 h1) fun v2 h2 =>
  pE r n (env 1) v2 h2) = (K4 (wG r n) 0 1 2 3) := by kernel_rfl
theorem dFq : D16 r n aZu x0 r16 = (K4 (wG r n) 0 1 2 3) :=
 (bMt r n).trans
 ((bKp r n (pE r n)).trans (bHt r n))
theorem bLc : D16 r n bAf x0 r16 = D16 r n cDi x0 (K4 (wG r n) 0 1 2 3) :=
 congrArg (fun k => D16 r n cDi x0 k) (dFq r n)
theorem dAo : D16 r n bAf x0 r16 = (K5 (aBi r n) 0 1 2 3 10) :=
 (bLc r n).trans
 ((by kernel_rfl))
theorem bLe : D16 r n aZd x0 r16 = D16 r n aTm x0 (K5 (aBi r n) 0 1 2 3 10) :=
 congrArg (fun k => D16 r n aTm x0 k) (dAo r n)
theorem bMf (q0 : cG) : D16 r n aTm x0 (K5 q0 0 1 2 3 10) = fun (env : aV) (h : Hp) =>
 bnd (r 23 [(env 0)] h) fun v1 h1 =>
 bnd (bN [.p0] h1) fun v2 h2 =>
 bnd (aG 1 v2 v1 h2) fun _ h3 =>
  q0 (env 0) (env 1) (env 2) (env 3) v2 h3 := by kernel_rfl
theorem bFf : (fun (env : aV) (h : Hp) =>
 bnd (r 23 [(env 0)] h) fun v1 h1 =>
 bnd (bN [.p0] h1) fun v2 h2 =>
 bnd (aG 1 v2 v1 h2) fun _ h3 =>
  aBi r n (env 0) (env 1) (env 2) (env 3) v2 h3) = (K4 (aMk r n) 0 1 2 3) := by kernel_rfl
theorem cYh : D16 r n aZd x0 r16 = (K4 (aMk r n) 0 1 2 3) :=
 (bLe r n).trans
 ((bMf r n (aBi r n)).trans (bFf r n))
theorem cZn : D16 r n c16 x0 r16 = D16 r n bQg x0 (K4 (aMk r n) 0 1 2 3) :=
 congrArg (fun k => D16 r n bQg x0 k) (cYh r n)
theorem dPm : D16 r n c16 x0 r16 = (K4 (s16 r n) 0 1 2 3) :=
 (cZn r n).trans
 ((by kernel_rfl))
theorem cVq : aF CF r n 16 args h = s16 r n (aU args 0) (aU args 1) (aU args 2) (aU args 3) h :=
 (by kernel_rfl : aF CF r n 16 args h = D16 r n c16 x0 r16 (aI args) h).trans ((congrFun (congrFun (dPm r n) (aI args)) h).trans (by kernel_rfl))
noncomputable def s17 (r : RT) (n : Nat) (x0 : DV) (h0 : Hp) : aH :=
 aT x0 (
 some ((aE 2), h0)) (
 some ((aE 4), h0))
noncomputable abbrev c17 : Code := cf Tryz.f17
noncomputable abbrev r17 : K := aP CF Tryz.f17
noncomputable def D17 (r : RT) (n : Nat) (c : Code) (X : Nat → K) (k : K) : K := aN CF r 4 n c X r17 k
theorem dQb : D17 r n c17 x0 r17 = (K1 (s17 r n) 0) :=
 (by kernel_rfl)
theorem dLi : aF CF r n 17 args h = s17 r n (aU args 0) h :=
 (by kernel_rfl : aF CF r n 17 args h = D17 r n c17 x0 r17 (aI args) h).trans ((congrFun (congrFun (dQb r n) (aI args)) h).trans (by kernel_rfl))
noncomputable def s23 (r : RT) (n : Nat) (x0 : DV) (h0 : Hp) : aH :=
 bnd (aQ x0 h0) fun v1 h1 =>
 bnd (aB 0 v1 h1) fun v2 h2 =>
 bnd (aA v2 h2) fun v3 h3 =>
 some (v3, h3)
noncomputable abbrev c23 : Code := cf Tryz.f23
noncomputable abbrev r23 : K := aP CF Tryz.f23
noncomputable def D23 (r : RT) (n : Nat) (c : Code) (X : Nat → K) (k : K) : K := aN CF r 7 n c X r23 k
theorem dPp : D23 r n c23 x0 r23 = (K1 (s23 r n) 0) :=
 (by kernel_rfl)
theorem cVf : aF CF r n 23 args h = s23 r n (aU args 0) h :=
 (by kernel_rfl : aF CF r n 23 args h = D23 r n c23 x0 r23 (aI args) h).trans ((congrFun (congrFun (dPp r n) (aI args)) h).trans (by kernel_rfl))
noncomputable def s25 (r : RT) (n : Nat) (x0 x1 : DV) (h0 : Hp) : aH :=
 bnd (aQ x0 h0) fun v1 h1 =>
 bnd (aB 0 v1 h1) fun v2 h2 =>
 bnd (aA v2 h2) fun v3 h3 =>
 bnd (isF [v3, x1] h3) fun v4 h4 =>
 aT v4 (
 bnd (aQ x0 h4) fun v5 h5 =>
 bnd (aB 0 v5 h5) fun v6 h6 =>
 bnd (aA v6 h6) fun v7 h7 =>
 bnd (iW [v7, x1] h7) fun v8 h8 =>
 some (v8, h8)) (
 bnd (eM [x1] h4) fun v9 h9 =>
 aT v9 (
 bnd (r 30 [x0, (aE 7)] h9) fun v10 h10 =>
 some (v10, h10)) (
 bnd (aD .eql x1 (aE 0) h9) fun v11 h11 =>
 aT v11 (
 bnd (r 30 [x0, (aE 2)] h11) fun v12 h12 =>
 some (v12, h12)) (
 bnd (aD .eql x1 (aE 2) h11) fun v13 h13 =>
 aT v13 (
 bnd (r 30 [x0, (aE 4)] h13) fun v14 h14 =>
 some (v14, h14)) (
 bnd (aD .eql x1 (aE 4) h13) fun v15 h15 =>
 aT v15 (
 bnd (r 30 [x0, (aE 5)] h15) fun v16 h16 =>
 some (v16, h16)) (
 some ((aE 0), h15))))))
noncomputable abbrev c25 : Code := cf Tryz.f25
noncomputable abbrev r25 : K := aP CF Tryz.f25
noncomputable def D25 (r : RT) (n : Nat) (c : Code) (X : Nat → K) (k : K) : K := aN CF r 38 n c X r25 k
theorem dSf : D25 r n c25 x0 r25 = (K2 (s25 r n) 0 1) :=
 (by kernel_rfl)
theorem cVg : aF CF r n 25 args h = s25 r n (aU args 0) (aU args 1) h :=
 (by kernel_rfl : aF CF r n 25 args h = D25 r n c25 x0 r25 (aI args) h).trans ((congrFun (congrFun (dSf r n) (aI args)) h).trans (by kernel_rfl))
noncomputable def fV (r : RT) (n : Nat) (x5 : DV) (h0 : Hp) : aH :=
 some (x5, h0)
noncomputable def oL (r : RT) (n : Nat) (kk5 : dM) (x0 x1 x5 x6 : DV) (h0 : Hp) : aH :=
 bnd (r 23 [x0] h0) fun v1 h1 =>
 bnd (fT [v1, x1] h1) fun v2 h2 =>
 bnd (aD .lss x6 v2 h2) fun v3 h3 =>
 aT v3 (
 bnd (r 23 [x0] h3) fun v4 h4 =>
 bnd (sT [v4, x1, x6] h4) fun v5 h5 =>
 bnd (aC 0 v5 h5) fun v6 h6 =>
 bnd (aC 1 v5 h6) fun v7 h7 =>
 bnd (aL [(aE 0)] 1 [(0, 1, v6)] h7) fun v8 h8 =>
 bnd (aY 1 8 x5 v8 h8) fun v9 h9 =>
 bnd (aD .add x6 (aE 1) h9) fun v10 h10 =>
      kk5 x0 x1 v9 v10 h10) (
      fV r n x5 h3)
noncomputable def oA (r : RT) (n : Nat) (m : Nat) : dM :=
 Nat.rec (motive := fun _ => dM) (fun _ _ _ _ _ => none) (fun _ ih => oL r n ih) m
noncomputable def cDg (r : RT) (n : Nat) : dM := oA r n n
noncomputable def bBa (r : RT) (n : Nat) (x0 x1 x5 x6 : DV) (h0 : Hp) : aH :=
 cDg r n x0 x1 x5 x6 h0
noncomputable def aZn (r : RT) (n : Nat) (x0 x1 x5 : DV) (h0 : Hp) : aH :=
 bBa r n x0 x1 x5 (aE 0) h0
noncomputable def bDd (r : RT) (n : Nat) (x0 x1 : DV) (h0 : Hp) : aH :=
 aZn r n x0 x1 .l0 h0
noncomputable def s29 (r : RT) (n : Nat) (x0 x1 : DV) (h0 : Hp) : aH :=
 bDd r n x0 x1 h0
noncomputable abbrev c29 : Code := cf Tryz.f29
noncomputable abbrev aYt : Code := cR c29
noncomputable abbrev bDc : Code := cR aYt
noncomputable abbrev dNy : Code := cR bDc
noncomputable abbrev aNo : Code := cL bDc
noncomputable abbrev bRx : Code := cR aNo
noncomputable abbrev bBx : Code := cL bRx
noncomputable abbrev sO : Code := cL bBx
noncomputable abbrev cVa : Code := cL aNo
noncomputable abbrev cUo : Code := cL aYt
noncomputable abbrev bOu : Code := cL c29
noncomputable abbrev r29 : K := aP CF Tryz.f29
noncomputable def D29 (r : RT) (n : Nat) (c : Code) (X : Nat → K) (k : K) : K := aN CF r 30 n c X r29 k
theorem dEx : D29 r n dNy x0 r29 = (K1 (fV r n) 5) :=
 (by kernel_rfl)
theorem cOu (kk5 : dM) (q0 : TT1) : D29 r n sO (xs x0 0 (K1 q0 5)) (K4 kk5 0 1 5 6) = fun (env : aV) (h : Hp) =>
 bnd (r 23 [(env 0)] h) fun v1 h1 =>
 bnd (fT [v1, (env 1)] h1) fun v2 h2 =>
 bnd (aD .lss (env 6) v2 h2) fun v3 h3 =>
 aT v3 (
 bnd (r 23 [(env 0)] h3) fun v4 h4 =>
 bnd (sT [v4, (env 1), (env 6)] h4) fun v5 h5 =>
 bnd (aC 0 v5 h5) fun v6 h6 =>
 bnd (aC 1 v5 h6) fun v7 h7 =>
 bnd (aL [(aE 0)] 1 [(0, 1, v6)] h7) fun v8 h8 =>
 bnd (aY 1 8 (env 5) v8 h8) fun v9 h9 =>
 bnd (aD .add (env 6) (aE 1) h9) fun v10 h10 =>
      kk5 (env 0) (env 1) v9 v10 h10) (
      q0 (env 5) h3) := by kernel_rfl
theorem bXh (kk5 : dM) : (fun (env : aV) (h : Hp) =>
 bnd (r 23 [(env 0)] h) fun v1 h1 =>
 bnd (fT [v1, (env 1)] h1) fun v2 h2 =>
 bnd (aD .lss (env 6) v2 h2) fun v3 h3 =>
 aT v3 (
 bnd (r 23 [(env 0)] h3) fun v4 h4 =>
 bnd (sT [v4, (env 1), (env 6)] h4) fun v5 h5 =>
 bnd (aC 0 v5 h5) fun v6 h6 =>
 bnd (aC 1 v5 h6) fun v7 h7 =>
 bnd (aL [(aE 0)] 1 [(0, 1, v6)] h7) fun v8 h8 =>
 bnd (aY 1 8 (env 5) v8 h8) fun v9 h9 =>
 bnd (aD .add (env 6) (aE 1) h9) fun v10 h10 =>
      kk5 (env 0) (env 1) v9 v10 h10) (
      fV r n (env 5) h3)) = (K4 (oL r n kk5) 0 1 5 6) := by kernel_rfl
theorem cFk (kk5 : dM) : D29 r n sO (xs x0 0 (K1 (fV r n) 5)) (K4 kk5 0 1 5 6) = (K4 (oL r n kk5) 0 1 5 6) :=
 (cOu r n kk5 (fV r n)).trans (bXh r n kk5)
theorem cEm (m : Nat) : aM (fun kk => D29 r n sO (xs x0 0 (K1 (fV r n) 5)) kk) m = (K4 (oA r n m) 0 1 5 6) := by
 induction m with
 | zero => exact (by kernel_rfl : aM (fun kk => D29 r n sO (xs x0 0 (K1 (fV r n) 5)) kk) 0 = (K4 (oA r n 0) 0 1 5 6))
 | succ m ih =>
  refine (by kernel_rfl : aM (fun kk => D29 r n sO (xs x0 0 (K1 (fV r n) 5)) kk) (m + 1) = D29 r n sO (xs x0 0 (K1 (fV r n) 5)) (aM (fun kk => D29 r n sO (xs x0 0 (K1 (fV r n) 5)) kk) m)).trans ?_
  rw [ih]
  exact (cFk r n (oA r n m)).trans (by kernel_rfl)
theorem cZc : D29 r n bBx (xs x0 0 (K1 (fV r n) 5)) (K1 (fV r n) 5) = (K4 (cDg r n) 0 1 5 6) :=
 (by kernel_rfl : D29 r n bBx (xs x0 0 (K1 (fV r n) 5)) (K1 (fV r n) 5) = aM (fun kk => D29 r n sO (xs x0 0 (K1 (fV r n) 5)) kk) n).trans ((cEm r n n).trans (by kernel_rfl))
theorem dHo : D29 r n bRx x0 (K1 (fV r n) 5) = (K4 (bBa r n) 0 1 5 6) :=
 (by kernel_rfl : D29 r n bRx x0 (K1 (fV r n) 5) = D29 r n bBx (xs x0 0 (K1 (fV r n) 5)) (K1 (fV r n) 5)).trans
 ((cZc r n).trans (by kernel_rfl))
theorem cLs : D29 r n bDc x0 r29 = D29 r n aNo x0 (K1 (fV r n) 5) :=
 congrArg (fun k => D29 r n aNo x0 k) (dEx r n)
theorem cQw : D29 r n aNo x0 (K1 (fV r n) 5) = D29 r n cVa x0 (K4 (bBa r n) 0 1 5 6) :=
 congrArg (fun k => D29 r n cVa x0 k) (dHo r n)
theorem dGq : D29 r n bDc x0 r29 = (K3 (aZn r n) 0 1 5) :=
 (cLs r n).trans
 ((cQw r n).trans
 ((by kernel_rfl)))
theorem cFx : D29 r n aYt x0 r29 = D29 r n cUo x0 (K3 (aZn r n) 0 1 5) :=
 congrArg (fun k => D29 r n cUo x0 k) (dGq r n)
theorem dBw : D29 r n aYt x0 r29 = (K2 (bDd r n) 0 1) :=
 (cFx r n).trans
 ((by kernel_rfl))
theorem dKa : D29 r n c29 x0 r29 = D29 r n bOu x0 (K2 (bDd r n) 0 1) :=
 congrArg (fun k => D29 r n bOu x0 k) (dBw r n)
theorem dPs : D29 r n c29 x0 r29 = (K2 (s29 r n) 0 1) :=
 (dKa r n).trans
 ((by kernel_rfl))
theorem cUl : aF CF r n 29 args h = s29 r n (aU args 0) (aU args 1) h :=
 (by kernel_rfl : aF CF r n 29 args h = D29 r n c29 x0 r29 (aI args) h).trans ((congrFun (congrFun (dPs r n) (aI args)) h).trans (by kernel_rfl))
noncomputable def s30 (r : RT) (n : Nat) (x0 x1 : DV) (h0 : Hp) : aH :=
 bnd (aD .lss x1 (aE 0) h0) fun v1 h1 =>
 bnd (gD v1 false (some (x1, h1)) h1) fun v2 h2 =>
 bnd (gD v1 false (aD .geq v2 (aE 16) h2) h2) fun v3 h3 =>
 bnd (aR v1 (.b true) v3 h3) fun v4 h4 =>
 aT v4 (
 some ((aE 0), h4)) (
 bnd (aQ x0 h4) fun v5 h5 =>
 bnd (aB 1 v5 h5) fun v6 h6 =>
 bnd (aA v6 h6) fun v7 h7 =>
 bnd (aD .add (aE 2) x1 h7) fun v8 h8 =>
 bnd (aJ 1 v7 v8 h8) fun v9 h9 =>
 bnd (aA v9 h9) fun v10 h10 =>
 some (v10, h10))
noncomputable abbrev c30 : Code := cf Tryz.f30
noncomputable abbrev r30 : K := aP CF Tryz.f30
noncomputable def D30 (r : RT) (n : Nat) (c : Code) (X : Nat → K) (k : K) : K := aN CF r 19 n c X r30 k
theorem dQq : D30 r n c30 x0 r30 = (K2 (s30 r n) 0 1) :=
 (by kernel_rfl)
theorem bNv : aF CF r n 30 args h = s30 r n (aU args 0) (aU args 1) h :=
 (by kernel_rfl : aF CF r n 30 args h = D30 r n c30 x0 r30 (aI args) h).trans ((congrFun (congrFun (dQq r n) (aI args)) h).trans (by kernel_rfl))
noncomputable def s32 (r : RT) (n : Nat) (x0 x1 : DV) (h0 : Hp) : aH :=
 bnd (r 67 [x0, x1] h0) fun v1 h1 =>
 bnd (hY .not v1 h1) fun v2 h2 =>
 aT v2 (
 some ((.i .i64 (Int.negSucc 0)), h2)) (
 bnd (r 51 [x0, x1, (aE 5)] h2) fun v3 h3 =>
 bnd (jQ [v3] h3) fun v4 h4 =>
 some (v4, h4))
noncomputable abbrev c32 : Code := cf Tryz.f32
noncomputable abbrev r32 : K := aP CF Tryz.f32
noncomputable def D32 (r : RT) (n : Nat) (c : Code) (X : Nat → K) (k : K) : K := aN CF r 13 n c X r32 k
theorem dRd : D32 r n c32 x0 r32 = (K2 (s32 r n) 0 1) :=
 (by kernel_rfl)
theorem cUx : aF CF r n 32 args h = s32 r n (aU args 0) (aU args 1) h :=
 (by kernel_rfl : aF CF r n 32 args h = D32 r n c32 x0 r32 (aI args) h).trans ((congrFun (congrFun (dRd r n) (aI args)) h).trans (by kernel_rfl))
noncomputable def fZ (r : RT) (n : Nat) (x7 : DV) (h0 : Hp) : aH :=
 bnd (gQ x7 h0) fun v1 h1 =>
 some (.t [v1, (.b true)], h1)
noncomputable def aUb (r : RT) (n : Nat) (kk7 : cG) (x0 x1 x7 x48 x49 : DV) (h0 : Hp) : aH :=
 bnd (aD .lss x49 x48 h0) fun v1 h1 =>
 aT v1 (
 bnd (r 51 [x0, x1, x49] h1) fun v2 h2 =>
 bnd (eB .u8 v2 h2) fun v3 h3 =>
 bnd (aL [(.i .u8 (Int.ofNat 0))] 1 [(0, 1, v3)] h3) fun v4 h4 =>
 bnd (aY 1 1 x7 v4 h4) fun v5 h5 =>
 bnd (aD .add x49 (aE 1) h5) fun v6 h6 =>
      kk7 x0 x1 v5 x48 v6 h6) (
      fZ r n x7 h1)
noncomputable def aCu (r : RT) (n : Nat) (m : Nat) : cG :=
 Nat.rec (motive := fun _ => cG) (fun _ _ _ _ _ _ => none) (fun _ ih => aUb r n ih) m
noncomputable def cVh (r : RT) (n : Nat) : cG := aCu r n n
noncomputable def bNj (r : RT) (n : Nat) (x0 x1 x7 x48 x49 : DV) (h0 : Hp) : aH :=
 cVh r n x0 x1 x7 x48 x49 h0
noncomputable def bZh (r : RT) (n : Nat) (x0 x1 x7 : DV) (h0 : Hp) : aH :=
 bnd (aQ x0 h0) fun v1 h1 =>
 bnd (aB 0 v1 h1) fun v2 h2 =>
 bnd (aA v2 h2) fun v3 h3 =>
 bnd (fT [v3, x1] h3) fun v4 h4 =>
  bNj r n x0 x1 x7 v4 (aE 0) h4
noncomputable def cCx (r : RT) (n : Nat) (x0 x1 : DV) (h0 : Hp) : aH :=
 bZh r n x0 x1 .l0 h0
noncomputable def bXj (r : RT) (n : Nat) (x0 x1 x6 : DV) (h0 : Hp) : aH :=
 bnd (aQ x0 h0) fun v1 h1 =>
 bnd (aB 0 v1 h1) fun v2 h2 =>
 bnd (aA v2 h2) fun v3 h3 =>
 bnd (isF [v3, x1] h3) fun v4 h4 =>
 bnd (hY .not v4 h4) fun v5 h5 =>
 bnd (gD v5 false (some (x6, h5)) h5) fun v6 h6 =>
 bnd (gD v5 false (some (x0, h6)) h6) fun v7 h7 =>
 bnd (gD v5 false (r 30 [v7, (aE 10)] h7) h7) fun v8 h8 =>
 bnd (gD v5 false (aD .neq v6 v8 h8) h8) fun v9 h9 =>
 bnd (gD v5 false (some (v9, h9)) h9) fun v10 h10 =>
 bnd (gD v10 true (some (x6, h10)) h10) fun v11 h11 =>
 bnd (gD v10 true (some (x0, h11)) h11) fun v12 h12 =>
 bnd (gD v10 true (r 30 [v12, (aE 11)] h12) h12) fun v13 h13 =>
 bnd (gD v10 true (aD .neq v11 v13 h13) h13) fun v14 h14 =>
 bnd (gD v5 false (aR v10 v14 (.b false) h14) h14) fun v15 h15 =>
 bnd (aR v5 (.b true) v15 h15) fun v16 h16 =>
 bnd (gD v16 false (some (x0, h16)) h16) fun v17 h17 =>
 bnd (gD v16 false (aQ v17 h17) h17) fun v18 h18 =>
 bnd (gD v16 false (aB 0 v18 h18) h18) fun v19 h19 =>
 bnd (gD v16 false (aA v19 h19) h19) fun v20 h20 =>
 bnd (gD v16 false (some (x1, h20)) h20) fun v21 h21 =>
 bnd (gD v16 false (jD [v20, v21] h21) h21) fun v22 h22 =>
 bnd (gD v16 false (aD .neq v22 (aE 2) h22) h22) fun v23 h23 =>
 bnd (aR v16 (.b true) v23 h23) fun v24 h24 =>
 aT v24 (
 some (.t [(.s []), (.b false)], h24)) (
  cCx r n x0 x1 h24)
noncomputable def bVz (r : RT) (n : Nat) (x0 x1 : DV) (h0 : Hp) : aH :=
 bnd (aQ x0 h0) fun v1 h1 =>
 bnd (aB 0 v1 h1) fun v2 h2 =>
 bnd (aA v2 h2) fun v3 h3 =>
 bnd (iW [v3, x1] h3) fun v4 h4 =>
  bXj r n x0 x1 v4 h4
noncomputable def s33 (r : RT) (n : Nat) (x0 x1 : DV) (h0 : Hp) : aH :=
 bVz r n x0 x1 h0
noncomputable abbrev c33 : Code := cf Tryz.f33
noncomputable abbrev bBf : Code := cR c33
noncomputable abbrev bBq : Code := cR bBf
noncomputable abbrev bCe : Code := cR bBq
noncomputable abbrev aXz : Code := cR bCe
noncomputable abbrev dJs : Code := cR aXz
noncomputable abbrev aMo : Code := cL aXz
noncomputable abbrev bPm : Code := cR aMo
noncomputable abbrev aYr : Code := cL bPm
noncomputable abbrev sJ : Code := cL aYr
noncomputable abbrev cAm : Code := cL aMo
noncomputable abbrev bUw : Code := cL bCe
noncomputable abbrev bSt : Code := cL bBq
noncomputable abbrev bKn : Code := cL bBf
noncomputable abbrev bOy : Code := cL c33
noncomputable abbrev r33 : K := aP CF Tryz.f33
noncomputable def D33 (r : RT) (n : Nat) (c : Code) (X : Nat → K) (k : K) : K := aN CF r 63 n c X r33 k
theorem cYe : D33 r n dJs x0 r33 = (K1 (fZ r n) 7) :=
 (by kernel_rfl)
theorem cKb (kk7 : cG) (q0 : TT1) : D33 r n sJ (xs x0 0 (K1 q0 7)) (K5 kk7 0 1 7 48 49) = fun (env : aV) (h : Hp) =>
 bnd (aD .lss (env 49) (env 48) h) fun v1 h1 =>
 aT v1 (
 bnd (r 51 [(env 0), (env 1), (env 49)] h1) fun v2 h2 =>
 bnd (eB .u8 v2 h2) fun v3 h3 =>
 bnd (aL [(.i .u8 (Int.ofNat 0))] 1 [(0, 1, v3)] h3) fun v4 h4 =>
 bnd (aY 1 1 (env 7) v4 h4) fun v5 h5 =>
 bnd (aD .add (env 49) (aE 1) h5) fun v6 h6 =>
      kk7 (env 0) (env 1) v5 (env 48) v6 h6) (
      q0 (env 7) h1) := by kernel_rfl
theorem bSd (kk7 : cG) : (fun (env : aV) (h : Hp) =>
 bnd (aD .lss (env 49) (env 48) h) fun v1 h1 =>
 aT v1 (
 bnd (r 51 [(env 0), (env 1), (env 49)] h1) fun v2 h2 =>
 bnd (eB .u8 v2 h2) fun v3 h3 =>
 bnd (aL [(.i .u8 (Int.ofNat 0))] 1 [(0, 1, v3)] h3) fun v4 h4 =>
 bnd (aY 1 1 (env 7) v4 h4) fun v5 h5 =>
 bnd (aD .add (env 49) (aE 1) h5) fun v6 h6 =>
      kk7 (env 0) (env 1) v5 (env 48) v6 h6) (
      fZ r n (env 7) h1)) = (K5 (aUb r n kk7) 0 1 7 48 49) := by kernel_rfl
theorem cOj (kk7 : cG) : D33 r n sJ (xs x0 0 (K1 (fZ r n) 7)) (K5 kk7 0 1 7 48 49) = (K5 (aUb r n kk7) 0 1 7 48 49) :=
 (cKb r n kk7 (fZ r n)).trans (bSd r n kk7)
theorem cTx (m : Nat) : aM (fun kk => D33 r n sJ (xs x0 0 (K1 (fZ r n) 7)) kk) m = (K5 (aCu r n m) 0 1 7 48 49) := by
 induction m with
 | zero => exact (by kernel_rfl : aM (fun kk => D33 r n sJ (xs x0 0 (K1 (fZ r n) 7)) kk) 0 = (K5 (aCu r n 0) 0 1 7 48 49))
 | succ m ih =>
  refine (by kernel_rfl : aM (fun kk => D33 r n sJ (xs x0 0 (K1 (fZ r n) 7)) kk) (m + 1) = D33 r n sJ (xs x0 0 (K1 (fZ r n) 7)) (aM (fun kk => D33 r n sJ (xs x0 0 (K1 (fZ r n) 7)) kk) m)).trans ?_
  rw [ih]
  exact (cOj r n (aCu r n m)).trans (by kernel_rfl)
theorem dDh : D33 r n aYr (xs x0 0 (K1 (fZ r n) 7)) (K1 (fZ r n) 7) = (K5 (cVh r n) 0 1 7 48 49) :=
 (by kernel_rfl : D33 r n aYr (xs x0 0 (K1 (fZ r n) 7)) (K1 (fZ r n) 7) = aM (fun kk => D33 r n sJ (xs x0 0 (K1 (fZ r n) 7)) kk) n).trans ((cTx r n n).trans (by kernel_rfl))
theorem cWu : D33 r n bPm x0 (K1 (fZ r n) 7) = (K5 (bNj r n) 0 1 7 48 49) :=
 (by kernel_rfl : D33 r n bPm x0 (K1 (fZ r n) 7) = D33 r n aYr (xs x0 0 (K1 (fZ r n) 7)) (K1 (fZ r n) 7)).trans
 ((dDh r n).trans (by kernel_rfl))
theorem cLm : D33 r n aXz x0 r33 = D33 r n aMo x0 (K1 (fZ r n) 7) :=
 congrArg (fun k => D33 r n aMo x0 k) (cYe r n)
theorem cMy : D33 r n aMo x0 (K1 (fZ r n) 7) = D33 r n cAm x0 (K5 (bNj r n) 0 1 7 48 49) :=
 congrArg (fun k => D33 r n cAm x0 k) (cWu r n)
theorem cWk : D33 r n aXz x0 r33 = (K3 (bZh r n) 0 1 7) :=
 (cLm r n).trans
 ((cMy r n).trans
 ((by kernel_rfl)))
theorem cPj : D33 r n bCe x0 r33 = D33 r n bUw x0 (K3 (bZh r n) 0 1 7) :=
 congrArg (fun k => D33 r n bUw x0 k) (cWk r n)
theorem dAp : D33 r n bCe x0 r33 = (K2 (cCx r n) 0 1) :=
 (cPj r n).trans
 ((by kernel_rfl))
theorem cOf : D33 r n bBq x0 r33 = D33 r n bSt x0 (K2 (cCx r n) 0 1) :=
 congrArg (fun k => D33 r n bSt x0 k) (dAp r n)
theorem dGk : D33 r n bBq x0 r33 = (K3 (bXj r n) 0 1 6) :=
 (cOf r n).trans
 ((by kernel_rfl))
theorem cMh : D33 r n bBf x0 r33 = D33 r n bKn x0 (K3 (bXj r n) 0 1 6) :=
 congrArg (fun k => D33 r n bKn x0 k) (dGk r n)
theorem dHi : D33 r n bBf x0 r33 = (K2 (bVz r n) 0 1) :=
 (cMh r n).trans
 ((by kernel_rfl))
theorem dPb : D33 r n c33 x0 r33 = D33 r n bOy x0 (K2 (bVz r n) 0 1) :=
 congrArg (fun k => D33 r n bOy x0 k) (dHi r n)
theorem dRz : D33 r n c33 x0 r33 = (K2 (s33 r n) 0 1) :=
 (dPb r n).trans
 ((by kernel_rfl))
theorem dJx : aF CF r n 33 args h = s33 r n (aU args 0) (aU args 1) h :=
 (by kernel_rfl : aF CF r n 33 args h = D33 r n c33 x0 r33 (aI args) h).trans ((congrFun (congrFun (dRz r n) (aI args)) h).trans (by kernel_rfl))
noncomputable def s34 (r : RT) (n : Nat) (x0 x1 : DV) (h0 : Hp) : aH :=
 bnd (r 67 [x0, x1] h0) fun v1 h1 =>
 bnd (hY .not v1 h1) fun v2 h2 =>
 aT v2 (
 some ((.s []), h2)) (
 bnd (r 51 [x0, x1, (aE 0)] h2) fun v3 h3 =>
 bnd (r 33 [x0, v3] h3) fun v4 h4 =>
 bnd (aC 0 v4 h4) fun v5 h5 =>
 bnd (aC 1 v4 h5) fun v6 h6 =>
 some (v5, h6))
noncomputable abbrev c34 : Code := cf Tryz.f34
noncomputable abbrev r34 : K := aP CF Tryz.f34
noncomputable def D34 (r : RT) (n : Nat) (c : Code) (X : Nat → K) (k : K) : K := aN CF r 20 n c X r34 k
theorem dUo : D34 r n c34 x0 r34 = (K2 (s34 r n) 0 1) :=
 (by kernel_rfl)
theorem dJj : aF CF r n 34 args h = s34 r n (aU args 0) (aU args 1) h :=
 (by kernel_rfl : aF CF r n 34 args h = D34 r n c34 x0 r34 (aI args) h).trans ((congrFun (congrFun (dUo r n) (aI args)) h).trans (by kernel_rfl))
noncomputable def s35 (r : RT) (n : Nat) (x0 x1 : DV) (h0 : Hp) : aH :=
 bnd (r 67 [x0, x1] h0) fun v1 h1 =>
 bnd (hY .not v1 h1) fun v2 h2 =>
 aT v2 (
 some ((aE 0), h2)) (
 bnd (r 51 [x0, x1, (aE 1)] h2) fun v3 h3 =>
 some (v3, h3))
noncomputable abbrev c35 : Code := cf Tryz.f35
noncomputable abbrev r35 : K := aP CF Tryz.f35
noncomputable def D35 (r : RT) (n : Nat) (c : Code) (X : Nat → K) (k : K) : K := aN CF r 12 n c X r35 k
theorem dUl : D35 r n c35 x0 r35 = (K2 (s35 r n) 0 1) :=
 (by kernel_rfl)
theorem dKm : aF CF r n 35 args h = s35 r n (aU args 0) (aU args 1) h :=
 (by kernel_rfl : aF CF r n 35 args h = D35 r n c35 x0 r35 (aI args) h).trans ((congrFun (congrFun (dUl r n) (aI args)) h).trans (by kernel_rfl))
noncomputable def s36 (r : RT) (n : Nat) (x0 : DV) (h0 : Hp) : aH :=
 bnd (aQ x0 h0) fun v1 h1 =>
 bnd (aB 2 v1 h1) fun v2 h2 =>
 bnd (aA v2 h2) fun v3 h3 =>
 some (v3, h3)
noncomputable abbrev c36 : Code := cf Tryz.f36
noncomputable abbrev r36 : K := aP CF Tryz.f36
noncomputable def D36 (r : RT) (n : Nat) (c : Code) (X : Nat → K) (k : K) : K := aN CF r 7 n c X r36 k
theorem dQu : D36 r n c36 x0 r36 = (K1 (s36 r n) 0) :=
 (by kernel_rfl)
theorem cVe : aF CF r n 36 args h = s36 r n (aU args 0) h :=
 (by kernel_rfl : aF CF r n 36 args h = D36 r n c36 x0 r36 (aI args) h).trans ((congrFun (congrFun (dQu r n) (aI args)) h).trans (by kernel_rfl))
end Go.Dd

namespace Go.Dd
open Go.Proofs
variable (r : RT) (n : Nat) (args : List DV) (h : Hp)
noncomputable def s37 (r : RT) (n : Nat) (x0 x1 : DV) (h0 : Hp) : aH :=
 bnd (r 67 [x0, x1] h0) fun v1 h1 =>
 bnd (hY .not v1 h1) fun v2 h2 =>
 aT v2 (
 some ((aE 0), h2)) (
 bnd (r 51 [x0, x1, (aE 2)] h2) fun v3 h3 =>
 bnd (jQ [v3] h3) fun v4 h4 =>
 some (v4, h4))
noncomputable abbrev c37 : Code := cf Tryz.f37
noncomputable abbrev r37 : K := aP CF Tryz.f37
noncomputable def D37 (r : RT) (n : Nat) (c : Code) (X : Nat → K) (k : K) : K := aN CF r 13 n c X r37 k
theorem dPo : D37 r n c37 x0 r37 = (K2 (s37 r n) 0 1) :=
 (by kernel_rfl)
theorem cUm : aF CF r n 37 args h = s37 r n (aU args 0) (aU args 1) h :=
 (by kernel_rfl : aF CF r n 37 args h = D37 r n c37 x0 r37 (aI args) h).trans ((congrFun (congrFun (dPo r n) (aI args)) h).trans (by kernel_rfl))
noncomputable def cT (r : RT) (n : Nat) (h0 : Hp) : aH :=
 some ((.i .i64 (Int.negSucc 0)), h0)
noncomputable def aMf (r : RT) (n : Nat) (x24 : DV) (h0 : Hp) : aH :=
 aT x24 (
 some ((aE 2), h0)) (
  cT r n h0)
noncomputable def bTe (r : RT) (n : Nat) (x3 : DV) (h0 : Hp) : aH :=
 bnd (aD .eql x3 (aE 21) h0) fun v1 h1 =>
 aT v1 (
  aMf r n v1 h1) (
 bnd (aD .eql x3 (aE 51) h1) fun v2 h2 =>
  aMf r n v2 h2)
noncomputable def jA (r : RT) (n : Nat) (x3 x10 : DV) (h0 : Hp) : aH :=
 aT x10 (
 some ((aE 1), h0)) (
  bTe r n x3 h0)
noncomputable def bJb (r : RT) (n : Nat) (x3 : DV) (h0 : Hp) : aH :=
 bnd (aD .eql x3 (aE 1) h0) fun v1 h1 =>
 aT v1 (
  jA r n x3 v1 h1) (
 bnd (aD .eql x3 (aE 2) h1) fun v2 h2 =>
 aT v2 (
   jA r n x3 v2 h2) (
 bnd (aD .eql x3 (aE 3) h2) fun v3 h3 =>
 aT v3 (
    jA r n x3 v3 h3) (
 bnd (aD .eql x3 (aE 4) h3) fun v4 h4 =>
 aT v4 (
     jA r n x3 v4 h4) (
 bnd (aD .eql x3 (aE 5) h4) fun v5 h5 =>
 aT v5 (
      jA r n x3 v5 h5) (
 bnd (aD .eql x3 (aE 6) h5) fun v6 h6 =>
 aT v6 (
       jA r n x3 v6 h6) (
 bnd (aD .eql x3 (aE 7) h6) fun v7 h7 =>
 aT v7 (
        jA r n x3 v7 h7) (
 bnd (aD .eql x3 (aE 10) h7) fun v8 h8 =>
 aT v8 (
         jA r n x3 v8 h8) (
 bnd (aD .eql x3 (aE 20) h8) fun v9 h9 =>
 aT v9 (
          jA r n x3 v9 h9) (
 bnd (aD .eql x3 (aE 24) h9) fun v10 h10 =>
 aT v10 (
           jA r n x3 v10 h10) (
 bnd (aD .eql x3 (aE 25) h10) fun v11 h11 =>
 aT v11 (
            jA r n x3 v11 h11) (
 bnd (aD .eql x3 (aE 26) h11) fun v12 h12 =>
 aT v12 (
             jA r n x3 v12 h12) (
 bnd (aD .eql x3 (aE 50) h12) fun v13 h13 =>
             jA r n x3 v13 h13))))))))))))
noncomputable def sF (r : RT) (n : Nat) (x3 x4 : DV) (h0 : Hp) : aH :=
 aT x4 (
 some ((aE 0), h0)) (
  bJb r n x3 h0)
noncomputable def aYp (r : RT) (n : Nat) (x3 : DV) (h0 : Hp) : aH :=
 bnd (aD .eql x3 (aE 11) h0) fun v1 h1 =>
 aT v1 (
  sF r n x3 v1 h1) (
 bnd (aD .eql x3 (aE 22) h1) fun v2 h2 =>
 aT v2 (
   sF r n x3 v2 h2) (
 bnd (aD .eql x3 (aE 23) h2) fun v3 h3 =>
 aT v3 (
    sF r n x3 v3 h3) (
 bnd (aD .eql x3 (aE 40) h3) fun v4 h4 =>
 aT v4 (
     sF r n x3 v4 h4) (
 bnd (aD .eql x3 (aE 41) h4) fun v5 h5 =>
     sF r n x3 v5 h5))))
noncomputable def bBu (r : RT) (n : Nat) (x0 : DV) (h0 : Hp) : aH :=
 aYp r n x0 h0
noncomputable def s39 (r : RT) (n : Nat) (x0 : DV) (h0 : Hp) : aH :=
 bBu r n x0 h0
noncomputable abbrev c39 : Code := cf Tryz.f39
noncomputable abbrev bBb : Code := cR c39
noncomputable abbrev dNj : Code := cR bBb
noncomputable abbrev aNj : Code := cL bBb
noncomputable abbrev bOr : Code := cR aNj
noncomputable abbrev bBd : Code := cL bOr
noncomputable abbrev aNb : Code := cR bBd
noncomputable abbrev aMz : Code := cR aNb
noncomputable abbrev aNr : Code := cR aMz
noncomputable abbrev aOj : Code := cR aNr
noncomputable abbrev dEh : Code := cR aOj
noncomputable abbrev bZy : Code := cL aOj
noncomputable abbrev dAb : Code := cL aNr
noncomputable abbrev bSf : Code := cL aMz
noncomputable abbrev dCb : Code := cL aNb
noncomputable abbrev bRk : Code := cL bBd
noncomputable abbrev bTk : Code := cL aNj
noncomputable abbrev cCd : Code := cL c39
noncomputable abbrev r39 : K := aP CF Tryz.f39
noncomputable def D39 (r : RT) (n : Nat) (c : Code) (X : Nat → K) (k : K) : K := aN CF r 27 n c X r39 k
theorem dCa : D39 r n dNj x0 r39 = (K0 (cT r n)) :=
 (by kernel_rfl)
theorem cYp : D39 r n dEh (xs x0 0 (K0 (cT r n))) (K0 (cT r n)) = (K1 (aMf r n) 24) :=
 (by kernel_rfl)
theorem cQj : D39 r n aOj (xs x0 0 (K0 (cT r n))) (K0 (cT r n)) = D39 r n bZy (xs x0 0 (K0 (cT r n))) (K1 (aMf r n) 24) :=
 congrArg (fun k => D39 r n bZy (xs x0 0 (K0 (cT r n))) k) (cYp r n)
theorem cWf : D39 r n aOj (xs x0 0 (K0 (cT r n))) (K0 (cT r n)) = (K1 (bTe r n) 3) :=
 (cQj r n).trans
 ((by kernel_rfl))
theorem dFv : D39 r n aNr (xs x0 0 (K0 (cT r n))) (K0 (cT r n)) = (K2 (jA r n) 3 10) :=
 (by kernel_rfl : D39 r n aNr (xs x0 0 (K0 (cT r n))) (K0 (cT r n)) = (fun (env : aV) (h : Hp) => aT (opr env (cC aNr)) (D39 r n dAb (xs x0 0 (K0 (cT r n))) (K0 (cT r n)) env h) (D39 r n aOj (xs x0 0 (K0 (cT r n))) (K0 (cT r n)) env h))).trans (by rw [cWf r n]; kernel_rfl)
theorem cMf : D39 r n aMz (xs x0 0 (K0 (cT r n))) (K0 (cT r n)) = D39 r n bSf (xs x0 0 (K0 (cT r n))) (K2 (jA r n) 3 10) :=
 congrArg (fun k => D39 r n bSf (xs x0 0 (K0 (cT r n))) k) (dFv r n)
theorem cWo : D39 r n aMz (xs x0 0 (K0 (cT r n))) (K0 (cT r n)) = (K1 (bJb r n) 3) :=
 (cMf r n).trans
 ((by kernel_rfl))
theorem cXy : D39 r n aNb (xs x0 0 (K0 (cT r n))) (K0 (cT r n)) = (K2 (sF r n) 3 4) :=
 (by kernel_rfl : D39 r n aNb (xs x0 0 (K0 (cT r n))) (K0 (cT r n)) = (fun (env : aV) (h : Hp) => aT (opr env (cC aNb)) (D39 r n dCb (xs x0 0 (K0 (cT r n))) (K0 (cT r n)) env h) (D39 r n aMz (xs x0 0 (K0 (cT r n))) (K0 (cT r n)) env h))).trans (by rw [cWo r n]; kernel_rfl)
theorem cIq : D39 r n bBd (xs x0 0 (K0 (cT r n))) (K0 (cT r n)) = D39 r n bRk (xs x0 0 (K0 (cT r n))) (K2 (sF r n) 3 4) :=
 congrArg (fun k => D39 r n bRk (xs x0 0 (K0 (cT r n))) k) (cXy r n)
theorem cXp : D39 r n bOr x0 (K0 (cT r n)) = (K1 (aYp r n) 3) :=
 (by kernel_rfl : D39 r n bOr x0 (K0 (cT r n)) = D39 r n bBd (xs x0 0 (K0 (cT r n))) (K0 (cT r n))).trans
 ((cIq r n).trans
 ((by kernel_rfl)))
theorem cKy : D39 r n bBb x0 r39 = D39 r n aNj x0 (K0 (cT r n)) :=
 congrArg (fun k => D39 r n aNj x0 k) (dCa r n)
theorem cFl : D39 r n aNj x0 (K0 (cT r n)) = D39 r n bTk x0 (K1 (aYp r n) 3) :=
 congrArg (fun k => D39 r n bTk x0 k) (cXp r n)
theorem dGd : D39 r n bBb x0 r39 = (K1 (bBu r n) 0) :=
 (cKy r n).trans
 ((cFl r n).trans
 ((by kernel_rfl)))
theorem dJf : D39 r n c39 x0 r39 = D39 r n cCd x0 (K1 (bBu r n) 0) :=
 congrArg (fun k => D39 r n cCd x0 k) (dGd r n)
theorem dSe : D39 r n c39 x0 r39 = (K1 (s39 r n) 0) :=
 (dJf r n).trans
 ((by kernel_rfl))
theorem cUj : aF CF r n 39 args h = s39 r n (aU args 0) h :=
 (by kernel_rfl : aF CF r n 39 args h = D39 r n c39 x0 r39 (aI args) h).trans ((congrFun (congrFun (dSe r n) (aI args)) h).trans (by kernel_rfl))
noncomputable def eZ (r : RT) (n : Nat) (x5 : DV) (h0 : Hp) : aH :=
 some (.t [x5, (aE 0)], h0)
noncomputable def kB (r : RT) (n : Nat) (kk9 : dM) (x5 x155 x156 x157 : DV) (h0 : Hp) : aH :=
 bnd (aD .lss x157 x156 h0) fun v1 h1 =>
 aT v1 (
 bnd (aJ 1 x155 x157 h1) fun v2 h2 =>
 bnd (aA v2 h2) fun v3 h3 =>
 bnd (aJ 1 v3 (aE 0) h3) fun v4 h4 =>
 bnd (aA v4 h4) fun v5 h5 =>
 bnd (aJ 1 v3 (aE 1) h5) fun v6 h6 =>
 bnd (aA v6 h6) fun v7 h7 =>
 bnd (r 75 [x5, v5, v7] h7) fun v8 h8 =>
 bnd (aC 0 v8 h8) fun v9 h9 =>
 bnd (aC 1 v8 h9) fun v10 h10 =>
 bnd (aC 2 v8 h10) fun v11 h11 =>
 bnd (aC 3 v8 h11) fun v12 h12 =>
 bnd (aD .neq v12 (aE 0) h12) fun v13 h13 =>
 aT v13 (
 some (.t [.p0, v12], h13)) (
 bnd (aD .add x157 (aE 1) h13) fun v14 h14 =>
    kk9 x5 x155 x156 v14 h14)) (
      eZ r n x5 h1)
noncomputable def kG (r : RT) (n : Nat) (m : Nat) : dM :=
 Nat.rec (motive := fun _ => dM) (fun _ _ _ _ _ => none) (fun _ ih => kB r n ih) m
noncomputable def bCi (r : RT) (n : Nat) : dM := kG r n n
noncomputable def bOe (r : RT) (n : Nat) (x5 x155 x156 x157 : DV) (h0 : Hp) : aH :=
 bCi r n x5 x155 x156 x157 h0
noncomputable def bF (r : RT) (n : Nat) (x5 : DV) (h0 : Hp) : aH :=
 bnd (r 74 [] h0) fun v1 h1 =>
 bnd (cA v1 h1) fun v2 h2 =>
  bOe r n x5 v1 v2 (aE 0) h2
noncomputable def bA (r : RT) (n : Nat) (kk11 : cG) (x4 x5 x59 x60 x61 : DV) (h0 : Hp) : aH :=
 bnd (aD .add x61 (aE 1) h0) fun v1 h1 =>
  kk11 x4 x5 x59 x60 v1 h1
noncomputable def eT (r : RT) (n : Nat) (kk11 : cG) (x4 x5 x8 x9 x59 x60 x61 : DV) (h0 : Hp) : aH :=
 bnd (aQ x5 h0) fun v1 h1 =>
 bnd (aB 1 v1 h1) fun v2 h2 =>
 bnd (aA v2 h2) fun v3 h3 =>
 bnd (aQ x5 h3) fun v4 h4 =>
 bnd (aB 1 v4 h4) fun v5 h5 =>
 bnd (aA v5 h5) fun v6 h6 =>
 bnd (aJ 1 v6 (aE 1) h6) fun v7 h7 =>
 bnd (aA v7 h7) fun v8 h8 =>
 bnd (r 73 [x5, x9, v8] h8) fun v9 h9 =>
 cnd (bI (aA v2 h9) v3 && true) (
 bnd (aC 0 v9 h9) fun v10 h10 =>
 bnd (aC 1 v9 h10) fun v11 h11 =>
 bnd (aJ 1 v3 (aE 1) h11) fun v12 h12 =>
 bnd (aG 1 v12 v10 h12) fun v13 h13 =>
 bnd (aQ x5 h13) fun v14 h14 =>
 bnd (aB 3 v14 h14) fun v15 h15 =>
 bnd (aA v15 h15) fun v16 h16 =>
 bnd (aB 0 x8 h16) fun v17 h17 =>
 bnd (aA v17 h17) fun v18 h18 =>
 bnd (gC .string v16 v18 x9 h18) fun v19 h19 =>
  bA r n kk11 x4 x5 x59 x60 x61 h19)
noncomputable def aWz (r : RT) (n : Nat) (kk11 : cG) (kk25 : aOp) (x4 x5 x8 x9 x59 x60 x61 x117 x118 x119 : DV) (h0 : Hp) : aH :=
 bnd (aD .lss x119 x118 h0) fun v1 h1 =>
 aT v1 (
 bnd (aJ 1 x117 x119 h1) fun v2 h2 =>
 bnd (aA v2 h2) fun v3 h3 =>
 bnd (aAj [x4, x9, x119, v3] h3) fun v4 h4 =>
 bnd (aD .add x119 (aE 1) h4) fun v5 h5 =>
      kk25 x4 x5 x8 x9 x59 x60 x61 x117 x118 v5 h5) (
      eT r n kk11 x4 x5 x8 x9 x59 x60 x61 h1)
noncomputable def uS (r : RT) (n : Nat) (kk11 : cG) (m : Nat) : aOp :=
 Nat.rec (motive := fun _ => aOp) (fun _ _ _ _ _ _ _ _ _ _ _ => none) (fun _ ih => aWz r n kk11 ih) m
noncomputable def bJs (r : RT) (n : Nat) (kk11 : cG) : aOp := uS r n kk11 n
noncomputable def xH (r : RT) (n : Nat) (kk11 : cG) (x4 x5 x8 x9 x59 x60 x61 x117 x118 x119 : DV) (h0 : Hp) : aH :=
 bJs r n kk11 x4 x5 x8 x9 x59 x60 x61 x117 x118 x119 h0
noncomputable def aJg (r : RT) (n : Nat) (kk11 : cG) (x4 x5 x8 x9 x10 x12 x13 x19 x59 x60 x61 : DV) (h0 : Hp) : aH :=
 bnd (r 71 [x13] (resv 1 h0)) fun v1 h1 =>
 bnd (aB 2 x8 h1) fun v2 h2 =>
 bnd (aA v2 h2) fun v3 h3 =>
 cnd (bI (aA v2 (resv 1 h0)) v3 && true) (
 bnd (r 71 [v3] h3) fun v4 h4 =>
 bnd (bL (bZ 0 h0.next) [(aE 0), (aE 0), (aE 0), (aE 0), (aE 0), (aE 0)] 6 [(0, 1, x10), (1, 1, x12), (2, 1, v1), (3, 1, x19), (4, 1, (aE 0)), (5, 1, v4)] h4) fun v5 h5 =>
 bnd (cA v5 h5) fun v6 h6 =>
  xH r n kk11 x4 x5 x8 x9 x59 x60 x61 v5 v6 (aE 0) h6)
noncomputable def oF (r : RT) (n : Nat) (kk11 : cG) (x4 x5 x8 x9 x10 x12 x13 x14 x59 x60 x61 : DV) (h0 : Hp) : aH :=
 bnd (r 46 [x5, x14] h0) fun v1 h1 =>
 bnd (aC 0 v1 h1) fun v2 h2 =>
 bnd (aC 1 v1 h2) fun v3 h3 =>
  aJg r n kk11 x4 x5 x8 x9 x10 x12 x13 v2 x59 x60 x61 h3
noncomputable def zB (r : RT) (n : Nat) (kk11 : cG) (x4 x5 x7 x8 x9 x10 x12 x13 x14 x59 x60 x61 : DV) (h0 : Hp) : aH :=
 bnd (aD .eql x7 (aE 15) h0) fun v1 h1 =>
 aT v1 (
 bnd (r 44 [x5, (.s [115, 101, 108, 101, 99, 116, 111, 114])] h1) fun v2 h2 =>
 bnd (aC 0 v2 h2) fun v3 h3 =>
 bnd (aC 1 v2 h3) fun v4 h4 =>
 bnd (r 44 [x5, (.s [97, 114, 103, 117, 109, 101, 110, 116, 115])] h4) fun v5 h5 =>
 bnd (aC 0 v5 h5) fun v6 h6 =>
 bnd (aC 1 v5 h6) fun v7 h7 =>
 bnd (aL [(aE 0), (aE 0)] 2 [(0, 1, v3), (1, 1, v6)] h7) fun v8 h8 =>
  oF r n kk11 x4 x5 x8 x9 x10 x12 (aE 2) v8 x59 x60 x61 h8) (
  oF r n kk11 x4 x5 x8 x9 x10 x12 x13 x14 x59 x60 x61 h1)
noncomputable def aTs (r : RT) (n : Nat) (kk11 : cG) (x4 x5 x7 x8 x9 x10 x12 x13 x14 x59 x60 x61 : DV) (h0 : Hp) : aH :=
 bnd (aB 1 x8 h0) fun v1 h1 =>
 bnd (aA v1 h1) fun v2 h2 =>
 bnd (aD .geq v2 (aE 0) h2) fun v3 h3 =>
 aT v3 (
 bnd (aB 1 x8 h3) fun v4 h4 =>
 bnd (aA v4 h4) fun v5 h5 =>
 bnd (r 30 [x5, v5] h5) fun v6 h6 =>
  zB r n kk11 x4 x5 x7 x8 x9 x10 v6 x13 x14 x59 x60 x61 h6) (
  zB r n kk11 x4 x5 x7 x8 x9 x10 x12 x13 x14 x59 x60 x61 h3)
noncomputable def aUu (r : RT) (n : Nat) (kk11 : cG) (x4 x5 x7 x8 x9 x10 x59 x60 x61 : DV) (h0 : Hp) : aH :=
 aTs r n kk11 x4 x5 x7 x8 x9 x10 (aE 0) (aE 0) .l0 x59 x60 x61 h0
noncomputable def aOo (r : RT) (n : Nat) (kk11 : cG) (x4 x5 x7 x8 x9 x59 x60 x61 : DV) (h0 : Hp) : aH :=
 bnd (aB 0 x8 h0) fun v1 h1 =>
 bnd (aA v1 h1) fun v2 h2 =>
 bnd (r 44 [x5, v2] h2) fun v3 h3 =>
 bnd (aC 0 v3 h3) fun v4 h4 =>
 bnd (aC 1 v3 h4) fun v5 h5 =>
  aUu r n kk11 x4 x5 x7 x8 x9 v4 x59 x60 x61 h5
noncomputable def aSf (r : RT) (n : Nat) (kk11 : cG) (x4 x5 x7 x8 x9 x59 x60 x61 : DV) (h0 : Hp) : aH :=
 bnd (r 30 [x5, (aE 1)] h0) fun v1 h1 =>
 bnd (kT [x4, x9, v1] h1) fun v2 h2 =>
  aOo r n kk11 x4 x5 x7 x8 x9 x59 x60 x61 h2
noncomputable def vQ (r : RT) (n : Nat) (kk11 : cG) (x4 x5 x7 x8 x59 x60 x61 : DV) (h0 : Hp) : aH :=
 bnd (r 30 [x5, x7] h0) fun v1 h1 =>
  aSf r n kk11 x4 x5 x7 x8 v1 x59 x60 x61 h1
noncomputable def aGe (r : RT) (n : Nat) (kk11 : cG) (x4 x5 x59 x60 x61 : DV) (h0 : Hp) : aH :=
 bnd (aJ 3 x59 x61 h0) fun v1 h1 =>
 bnd (aK 3 v1 h1) fun v2 h2 =>
 bnd (bN [(.s []), (aE 0), (aE 0)] h2) fun v3 h3 =>
 bnd (aG 3 v3 v2 h3) fun _ h4 =>
  vQ r n kk11 x4 x5 x61 v3 x59 x60 x61 h4
noncomputable def aPb (r : RT) (n : Nat) (kk11 : cG) (x4 x5 x59 x60 x61 x62 : DV) (h0 : Hp) : aH :=
 aT x62 (
  aGe r n kk11 x4 x5 x59 x60 x61 h0) (
  bF r n x5 h0)
noncomputable def bDx (r : RT) (n : Nat) (kk11 : cG) (x4 x5 x59 x60 x61 : DV) (h0 : Hp) : aH :=
 bnd (aD .lss x61 x60 h0) fun v1 h1 =>
  aPb r n kk11 x4 x5 x59 x60 x61 v1 h1
noncomputable def tH (r : RT) (n : Nat) (m : Nat) : cG :=
 Nat.rec (motive := fun _ => cG) (fun _ _ _ _ _ _ => none) (fun _ ih => bDx r n ih) m
noncomputable def bUg (r : RT) (n : Nat) : cG := tH r n n
noncomputable def aSr (r : RT) (n : Nat) (x4 x5 x59 x60 x61 : DV) (h0 : Hp) : aH :=
 bUg r n x4 x5 x59 x60 x61 h0
noncomputable def gU (r : RT) (n : Nat) (x4 x5 : DV) (h0 : Hp) : aH :=
 bnd (r 69 [] h0) fun v1 h1 =>
 bnd (cA v1 h1) fun v2 h2 =>
  aSr r n x4 x5 v1 v2 (aE 0) h2
noncomputable def aXp (r : RT) (n : Nat) (kk27 : nA) (x4 x5 x43 : DV) (h0 : Hp) : aH :=
 bnd (aD .lss x43 (aE 16) h0) fun v1 h1 =>
 aT v1 (
 bnd (aQ x5 h1) fun v2 h2 =>
 bnd (aB 1 v2 h2) fun v3 h3 =>
 bnd (aA v3 h3) fun v4 h4 =>
 bnd (aD .add (aE 2) x43 h4) fun v5 h5 =>
 bnd (gL [x4, (aE 0), (aE 0), (aE 6)] h5) fun v6 h6 =>
 cnd (bI (aA v3 h6) v4 && true) (
 bnd (aC 0 v6 h6) fun v7 h7 =>
 bnd (aC 1 v6 h7) fun v8 h8 =>
 bnd (aJ 1 v4 v5 h8) fun v9 h9 =>
 bnd (aG 1 v9 v7 h9) fun v10 h10 =>
 bnd (aD .add x43 (aE 1) h10) fun v11 h11 =>
      kk27 x4 x5 v11 h11)) (
      gU r n x4 x5 h1)
noncomputable def uV (r : RT) (n : Nat) (m : Nat) : nA :=
 Nat.rec (motive := fun _ => nA) (fun _ _ _ _ => none) (fun _ ih => aXp r n ih) m
noncomputable def cDt (r : RT) (n : Nat) : nA := uV r n n
noncomputable def aUn (r : RT) (n : Nat) (x4 x5 x43 : DV) (h0 : Hp) : aH :=
 cDt r n x4 x5 x43 h0
noncomputable def aLo (r : RT) (n : Nat) (x4 x5 : DV) (h0 : Hp) : aH :=
 aUn r n x4 x5 (aE 0) h0
noncomputable def aZr (r : RT) (n : Nat) (x4 : DV) (h0 : Hp) : aH :=
 bnd (cN 1 8 [(aE 0)] (aE 18) (aE 18) h0) fun v1 h1 =>
 bnd (dX h1) fun v2 h2 =>
 bnd (dX h2) fun v3 h3 =>
 bnd (bB [.p0, .l0, .m0, .m0] [(0, 1, x4), (1, 1, v1), (2, 1, v2), (3, 1, v3)] h3) fun v4 h4 =>
 bnd (bR v4 h4) fun v5 h5 =>
  aLo r n x4 v5 h5
noncomputable def bUi (r : RT) (n : Nat) (x0 x4 : DV) (h0 : Hp) : aH :=
 bnd (pEq (.pointer 73) true x4 .p0 h0) fun v1 h1 =>
 aT v1 (
 some (.t [.p0, (aE 1)], h1)) (
 bnd (aD .lss x0 (aE 16384) h1) fun v2 h2 =>
 aT v2 (
 some (.t [.p0, (aE 4)], h2)) (
   aZr r n x4 h2))
noncomputable def bSc (r : RT) (n : Nat) (x0 : DV) (h0 : Hp) : aH :=
 bnd (aTv [x0] h0) fun v1 h1 =>
  bUi r n x0 v1 h1
noncomputable def s40 (r : RT) (n : Nat) (x0 : DV) (h0 : Hp) : aH :=
 bSc r n x0 h0
noncomputable abbrev c40 : Code := cf Tryz.f40
noncomputable abbrev aVt : Code := cR c40
noncomputable abbrev aWj : Code := cR aVt
noncomputable abbrev aZv : Code := cR aWj
noncomputable abbrev bCd : Code := cR aZv
noncomputable abbrev aYf : Code := cR bCd
noncomputable abbrev bDv : Code := cR aYf
noncomputable abbrev dOx : Code := cR bDv
noncomputable abbrev aMd : Code := cL bDv
noncomputable abbrev bTx : Code := cR aMd
noncomputable abbrev aGp : Code := cL bTx
noncomputable abbrev nW : Code := cL aGp
noncomputable abbrev bYs : Code := cL aMd
noncomputable abbrev yM : Code := cL aYf
noncomputable abbrev aVm : Code := cR yM
noncomputable abbrev aEa : Code := cL aVm
noncomputable abbrev kA : Code := cL aEa
noncomputable abbrev aGr : Code := cR kA
noncomputable abbrev aCj : Code := cR aGr
noncomputable abbrev dGa : Code := cR aCj
noncomputable abbrev aEt : Code := cL aCj
noncomputable abbrev aJe : Code := cL aEt
noncomputable abbrev aIv : Code := cR aJe
noncomputable abbrev aDj : Code := cR aIv
noncomputable abbrev aFk : Code := cR aDj
noncomputable abbrev aJp : Code := cR aFk
noncomputable abbrev aIu : Code := cR aJp
noncomputable abbrev aLg : Code := cR aIu
noncomputable abbrev aFb : Code := cR aLg
noncomputable abbrev aIg : Code := cR aFb
noncomputable abbrev dHs : Code := cR aIg
noncomputable abbrev yR : Code := cL aIg
noncomputable abbrev aSb : Code := cR yR
noncomputable abbrev aGg : Code := cL aSb
noncomputable abbrev oD : Code := cL aGg
noncomputable abbrev aOu : Code := cL yR
noncomputable abbrev bZj : Code := cL aFb
noncomputable abbrev aQf : Code := cL aLg
noncomputable abbrev bUt : Code := cL aIu
noncomputable abbrev cBc : Code := cL aJp
noncomputable abbrev bTl : Code := cL aFk
noncomputable abbrev bNp : Code := cL aDj
noncomputable abbrev cBx : Code := cL aIv
noncomputable abbrev aTu : Code := cL aJe
noncomputable abbrev bMs : Code := cL aGr
noncomputable abbrev cCp : Code := cL kA
noncomputable abbrev bTu : Code := cL yM
noncomputable abbrev wL : Code := cL bCd
noncomputable abbrev aTa : Code := cR wL
noncomputable abbrev aCd : Code := cL aTa
noncomputable abbrev nX : Code := cL aCd
noncomputable abbrev bJc : Code := cL wL
noncomputable abbrev aSa : Code := cL aZv
noncomputable abbrev bJn : Code := cL aWj
noncomputable abbrev bVh : Code := cL aVt
noncomputable abbrev bXq : Code := cL c40
noncomputable abbrev r40 : K := aP CF Tryz.f40
noncomputable def D40 (r : RT) (n : Nat) (c : Code) (X : Nat → K) (k : K) : K := aN CF r 179 n c X r40 k
theorem bVv : D40 r n dOx x0 r40 = (K1 (eZ r n) 5) :=
 (by kernel_rfl)
theorem aYb (kk9 : dM) : D40 r n nW (xs x0 7 (K1 (eZ r n) 5)) (K4 kk9 5 155 156 157) = (K4 (kB r n kk9) 5 155 156 157) :=
 (by kernel_rfl)
theorem cFm (m : Nat) : aM (fun kk => D40 r n nW (xs x0 7 (K1 (eZ r n) 5)) kk) m = (K4 (kG r n m) 5 155 156 157) := by
 induction m with
 | zero => exact (by kernel_rfl : aM (fun kk => D40 r n nW (xs x0 7 (K1 (eZ r n) 5)) kk) 0 = (K4 (kG r n 0) 5 155 156 157))
 | succ m ih =>
  refine (by kernel_rfl : aM (fun kk => D40 r n nW (xs x0 7 (K1 (eZ r n) 5)) kk) (m + 1) = D40 r n nW (xs x0 7 (K1 (eZ r n) 5)) (aM (fun kk => D40 r n nW (xs x0 7 (K1 (eZ r n) 5)) kk) m)).trans ?_
  rw [ih]
  exact (aYb r n (kG r n m)).trans (by kernel_rfl)
theorem bKr : D40 r n aGp (xs x0 7 (K1 (eZ r n) 5)) (K1 (eZ r n) 5) = (K4 (bCi r n) 5 155 156 157) :=
 (by kernel_rfl : D40 r n aGp (xs x0 7 (K1 (eZ r n) 5)) (K1 (eZ r n) 5) = aM (fun kk => D40 r n nW (xs x0 7 (K1 (eZ r n) 5)) kk) n).trans ((cFm r n n).trans (by kernel_rfl))
theorem dGv : D40 r n bTx x0 (K1 (eZ r n) 5) = (K4 (bOe r n) 5 155 156 157) :=
 (by kernel_rfl : D40 r n bTx x0 (K1 (eZ r n) 5) = D40 r n aGp (xs x0 7 (K1 (eZ r n) 5)) (K1 (eZ r n) 5)).trans
 ((bKr r n).trans (by kernel_rfl))
theorem cTs : D40 r n bDv x0 r40 = D40 r n aMd x0 (K1 (eZ r n) 5) :=
 congrArg (fun k => D40 r n aMd x0 k) (bVv r n)
theorem cMt : D40 r n aMd x0 (K1 (eZ r n) 5) = D40 r n bYs x0 (K4 (bOe r n) 5 155 156 157) :=
 congrArg (fun k => D40 r n bYs x0 k) (dGv r n)
theorem dAj : D40 r n bDv x0 r40 = (K1 (bF r n) 5) :=
 (cTs r n).trans
 ((cMt r n).trans
 ((by kernel_rfl)))
theorem cUi (kk11 : cG) : D40 r n dGa (xs x0 3 (K1 (bF r n) 5)) (K5 kk11 4 5 59 60 61) = (K5 (bA r n kk11) 4 5 59 60 61) :=
 (by kernel_rfl)
theorem cGs (kk11 : cG) : D40 r n dHs (xs (xs x0 3 (K1 (bF r n) 5)) 4 (K5 (bA r n kk11) 4 5 59 60 61)) (K5 (bA r n kk11) 4 5 59 60 61) = (K7 (eT r n kk11) 4 5 8 9 59 60 61) :=
 (by kernel_rfl)
theorem cAa (kk11 : cG) (kk25 : aOp) : D40 r n oD (xs (xs (xs x0 3 (K1 (bF r n) 5)) 4 (K5 (bA r n kk11) 4 5 59 60 61)) 5 (K7 (eT r n kk11) 4 5 8 9 59 60 61)) (K10 kk25 4 5 8 9 59 60 61 117 118 119) = (K10 (aWz r n kk11 kk25) 4 5 8 9 59 60 61 117 118 119) :=
 (by kernel_rfl)
theorem cCl (kk11 : cG) (m : Nat) : aM (fun kk => D40 r n oD (xs (xs (xs x0 3 (K1 (bF r n) 5)) 4 (K5 (bA r n kk11) 4 5 59 60 61)) 5 (K7 (eT r n kk11) 4 5 8 9 59 60 61)) kk) m = (K10 (uS r n kk11 m) 4 5 8 9 59 60 61 117 118 119) := by
 induction m with
 | zero => exact (by kernel_rfl : aM (fun kk => D40 r n oD (xs (xs (xs x0 3 (K1 (bF r n) 5)) 4 (K5 (bA r n kk11) 4 5 59 60 61)) 5 (K7 (eT r n kk11) 4 5 8 9 59 60 61)) kk) 0 = (K10 (uS r n kk11 0) 4 5 8 9 59 60 61 117 118 119))
 | succ m ih =>
  refine (by kernel_rfl : aM (fun kk => D40 r n oD (xs (xs (xs x0 3 (K1 (bF r n) 5)) 4 (K5 (bA r n kk11) 4 5 59 60 61)) 5 (K7 (eT r n kk11) 4 5 8 9 59 60 61)) kk) (m + 1) = D40 r n oD (xs (xs (xs x0 3 (K1 (bF r n) 5)) 4 (K5 (bA r n kk11) 4 5 59 60 61)) 5 (K7 (eT r n kk11) 4 5 8 9 59 60 61)) (aM (fun kk => D40 r n oD (xs (xs (xs x0 3 (K1 (bF r n) 5)) 4 (K5 (bA r n kk11) 4 5 59 60 61)) 5 (K7 (eT r n kk11) 4 5 8 9 59 60 61)) kk) m)).trans ?_
  rw [ih]
  exact (cAa r n kk11 (uS r n kk11 m)).trans (by kernel_rfl)
theorem cLb (kk11 : cG) : D40 r n aGg (xs (xs (xs x0 3 (K1 (bF r n) 5)) 4 (K5 (bA r n kk11) 4 5 59 60 61)) 5 (K7 (eT r n kk11) 4 5 8 9 59 60 61)) (K7 (eT r n kk11) 4 5 8 9 59 60 61) = (K10 (bJs r n kk11) 4 5 8 9 59 60 61 117 118 119) :=
 (by kernel_rfl : D40 r n aGg (xs (xs (xs x0 3 (K1 (bF r n) 5)) 4 (K5 (bA r n kk11) 4 5 59 60 61)) 5 (K7 (eT r n kk11) 4 5 8 9 59 60 61)) (K7 (eT r n kk11) 4 5 8 9 59 60 61) = aM (fun kk => D40 r n oD (xs (xs (xs x0 3 (K1 (bF r n) 5)) 4 (K5 (bA r n kk11) 4 5 59 60 61)) 5 (K7 (eT r n kk11) 4 5 8 9 59 60 61)) kk) n).trans ((cCl r n kk11 n).trans (by kernel_rfl))
theorem cNk (kk11 : cG) : D40 r n aSb (xs (xs x0 3 (K1 (bF r n) 5)) 4 (K5 (bA r n kk11) 4 5 59 60 61)) (K7 (eT r n kk11) 4 5 8 9 59 60 61) = (K10 (xH r n kk11) 4 5 8 9 59 60 61 117 118 119) :=
 (by kernel_rfl : D40 r n aSb (xs (xs x0 3 (K1 (bF r n) 5)) 4 (K5 (bA r n kk11) 4 5 59 60 61)) (K7 (eT r n kk11) 4 5 8 9 59 60 61) = D40 r n aGg (xs (xs (xs x0 3 (K1 (bF r n) 5)) 4 (K5 (bA r n kk11) 4 5 59 60 61)) 5 (K7 (eT r n kk11) 4 5 8 9 59 60 61)) (K7 (eT r n kk11) 4 5 8 9 59 60 61)).trans
 ((cLb r n kk11).trans (by kernel_rfl))
theorem bXo (kk11 : cG) : D40 r n aIg (xs (xs x0 3 (K1 (bF r n) 5)) 4 (K5 (bA r n kk11) 4 5 59 60 61)) (K5 (bA r n kk11) 4 5 59 60 61) = D40 r n yR (xs (xs x0 3 (K1 (bF r n) 5)) 4 (K5 (bA r n kk11) 4 5 59 60 61)) (K7 (eT r n kk11) 4 5 8 9 59 60 61) :=
 congrArg (fun k => D40 r n yR (xs (xs x0 3 (K1 (bF r n) 5)) 4 (K5 (bA r n kk11) 4 5 59 60 61)) k) (cGs r n kk11)
theorem bRn (kk11 : cG) : D40 r n yR (xs (xs x0 3 (K1 (bF r n) 5)) 4 (K5 (bA r n kk11) 4 5 59 60 61)) (K7 (eT r n kk11) 4 5 8 9 59 60 61) = D40 r n aOu (xs (xs x0 3 (K1 (bF r n) 5)) 4 (K5 (bA r n kk11) 4 5 59 60 61)) (K10 (xH r n kk11) 4 5 8 9 59 60 61 117 118 119) :=
 congrArg (fun k => D40 r n aOu (xs (xs x0 3 (K1 (bF r n) 5)) 4 (K5 (bA r n kk11) 4 5 59 60 61)) k) (cNk r n kk11)
theorem cAx (kk11 : cG) (q0 : aOp) (q1 : TT1) (q2 : cG) : D40 r n aOu (xs (xs x0 3 (K1 q1 5)) 4 (K5 q2 4 5 59 60 61)) (K10 q0 4 5 8 9 59 60 61 117 118 119) = fun (env : aV) (h : Hp) =>
 bnd (r 71 [(env 13)] (resv 1 h)) fun v1 h1 =>
 bnd (aB 2 (env 8) h1) fun v2 h2 =>
 bnd (aA v2 h2) fun v3 h3 =>
 cnd (bI (aA v2 (resv 1 h)) v3 && true) (
 bnd (r 71 [v3] h3) fun v4 h4 =>
 bnd (bL (bZ 0 h.next) [(aE 0), (aE 0), (aE 0), (aE 0), (aE 0), (aE 0)] 6 [(0, 1, (env 10)), (1, 1, (env 12)), (2, 1, v1), (3, 1, (env 19)), (4, 1, (aE 0)), (5, 1, v4)] h4) fun v5 h5 =>
 bnd (cA v5 h5) fun v6 h6 =>
  q0 (env 4) (env 5) (env 8) (env 9) (env 59) (env 60) (env 61) v5 v6 (aE 0) h6) := by kernel_rfl
theorem bHg (kk11 : cG) : (fun (env : aV) (h : Hp) =>
 bnd (r 71 [(env 13)] (resv 1 h)) fun v1 h1 =>
 bnd (aB 2 (env 8) h1) fun v2 h2 =>
 bnd (aA v2 h2) fun v3 h3 =>
 cnd (bI (aA v2 (resv 1 h)) v3 && true) (
 bnd (r 71 [v3] h3) fun v4 h4 =>
 bnd (bL (bZ 0 h.next) [(aE 0), (aE 0), (aE 0), (aE 0), (aE 0), (aE 0)] 6 [(0, 1, (env 10)), (1, 1, (env 12)), (2, 1, v1), (3, 1, (env 19)), (4, 1, (aE 0)), (5, 1, v4)] h4) fun v5 h5 =>
 bnd (cA v5 h5) fun v6 h6 =>
  xH r n kk11 (env 4) (env 5) (env 8) (env 9) (env 59) (env 60) (env 61) v5 v6 (aE 0) h6)) = (K11 (aJg r n kk11) 4 5 8 9 10 12 13 19 59 60 61) := by kernel_rfl
theorem cJz (kk11 : cG) : D40 r n aIg (xs (xs x0 3 (K1 (bF r n) 5)) 4 (K5 (bA r n kk11) 4 5 59 60 61)) (K5 (bA r n kk11) 4 5 59 60 61) = (K11 (aJg r n kk11) 4 5 8 9 10 12 13 19 59 60 61) :=
 (bXo r n kk11).trans
 ((bRn r n kk11).trans
 ((cAx r n kk11 (xH r n kk11) (bF r n) (bA r n kk11)).trans (bHg r n kk11)))
theorem bTo (kk11 : cG) : D40 r n aFb (xs (xs x0 3 (K1 (bF r n) 5)) 4 (K5 (bA r n kk11) 4 5 59 60 61)) (K5 (bA r n kk11) 4 5 59 60 61) = D40 r n bZj (xs (xs x0 3 (K1 (bF r n) 5)) 4 (K5 (bA r n kk11) 4 5 59 60 61)) (K11 (aJg r n kk11) 4 5 8 9 10 12 13 19 59 60 61) :=
 congrArg (fun k => D40 r n bZj (xs (xs x0 3 (K1 (bF r n) 5)) 4 (K5 (bA r n kk11) 4 5 59 60 61)) k) (cJz r n kk11)
theorem cHi (kk11 : cG) : D40 r n aFb (xs (xs x0 3 (K1 (bF r n) 5)) 4 (K5 (bA r n kk11) 4 5 59 60 61)) (K5 (bA r n kk11) 4 5 59 60 61) = (K11 (oF r n kk11) 4 5 8 9 10 12 13 14 59 60 61) :=
 (bTo r n kk11).trans
 ((by kernel_rfl))
theorem bTg (kk11 : cG) : D40 r n aLg (xs (xs x0 3 (K1 (bF r n) 5)) 4 (K5 (bA r n kk11) 4 5 59 60 61)) (K5 (bA r n kk11) 4 5 59 60 61) = D40 r n aQf (xs (xs x0 3 (K1 (bF r n) 5)) 4 (K5 (bA r n kk11) 4 5 59 60 61)) (K11 (oF r n kk11) 4 5 8 9 10 12 13 14 59 60 61) :=
 congrArg (fun k => D40 r n aQf (xs (xs x0 3 (K1 (bF r n) 5)) 4 (K5 (bA r n kk11) 4 5 59 60 61)) k) (cHi r n kk11)
theorem bRo (kk11 : cG) (q0 : dIu) (q1 : TT1) (q2 : cG) : D40 r n aQf (xs (xs x0 3 (K1 q1 5)) 4 (K5 q2 4 5 59 60 61)) (K11 q0 4 5 8 9 10 12 13 14 59 60 61) = fun (env : aV) (h : Hp) =>
 bnd (aD .eql (env 7) (aE 15) h) fun v1 h1 =>
 aT v1 (
 bnd (r 44 [(env 5), (.s [115, 101, 108, 101, 99, 116, 111, 114])] h1) fun v2 h2 =>
 bnd (aC 0 v2 h2) fun v3 h3 =>
 bnd (aC 1 v2 h3) fun v4 h4 =>
 bnd (r 44 [(env 5), (.s [97, 114, 103, 117, 109, 101, 110, 116, 115])] h4) fun v5 h5 =>
 bnd (aC 0 v5 h5) fun v6 h6 =>
 bnd (aC 1 v5 h6) fun v7 h7 =>
 bnd (aL [(aE 0), (aE 0)] 2 [(0, 1, v3), (1, 1, v6)] h7) fun v8 h8 =>
      q0 (env 4) (env 5) (env 8) (env 9) (env 10) (env 12) (aE 2) v8 (env 59) (env 60) (env 61) h8) (
      q0 (env 4) (env 5) (env 8) (env 9) (env 10) (env 12) (env 13) (env 14) (env 59) (env 60) (env 61) h1) := by kernel_rfl
theorem bHc (kk11 : cG) : (fun (env : aV) (h : Hp) =>
 bnd (aD .eql (env 7) (aE 15) h) fun v1 h1 =>
 aT v1 (
 bnd (r 44 [(env 5), (.s [115, 101, 108, 101, 99, 116, 111, 114])] h1) fun v2 h2 =>
 bnd (aC 0 v2 h2) fun v3 h3 =>
 bnd (aC 1 v2 h3) fun v4 h4 =>
 bnd (r 44 [(env 5), (.s [97, 114, 103, 117, 109, 101, 110, 116, 115])] h4) fun v5 h5 =>
 bnd (aC 0 v5 h5) fun v6 h6 =>
 bnd (aC 1 v5 h6) fun v7 h7 =>
 bnd (aL [(aE 0), (aE 0)] 2 [(0, 1, v3), (1, 1, v6)] h7) fun v8 h8 =>
      oF r n kk11 (env 4) (env 5) (env 8) (env 9) (env 10) (env 12) (aE 2) v8 (env 59) (env 60) (env 61) h8) (
      oF r n kk11 (env 4) (env 5) (env 8) (env 9) (env 10) (env 12) (env 13) (env 14) (env 59) (env 60) (env 61) h1)) = (K12 (zB r n kk11) 4 5 7 8 9 10 12 13 14 59 60 61) := by kernel_rfl
theorem cNm (kk11 : cG) : D40 r n aLg (xs (xs x0 3 (K1 (bF r n) 5)) 4 (K5 (bA r n kk11) 4 5 59 60 61)) (K5 (bA r n kk11) 4 5 59 60 61) = (K12 (zB r n kk11) 4 5 7 8 9 10 12 13 14 59 60 61) :=
 (bTg r n kk11).trans
 ((bRo r n kk11 (oF r n kk11) (bF r n) (bA r n kk11)).trans (bHc r n kk11))
theorem bPn (kk11 : cG) : D40 r n aIu (xs (xs x0 3 (K1 (bF r n) 5)) 4 (K5 (bA r n kk11) 4 5 59 60 61)) (K5 (bA r n kk11) 4 5 59 60 61) = D40 r n bUt (xs (xs x0 3 (K1 (bF r n) 5)) 4 (K5 (bA r n kk11) 4 5 59 60 61)) (K12 (zB r n kk11) 4 5 7 8 9 10 12 13 14 59 60 61) :=
 congrArg (fun k => D40 r n bUt (xs (xs x0 3 (K1 (bF r n) 5)) 4 (K5 (bA r n kk11) 4 5 59 60 61)) k) (cNm r n kk11)
theorem cJt (kk11 : cG) : D40 r n aIu (xs (xs x0 3 (K1 (bF r n) 5)) 4 (K5 (bA r n kk11) 4 5 59 60 61)) (K5 (bA r n kk11) 4 5 59 60 61) = (K12 (aTs r n kk11) 4 5 7 8 9 10 12 13 14 59 60 61) :=
 (bPn r n kk11).trans
 ((by kernel_rfl))
theorem bHq (kk11 : cG) : D40 r n aJp (xs (xs x0 3 (K1 (bF r n) 5)) 4 (K5 (bA r n kk11) 4 5 59 60 61)) (K5 (bA r n kk11) 4 5 59 60 61) = D40 r n cBc (xs (xs x0 3 (K1 (bF r n) 5)) 4 (K5 (bA r n kk11) 4 5 59 60 61)) (K12 (aTs r n kk11) 4 5 7 8 9 10 12 13 14 59 60 61) :=
 congrArg (fun k => D40 r n cBc (xs (xs x0 3 (K1 (bF r n) 5)) 4 (K5 (bA r n kk11) 4 5 59 60 61)) k) (cJt r n kk11)
theorem cEn (kk11 : cG) : D40 r n aJp (xs (xs x0 3 (K1 (bF r n) 5)) 4 (K5 (bA r n kk11) 4 5 59 60 61)) (K5 (bA r n kk11) 4 5 59 60 61) = (K9 (aUu r n kk11) 4 5 7 8 9 10 59 60 61) :=
 (bHq r n kk11).trans
 ((by kernel_rfl))
theorem bHx (kk11 : cG) : D40 r n aFk (xs (xs x0 3 (K1 (bF r n) 5)) 4 (K5 (bA r n kk11) 4 5 59 60 61)) (K5 (bA r n kk11) 4 5 59 60 61) = D40 r n bTl (xs (xs x0 3 (K1 (bF r n) 5)) 4 (K5 (bA r n kk11) 4 5 59 60 61)) (K9 (aUu r n kk11) 4 5 7 8 9 10 59 60 61) :=
 congrArg (fun k => D40 r n bTl (xs (xs x0 3 (K1 (bF r n) 5)) 4 (K5 (bA r n kk11) 4 5 59 60 61)) k) (cEn r n kk11)
theorem cIu (kk11 : cG) : D40 r n aFk (xs (xs x0 3 (K1 (bF r n) 5)) 4 (K5 (bA r n kk11) 4 5 59 60 61)) (K5 (bA r n kk11) 4 5 59 60 61) = (K8 (aOo r n kk11) 4 5 7 8 9 59 60 61) :=
 (bHx r n kk11).trans
 ((by kernel_rfl))
theorem bEz (kk11 : cG) : D40 r n aDj (xs (xs x0 3 (K1 (bF r n) 5)) 4 (K5 (bA r n kk11) 4 5 59 60 61)) (K5 (bA r n kk11) 4 5 59 60 61) = D40 r n bNp (xs (xs x0 3 (K1 (bF r n) 5)) 4 (K5 (bA r n kk11) 4 5 59 60 61)) (K8 (aOo r n kk11) 4 5 7 8 9 59 60 61) :=
 congrArg (fun k => D40 r n bNp (xs (xs x0 3 (K1 (bF r n) 5)) 4 (K5 (bA r n kk11) 4 5 59 60 61)) k) (cIu r n kk11)
theorem cLw (kk11 : cG) : D40 r n aDj (xs (xs x0 3 (K1 (bF r n) 5)) 4 (K5 (bA r n kk11) 4 5 59 60 61)) (K5 (bA r n kk11) 4 5 59 60 61) = (K8 (aSf r n kk11) 4 5 7 8 9 59 60 61) :=
 (bEz r n kk11).trans
 ((by kernel_rfl))
theorem bFm (kk11 : cG) : D40 r n aIv (xs (xs x0 3 (K1 (bF r n) 5)) 4 (K5 (bA r n kk11) 4 5 59 60 61)) (K5 (bA r n kk11) 4 5 59 60 61) = D40 r n cBx (xs (xs x0 3 (K1 (bF r n) 5)) 4 (K5 (bA r n kk11) 4 5 59 60 61)) (K8 (aSf r n kk11) 4 5 7 8 9 59 60 61) :=
 congrArg (fun k => D40 r n cBx (xs (xs x0 3 (K1 (bF r n) 5)) 4 (K5 (bA r n kk11) 4 5 59 60 61)) k) (cLw r n kk11)
theorem cJy (kk11 : cG) : D40 r n aIv (xs (xs x0 3 (K1 (bF r n) 5)) 4 (K5 (bA r n kk11) 4 5 59 60 61)) (K5 (bA r n kk11) 4 5 59 60 61) = (K7 (vQ r n kk11) 4 5 7 8 59 60 61) :=
 (bFm r n kk11).trans
 ((by kernel_rfl))
theorem bFa (kk11 : cG) : D40 r n aCj (xs x0 3 (K1 (bF r n) 5)) (K5 kk11 4 5 59 60 61) = D40 r n aEt (xs x0 3 (K1 (bF r n) 5)) (K5 (bA r n kk11) 4 5 59 60 61) :=
 congrArg (fun k => D40 r n aEt (xs x0 3 (K1 (bF r n) 5)) k) (cUi r n kk11)
theorem bEc (kk11 : cG) : D40 r n aJe (xs (xs x0 3 (K1 (bF r n) 5)) 4 (K5 (bA r n kk11) 4 5 59 60 61)) (K5 (bA r n kk11) 4 5 59 60 61) = D40 r n aTu (xs (xs x0 3 (K1 (bF r n) 5)) 4 (K5 (bA r n kk11) 4 5 59 60 61)) (K7 (vQ r n kk11) 4 5 7 8 59 60 61) :=
 congrArg (fun k => D40 r n aTu (xs (xs x0 3 (K1 (bF r n) 5)) 4 (K5 (bA r n kk11) 4 5 59 60 61)) k) (cJy r n kk11)
theorem bHw (kk11 : cG) (q0 : TT7) (q1 : TT1) (q2 : cG) : D40 r n aTu (xs (xs x0 3 (K1 q1 5)) 4 (K5 q2 4 5 59 60 61)) (K7 q0 4 5 7 8 59 60 61) = fun (env : aV) (h : Hp) =>
 bnd (aJ 3 (env 59) (env 61) h) fun v1 h1 =>
 bnd (aK 3 v1 h1) fun v2 h2 =>
 bnd (bN [(.s []), (aE 0), (aE 0)] h2) fun v3 h3 =>
 bnd (aG 3 v3 v2 h3) fun _ h4 =>
  q0 (env 4) (env 5) (env 61) v3 (env 59) (env 60) (env 61) h4 := by kernel_rfl
theorem aUf (kk11 : cG) : (fun (env : aV) (h : Hp) =>
 bnd (aJ 3 (env 59) (env 61) h) fun v1 h1 =>
 bnd (aK 3 v1 h1) fun v2 h2 =>
 bnd (bN [(.s []), (aE 0), (aE 0)] h2) fun v3 h3 =>
 bnd (aG 3 v3 v2 h3) fun _ h4 =>
  vQ r n kk11 (env 4) (env 5) (env 61) v3 (env 59) (env 60) (env 61) h4) = (K5 (aGe r n kk11) 4 5 59 60 61) := by kernel_rfl
theorem cUb (kk11 : cG) : D40 r n aCj (xs x0 3 (K1 (bF r n) 5)) (K5 kk11 4 5 59 60 61) = (K5 (aGe r n kk11) 4 5 59 60 61) :=
 (bFa r n kk11).trans
 ((by kernel_rfl : D40 r n aEt (xs x0 3 (K1 (bF r n) 5)) (K5 (bA r n kk11) 4 5 59 60 61) = D40 r n aJe (xs (xs x0 3 (K1 (bF r n) 5)) 4 (K5 (bA r n kk11) 4 5 59 60 61)) (K5 (bA r n kk11) 4 5 59 60 61)).trans
 ((bEc r n kk11).trans
 ((bHw r n kk11 (vQ r n kk11) (bF r n) (bA r n kk11)).trans (aUf r n kk11))))
theorem bIb (kk11 : cG) : D40 r n aGr (xs x0 3 (K1 (bF r n) 5)) (K5 kk11 4 5 59 60 61) = D40 r n bMs (xs x0 3 (K1 (bF r n) 5)) (K5 (aGe r n kk11) 4 5 59 60 61) :=
 congrArg (fun k => D40 r n bMs (xs x0 3 (K1 (bF r n) 5)) k) (cUb r n kk11)
theorem cQg (kk11 : cG) : D40 r n aGr (xs x0 3 (K1 (bF r n) 5)) (K5 kk11 4 5 59 60 61) = (K6 (aPb r n kk11) 4 5 59 60 61 62) :=
 (bIb r n kk11).trans
 ((by kernel_rfl))
theorem bIl (kk11 : cG) : D40 r n kA (xs x0 3 (K1 (bF r n) 5)) (K5 kk11 4 5 59 60 61) = D40 r n cCp (xs x0 3 (K1 (bF r n) 5)) (K6 (aPb r n kk11) 4 5 59 60 61 62) :=
 congrArg (fun k => D40 r n cCp (xs x0 3 (K1 (bF r n) 5)) k) (cQg r n kk11)
theorem bUn (kk11 : cG) : D40 r n kA (xs x0 3 (K1 (bF r n) 5)) (K5 kk11 4 5 59 60 61) = (K5 (bDx r n kk11) 4 5 59 60 61) :=
 (bIl r n kk11).trans
 ((by kernel_rfl))
theorem bOg (m : Nat) : aM (fun kk => D40 r n kA (xs x0 3 (K1 (bF r n) 5)) kk) m = (K5 (tH r n m) 4 5 59 60 61) := by
 induction m with
 | zero => exact (by kernel_rfl : aM (fun kk => D40 r n kA (xs x0 3 (K1 (bF r n) 5)) kk) 0 = (K5 (tH r n 0) 4 5 59 60 61))
 | succ m ih =>
  refine (by kernel_rfl : aM (fun kk => D40 r n kA (xs x0 3 (K1 (bF r n) 5)) kk) (m + 1) = D40 r n kA (xs x0 3 (K1 (bF r n) 5)) (aM (fun kk => D40 r n kA (xs x0 3 (K1 (bF r n) 5)) kk) m)).trans ?_
  rw [ih]
  exact (bUn r n (tH r n m)).trans (by kernel_rfl)
theorem cNb : D40 r n aEa (xs x0 3 (K1 (bF r n) 5)) (K1 (bF r n) 5) = (K5 (bUg r n) 4 5 59 60 61) :=
 (by kernel_rfl : D40 r n aEa (xs x0 3 (K1 (bF r n) 5)) (K1 (bF r n) 5) = aM (fun kk => D40 r n kA (xs x0 3 (K1 (bF r n) 5)) kk) n).trans ((bOg r n n).trans (by kernel_rfl))
theorem cQd : D40 r n aVm x0 (K1 (bF r n) 5) = (K5 (aSr r n) 4 5 59 60 61) :=
 (by kernel_rfl : D40 r n aVm x0 (K1 (bF r n) 5) = D40 r n aEa (xs x0 3 (K1 (bF r n) 5)) (K1 (bF r n) 5)).trans
 ((cNb r n).trans (by kernel_rfl))
theorem bSb : D40 r n aYf x0 r40 = D40 r n yM x0 (K1 (bF r n) 5) :=
 congrArg (fun k => D40 r n yM x0 k) (dAj r n)
theorem bNc : D40 r n yM x0 (K1 (bF r n) 5) = D40 r n bTu x0 (K5 (aSr r n) 4 5 59 60 61) :=
 congrArg (fun k => D40 r n bTu x0 k) (cQd r n)
theorem dGz : D40 r n aYf x0 r40 = (K2 (gU r n) 4 5) :=
 (bSb r n).trans
 ((bNc r n).trans
 ((by kernel_rfl)))
theorem bXn (kk27 : nA) : D40 r n nX (xs x0 1 (K2 (gU r n) 4 5)) (K3 kk27 4 5 43) = (K3 (aXp r n kk27) 4 5 43) :=
 (by kernel_rfl)
theorem cDv (m : Nat) : aM (fun kk => D40 r n nX (xs x0 1 (K2 (gU r n) 4 5)) kk) m = (K3 (uV r n m) 4 5 43) := by
 induction m with
 | zero => exact (by kernel_rfl : aM (fun kk => D40 r n nX (xs x0 1 (K2 (gU r n) 4 5)) kk) 0 = (K3 (uV r n 0) 4 5 43))
 | succ m ih =>
  refine (by kernel_rfl : aM (fun kk => D40 r n nX (xs x0 1 (K2 (gU r n) 4 5)) kk) (m + 1) = D40 r n nX (xs x0 1 (K2 (gU r n) 4 5)) (aM (fun kk => D40 r n nX (xs x0 1 (K2 (gU r n) 4 5)) kk) m)).trans ?_
  rw [ih]
  exact (bXn r n (uV r n m)).trans (by kernel_rfl)
theorem cOw : D40 r n aCd (xs x0 1 (K2 (gU r n) 4 5)) (K2 (gU r n) 4 5) = (K3 (cDt r n) 4 5 43) :=
 (by kernel_rfl : D40 r n aCd (xs x0 1 (K2 (gU r n) 4 5)) (K2 (gU r n) 4 5) = aM (fun kk => D40 r n nX (xs x0 1 (K2 (gU r n) 4 5)) kk) n).trans ((cDv r n n).trans (by kernel_rfl))
theorem cOe : D40 r n aTa x0 (K2 (gU r n) 4 5) = (K3 (aUn r n) 4 5 43) :=
 (by kernel_rfl : D40 r n aTa x0 (K2 (gU r n) 4 5) = D40 r n aCd (xs x0 1 (K2 (gU r n) 4 5)) (K2 (gU r n) 4 5)).trans
 ((cOw r n).trans (by kernel_rfl))
theorem bZm : D40 r n bCd x0 r40 = D40 r n wL x0 (K2 (gU r n) 4 5) :=
 congrArg (fun k => D40 r n wL x0 k) (dGz r n)
theorem bXf : D40 r n wL x0 (K2 (gU r n) 4 5) = D40 r n bJc x0 (K3 (aUn r n) 4 5 43) :=
 congrArg (fun k => D40 r n bJc x0 k) (cOe r n)
theorem cYt : D40 r n bCd x0 r40 = (K2 (aLo r n) 4 5) :=
 (bZm r n).trans
 ((bXf r n).trans
 ((by kernel_rfl)))
theorem bMv : D40 r n aZv x0 r40 = D40 r n aSa x0 (K2 (aLo r n) 4 5) :=
 congrArg (fun k => D40 r n aSa x0 k) (cYt r n)
theorem bPl (q0 : gO) : D40 r n aSa x0 (K2 q0 4 5) = fun (env : aV) (h : Hp) =>
 bnd (cN 1 8 [(aE 0)] (aE 18) (aE 18) h) fun v1 h1 =>
 bnd (dX h1) fun v2 h2 =>
 bnd (dX h2) fun v3 h3 =>
 bnd (bB [.p0, .l0, .m0, .m0] [(0, 1, (env 4)), (1, 1, v1), (2, 1, v2), (3, 1, v3)] h3) fun v4 h4 =>
 bnd (bR v4 h4) fun v5 h5 =>
  q0 (env 4) v5 h5 := by kernel_rfl
theorem bFu : (fun (env : aV) (h : Hp) =>
 bnd (cN 1 8 [(aE 0)] (aE 18) (aE 18) h) fun v1 h1 =>
 bnd (dX h1) fun v2 h2 =>
 bnd (dX h2) fun v3 h3 =>
 bnd (bB [.p0, .l0, .m0, .m0] [(0, 1, (env 4)), (1, 1, v1), (2, 1, v2), (3, 1, v3)] h3) fun v4 h4 =>
 bnd (bR v4 h4) fun v5 h5 =>
  aLo r n (env 4) v5 h5) = (K1 (aZr r n) 4) := by kernel_rfl
theorem dFu : D40 r n aZv x0 r40 = (K1 (aZr r n) 4) :=
 (bMv r n).trans
 ((bPl r n (aLo r n)).trans (bFu r n))
theorem bKz : D40 r n aWj x0 r40 = D40 r n bJn x0 (K1 (aZr r n) 4) :=
 congrArg (fun k => D40 r n bJn x0 k) (dFu r n)
theorem dHp : D40 r n aWj x0 r40 = (K2 (bUi r n) 0 4) :=
 (bKz r n).trans
 ((by kernel_rfl))
theorem bSy : D40 r n aVt x0 r40 = D40 r n bVh x0 (K2 (bUi r n) 0 4) :=
 congrArg (fun k => D40 r n bVh x0 k) (dHp r n)
theorem dFa : D40 r n aVt x0 r40 = (K1 (bSc r n) 0) :=
 (bSy r n).trans
 ((by kernel_rfl))
theorem cZv : D40 r n c40 x0 r40 = D40 r n bXq x0 (K1 (bSc r n) 0) :=
 congrArg (fun k => D40 r n bXq x0 k) (dFa r n)
theorem dSx : D40 r n c40 x0 r40 = (K1 (s40 r n) 0) :=
 (cZv r n).trans
 ((by kernel_rfl))
theorem dNl : aF CF r n 40 args h = s40 r n (aU args 0) h :=
 (by kernel_rfl : aF CF r n 40 args h = D40 r n c40 x0 r40 (aI args) h).trans ((congrFun (congrFun (dSx r n) (aI args)) h).trans (by kernel_rfl))
noncomputable def s42 (r : RT) (n : Nat) (x0 x1 : DV) (h0 : Hp) : aH :=
 bnd (aD .lss x1 (.i .i64 (Int.negSucc 1152921504606846975)) h0) fun v1 h1 =>
 bnd (gD v1 false (some (x1, h1)) h1) fun v2 h2 =>
 bnd (gD v1 false (aD .gtr v2 (aE 1152921504606846976) h2) h2) fun v3 h3 =>
 bnd (aR v1 (.b true) v3 h3) fun v4 h4 =>
 aT v4 (
 some (.t [(aE 0), (aE 2)], h4)) (
 bnd (gV [x1] h4) fun v5 h5 =>
 bnd (aC 0 v5 h5) fun v6 h6 =>
 bnd (aC 1 v5 h6) fun v7 h7 =>
 aT v7 (
 some (.t [v6, (aE 0)], h7)) (
 bnd (r 30 [x0, (aE 8)] h7) fun v8 h8 =>
 bnd (aL [(aE 0)] 1 [(0, 1, x1)] h8) fun v9 h9 =>
 bnd (r 82 [x0, v8, (aE 1), v9] h9) fun v10 h10 =>
 bnd (aC 0 v10 h10) fun v11 h11 =>
 bnd (aC 1 v10 h11) fun v12 h12 =>
 some (.t [v11, v12], h12)))
noncomputable abbrev c42 : Code := cf Tryz.f42
noncomputable abbrev r42 : K := aP CF Tryz.f42
noncomputable def D42 (r : RT) (n : Nat) (c : Code) (X : Nat → K) (k : K) : K := aN CF r 29 n c X r42 k
theorem dRt : D42 r n c42 x0 r42 = (K2 (s42 r n) 0 1) :=
 (by kernel_rfl)
theorem cVt : aF CF r n 42 args h = s42 r n (aU args 0) (aU args 1) h :=
 (by kernel_rfl : aF CF r n 42 args h = D42 r n c42 x0 r42 (aI args) h).trans ((congrFun (congrFun (dRt r n) (aI args)) h).trans (by kernel_rfl))
noncomputable def s43 (r : RT) (n : Nat) (x0 x1 : DV) (h0 : Hp) : aH :=
 bnd (dV x1 h0) fun v1 h1 =>
 bnd (aD .gtr v1 (aE 250) h1) fun v2 h2 =>
 aT v2 (
 some (.t [(aE 0), (aE 1)], h2)) (
 bnd (r 30 [x0, (aE 10)] h2) fun v3 h3 =>
 bnd (r 83 [x0, v3, x1] h3) fun v4 h4 =>
 bnd (aC 0 v4 h4) fun v5 h5 =>
 bnd (aC 1 v4 h5) fun v6 h6 =>
 some (.t [v5, v6], h6))
noncomputable abbrev c43 : Code := cf Tryz.f43
noncomputable abbrev r43 : K := aP CF Tryz.f43
noncomputable def D43 (r : RT) (n : Nat) (c : Code) (X : Nat → K) (k : K) : K := aN CF r 16 n c X r43 k
theorem dSc : D43 r n c43 x0 r43 = (K2 (s43 r n) 0 1) :=
 (by kernel_rfl)
theorem cWa : aF CF r n 43 args h = s43 r n (aU args 0) (aU args 1) h :=
 (by kernel_rfl : aF CF r n 43 args h = D43 r n c43 x0 r43 (aI args) h).trans ((congrFun (congrFun (dSc r n) (aI args)) h).trans (by kernel_rfl))
noncomputable def s44 (r : RT) (n : Nat) (x0 x1 : DV) (h0 : Hp) : aH :=
 bnd (dV x1 h0) fun v1 h1 =>
 bnd (aD .lss v1 (aE 1) h1) fun v2 h2 =>
 bnd (gD v2 false (some (x1, h2)) h2) fun v3 h3 =>
 bnd (gD v2 false (dV v3 h3) h3) fun v4 h4 =>
 bnd (gD v2 false (aD .gtr v4 (aE 60) h4) h4) fun v5 h5 =>
 bnd (aR v2 (.b true) v5 h5) fun v6 h6 =>
 aT v6 (
 some (.t [(aE 0), (aE 1)], h6)) (
 bnd (aQ x0 h6) fun v7 h7 =>
 bnd (aB 2 v7 h7) fun v8 h8 =>
 bnd (aA v8 h8) fun v9 h9 =>
 bnd (dP .string (aE 0) false v9 x1 h9) fun v10 h10 =>
 bnd (aD .neq v10 (aE 0) h10) fun v11 h11 =>
 aT v11 (
 some (.t [v10, (aE 0)], h11)) (
 bnd (r 30 [x0, (aE 11)] h11) fun v12 h12 =>
 bnd (r 83 [x0, v12, x1] h12) fun v13 h13 =>
 bnd (aC 0 v13 h13) fun v14 h14 =>
 bnd (aC 1 v13 h14) fun v15 h15 =>
 bnd (aD .neq v15 (aE 0) h15) fun v16 h16 =>
 aT v16 (
 some (.t [(aE 0), v15], h16)) (
 bnd (aQ x0 h16) fun v17 h17 =>
 bnd (aB 1 v17 h17) fun v18 h18 =>
 bnd (aA v18 h18) fun v19 h19 =>
 bnd (aJ 1 v19 (aE 0) h19) fun v20 h20 =>
 bnd (aA v20 h20) fun v21 h21 =>
 bnd (r 73 [x0, v14, v21] h21) fun v22 h22 =>
 bnd (aC 0 v22 h22) fun v23 h23 =>
 bnd (aC 1 v22 h23) fun v24 h24 =>
 bnd (aD .neq v24 (aE 0) h24) fun v25 h25 =>
 aT v25 (
 some (.t [(aE 0), v24], h25)) (
 bnd (aQ x0 h25) fun v26 h26 =>
 bnd (aB 1 v26 h26) fun v27 h27 =>
 bnd (aA v27 h27) fun v28 h28 =>
 bnd (aQ x0 h28) fun v29 h29 =>
 bnd (aB 2 v29 h29) fun v30 h30 =>
 bnd (aA v30 h30) fun v31 h31 =>
 bnd (aJ 1 v28 (aE 0) h31) fun v32 h32 =>
 bnd (aG 1 v32 v23 h32) fun v33 h33 =>
 bnd (fS .string (aE 0) v31 x1 h33) fun v34 h34 =>
 bnd (aC 1 v34 h34) fun v35 h35 =>
 bnd (eA v31 v35 v14 h35) fun v36 h36 =>
 some (.t [v14, (aE 0)], h36)))))
noncomputable abbrev c44 : Code := cf Tryz.f44
noncomputable abbrev r44 : K := aP CF Tryz.f44
noncomputable def D44 (r : RT) (n : Nat) (c : Code) (X : Nat → K) (k : K) : K := aN CF r 68 n c X r44 k
theorem dQg : D44 r n c44 x0 r44 = (K2 (s44 r n) 0 1) :=
 (by kernel_rfl)
theorem cUw : aF CF r n 44 args h = s44 r n (aU args 0) (aU args 1) h :=
 (by kernel_rfl : aF CF r n 44 args h = D44 r n c44 x0 r44 (aI args) h).trans ((congrFun (congrFun (dQg r n) (aI args)) h).trans (by kernel_rfl))
noncomputable def s45 (r : RT) (n : Nat) (x0 x1 : DV) (h0 : Hp) : aH :=
 bnd (aQ x0 h0) fun v1 h1 =>
 bnd (aB 3 v1 h1) fun v2 h2 =>
 bnd (aA v2 h2) fun v3 h3 =>
 bnd (dP .string (aE 0) false v3 x1 h3) fun v4 h4 =>
 some (v4, h4)
noncomputable abbrev c45 : Code := cf Tryz.f45
noncomputable abbrev r45 : K := aP CF Tryz.f45
noncomputable def D45 (r : RT) (n : Nat) (c : Code) (X : Nat → K) (k : K) : K := aN CF r 11 n c X r45 k
theorem dPi : D45 r n c45 x0 r45 = (K2 (s45 r n) 0 1) :=
 (by kernel_rfl)
theorem cUz : aF CF r n 45 args h = s45 r n (aU args 0) (aU args 1) h :=
 (by kernel_rfl : aF CF r n 45 args h = D45 r n c45 x0 r45 (aI args) h).trans ((congrFun (congrFun (dPi r n) (aI args)) h).trans (by kernel_rfl))
noncomputable def s46 (r : RT) (n : Nat) (x0 x1 : DV) (h0 : Hp) : aH :=
 bnd (bR x0 h0) fun v1 h1 =>
 bnd (cA x1 h1) fun v2 h2 =>
 bnd (aD .gtr v2 (aE 250) h2) fun v3 h3 =>
 bnd (gD v3 false (some (x1, h3)) h3) fun v4 h4 =>
 bnd (gD v3 false (some ((.f 84 [] [v1]), h4)) h4) fun v5 h5 =>
 bnd (gD v3 false (r 52 [v4, v5] h5) h5) fun v6 h6 =>
 bnd (aR v3 (.b true) v6 h6) fun v7 h7 =>
 aT v7 (
 some (.t [(aE 0), (aE 1)], h7)) (
 bnd (aA v1 h7) fun v8 h8 =>
 bnd (aA v1 h8) fun v9 h9 =>
 bnd (r 30 [v9, (aE 9)] h9) fun v10 h10 =>
 cnd (bI (aA v1 h10) v8 && true) (
 bnd (r 82 [v8, v10, (aE 0), x1] h10) fun v11 h11 =>
 bnd (aC 0 v11 h11) fun v12 h12 =>
 bnd (aC 1 v11 h12) fun v13 h13 =>
 some (.t [v12, v13], h13)))
noncomputable abbrev c46 : Code := cf Tryz.f46
noncomputable abbrev r46 : K := aP CF Tryz.f46
noncomputable def D46 (r : RT) (n : Nat) (c : Code) (X : Nat → K) (k : K) : K := aN CF r 21 n c X r46 k
theorem dRf : D46 r n c46 x0 r46 = (K2 (s46 r n) 0 1) :=
 (by kernel_rfl)
theorem cVc : aF CF r n 46 args h = s46 r n (aU args 0) (aU args 1) h :=
 (by kernel_rfl : aF CF r n 46 args h = D46 r n c46 x0 r46 (aI args) h).trans ((congrFun (congrFun (dRf r n) (aI args)) h).trans (by kernel_rfl))
noncomputable def s51 (r : RT) (n : Nat) (x0 x1 x2 : DV) (h0 : Hp) : aH :=
 bnd (aQ x0 h0) fun v1 h1 =>
 bnd (aB 0 v1 h1) fun v2 h2 =>
 bnd (aA v2 h2) fun v3 h3 =>
 bnd (sT [v3, x1, x2] h3) fun v4 h4 =>
 bnd (aC 0 v4 h4) fun v5 h5 =>
 bnd (aC 1 v4 h5) fun v6 h6 =>
 some (v5, h6)
noncomputable abbrev c51 : Code := cf Tryz.f51
noncomputable abbrev r51 : K := aP CF Tryz.f51
noncomputable def D51 (r : RT) (n : Nat) (c : Code) (X : Nat → K) (k : K) : K := aN CF r 20 n c X r51 k
theorem dRx : D51 r n c51 x0 r51 = (K3 (s51 r n) 0 1 2) :=
 (by kernel_rfl)
theorem cWb : aF CF r n 51 args h = s51 r n (aU args 0) (aU args 1) (aU args 2) h :=
 (by kernel_rfl : aF CF r n 51 args h = D51 r n c51 x0 r51 (aI args) h).trans ((congrFun (congrFun (dRx r n) (aI args)) h).trans (by kernel_rfl))
noncomputable def s52 (r : RT) (n : Nat) (x0 x1 : DV) (h0 : Hp) : aH :=
 bnd (r 89 [x0, x1] h0) fun v1 h1 =>
 bnd (aD .geq v1 (aE 0) h1) fun v2 h2 =>
 some (v2, h2)
noncomputable abbrev c52 : Code := cf Tryz.f52
noncomputable abbrev r52 : K := aP CF Tryz.f52
noncomputable def D52 (r : RT) (n : Nat) (c : Code) (X : Nat → K) (k : K) : K := aN CF r 9 n c X r52 k
theorem dTt : D52 r n c52 x0 r52 = (K2 (s52 r n) 0 1) :=
 (by kernel_rfl)
theorem bRj : aF CF r n 52 args h = s52 r n (aU args 0) (aU args 1) h :=
 (by kernel_rfl : aF CF r n 52 args h = D52 r n c52 x0 r52 (aI args) h).trans ((congrFun (congrFun (dTt r n) (aI args)) h).trans (by kernel_rfl))
noncomputable def s53 (r : RT) (n : Nat) (x0 x1 : DV) (h0 : Hp) : aH :=
 bnd (aA x1 h0) fun v1 h1 =>
 bnd (aHp [v1, x0] h1) fun v2 h2 =>
 bnd (hY .not v2 h2) fun v3 h3 =>
 some (v3, h3)
noncomputable abbrev c53 : Code := cf Tryz.f53
noncomputable abbrev r53 : K := aP CF Tryz.f53
noncomputable def D53 (r : RT) (n : Nat) (c : Code) (X : Nat → K) (k : K) : K := aN CF r 8 n c X r53 k
theorem dUk : D53 r n c53 x0 r53 = (K2 (s53 r n) 0 1) :=
 (by kernel_rfl)
theorem cUr : aF CF r n 53 args h = s53 r n (aU args 0) (aU args 1) h :=
 (by kernel_rfl : aF CF r n 53 args h = D53 r n c53 x0 r53 (aI args) h).trans ((congrFun (congrFun (dUk r n) (aI args)) h).trans (by kernel_rfl))
noncomputable def s54 (r : RT) (n : Nat) (h0 : Hp) : aH :=
 some (.t [(aE 0), (aE 20)], h0)
noncomputable abbrev c54 : Code := cf Tryz.f54
noncomputable abbrev r54 : K := aP CF Tryz.f54
noncomputable def D54 (r : RT) (n : Nat) (c : Code) (X : Nat → K) (k : K) : K := aN CF r 2 n c X r54 k
theorem dRq : D54 r n c54 x0 r54 = (K0 (s54 r n)) :=
 (by kernel_rfl)
theorem cDb : aF CF r n 54 args h = s54 r n h :=
 (by kernel_rfl : aF CF r n 54 args h = D54 r n c54 x0 r54 (aI args) h).trans ((congrFun (congrFun (dRq r n) (aI args)) h).trans (by kernel_rfl))
noncomputable def s56 (r : RT) (n : Nat) (x0 : DV) (h0 : Hp) : aH :=
 bnd (aQ x0 h0) fun v1 h1 =>
 bnd (aB 1 v1 h1) fun v2 h2 =>
 bnd (aA v2 h2) fun v3 h3 =>
 bnd (aD .eql v3 (.i .i64 (Int.ofNat 10)) h3) fun v4 h4 =>
 aT v4 (
 bnd (aQ x0 h4) fun v5 h5 =>
 bnd (aB 2 v5 h5) fun v6 h6 =>
 bnd (aA v6 h6) fun v7 h7 =>
 bnd (aQ x0 h7) fun v8 h8 =>
 bnd (aB 3 v8 h8) fun v9 h9 =>
 bnd (aA v9 h9) fun v10 h10 =>
 bnd (aJ 1 v10 (.i .i64 (Int.ofNat 0)) h10) fun v11 h11 =>
 bnd (aA v11 h11) fun v12 h12 =>
 bnd (aD .eql v7 v12 h12) fun v13 h13 =>
 bnd (r 95 [v13] h13) fun v14 h14 =>
 bnd (aC 0 v14 h14) fun v15 h15 =>
 bnd (aC 1 v14 h15) fun v16 h16 =>
 some (.t [v15, v16], h16)) (
 bnd (aQ x0 h4) fun v17 h17 =>
 bnd (aB 0 v17 h17) fun v18 h18 =>
 bnd (aA v18 h18) fun v19 h19 =>
 bnd (aQ x0 h19) fun v20 h20 =>
 bnd (aB 2 v20 h20) fun v21 h21 =>
 bnd (aA v21 h21) fun v22 h22 =>
 bnd (r 25 [v19, v22] h22) fun v23 h23 =>
 some (.t [v23, (.i .i64 (Int.ofNat 0))], h23))
noncomputable abbrev c56 : Code := cf Tryz.f56
noncomputable abbrev r56 : K := aP CF Tryz.f56
noncomputable def D56 (r : RT) (n : Nat) (c : Code) (X : Nat → K) (k : K) : K := aN CF r 32 n c X r56 k
theorem dTl : D56 r n c56 x0 r56 = (K1 (s56 r n) 0) :=
 (by kernel_rfl)
theorem dIj : aF CF r n 56 args h = s56 r n (aU args 0) h :=
 (by kernel_rfl : aF CF r n 56 args h = D56 r n c56 x0 r56 (aI args) h).trans ((congrFun (congrFun (dTl r n) (aI args)) h).trans (by kernel_rfl))
end Go.Dd

namespace Go.Dd
open Go.Proofs
variable (r : RT) (n : Nat) (args : List DV) (h : Hp)
noncomputable def s58 (r : RT) (n : Nat) (x0 : DV) (h0 : Hp) : aH :=
 bnd (aQ x0 h0) fun v1 h1 =>
 bnd (aB 0 v1 h1) fun v2 h2 =>
 bnd (aA v2 h2) fun v3 h3 =>
 bnd (r 23 [v3] h3) fun v4 h4 =>
 bnd (aQ x0 h4) fun v5 h5 =>
 bnd (aB 0 v5 h5) fun v6 h6 =>
 bnd (aA v6 h6) fun v7 h7 =>
 cnd (bI (aA v6 h0) v7 && true) (
 bnd (aQ x0 h7) fun v8 h8 =>
 bnd (aB 2 v8 h8) fun v9 h9 =>
 bnd (aA v9 h9) fun v10 h10 =>
 cnd (bI (aA v9 h0) v10 && true) (
 bnd (r 32 [v7, v10] h10) fun v11 h11 =>
 bnd (aQ x0 h11) fun v12 h12 =>
 bnd (aB 1 v12 h12) fun v13 h13 =>
 bnd (aA v13 h13) fun v14 h14 =>
 bnd (aD .eql v14 (.i .i64 (Int.ofNat 23)) h14) fun v15 h15 =>
 aT v15 (
 bnd (aD .neq v11 (.i .i64 (Int.ofNat 0)) h15) fun v16 h16 =>
 aT v16 (
 bnd (r 54 [] h16) fun v17 h17 =>
 bnd (aC 0 v17 h17) fun v18 h18 =>
 bnd (aC 1 v17 h18) fun v19 h19 =>
 some (.t [v18, v19], h19)) (
 bnd (aQ x0 h16) fun v20 h20 =>
 bnd (aB 2 v20 h20) fun v21 h21 =>
 bnd (aA v21 h21) fun v22 h22 =>
 bnd (aQ x0 h22) fun v23 h23 =>
 bnd (aB 0 v23 h23) fun v24 h24 =>
 bnd (aA v24 h24) fun v25 h25 =>
 bnd (aQ x0 h25) fun v26 h26 =>
 bnd (aB 2 v26 h26) fun v27 h27 =>
 bnd (aA v27 h27) fun v28 h28 =>
 bnd (r 37 [v25, v28] h28) fun v29 h29 =>
 cnd (bI (aA v21 h29) v22 && true) (
 bnd (gL [v4, v22, (.i .i64 (Int.ofNat 0)), v29] h29) fun v30 h30 =>
 bnd (aC 0 v30 h30) fun v31 h31 =>
 bnd (aC 1 v30 h31) fun v32 h32 =>
 some (.t [v31, v32], h32)))) (
 bnd (aQ x0 h15) fun v33 h33 =>
 bnd (aB 0 v33 h33) fun v34 h34 =>
 bnd (aA v34 h34) fun v35 h35 =>
 bnd (aQ x0 h35) fun v36 h36 =>
 bnd (aB 3 v36 h36) fun v37 h37 =>
 bnd (aA v37 h37) fun v38 h38 =>
 bnd (aJ 1 v38 (.i .i64 (Int.ofNat 0)) h38) fun v39 h39 =>
 bnd (aA v39 h39) fun v40 h40 =>
 bnd (r 15 [v35, v40] h40) fun v41 h41 =>
 bnd (aC 0 v41 h41) fun v42 h42 =>
 bnd (aC 1 v41 h42) fun v43 h43 =>
 bnd (hY .not v43 h43) fun v44 h44 =>
 bnd (gD v44 false (some (v42, h44)) h44) fun v45 h45 =>
 bnd (gD v44 false (aD .lss v45 (.i .i64 (Int.ofNat 0)) h45) h45) fun v46 h46 =>
 bnd (aR v44 (.b true) v46 h46) fun v47 h47 =>
 bnd (gD v47 false (some (v42, h47)) h47) fun v48 h48 =>
 bnd (gD v47 false (aD .gtr v48 (.i .i64 (Int.ofNat 250)) h48) h48) fun v49 h49 =>
 bnd (aR v47 (.b true) v49 h49) fun v50 h50 =>
 aT v50 (
 bnd (r 54 [] h50) fun v51 h51 =>
 bnd (aC 0 v51 h51) fun v52 h52 =>
 bnd (aC 1 v51 h52) fun v53 h53 =>
 some (.t [v52, v53], h53)) (
 bnd (aQ x0 h50) fun v54 h54 =>
 bnd (aB 2 v54 h54) fun v55 h55 =>
 bnd (aA v55 h55) fun v56 h56 =>
 bnd (aQ x0 h56) fun v57 h57 =>
 bnd (aB 0 v57 h57) fun v58 h58 =>
 bnd (aA v58 h58) fun v59 h59 =>
 bnd (r 30 [v59, (.i .i64 (Int.ofNat 9))] h59) fun v60 h60 =>
 cnd (bI (aA v55 h60) v56 && true) (
 bnd (aD .eql v56 v60 h60) fun v61 h61 =>
 aT v61 (
 bnd (aQ x0 h61) fun v62 h62 =>
 bnd (aB 2 v62 h62) fun v63 h63 =>
 bnd (aA v63 h63) fun v64 h64 =>
 bnd (gL [v4, v64, (.i .i64 (Int.ofNat 0)), v42] h64) fun v65 h65 =>
 bnd (aC 0 v65 h65) fun v66 h66 =>
 bnd (aC 1 v65 h66) fun v67 h67 =>
 some (.t [v66, v67], h67)) (
 bnd (aQ x0 h61) fun v68 h68 =>
 bnd (aB 2 v68 h68) fun v69 h69 =>
 bnd (aA v69 h69) fun v70 h70 =>
 bnd (aQ x0 h70) fun v71 h71 =>
 bnd (aB 0 v71 h71) fun v72 h72 =>
 bnd (aA v72 h72) fun v73 h73 =>
 bnd (r 30 [v73, (.i .i64 (Int.ofNat 10))] h73) fun v74 h74 =>
 cnd (bI (aA v69 h74) v70 && true) (
 bnd (aD .eql v70 v74 h74) fun v75 h75 =>
 aT v75 (
 bnd (aQ x0 h75) fun v76 h76 =>
 bnd (aB 2 v76 h76) fun v77 h77 =>
 bnd (aA v77 h77) fun v78 h78 =>
 bnd (gL [v4, v78, (.i .i64 (Int.ofNat 2)), v42] h78) fun v79 h79 =>
 bnd (aC 0 v79 h79) fun v80 h80 =>
 bnd (aC 1 v79 h80) fun v81 h81 =>
 some (.t [v80, v81], h81)) (
 bnd (r 54 [] h75) fun v82 h82 =>
 bnd (aC 0 v82 h82) fun v83 h83 =>
 bnd (aC 1 v82 h83) fun v84 h84 =>
 some (.t [v83, v84], h84)))))))))
noncomputable abbrev c58 : Code := cf Tryz.f58
noncomputable abbrev r58 : K := aP CF Tryz.f58
noncomputable def D58 (r : RT) (n : Nat) (c : Code) (X : Nat → K) (k : K) : K := aN CF r 120 n c X r58 k
theorem dQd : D58 r n c58 x0 r58 = (K1 (s58 r n) 0) :=
 (by kernel_rfl)
theorem bYb : aF CF r n 58 args h = s58 r n (aU args 0) h :=
 (by kernel_rfl : aF CF r n 58 args h = D58 r n c58 x0 r58 (aI args) h).trans ((congrFun (congrFun (dQd r n) (aI args)) h).trans (by kernel_rfl))
noncomputable def s60 (r : RT) (n : Nat) (x0 : DV) (h0 : Hp) : aH :=
 bnd (aQ x0 h0) fun v1 h1 =>
 bnd (aB 0 v1 h1) fun v2 h2 =>
 bnd (aA v2 h2) fun v3 h3 =>
 bnd (aQ x0 h3) fun v4 h4 =>
 bnd (aB 2 v4 h4) fun v5 h5 =>
 bnd (aA v5 h5) fun v6 h6 =>
 bnd (r 32 [v3, v6] h6) fun v7 h7 =>
 bnd (aD .lss v7 (.i .i64 (Int.ofNat 0)) h7) fun v8 h8 =>
 aT v8 (
 bnd (r 54 [] h8) fun v9 h9 =>
 bnd (aC 0 v9 h9) fun v10 h10 =>
 bnd (aC 1 v9 h10) fun v11 h11 =>
 some (.t [v10, v11], h11)) (
 bnd (aQ x0 h8) fun v12 h12 =>
 bnd (aB 1 v12 h12) fun v13 h13 =>
 bnd (aA v13 h13) fun v14 h14 =>
 bnd (aD .eql v14 (.i .i64 (Int.ofNat 41)) h14) fun v15 h15 =>
 aT v15 (
 bnd (aQ x0 h15) fun v16 h16 =>
 bnd (aB 0 v16 h16) fun v17 h17 =>
 bnd (aA v17 h17) fun v18 h18 =>
 bnd (aQ x0 h18) fun v19 h19 =>
 bnd (aB 2 v19 h19) fun v20 h20 =>
 bnd (aA v20 h20) fun v21 h21 =>
 bnd (r 35 [v18, v21] h21) fun v22 h22 =>
 some (.t [v22, (.i .i64 (Int.ofNat 0))], h22)) (
 bnd (aQ x0 h15) fun v23 h23 =>
 bnd (aB 0 v23 h23) fun v24 h24 =>
 bnd (aA v24 h24) fun v25 h25 =>
 bnd (aQ x0 h25) fun v26 h26 =>
 bnd (aB 0 v26 h26) fun v27 h27 =>
 bnd (aA v27 h27) fun v28 h28 =>
 bnd (aQ x0 h28) fun v29 h29 =>
 bnd (aB 2 v29 h29) fun v30 h30 =>
 bnd (aA v30 h30) fun v31 h31 =>
 bnd (r 34 [v28, v31] h31) fun v32 h32 =>
 cnd (bI (aA v24 h32) v25 && true) (
 bnd (r 44 [v25, v32] h32) fun v33 h33 =>
 bnd (aC 0 v33 h33) fun v34 h34 =>
 bnd (aC 1 v33 h34) fun v35 h35 =>
 some (.t [v34, v35], h35))))
noncomputable abbrev c60 : Code := cf Tryz.f60
noncomputable abbrev r60 : K := aP CF Tryz.f60
noncomputable def D60 (r : RT) (n : Nat) (c : Code) (X : Nat → K) (k : K) : K := aN CF r 49 n c X r60 k
theorem dTc : D60 r n c60 x0 r60 = (K1 (s60 r n) 0) :=
 (by kernel_rfl)
theorem dOt : aF CF r n 60 args h = s60 r n (aU args 0) h :=
 (by kernel_rfl : aF CF r n 60 args h = D60 r n c60 x0 r60 (aI args) h).trans ((congrFun (congrFun (dTc r n) (aI args)) h).trans (by kernel_rfl))
noncomputable def s67 (r : RT) (n : Nat) (x0 x1 : DV) (h0 : Hp) : aH :=
 bnd (aQ x0 h0) fun v1 h1 =>
 bnd (aB 0 v1 h1) fun v2 h2 =>
 bnd (aA v2 h2) fun v3 h3 =>
 bnd (isF [v3, x1] h3) fun v4 h4 =>
 bnd (gD v4 true (some (x0, h4)) h4) fun v5 h5 =>
 bnd (gD v4 true (aQ v5 h5) h5) fun v6 h6 =>
 bnd (gD v4 true (aB 0 v6 h6) h6) fun v7 h7 =>
 bnd (gD v4 true (aA v7 h7) h7) fun v8 h8 =>
 bnd (gD v4 true (some (x1, h8)) h8) fun v9 h9 =>
 bnd (gD v4 true (iW [v8, v9] h9) h9) fun v10 h10 =>
 bnd (gD v4 true (some (x0, h10)) h10) fun v11 h11 =>
 bnd (gD v4 true (r 30 [v11, (aE 1)] h11) h11) fun v12 h12 =>
 bnd (gD v4 true (aD .eql v10 v12 h12) h12) fun v13 h13 =>
 bnd (aR v4 v13 (.b false) h13) fun v14 h14 =>
 bnd (gD v14 true (some (x0, h14)) h14) fun v15 h15 =>
 bnd (gD v14 true (aQ v15 h15) h15) fun v16 h16 =>
 bnd (gD v14 true (aB 0 v16 h16) h16) fun v17 h17 =>
 bnd (gD v14 true (aA v17 h17) h17) fun v18 h18 =>
 bnd (gD v14 true (some (x1, h18)) h18) fun v19 h19 =>
 bnd (gD v14 true (fT [v18, v19] h19) h19) fun v20 h20 =>
 bnd (gD v14 true (aD .eql v20 (aE 6) h20) h20) fun v21 h21 =>
 bnd (aR v14 v21 (.b false) h21) fun v22 h22 =>
 some (v22, h22)
noncomputable abbrev c67 : Code := cf Tryz.f67
noncomputable abbrev r67 : K := aP CF Tryz.f67
noncomputable def D67 (r : RT) (n : Nat) (c : Code) (X : Nat → K) (k : K) : K := aN CF r 31 n c X r67 k
theorem dQz : D67 r n c67 x0 r67 = (K2 (s67 r n) 0 1) :=
 (by kernel_rfl)
theorem cVn : aF CF r n 67 args h = s67 r n (aU args 0) (aU args 1) h :=
 (by kernel_rfl : aF CF r n 67 args h = D67 r n c67 x0 r67 (aI args) h).trans ((congrFun (congrFun (dQz r n) (aI args)) h).trans (by kernel_rfl))
noncomputable def s71 (r : RT) (n : Nat) (x0 : DV) (h0 : Hp) : aH :=
 bnd (gV [x0] h0) fun v1 h1 =>
 bnd (aC 0 v1 h1) fun v2 h2 =>
 bnd (aC 1 v1 h2) fun v3 h3 =>
 some (v2, h3)
noncomputable abbrev c71 : Code := cf Tryz.f71
noncomputable abbrev r71 : K := aP CF Tryz.f71
noncomputable def D71 (r : RT) (n : Nat) (c : Code) (X : Nat → K) (k : K) : K := aN CF r 11 n c X r71 k
theorem dQk : D71 r n c71 x0 r71 = (K1 (s71 r n) 0) :=
 (by kernel_rfl)
theorem dMr : aF CF r n 71 args h = s71 r n (aU args 0) h :=
 (by kernel_rfl : aF CF r n 71 args h = D71 r n c71 x0 r71 (aI args) h).trans ((congrFun (congrFun (dQk r n) (aI args)) h).trans (by kernel_rfl))
noncomputable def s73 (r : RT) (n : Nat) (x0 x1 x2 : DV) (h0 : Hp) : aH :=
 bnd (r 30 [x0, (aE 9)] h0) fun v1 h1 =>
 bnd (aL [(aE 0), (aE 0)] 2 [(0, 1, x1), (1, 1, x2)] h1) fun v2 h2 =>
 bnd (r 82 [x0, v1, (aE 0), v2] h2) fun v3 h3 =>
 bnd (aC 0 v3 h3) fun v4 h4 =>
 bnd (aC 1 v3 h4) fun v5 h5 =>
 some (.t [v4, v5], h5)
noncomputable abbrev c73 : Code := cf Tryz.f73
noncomputable abbrev r73 : K := aP CF Tryz.f73
noncomputable def D73 (r : RT) (n : Nat) (c : Code) (X : Nat → K) (k : K) : K := aN CF r 17 n c X r73 k
theorem dTw : D73 r n c73 x0 r73 = (K3 (s73 r n) 0 1 2) :=
 (by kernel_rfl)
theorem cUp : aF CF r n 73 args h = s73 r n (aU args 0) (aU args 1) (aU args 2) h :=
 (by kernel_rfl : aF CF r n 73 args h = D73 r n c73 x0 r73 (aI args) h).trans ((congrFun (congrFun (dTw r n) (aI args)) h).trans (by kernel_rfl))
noncomputable def s75 (r : RT) (n : Nat) (x0 x1 x2 : DV) (h0 : Hp) : aH :=
 bnd (r 45 [x0, x1] h0) fun v1 h1 =>
 bnd (aD .eql v1 (aE 0) h1) fun v2 h2 =>
 aT v2 (
 some (.t [(aE 0), (aE 0), (.s []), (aE 24)], h2)) (
 bnd (r 99 [x2] h2) fun v3 h3 =>
 bnd (aC 0 v3 h3) fun v4 h4 =>
 bnd (aC 1 v3 h4) fun v5 h5 =>
 bnd (aC 2 v3 h5) fun v6 h6 =>
 bnd (bN iJ h6) fun v7 h7 =>
 bnd (aG 6 v7 v4 h7) fun _ h8 =>
 bnd (aD .neq v6 (aE 0) h8) fun v9 h9 =>
 aT v9 (
 some (.t [(aE 0), v5, (.s []), v6], h9)) (
 bnd (aK 6 v7 (resv 1 h9)) fun v10 h10 =>
 bnd (r 77 [x0, v1] h10) fun v11 h11 =>
 cnd (bI (aK 6 v7 h11) v10 && true) (
 bnd (r 100 [v10, v11] h11) fun v12 h12 =>
 bnd (aC 0 v12 h12) fun v13 h13 =>
 bnd (aC 1 v12 h13) fun v14 h14 =>
 bnd (aC 2 v12 h14) fun v15 h15 =>
 bnd (lD (bZ 0 h9.next) [(.s []), (aE 0), (aE 0), (aE 0), .l0, .l0] h15) fun v16 h16 =>
 bnd (aG 6 v16 v13 h16) fun v17 h17 =>
 bnd (aD .neq v15 (aE 0) h17) fun v18 h18 =>
 aT v18 (
 some (.t [(aE 0), (aE 0), v14, v15], h18)) (
 bnd (aK 6 v16 h18) fun v19 h19 =>
 bnd (r 101 [x0, v1, v19] h19) fun v20 h20 =>
 bnd (aC 0 v20 h20) fun v21 h21 =>
 bnd (aC 1 v20 h21) fun v22 h22 =>
 bnd (aD .neq v22 (aE 0) h22) fun v23 h23 =>
 aT v23 (
 some (.t [(aE 0), (aE 0), (.s []), v22], h23)) (
 some (.t [v21, (aE 0), (.s []), (aE 0)], h23))))))
noncomputable abbrev c75 : Code := cf Tryz.f75
noncomputable abbrev r75 : K := aP CF Tryz.f75
noncomputable def D75 (r : RT) (n : Nat) (c : Code) (X : Nat → K) (k : K) : K := aN CF r 56 n c X r75 k
theorem dUj : D75 r n c75 x0 r75 = (K3 (s75 r n) 0 1 2) :=
 (by kernel_rfl)
theorem dOc : aF CF r n 75 args h = s75 r n (aU args 0) (aU args 1) (aU args 2) h :=
 (by kernel_rfl : aF CF r n 75 args h = D75 r n c75 x0 r75 (aI args) h).trans ((congrFun (congrFun (dUj r n) (aI args)) h).trans (by kernel_rfl))
noncomputable def cB (r : RT) (n : Nat) (x5 : DV) (h0 : Hp) : aH :=
 some (x5, h0)
noncomputable def cW (r : RT) (n : Nat) (kk5 : dM) (x0 x1 x5 x6 : DV) (h0 : Hp) : aH :=
 bnd (aD .sub x6 (aE 1) h0) fun v1 h1 =>
  kk5 x0 x1 x5 v1 h1
noncomputable def eE (r : RT) (n : Nat) (kk5 : dM) (x0 x1 x5 x6 x7 : DV) (h0 : Hp) : aH :=
 bnd (aY 1 16 x7 x5 h0) fun v1 h1 =>
 bnd (r 35 [x0, x1] h1) fun v2 h2 =>
  cW r n kk5 x0 v2 v1 x6 h2
noncomputable def aHd (r : RT) (n : Nat) (kk5 : dM) (kk12 : TT8) (x0 x1 x5 x6 x7 x8 x34 x35 : DV) (h0 : Hp) : aH :=
 bnd (aD .lss x35 x34 h0) fun v1 h1 =>
 aT v1 (
 bnd (r 51 [x0, x8, x35] h1) fun v2 h2 =>
 bnd (r 33 [x0, v2] h2) fun v3 h3 =>
 bnd (aC 0 v3 h3) fun v4 h4 =>
 bnd (aC 1 v3 h4) fun v5 h5 =>
 bnd (aL [(.s [])] 1 [(0, 1, v4)] h5) fun v6 h6 =>
 bnd (aY 1 16 x7 v6 h6) fun v7 h7 =>
 bnd (aD .add x35 (aE 1) h7) fun v8 h8 =>
      kk12 x0 x1 x5 x6 v7 x8 x34 v8 h8) (
      eE r n kk5 x0 x1 x5 x6 x7 h1)
noncomputable def uF (r : RT) (n : Nat) (kk5 : dM) (m : Nat) : TT8 :=
 Nat.rec (motive := fun _ => TT8) (fun _ _ _ _ _ _ _ _ _ => none) (fun _ ih => aHd r n kk5 ih) m
noncomputable def bLm (r : RT) (n : Nat) (kk5 : dM) : TT8 := uF r n kk5 n
noncomputable def aOl (r : RT) (n : Nat) (kk5 : dM) (x0 x1 x5 x6 x7 x8 x34 x35 : DV) (h0 : Hp) : aH :=
 bLm r n kk5 x0 x1 x5 x6 x7 x8 x34 x35 h0
noncomputable def bWf (r : RT) (n : Nat) (kk5 : dM) (x0 x1 x5 x6 x7 x8 : DV) (h0 : Hp) : aH :=
 bnd (aQ x0 h0) fun v1 h1 =>
 bnd (aB 0 v1 h1) fun v2 h2 =>
 bnd (aA v2 h2) fun v3 h3 =>
 bnd (fT [v3, x8] h3) fun v4 h4 =>
  aOl r n kk5 x0 x1 x5 x6 x7 x8 v4 (aE 0) h4
noncomputable def bRt (r : RT) (n : Nat) (kk5 : dM) (x0 x1 x5 x6 x7 : DV) (h0 : Hp) : aH :=
 bnd (r 51 [x0, x1, (aE 3)] h0) fun v1 h1 =>
  bWf r n kk5 x0 x1 x5 x6 x7 v1 h1
noncomputable def bMu (r : RT) (n : Nat) (kk5 : dM) (x0 x1 x5 x6 : DV) (h0 : Hp) : aH :=
 bRt r n kk5 x0 x1 x5 x6 .l0 h0
noncomputable def bXg (r : RT) (n : Nat) (kk5 : dM) (x0 x1 x5 x6 : DV) (h0 : Hp) : aH :=
 bnd (aD .gtr x6 (aE 0) h0) fun v1 h1 =>
 bnd (gD v1 true (some (x0, h1)) h1) fun v2 h2 =>
 bnd (gD v1 true (some (x1, h2)) h2) fun v3 h3 =>
 bnd (gD v1 true (r 67 [v2, v3] h3) h3) fun v4 h4 =>
 bnd (aR v1 v4 (.b false) h4) fun v5 h5 =>
 aT v5 (
   bMu r n kk5 x0 x1 x5 x6 h5) (
   cB r n x5 h5)
noncomputable def aGj (r : RT) (n : Nat) (m : Nat) : dM :=
 Nat.rec (motive := fun _ => dM) (fun _ _ _ _ _ => none) (fun _ ih => bXg r n ih) m
noncomputable def cVm (r : RT) (n : Nat) : dM := aGj r n n
noncomputable def bLs (r : RT) (n : Nat) (x0 x1 x5 x6 : DV) (h0 : Hp) : aH :=
 cVm r n x0 x1 x5 x6 h0
noncomputable def bJg (r : RT) (n : Nat) (x0 x1 x5 : DV) (h0 : Hp) : aH :=
 bnd (aQ x0 h0) fun v1 h1 =>
 bnd (aB 0 v1 h1) fun v2 h2 =>
 bnd (aA v2 h2) fun v3 h3 =>
 bnd (aAs [v3] h3) fun v4 h4 =>
  bLs r n x0 x1 x5 v4 h4
noncomputable def bJm (r : RT) (n : Nat) (x0 x1 : DV) (h0 : Hp) : aH :=
 bJg r n x0 x1 .l0 h0
noncomputable def s77 (r : RT) (n : Nat) (x0 x1 : DV) (h0 : Hp) : aH :=
 bJm r n x0 x1 h0
noncomputable abbrev c77 : Code := cf Tryz.f77
noncomputable abbrev bAv : Code := cR c77
noncomputable abbrev aYg : Code := cR bAv
noncomputable abbrev dLz : Code := cR aYg
noncomputable abbrev aMh : Code := cL aYg
noncomputable abbrev bOp : Code := cR aMh
noncomputable abbrev bDa : Code := cL bOp
noncomputable abbrev nL : Code := cL bDa
noncomputable abbrev bAn : Code := cR nL
noncomputable abbrev dNx : Code := cR bAn
noncomputable abbrev aDd : Code := cL bAn
noncomputable abbrev aEw : Code := cL aDd
noncomputable abbrev aGf : Code := cR aEw
noncomputable abbrev aDr : Code := cR aGf
noncomputable abbrev dAz : Code := cR aDr
noncomputable abbrev zI : Code := cL aDr
noncomputable abbrev aOt : Code := cR zI
noncomputable abbrev aCn : Code := cL aOt
noncomputable abbrev mN : Code := cL aCn
noncomputable abbrev bRe : Code := cL zI
noncomputable abbrev bMq : Code := cL aGf
noncomputable abbrev bPr : Code := cL aEw
noncomputable abbrev bJz : Code := cL nL
noncomputable abbrev bWd : Code := cL aMh
noncomputable abbrev cCy : Code := cL bAv
noncomputable abbrev bYj : Code := cL c77
noncomputable abbrev r77 : K := aP CF Tryz.f77
noncomputable def D77 (r : RT) (n : Nat) (c : Code) (X : Nat → K) (k : K) : K := aN CF r 59 n c X r77 k
theorem dDw : D77 r n dLz x0 r77 = (K1 (cB r n) 5) :=
 (by kernel_rfl)
theorem dAd (kk5 : dM) : D77 r n dNx (xs x0 0 (K1 (cB r n) 5)) (K4 kk5 0 1 5 6) = (K4 (cW r n kk5) 0 1 5 6) :=
 (by kernel_rfl)
theorem cTv (kk5 : dM) : D77 r n dAz (xs (xs x0 0 (K1 (cB r n) 5)) 1 (K4 (cW r n kk5) 0 1 5 6)) (K4 (cW r n kk5) 0 1 5 6) = (K5 (eE r n kk5) 0 1 5 6 7) :=
 (by kernel_rfl)
theorem cAp (kk5 : dM) (kk12 : TT8) (q0 : TT1) (q1 : dM) (q2 : cG) : D77 r n mN (xs (xs (xs x0 0 (K1 q0 5)) 1 (K4 q1 0 1 5 6)) 2 (K5 q2 0 1 5 6 7)) (K8 kk12 0 1 5 6 7 8 34 35) = fun (env : aV) (h : Hp) =>
 bnd (aD .lss (env 35) (env 34) h) fun v1 h1 =>
 aT v1 (
 bnd (r 51 [(env 0), (env 8), (env 35)] h1) fun v2 h2 =>
 bnd (r 33 [(env 0), v2] h2) fun v3 h3 =>
 bnd (aC 0 v3 h3) fun v4 h4 =>
 bnd (aC 1 v3 h4) fun v5 h5 =>
 bnd (aL [(.s [])] 1 [(0, 1, v4)] h5) fun v6 h6 =>
 bnd (aY 1 16 (env 7) v6 h6) fun v7 h7 =>
 bnd (aD .add (env 35) (aE 1) h7) fun v8 h8 =>
      kk12 (env 0) (env 1) (env 5) (env 6) v7 (env 8) (env 34) v8 h8) (
      q2 (env 0) (env 1) (env 5) (env 6) (env 7) h1) := by kernel_rfl
theorem bHm (kk5 : dM) (kk12 : TT8) : (fun (env : aV) (h : Hp) =>
 bnd (aD .lss (env 35) (env 34) h) fun v1 h1 =>
 aT v1 (
 bnd (r 51 [(env 0), (env 8), (env 35)] h1) fun v2 h2 =>
 bnd (r 33 [(env 0), v2] h2) fun v3 h3 =>
 bnd (aC 0 v3 h3) fun v4 h4 =>
 bnd (aC 1 v3 h4) fun v5 h5 =>
 bnd (aL [(.s [])] 1 [(0, 1, v4)] h5) fun v6 h6 =>
 bnd (aY 1 16 (env 7) v6 h6) fun v7 h7 =>
 bnd (aD .add (env 35) (aE 1) h7) fun v8 h8 =>
      kk12 (env 0) (env 1) (env 5) (env 6) v7 (env 8) (env 34) v8 h8) (
      eE r n kk5 (env 0) (env 1) (env 5) (env 6) (env 7) h1)) = (K8 (aHd r n kk5 kk12) 0 1 5 6 7 8 34 35) := by kernel_rfl
theorem bMx (kk5 : dM) (kk12 : TT8) : D77 r n mN (xs (xs (xs x0 0 (K1 (cB r n) 5)) 1 (K4 (cW r n kk5) 0 1 5 6)) 2 (K5 (eE r n kk5) 0 1 5 6 7)) (K8 kk12 0 1 5 6 7 8 34 35) = (K8 (aHd r n kk5 kk12) 0 1 5 6 7 8 34 35) :=
 (cAp r n kk5 kk12 (cB r n) (cW r n kk5) (eE r n kk5)).trans (bHm r n kk5 kk12)
theorem bUr (kk5 : dM) (m : Nat) : aM (fun kk => D77 r n mN (xs (xs (xs x0 0 (K1 (cB r n) 5)) 1 (K4 (cW r n kk5) 0 1 5 6)) 2 (K5 (eE r n kk5) 0 1 5 6 7)) kk) m = (K8 (uF r n kk5 m) 0 1 5 6 7 8 34 35) := by
 induction m with
 | zero => exact (by kernel_rfl : aM (fun kk => D77 r n mN (xs (xs (xs x0 0 (K1 (cB r n) 5)) 1 (K4 (cW r n kk5) 0 1 5 6)) 2 (K5 (eE r n kk5) 0 1 5 6 7)) kk) 0 = (K8 (uF r n kk5 0) 0 1 5 6 7 8 34 35))
 | succ m ih =>
  refine (by kernel_rfl : aM (fun kk => D77 r n mN (xs (xs (xs x0 0 (K1 (cB r n) 5)) 1 (K4 (cW r n kk5) 0 1 5 6)) 2 (K5 (eE r n kk5) 0 1 5 6 7)) kk) (m + 1) = D77 r n mN (xs (xs (xs x0 0 (K1 (cB r n) 5)) 1 (K4 (cW r n kk5) 0 1 5 6)) 2 (K5 (eE r n kk5) 0 1 5 6 7)) (aM (fun kk => D77 r n mN (xs (xs (xs x0 0 (K1 (cB r n) 5)) 1 (K4 (cW r n kk5) 0 1 5 6)) 2 (K5 (eE r n kk5) 0 1 5 6 7)) kk) m)).trans ?_
  rw [ih]
  exact (bMx r n kk5 (uF r n kk5 m)).trans (by kernel_rfl)
theorem cIo (kk5 : dM) : D77 r n aCn (xs (xs (xs x0 0 (K1 (cB r n) 5)) 1 (K4 (cW r n kk5) 0 1 5 6)) 2 (K5 (eE r n kk5) 0 1 5 6 7)) (K5 (eE r n kk5) 0 1 5 6 7) = (K8 (bLm r n kk5) 0 1 5 6 7 8 34 35) :=
 (by kernel_rfl : D77 r n aCn (xs (xs (xs x0 0 (K1 (cB r n) 5)) 1 (K4 (cW r n kk5) 0 1 5 6)) 2 (K5 (eE r n kk5) 0 1 5 6 7)) (K5 (eE r n kk5) 0 1 5 6 7) = aM (fun kk => D77 r n mN (xs (xs (xs x0 0 (K1 (cB r n) 5)) 1 (K4 (cW r n kk5) 0 1 5 6)) 2 (K5 (eE r n kk5) 0 1 5 6 7)) kk) n).trans ((bUr r n kk5 n).trans (by kernel_rfl))
theorem cSp (kk5 : dM) : D77 r n aOt (xs (xs x0 0 (K1 (cB r n) 5)) 1 (K4 (cW r n kk5) 0 1 5 6)) (K5 (eE r n kk5) 0 1 5 6 7) = (K8 (aOl r n kk5) 0 1 5 6 7 8 34 35) :=
 (by kernel_rfl : D77 r n aOt (xs (xs x0 0 (K1 (cB r n) 5)) 1 (K4 (cW r n kk5) 0 1 5 6)) (K5 (eE r n kk5) 0 1 5 6 7) = D77 r n aCn (xs (xs (xs x0 0 (K1 (cB r n) 5)) 1 (K4 (cW r n kk5) 0 1 5 6)) 2 (K5 (eE r n kk5) 0 1 5 6 7)) (K5 (eE r n kk5) 0 1 5 6 7)).trans
 ((cIo r n kk5).trans (by kernel_rfl))
theorem cFh (kk5 : dM) : D77 r n aDr (xs (xs x0 0 (K1 (cB r n) 5)) 1 (K4 (cW r n kk5) 0 1 5 6)) (K4 (cW r n kk5) 0 1 5 6) = D77 r n zI (xs (xs x0 0 (K1 (cB r n) 5)) 1 (K4 (cW r n kk5) 0 1 5 6)) (K5 (eE r n kk5) 0 1 5 6 7) :=
 congrArg (fun k => D77 r n zI (xs (xs x0 0 (K1 (cB r n) 5)) 1 (K4 (cW r n kk5) 0 1 5 6)) k) (cTv r n kk5)
theorem cMe (kk5 : dM) : D77 r n zI (xs (xs x0 0 (K1 (cB r n) 5)) 1 (K4 (cW r n kk5) 0 1 5 6)) (K5 (eE r n kk5) 0 1 5 6 7) = D77 r n bRe (xs (xs x0 0 (K1 (cB r n) 5)) 1 (K4 (cW r n kk5) 0 1 5 6)) (K8 (aOl r n kk5) 0 1 5 6 7 8 34 35) :=
 congrArg (fun k => D77 r n bRe (xs (xs x0 0 (K1 (cB r n) 5)) 1 (K4 (cW r n kk5) 0 1 5 6)) k) (cSp r n kk5)
theorem cXd (kk5 : dM) : D77 r n aDr (xs (xs x0 0 (K1 (cB r n) 5)) 1 (K4 (cW r n kk5) 0 1 5 6)) (K4 (cW r n kk5) 0 1 5 6) = (K6 (bWf r n kk5) 0 1 5 6 7 8) :=
 (cFh r n kk5).trans
 ((cMe r n kk5).trans
 ((by kernel_rfl)))
theorem cFn (kk5 : dM) : D77 r n aGf (xs (xs x0 0 (K1 (cB r n) 5)) 1 (K4 (cW r n kk5) 0 1 5 6)) (K4 (cW r n kk5) 0 1 5 6) = D77 r n bMq (xs (xs x0 0 (K1 (cB r n) 5)) 1 (K4 (cW r n kk5) 0 1 5 6)) (K6 (bWf r n kk5) 0 1 5 6 7 8) :=
 congrArg (fun k => D77 r n bMq (xs (xs x0 0 (K1 (cB r n) 5)) 1 (K4 (cW r n kk5) 0 1 5 6)) k) (cXd r n kk5)
theorem dEs (kk5 : dM) : D77 r n aGf (xs (xs x0 0 (K1 (cB r n) 5)) 1 (K4 (cW r n kk5) 0 1 5 6)) (K4 (cW r n kk5) 0 1 5 6) = (K5 (bRt r n kk5) 0 1 5 6 7) :=
 (cFn r n kk5).trans
 ((by kernel_rfl))
theorem cIk (kk5 : dM) : D77 r n bAn (xs x0 0 (K1 (cB r n) 5)) (K4 kk5 0 1 5 6) = D77 r n aDd (xs x0 0 (K1 (cB r n) 5)) (K4 (cW r n kk5) 0 1 5 6) :=
 congrArg (fun k => D77 r n aDd (xs x0 0 (K1 (cB r n) 5)) k) (dAd r n kk5)
theorem cKu (kk5 : dM) : D77 r n aEw (xs (xs x0 0 (K1 (cB r n) 5)) 1 (K4 (cW r n kk5) 0 1 5 6)) (K4 (cW r n kk5) 0 1 5 6) = D77 r n bPr (xs (xs x0 0 (K1 (cB r n) 5)) 1 (K4 (cW r n kk5) 0 1 5 6)) (K5 (bRt r n kk5) 0 1 5 6 7) :=
 congrArg (fun k => D77 r n bPr (xs (xs x0 0 (K1 (cB r n) 5)) 1 (K4 (cW r n kk5) 0 1 5 6)) k) (dEs r n kk5)
theorem cZe (kk5 : dM) : D77 r n bAn (xs x0 0 (K1 (cB r n) 5)) (K4 kk5 0 1 5 6) = (K4 (bMu r n kk5) 0 1 5 6) :=
 (cIk r n kk5).trans
 ((by kernel_rfl : D77 r n aDd (xs x0 0 (K1 (cB r n) 5)) (K4 (cW r n kk5) 0 1 5 6) = D77 r n aEw (xs (xs x0 0 (K1 (cB r n) 5)) 1 (K4 (cW r n kk5) 0 1 5 6)) (K4 (cW r n kk5) 0 1 5 6)).trans
 ((cKu r n kk5).trans
 ((by kernel_rfl))))
theorem cRf (kk5 : dM) : D77 r n nL (xs x0 0 (K1 (cB r n) 5)) (K4 kk5 0 1 5 6) = D77 r n bJz (xs x0 0 (K1 (cB r n) 5)) (K4 (bMu r n kk5) 0 1 5 6) :=
 congrArg (fun k => D77 r n bJz (xs x0 0 (K1 (cB r n) 5)) k) (cZe r n kk5)
theorem cPi (kk5 : dM) : D77 r n nL (xs x0 0 (K1 (cB r n) 5)) (K4 kk5 0 1 5 6) = (K4 (bXg r n kk5) 0 1 5 6) :=
 (cRf r n kk5).trans
 ((by kernel_rfl))
theorem cNj (m : Nat) : aM (fun kk => D77 r n nL (xs x0 0 (K1 (cB r n) 5)) kk) m = (K4 (aGj r n m) 0 1 5 6) := by
 induction m with
 | zero => exact (by kernel_rfl : aM (fun kk => D77 r n nL (xs x0 0 (K1 (cB r n) 5)) kk) 0 = (K4 (aGj r n 0) 0 1 5 6))
 | succ m ih =>
  refine (by kernel_rfl : aM (fun kk => D77 r n nL (xs x0 0 (K1 (cB r n) 5)) kk) (m + 1) = D77 r n nL (xs x0 0 (K1 (cB r n) 5)) (aM (fun kk => D77 r n nL (xs x0 0 (K1 (cB r n) 5)) kk) m)).trans ?_
  rw [ih]
  exact (cPi r n (aGj r n m)).trans (by kernel_rfl)
theorem dHb : D77 r n bDa (xs x0 0 (K1 (cB r n) 5)) (K1 (cB r n) 5) = (K4 (cVm r n) 0 1 5 6) :=
 (by kernel_rfl : D77 r n bDa (xs x0 0 (K1 (cB r n) 5)) (K1 (cB r n) 5) = aM (fun kk => D77 r n nL (xs x0 0 (K1 (cB r n) 5)) kk) n).trans ((cNj r n n).trans (by kernel_rfl))
theorem dIf : D77 r n bOp x0 (K1 (cB r n) 5) = (K4 (bLs r n) 0 1 5 6) :=
 (by kernel_rfl : D77 r n bOp x0 (K1 (cB r n) 5) = D77 r n bDa (xs x0 0 (K1 (cB r n) 5)) (K1 (cB r n) 5)).trans
 ((dHb r n).trans (by kernel_rfl))
theorem cFs : D77 r n aYg x0 r77 = D77 r n aMh x0 (K1 (cB r n) 5) :=
 congrArg (fun k => D77 r n aMh x0 k) (dDw r n)
theorem cGu : D77 r n aMh x0 (K1 (cB r n) 5) = D77 r n bWd x0 (K4 (bLs r n) 0 1 5 6) :=
 congrArg (fun k => D77 r n bWd x0 k) (dIf r n)
theorem dAh : D77 r n aYg x0 r77 = (K3 (bJg r n) 0 1 5) :=
 (cFs r n).trans
 ((cGu r n).trans
 ((by kernel_rfl)))
theorem bWm : D77 r n bAv x0 r77 = D77 r n cCy x0 (K3 (bJg r n) 0 1 5) :=
 congrArg (fun k => D77 r n cCy x0 k) (dAh r n)
theorem cWy : D77 r n bAv x0 r77 = (K2 (bJm r n) 0 1) :=
 (bWm r n).trans
 ((by kernel_rfl))
theorem cYo : D77 r n c77 x0 r77 = D77 r n bYj x0 (K2 (bJm r n) 0 1) :=
 congrArg (fun k => D77 r n bYj x0 k) (cWy r n)
theorem dSh : D77 r n c77 x0 r77 = (K2 (s77 r n) 0 1) :=
 (cYo r n).trans
 ((by kernel_rfl))
theorem dMg : aF CF r n 77 args h = s77 r n (aU args 0) (aU args 1) h :=
 (by kernel_rfl : aF CF r n 77 args h = D77 r n c77 x0 r77 (aI args) h).trans ((congrFun (congrFun (dSh r n) (aI args)) h).trans (by kernel_rfl))
noncomputable def gR (r : RT) (n : Nat) (x10 : DV) (h0 : Hp) : aH :=
 some (.t [x10, (aE 0)], h0)
noncomputable def qZ (r : RT) (n : Nat) (kk6 : cG) (x0 x10 x29 x30 x31 : DV) (h0 : Hp) : aH :=
 bnd (aD .lss x31 x30 h0) fun v1 h1 =>
 aT v1 (
 bnd (aJ 1 x29 x31 h1) fun v2 h2 =>
 bnd (aA v2 h2) fun v3 h3 =>
 bnd (aQ x0 h3) fun v4 h4 =>
 bnd (aB 0 v4 h4) fun v5 h5 =>
 bnd (aA v5 h5) fun v6 h6 =>
 bnd (aAj [v6, x10, x31, v3] h6) fun v7 h7 =>
 bnd (aD .add x31 (aE 1) h7) fun v8 h8 =>
      kk6 x0 x10 x29 x30 v8 h8) (
      gR r n x10 h1)
noncomputable def oC (r : RT) (n : Nat) (m : Nat) : cG :=
 Nat.rec (motive := fun _ => cG) (fun _ _ _ _ _ _ => none) (fun _ ih => qZ r n ih) m
noncomputable def bPu (r : RT) (n : Nat) : cG := oC r n n
noncomputable def bBs (r : RT) (n : Nat) (x0 x10 x29 x30 x31 : DV) (h0 : Hp) : aH :=
 bPu r n x0 x10 x29 x30 x31 h0
noncomputable def bAh (r : RT) (n : Nat) (x0 x3 x10 : DV) (h0 : Hp) : aH :=
 bnd (cA x3 h0) fun v1 h1 =>
  bBs r n x0 x10 x3 v1 (aE 0) h1
noncomputable def bCv (r : RT) (n : Nat) (x0 x3 x10 x11 : DV) (h0 : Hp) : aH :=
 bnd (aD .neq x11 (aE 0) h0) fun v1 h1 =>
 aT v1 (
 some (.t [(aE 0), x11], h1)) (
  bAh r n x0 x3 x10 h1)
noncomputable def bDq (r : RT) (n : Nat) (x0 x1 x2 x3 : DV) (h0 : Hp) : aH :=
 bnd (aQ x0 h0) fun v1 h1 =>
 bnd (aB 0 v1 h1) fun v2 h2 =>
 bnd (aA v2 h2) fun v3 h3 =>
 bnd (cA x3 h3) fun v4 h4 =>
 bnd (gL [v3, x1, x2, v4] h4) fun v5 h5 =>
 bnd (aC 0 v5 h5) fun v6 h6 =>
 bnd (aC 1 v5 h6) fun v7 h7 =>
  bCv r n x0 x3 v6 v7 h7
noncomputable def s82 (r : RT) (n : Nat) (x0 x1 x2 x3 : DV) (h0 : Hp) : aH :=
 bDq r n x0 x1 x2 x3 h0
noncomputable abbrev c82 : Code := cf Tryz.f82
noncomputable abbrev bCl : Code := cR c82
noncomputable abbrev bAd : Code := cR bCl
noncomputable abbrev bCg : Code := cR bAd
noncomputable abbrev dNw : Code := cR bCg
noncomputable abbrev aOf : Code := cL bCg
noncomputable abbrev bOx : Code := cR aOf
noncomputable abbrev aVv : Code := cL bOx
noncomputable abbrev xD : Code := cL aVv
noncomputable abbrev cVy : Code := cL aOf
noncomputable abbrev bIw : Code := cL bAd
noncomputable abbrev cEj : Code := cL bCl
noncomputable abbrev bJj : Code := cL c82
noncomputable abbrev r82 : K := aP CF Tryz.f82
noncomputable def D82 (r : RT) (n : Nat) (c : Code) (X : Nat → K) (k : K) : K := aN CF r 46 n c X r82 k
theorem cYb : D82 r n dNw x0 r82 = (K1 (gR r n) 10) :=
 (by kernel_rfl)
theorem cRa (kk6 : cG) : D82 r n xD (xs x0 0 (K1 (gR r n) 10)) (K5 kk6 0 10 29 30 31) = (K5 (qZ r n kk6) 0 10 29 30 31) :=
 (by kernel_rfl)
theorem cKp (m : Nat) : aM (fun kk => D82 r n xD (xs x0 0 (K1 (gR r n) 10)) kk) m = (K5 (oC r n m) 0 10 29 30 31) := by
 induction m with
 | zero => exact (by kernel_rfl : aM (fun kk => D82 r n xD (xs x0 0 (K1 (gR r n) 10)) kk) 0 = (K5 (oC r n 0) 0 10 29 30 31))
 | succ m ih =>
  refine (by kernel_rfl : aM (fun kk => D82 r n xD (xs x0 0 (K1 (gR r n) 10)) kk) (m + 1) = D82 r n xD (xs x0 0 (K1 (gR r n) 10)) (aM (fun kk => D82 r n xD (xs x0 0 (K1 (gR r n) 10)) kk) m)).trans ?_
  rw [ih]
  exact (cRa r n (oC r n m)).trans (by kernel_rfl)
theorem cZf : D82 r n aVv (xs x0 0 (K1 (gR r n) 10)) (K1 (gR r n) 10) = (K5 (bPu r n) 0 10 29 30 31) :=
 (by kernel_rfl : D82 r n aVv (xs x0 0 (K1 (gR r n) 10)) (K1 (gR r n) 10) = aM (fun kk => D82 r n xD (xs x0 0 (K1 (gR r n) 10)) kk) n).trans ((cKp r n n).trans (by kernel_rfl))
theorem dAy : D82 r n bOx x0 (K1 (gR r n) 10) = (K5 (bBs r n) 0 10 29 30 31) :=
 (by kernel_rfl : D82 r n bOx x0 (K1 (gR r n) 10) = D82 r n aVv (xs x0 0 (K1 (gR r n) 10)) (K1 (gR r n) 10)).trans
 ((cZf r n).trans (by kernel_rfl))
theorem cHu : D82 r n bCg x0 r82 = D82 r n aOf x0 (K1 (gR r n) 10) :=
 congrArg (fun k => D82 r n aOf x0 k) (cYb r n)
theorem cTk : D82 r n aOf x0 (K1 (gR r n) 10) = D82 r n cVy x0 (K5 (bBs r n) 0 10 29 30 31) :=
 congrArg (fun k => D82 r n cVy x0 k) (dAy r n)
theorem dDq : D82 r n bCg x0 r82 = (K3 (bAh r n) 0 3 10) :=
 (cHu r n).trans
 ((cTk r n).trans
 ((by kernel_rfl)))
theorem cJi : D82 r n bAd x0 r82 = D82 r n bIw x0 (K3 (bAh r n) 0 3 10) :=
 congrArg (fun k => D82 r n bIw x0 k) (dDq r n)
theorem dBl : D82 r n bAd x0 r82 = (K4 (bCv r n) 0 3 10 11) :=
 (cJi r n).trans
 ((by kernel_rfl))
theorem cEk : D82 r n bCl x0 r82 = D82 r n cEj x0 (K4 (bCv r n) 0 3 10 11) :=
 congrArg (fun k => D82 r n cEj x0 k) (dBl r n)
theorem dCr : D82 r n bCl x0 r82 = (K4 (bDq r n) 0 1 2 3) :=
 (cEk r n).trans
 ((by kernel_rfl))
theorem dPg : D82 r n c82 x0 r82 = D82 r n bJj x0 (K4 (bDq r n) 0 1 2 3) :=
 congrArg (fun k => D82 r n bJj x0 k) (dCr r n)
theorem dPr : D82 r n c82 x0 r82 = (K4 (s82 r n) 0 1 2 3) :=
 (dPg r n).trans
 ((by kernel_rfl))
theorem cUt : aF CF r n 82 args h = s82 r n (aU args 0) (aU args 1) (aU args 2) (aU args 3) h :=
 (by kernel_rfl : aF CF r n 82 args h = D82 r n c82 x0 r82 (aI args) h).trans ((congrFun (congrFun (dPr r n) (aI args)) h).trans (by kernel_rfl))
noncomputable def fO (r : RT) (n : Nat) (x0 x1 x8 : DV) (h0 : Hp) : aH :=
 bnd (r 82 [x0, x1, (aE 2), x8] h0) fun v1 h1 =>
 bnd (aC 0 v1 h1) fun v2 h2 =>
 bnd (aC 1 v1 h2) fun v3 h3 =>
 some (.t [v2, v3], h3)
noncomputable def oK (r : RT) (n : Nat) (kk5 : fH) (x0 x1 x2 x8 x11 x12 : DV) (h0 : Hp) : aH :=
 bnd (aD .lss x12 x11 h0) fun v1 h1 =>
 aT v1 (
 bnd (fI x2 x12 h1) fun v2 h2 =>
 bnd (eB .i64 v2 h2) fun v3 h3 =>
 bnd (aL [(aE 0)] 1 [(0, 1, v3)] h3) fun v4 h4 =>
 bnd (aY 1 8 x8 v4 h4) fun v5 h5 =>
 bnd (aD .add x12 (aE 1) h5) fun v6 h6 =>
      kk5 x0 x1 x2 v5 x11 v6 h6) (
      fO r n x0 x1 x8 h1)
noncomputable def nS (r : RT) (n : Nat) (m : Nat) : fH :=
 Nat.rec (motive := fun _ => fH) (fun _ _ _ _ _ _ _ => none) (fun _ ih => oK r n ih) m
noncomputable def cCc (r : RT) (n : Nat) : fH := nS r n n
noncomputable def bDu (r : RT) (n : Nat) (x0 x1 x2 x8 x11 x12 : DV) (h0 : Hp) : aH :=
 cCc r n x0 x1 x2 x8 x11 x12 h0
noncomputable def aYx (r : RT) (n : Nat) (x0 x1 x2 x8 : DV) (h0 : Hp) : aH :=
 bnd (dV x2 h0) fun v1 h1 =>
  bDu r n x0 x1 x2 x8 v1 (aE 0) h1
noncomputable def aXj (r : RT) (n : Nat) (x0 x1 x2 : DV) (h0 : Hp) : aH :=
 aYx r n x0 x1 x2 .l0 h0
noncomputable def s83 (r : RT) (n : Nat) (x0 x1 x2 : DV) (h0 : Hp) : aH :=
 aXj r n x0 x1 x2 h0
noncomputable abbrev c83 : Code := cf Tryz.f83
noncomputable abbrev bDe : Code := cR c83
noncomputable abbrev aWi : Code := cR bDe
noncomputable abbrev dNh : Code := cR aWi
noncomputable abbrev aOb : Code := cL aWi
noncomputable abbrev bXw : Code := cR aOb
noncomputable abbrev bAp : Code := cL bXw
noncomputable abbrev sP : Code := cL bAp
noncomputable abbrev cVx : Code := cL aOb
noncomputable abbrev cVz : Code := cL bDe
noncomputable abbrev bRw : Code := cL c83
noncomputable abbrev r83 : K := aP CF Tryz.f83
noncomputable def D83 (r : RT) (n : Nat) (c : Code) (X : Nat → K) (k : K) : K := aN CF r 29 n c X r83 k
theorem dGs : D83 r n dNh x0 r83 = (K3 (fO r n) 0 1 8) :=
 (by kernel_rfl)
theorem cOp (kk5 : fH) (q0 : nA) : D83 r n sP (xs x0 0 (K3 q0 0 1 8)) (K6 kk5 0 1 2 8 11 12) = fun (env : aV) (h : Hp) =>
 bnd (aD .lss (env 12) (env 11) h) fun v1 h1 =>
 aT v1 (
 bnd (fI (env 2) (env 12) h1) fun v2 h2 =>
 bnd (eB .i64 v2 h2) fun v3 h3 =>
 bnd (aL [(aE 0)] 1 [(0, 1, v3)] h3) fun v4 h4 =>
 bnd (aY 1 8 (env 8) v4 h4) fun v5 h5 =>
 bnd (aD .add (env 12) (aE 1) h5) fun v6 h6 =>
      kk5 (env 0) (env 1) (env 2) v5 (env 11) v6 h6) (
      q0 (env 0) (env 1) (env 8) h1) := by kernel_rfl
theorem bWh (kk5 : fH) : (fun (env : aV) (h : Hp) =>
 bnd (aD .lss (env 12) (env 11) h) fun v1 h1 =>
 aT v1 (
 bnd (fI (env 2) (env 12) h1) fun v2 h2 =>
 bnd (eB .i64 v2 h2) fun v3 h3 =>
 bnd (aL [(aE 0)] 1 [(0, 1, v3)] h3) fun v4 h4 =>
 bnd (aY 1 8 (env 8) v4 h4) fun v5 h5 =>
 bnd (aD .add (env 12) (aE 1) h5) fun v6 h6 =>
      kk5 (env 0) (env 1) (env 2) v5 (env 11) v6 h6) (
      fO r n (env 0) (env 1) (env 8) h1)) = (K6 (oK r n kk5) 0 1 2 8 11 12) := by kernel_rfl
theorem cQe (kk5 : fH) : D83 r n sP (xs x0 0 (K3 (fO r n) 0 1 8)) (K6 kk5 0 1 2 8 11 12) = (K6 (oK r n kk5) 0 1 2 8 11 12) :=
 (cOp r n kk5 (fO r n)).trans (bWh r n kk5)
theorem cKq (m : Nat) : aM (fun kk => D83 r n sP (xs x0 0 (K3 (fO r n) 0 1 8)) kk) m = (K6 (nS r n m) 0 1 2 8 11 12) := by
 induction m with
 | zero => exact (by kernel_rfl : aM (fun kk => D83 r n sP (xs x0 0 (K3 (fO r n) 0 1 8)) kk) 0 = (K6 (nS r n 0) 0 1 2 8 11 12))
 | succ m ih =>
  refine (by kernel_rfl : aM (fun kk => D83 r n sP (xs x0 0 (K3 (fO r n) 0 1 8)) kk) (m + 1) = D83 r n sP (xs x0 0 (K3 (fO r n) 0 1 8)) (aM (fun kk => D83 r n sP (xs x0 0 (K3 (fO r n) 0 1 8)) kk) m)).trans ?_
  rw [ih]
  exact (cQe r n (nS r n m)).trans (by kernel_rfl)
theorem dDt : D83 r n bAp (xs x0 0 (K3 (fO r n) 0 1 8)) (K3 (fO r n) 0 1 8) = (K6 (cCc r n) 0 1 2 8 11 12) :=
 (by kernel_rfl : D83 r n bAp (xs x0 0 (K3 (fO r n) 0 1 8)) (K3 (fO r n) 0 1 8) = aM (fun kk => D83 r n sP (xs x0 0 (K3 (fO r n) 0 1 8)) kk) n).trans ((cKq r n n).trans (by kernel_rfl))
theorem dDb : D83 r n bXw x0 (K3 (fO r n) 0 1 8) = (K6 (bDu r n) 0 1 2 8 11 12) :=
 (by kernel_rfl : D83 r n bXw x0 (K3 (fO r n) 0 1 8) = D83 r n bAp (xs x0 0 (K3 (fO r n) 0 1 8)) (K3 (fO r n) 0 1 8)).trans
 ((dDt r n).trans (by kernel_rfl))
theorem cKz : D83 r n aWi x0 r83 = D83 r n aOb x0 (K3 (fO r n) 0 1 8) :=
 congrArg (fun k => D83 r n aOb x0 k) (dGs r n)
theorem cNg : D83 r n aOb x0 (K3 (fO r n) 0 1 8) = D83 r n cVx x0 (K6 (bDu r n) 0 1 2 8 11 12) :=
 congrArg (fun k => D83 r n cVx x0 k) (dDb r n)
theorem dHt : D83 r n aWi x0 r83 = (K4 (aYx r n) 0 1 2 8) :=
 (cKz r n).trans
 ((cNg r n).trans
 ((by kernel_rfl)))
theorem cFa : D83 r n bDe x0 r83 = D83 r n cVz x0 (K4 (aYx r n) 0 1 2 8) :=
 congrArg (fun k => D83 r n cVz x0 k) (dHt r n)
theorem cZr : D83 r n bDe x0 r83 = (K3 (aXj r n) 0 1 2) :=
 (cFa r n).trans
 ((by kernel_rfl))
theorem dMs : D83 r n c83 x0 r83 = D83 r n bRw x0 (K3 (aXj r n) 0 1 2) :=
 congrArg (fun k => D83 r n bRw x0 k) (cZr r n)
theorem dUi : D83 r n c83 x0 r83 = (K3 (s83 r n) 0 1 2) :=
 (dMs r n).trans
 ((by kernel_rfl))
theorem cUn : aF CF r n 83 args h = s83 r n (aU args 0) (aU args 1) (aU args 2) h :=
 (by kernel_rfl : aF CF r n 83 args h = D83 r n c83 x0 r83 (aI args) h).trans ((congrFun (congrFun (dUi r n) (aI args)) h).trans (by kernel_rfl))
noncomputable def s84 (r : RT) (n : Nat) (x0 x1 : DV) (h0 : Hp) : aH :=
 bnd (aA x1 h0) fun v1 h1 =>
 bnd (aQ v1 h1) fun v2 h2 =>
 bnd (aB 0 v2 h2) fun v3 h3 =>
 bnd (aA v3 h3) fun v4 h4 =>
 bnd (aHp [v4, x0] h4) fun v5 h5 =>
 bnd (hY .not v5 h5) fun v6 h6 =>
 some (v6, h6)
noncomputable abbrev c84 : Code := cf Tryz.f84
noncomputable abbrev r84 : K := aP CF Tryz.f84
noncomputable def D84 (r : RT) (n : Nat) (c : Code) (X : Nat → K) (k : K) : K := aN CF r 11 n c X r84 k
theorem dSl : D84 r n c84 x0 r84 = (K2 (s84 r n) 0 1) :=
 (by kernel_rfl)
theorem cUq : aF CF r n 84 args h = s84 r n (aU args 0) (aU args 1) h :=
 (by kernel_rfl : aF CF r n 84 args h = D84 r n c84 x0 r84 (aI args) h).trans ((congrFun (congrFun (dSl r n) (aI args)) h).trans (by kernel_rfl))
noncomputable def gX (r : RT) (n : Nat) (h0 : Hp) : aH :=
 some ((.i .i64 (Int.negSucc 0)), h0)
noncomputable def gP (r : RT) (n : Nat) (kk4 : dM) (x0 x1 x7 x8 : DV) (h0 : Hp) : aH :=
 bnd (aD .lss x8 x7 h0) fun v1 h1 =>
 aT v1 (
 bnd (aJ 1 x0 x8 h1) fun v2 h2 =>
 bnd (aA v2 h2) fun v3 h3 =>
 bnd (cZ CF r x1 [v3] h3) fun v4 h4 =>
 aT v4 (
 some (x8, h4)) (
 bnd (aD .add x8 (aE 1) h4) fun v5 h5 =>
    kk4 x0 x1 x7 v5 h5)) (
      gX r n h1)
noncomputable def iX (r : RT) (n : Nat) (m : Nat) : dM :=
 Nat.rec (motive := fun _ => dM) (fun _ _ _ _ _ => none) (fun _ ih => gP r n ih) m
noncomputable def aXe (r : RT) (n : Nat) : dM := iX r n n
noncomputable def aMx (r : RT) (n : Nat) (x0 x1 x7 x8 : DV) (h0 : Hp) : aH :=
 aXe r n x0 x1 x7 x8 h0
noncomputable def aNt (r : RT) (n : Nat) (x0 x1 : DV) (h0 : Hp) : aH :=
 bnd (cA x0 h0) fun v1 h1 =>
  aMx r n x0 x1 v1 (aE 0) h1
noncomputable def s89 (r : RT) (n : Nat) (x0 x1 : DV) (h0 : Hp) : aH :=
 aNt r n x0 x1 h0
noncomputable abbrev c89 : Code := cf Tryz.f89
noncomputable abbrev aXa : Code := cR c89
noncomputable abbrev dNv : Code := cR aXa
noncomputable abbrev aLz : Code := cL aXa
noncomputable abbrev bJh : Code := cR aLz
noncomputable abbrev aZx : Code := cL bJh
noncomputable abbrev xX : Code := cL aZx
noncomputable abbrev cUs : Code := cL aLz
noncomputable abbrev cVi : Code := cL c89
noncomputable abbrev r89 : K := aP CF Tryz.f89
noncomputable def D89 (r : RT) (n : Nat) (c : Code) (X : Nat → K) (k : K) : K := aN CF r 19 n c X r89 k
theorem cYr : D89 r n dNv x0 r89 = (K0 (gX r n)) :=
 (by kernel_rfl)
theorem cSn (kk4 : dM) : D89 r n xX (xs x0 0 (K0 (gX r n))) (K4 kk4 0 1 7 8) = (K4 (gP r n kk4) 0 1 7 8) :=
 (by kernel_rfl)
theorem cGc (m : Nat) : aM (fun kk => D89 r n xX (xs x0 0 (K0 (gX r n))) kk) m = (K4 (iX r n m) 0 1 7 8) := by
 induction m with
 | zero => exact (by kernel_rfl : aM (fun kk => D89 r n xX (xs x0 0 (K0 (gX r n))) kk) 0 = (K4 (iX r n 0) 0 1 7 8))
 | succ m ih =>
  refine (by kernel_rfl : aM (fun kk => D89 r n xX (xs x0 0 (K0 (gX r n))) kk) (m + 1) = D89 r n xX (xs x0 0 (K0 (gX r n))) (aM (fun kk => D89 r n xX (xs x0 0 (K0 (gX r n))) kk) m)).trans ?_
  rw [ih]
  exact (cSn r n (iX r n m)).trans (by kernel_rfl)
theorem cXq : D89 r n aZx (xs x0 0 (K0 (gX r n))) (K0 (gX r n)) = (K4 (aXe r n) 0 1 7 8) :=
 (by kernel_rfl : D89 r n aZx (xs x0 0 (K0 (gX r n))) (K0 (gX r n)) = aM (fun kk => D89 r n xX (xs x0 0 (K0 (gX r n))) kk) n).trans ((cGc r n n).trans (by kernel_rfl))
theorem dGj : D89 r n bJh x0 (K0 (gX r n)) = (K4 (aMx r n) 0 1 7 8) :=
 (by kernel_rfl : D89 r n bJh x0 (K0 (gX r n)) = D89 r n aZx (xs x0 0 (K0 (gX r n))) (K0 (gX r n))).trans
 ((cXq r n).trans (by kernel_rfl))
theorem cJq : D89 r n aXa x0 r89 = D89 r n aLz x0 (K0 (gX r n)) :=
 congrArg (fun k => D89 r n aLz x0 k) (cYr r n)
theorem cHm : D89 r n aLz x0 (K0 (gX r n)) = D89 r n cUs x0 (K4 (aMx r n) 0 1 7 8) :=
 congrArg (fun k => D89 r n cUs x0 k) (dGj r n)
theorem dDi : D89 r n aXa x0 r89 = (K2 (aNt r n) 0 1) :=
 (cJq r n).trans
 ((cHm r n).trans
 ((by kernel_rfl)))
theorem dKl : D89 r n c89 x0 r89 = D89 r n cVi x0 (K2 (aNt r n) 0 1) :=
 congrArg (fun k => D89 r n cVi x0 k) (dDi r n)
theorem dRg : D89 r n c89 x0 r89 = (K2 (s89 r n) 0 1) :=
 (dKl r n).trans
 ((by kernel_rfl))
theorem cDs : aF CF r n 89 args h = s89 r n (aU args 0) (aU args 1) h :=
 (by kernel_rfl : aF CF r n 89 args h = D89 r n c89 x0 r89 (aI args) h).trans ((congrFun (congrFun (dRg r n) (aI args)) h).trans (by kernel_rfl))
end Go.Dd

