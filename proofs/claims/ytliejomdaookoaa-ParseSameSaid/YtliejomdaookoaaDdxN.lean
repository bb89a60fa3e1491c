/- Dd, part N: a region that draws its order, walked in any order. -/
import Derived.Test.YtliejomdaookoaaDdxN0
set_option linter.unusedSimpArgs false
set_option linter.constructorNameAsVariable false
set_option linter.unusedVariables false
namespace Go.Dd
open Go.RowKit (Below)

section
variable {C : Cfg} {G : Gd} {rec : FuncId → List DV → Hp → Res} {ops : Array Oper} {nt : Nat} {p0 : Pos}

theorem mem_ready {listed : Array Bool} {i : Nat} : i ∈ Region.ready .any ops listed ↔ i < ops.size ∧ listed.getD i true = false ∧ ∃ o, ops[i]? = some o ∧ ∀ e ∈ o.after, Region.binds .any e = true → listed.getD e.on false = true := by
  unfold Region.ready
  rw [List.mem_filter]
  simp only [List.mem_range, Bool.and_eq_true, Bool.not_eq_eq_eq_not, Bool.not_true]
  constructor
  · rintro ⟨h1, h2, h3⟩
    refine ⟨h1, h2, ops[i], by simp [h1], fun e he hb => ?_⟩
    simp only [h1, getElem?_pos, Option.map_some, Option.getD_some] at h3
    have := (Array.all_eq_true_iff_forall_mem.1 h3) e he
    simpa [hb] using this
  · rintro ⟨h1, h2, o, ho, h3⟩
    refine ⟨h1, h2, ?_⟩
    simp only [ho, Option.map_some, Option.getD_some]
    refine Array.all_eq_true_iff_forall_mem.2 fun e he => ?_
    cases hb : Region.binds .any e with
    | false => simp
    | true => simp [h3 e he hb]

noncomputable def idp (C : Cfg) (ops : Array Oper) (p0 : Pos) (p : Nat) : Pos := nthPos (mkCount C.P (ops.toList.take p)) p0

structure Tr1 (C : Cfg) (rec : FuncId → List DV → Hp → Res) (ops : Array Oper) (nt : Nat) (p0 : Pos) (E : Nat → Env) (Hh : Nat → Hp) (V : Nat → DV) : Prop where
  ok : drawOk C.P ops = true
  st : ∀ p o, ops[p]? = some o → StepT C rec ops (Region.before ops) nt (idp C ops p0 p) E Hh V 0 [(none, Hh 0)] p o

/-- A heap changes only where something acts or is made. -/
theorem Tr1.same {E : Nat → Env} {Hh : Nat → Hp} {V : Nat → DV} (T : Tr1 C rec ops nt p0 E Hh V) {p : Nat} {o : Oper} (ho : ops[p]? = some o) (hc : clsOf C.P o.op ≠ .acts) (hm : clsOf C.P o.op ≠ .makes) : Hh (p + 1) = Hh p := by
  have hs := (T.st p o ho).step hm
  cases hcl : clsOf C.P o.op with
  | pure => exact (step_pure hcl _ _ _ hs).1
  | reads => exact step_reads hcl hs
  | makes => exact absurd hcl hm
  | acts => exact absurd hcl hc

/-- The heaps at which something may be done. -/
def Cand (C : Cfg) (ops : Array Oper) (q : Nat) : Prop := q = 0 ∨ ∃ j oj, ops[j]? = some oj ∧ clsOf C.P oj.op = .acts ∧ q = j + 1

theorem candOK_get {m : Array Nat} {i q : Nat} {Pv : Hp → Prop} {Hh : Nat → Hp} {tl : List (Option Nat × Hp)} : ∀ d, q ≤ d → candOK m i Pv (actsL C ops Hh 0 d ++ tl) →
    (∀ j oj, ops[j]? = some oj → clsOf C.P oj.op = .acts → q ≤ j → j < d → ¬ ordD m j i = true) → candOK m i Pv (actsL C ops Hh 0 q ++ tl)
  | 0, hq, hc, _ => by have : q = 0 := by omega
                       subst this; exact hc
  | d + 1, hq, hc, hno => by
    by_cases e : q = d + 1
    · subst e; exact hc
    · have hq' : q ≤ d := by omega
      simp only [actsL, Nat.zero_add] at hc
      cases ha : actAt C ops d with
      | false =>
        rw [ha] at hc
        simp only [Bool.false_eq_true, if_false, List.nil_append] at hc
        exact candOK_get d hq' hc fun j oj h1 h2 h3 h4 => hno j oj h1 h2 h3 (by omega)
      | true =>
        rw [ha] at hc
        simp only [if_true, List.cons_append, List.nil_append] at hc
        obtain ⟨_, h2⟩ := hc
        have ⟨oj, hoj, hcj⟩ : ∃ oj, ops[d]? = some oj ∧ clsOf C.P oj.op = .acts := by
          unfold actAt at ha
          split at ha
          · rename_i o ho; exact ⟨o, ho, by simpa using ha⟩
          · cases ha
        rcases h2 with h2 | h2
        · exact absurd h2 (hno d oj hoj hcj hq' (by omega))
        · exact candOK_get d hq' h2 fun j oj h1 h2 h3 h4 => hno j oj h1 h2 h3 (by omega)

/-- What neither acts nor makes gives the same value at every heap at which it may be done. -/
theorem Tr1.value {E : Nat → Env} {Hh : Nat → Hp} {V : Nat → DV} (T : Tr1 C rec ops nt p0 E Hh V) {listed : Array Bool} {i q : Nat} {o : Oper} (ho : ops[i]? = some o) (hc : clsOf C.P o.op ≠ .acts) (hm : clsOf C.P o.op ≠ .makes)
    (hq : Cand C ops q) (hgap : ∀ j oj, ops[j]? = some oj → clsOf C.P oj.op = .acts → (j < q ↔ S listed j))
    (hni : ¬ S listed i) (hdown : ∀ j x, ordD (Region.before ops) j x = true → S listed x → S listed j) (hpre : ∀ j, ordD (Region.before ops) j i = true → S listed j) :
    stepD C rec ops o (E i) (Hh q) = some (V i, Hh q) := by
  have hst := T.st i o ho
  cases hcl : clsOf C.P o.op with
  | acts => exact absurd hcl hc
  | makes => exact absurd hcl hm
  | pure => exact (step_pure hcl _ _ _ (hst.step hm)).2 _
  | reads =>
    rcases Nat.lt_or_ge i q with h | h
    · rcases hq with rfl | ⟨j, oj, hj, haj, rfl⟩
      · omega
      · have hSj : S listed j := (hgap j oj hj haj).1 (by omega)
        have hij : i ≠ j := fun e => by subst e; exact hni hSj
        rcases (T.st j oj hj).acts haj i o (Nat.zero_le _) (by omega) ho hcl with h3 | h3
        · exact absurd (hdown i j h3 hSj) hni
        · exact sameR_reads hcl h3
    · have h1 := hst.reads hcl
      rw [Nat.sub_zero] at h1
      have h2 := candOK_get (q := q) i h h1 fun j oj hj haj hqj hji hord => by
        have := (hgap j oj hj haj).2 (hpre j hord)
        omega
      rcases hq with rfl | ⟨j, oj, hj, haj, rfl⟩
      · exact h2.1
      · simp only [actsL, Nat.zero_add, (actAt_iff hj).2 haj, if_true, List.cons_append, List.nil_append] at h2
        exact h2.1

theorem S_set {listed : Array Bool} {i j : Nat} (hi : i < listed.size) : S (listed.setIfInBounds i true) j ↔ (j = i ∨ S listed j) := by
  unfold S
  by_cases e : j = i
  · subst e; simp [hi]
  · simp [Array.getElem?_setIfInBounds_ne (Ne.symm e), e]

theorem getD_true {listed : Array Bool} {i : Nat} (hi : i < listed.size) : listed.getD i true = listed.getD i false := by
  simp [hi]

theorem TS_set {V : Nat → DV} {env : Env} {listed : Array Bool} {i : Nat} {o : Oper} (ho : ops[i]? = some o) (hi : i < listed.size) (hni : ¬ S listed i) (t : Nat)
    (hlast : ∀ j oj, i < j → ops[j]? = some oj → oj.dst = some t → o.dst = some t → ¬ S listed j) :
    ∀ p, i < p → TS ops V env (listed.setIfInBounds i true) p t = if o.dst = some t then V i else TS ops V env listed p t := by
  have hbefore : ∀ p, p ≤ i → TS ops V env (listed.setIfInBounds i true) p = TS ops V env listed p := by
    intro p
    induction p with
    | zero => intro _; rfl
    | succ p ih =>
      intro h
      have e : (listed.setIfInBounds i true).getD p false = listed.getD p false := by simp [Array.getElem?_setIfInBounds_ne (show i ≠ p by omega)]
      simp only [TS, ih (by omega), e]
  intro p
  induction p with
  | zero => intro h; omega
  | succ p ih =>
    intro h
    by_cases hpi : p = i
    · subst hpi
      have e1 : (listed.setIfInBounds p true).getD p false = true := by simp [hi]
      have e2 : ¬ listed.getD p false = true := hni
      simp only [TS, ho, hbefore p (Nat.le_refl _), e1, if_true, setE_at]
      rw [if_neg e2]
    · have ih' := ih (by omega)
      have e : (listed.setIfInBounds i true).getD p false = listed.getD p false := by simp [Array.getElem?_setIfInBounds_ne (Ne.symm hpi)]
      cases hop : ops[p]? with
      | none => simp only [TS, hop]; exact ih'
      | some op =>
        simp only [TS, hop, e]
        split
        · rename_i hl
          rw [setE_at, setE_at, ih']
          by_cases hd : op.dst = some t
          · rw [if_pos hd, if_pos hd]
            by_cases hod : o.dst = some t
            · exact absurd hl (hlast p op (by omega) hop hd hod)
            · rw [if_neg hod]
          · rw [if_neg hd, if_neg hd]
        · exact ih'

/-! ### Rows that were made ahead of their turn -/

def Early (C : Cfg) (ops : Array Oper) (listed : Array Bool) (q i : Nat) : Prop := ∃ o, ops[i]? = some o ∧ clsOf C.P o.op = .makes ∧ S listed i ∧ q ≤ i

def GX (G : Gd) (N : Nat) (C : Cfg) (ops : Array Oper) (listed : Array Bool) (R : Nat → Nat) (q : Nat) : Gd := ⟨G.B, fun k => G.X k ∨ ∃ i, Early C ops listed q i ∧ R i = k, N⟩

structure Made (G : Gd) (C : Cfg) (ops : Array Oper) (p0 : Pos) (Hh : Nat → Hp) (ρ : Ren) (w : World) (R : Nat → Nat) (i : Nat) : Prop where
  name : ρ (idp C ops p0 i) = some ⟨R i, 0, 0, none⟩
  low : G.B ≤ R i
  ex : ¬ G.X (R i)
  row : ∃ (arr : Array Value) (t : TypeId) (cs : List DV), w.heap[R i]? = some (.cells arr t (0, 0)) ∧ VRs ρ cs arr.toList ∧ Hh (i + 1) = ⟨(Hh i).next, Tr.set (.row .ex cs) (idp C ops p0 i) (Hh i).bl⟩

/-- Their turn has come, up to a place. -/
theorem adopt_to {E : Nat → Env} {Hh : Nat → Hp} {V : Nat → DV} (T : Tr1 C rec ops nt p0 E Hh V) {listed : Array Bool} {R : Nat → Nat} {N q : Nat} {ρ : Ren} {w : World}
    (hmade : ∀ i, Early C ops listed q i → Made G C ops p0 Hh ρ w R i) (hdist : ∀ i i', Early C ops listed q i → Early C ops listed q i' → R i = R i' → i = i') :
    ∀ p, q ≤ p → p ≤ ops.size → (∀ j oj, ops[j]? = some oj → q ≤ j → j < p → clsOf C.P oj.op ≠ .acts ∧ (clsOf C.P oj.op = .makes → S listed j)) →
    HR (GX G N C ops listed R q) ρ (Hh q) w → HR (GX G N C ops listed R p) ρ (Hh p) w := by
  intro p
  induction p with
  | zero => intro h1 _ _ H; have : q = 0 := by omega
            subst this; exact H
  | succ p ih =>
    intro h1 h2 hr H
    by_cases e : q = p + 1
    · subst e; exact H
    · have H' := ih (by omega) (by omega) (fun j oj hj hq hjp => hr j oj hj hq (by omega)) H
      obtain ⟨o, ho⟩ : ∃ o, ops[p]? = some o := ⟨ops[p], by simp [show p < ops.size by omega]⟩
      obtain ⟨ha, hm⟩ := hr p o ho (by omega) (by omega)
      have hsub : ∀ k, (GX G N C ops listed R (p + 1)).X k → (GX G N C ops listed R p).X k := by
        rintro k (hk | ⟨i, ⟨oi, h3, h4, h5, h6⟩, h7⟩)
        · exact .inl hk
        · exact .inr ⟨i, ⟨oi, h3, h4, h5, by omega⟩, h7⟩
      by_cases hmk : clsOf C.P o.op = .makes
      · have hE : Early C ops listed q p := ⟨o, ho, hmk, hm hmk, by omega⟩
        have hM := hmade p hE
        obtain ⟨arr, t, cs, r1, r2, r3⟩ := hM.row
        rw [r3]
        refine HR.adopt (G := GX G N C ops listed R (p + 1)) H' rfl hsub (Nat.le_refl _) hM.name r1 r2 hM.low ?_ (.inr ⟨p, ⟨o, ho, hmk, hm hmk, Nat.le_refl _⟩, rfl⟩)
        rintro (hk | ⟨i, ⟨oi, h3, h4, h5, h6⟩, h7⟩)
        · exact hM.ex hk
        · have := hdist i p ⟨oi, h3, h4, h5, by omega⟩ hE h7
          omega
      · rw [T.same ho ha hmk]
        exact H'.weak rfl hsub (Nat.le_refl _)

def Inv (C : Cfg) (G : Gd) (ops : Array Oper) (nt : Nat) (p0 : Pos) (N : Nat) (E : Nat → Env) (Hh : Nat → Hp) (V : Nat → DV) (ρ : Ren) (w0 : World) (listed : Array Bool) (a : Act) (w : World) : Prop :=
  listed.size = ops.size ∧ (∀ j x, ordD (Region.before ops) j x = true → S listed x → S listed j) ∧
  ∃ q, q ≤ ops.size ∧ Cand C ops q ∧ (∀ j oj, ops[j]? = some oj → clsOf C.P oj.op = .acts → (j < q ↔ S listed j)) ∧
  ∃ (ρ' : Ren) (R : Nat → Nat), Ex G ρ ρ' ∧ HR (GX G N C ops listed R q) ρ' (Hh q) w ∧ EnvR ρ' (TS ops V (E 0) listed ops.size) a ∧ Kp G w0 w ∧ nt ≤ a.tmps.size ∧ a.defers = [] ∧
    (∀ i o, ops[i]? = some o → clsOf C.P o.op = .makes → ¬ S listed i → ρ' (idp C ops p0 i) = none) ∧
    (∀ i, Early C ops listed q i → Made G C ops p0 Hh ρ' w R i) ∧ (∀ i i', Early C ops listed q i → Early C ops listed q i' → R i = R i' → i = i')

theorem idp_lt {i : Nat} {o : Oper} (ho : ops[i]? = some o) (hm : clsOf C.P o.op = .makes) : (idp C ops p0 i).toNat < p0.toNat + mkCount C.P ops.toList := by
  unfold idp
  rw [nthPos_toNat]
  have hlt : i < ops.toList.length := by
    rcases Nat.lt_or_ge i ops.toList.length with h | h
    · exact h
    · simp at h; simp [Array.getElem?_eq_none h] at ho
  have key : ∀ (l : List Oper) (i : Nat), l[i]? = some o → mkCount C.P (l.take i) < mkCount C.P l := by
    intro l
    induction l with
    | nil => intro i h; simp at h
    | cons x l ih =>
      intro i h
      cases i with
      | zero => simp at h; subst h; simp [mkCount, hm]; omega
      | succ i => simp at h; have := ih i h; simp only [List.take_succ_cons, mkCount]; omega
  have := key ops.toList i (by simpa using ho)
  omega

theorem idp_ne {i i' : Nat} {o o' : Oper} (ho : ops[i]? = some o) (hm : clsOf C.P o.op = .makes) (ho' : ops[i']? = some o') (hm' : clsOf C.P o'.op = .makes) (hne : i ≠ i') : idp C ops p0 i ≠ idp C ops p0 i' := by
  have key : ∀ (l : List Oper) (i j : Nat) (o : Oper), l[i]? = some o → clsOf C.P o.op = .makes → i < j → mkCount C.P (l.take i) < mkCount C.P (l.take j) := by
    intro l
    induction l with
    | nil => intro i j o h; simp at h
    | cons x l ih =>
      intro i j o h hm hij
      cases j with
      | zero => omega
      | succ j =>
        cases i with
        | zero => simp at h; subst h; simp only [List.take_succ_cons, mkCount, hm, List.take_zero]; omega
        | succ i => simp at h; have := ih i j o h hm (by omega); simp only [List.take_succ_cons, mkCount]; omega
  intro e
  have e' := congrArg Pos.toNat e
  unfold idp at e'
  rw [nthPos_toNat, nthPos_toNat] at e'
  rcases Nat.lt_or_ge i i' with h | h
  · have := key ops.toList i i' o (by simpa using ho) hm h; omega
  · have := key ops.toList i' i o' (by simpa using ho') hm' (by omega); omega

theorem draw_any (K : OkC C rec) {N : Nat} {E : Nat → Env} {Hh : Nat → Hp} {V : Nat → DV} (T : Tr1 C rec ops nt p0 E Hh V) (hN : N = p0.toNat + mkCount C.P ops.toList) (hGN : G.N ≤ p0.toNat) {ρ : Ren} {w0 : World} {Q : Exit → Act → World → Prop}
    (hQ : ∀ ρ' a' w', Ex G ρ ρ' → HR G ρ' (Hh ops.size) w' → EnvR ρ' (E ops.size) a' → Kp G w0 w' → nt ≤ a'.tmps.size → a'.defers = [] → Q .normal a' w') :
    ∀ (fuel : Nat) (listed : Array Bool) (a : Act) (w : World), Inv C G ops nt p0 N E Hh V ρ w0 listed a w → ((List.range ops.size).filter fun i => !listed.getD i false).length ≤ fuel → wpAny C.P .any ops Q fuel listed a w := by
  have hlt : ∀ p, p < ops.size → ∃ o, ops[p]? = some o := fun p hp => ⟨ops[p], by simp [hp]⟩
  have hin : ∀ (j : Nat) oj, ops[j]? = some oj → j < ops.size := fun j oj hj => by
    rcases Nat.lt_or_ge j ops.size with h | h
    · exact h
    · simp [Array.getElem?_eq_none h] at hj
  -- when nothing is left
  have hend : ∀ listed a w, Inv C G ops nt p0 N E Hh V ρ w0 listed a w → (∀ i, i < ops.size → S listed i) → Q .normal a w := by
    rintro listed a w ⟨hsz, hdown, q, hq, hcand, hgap, ρ', R, h1, h2, h3, h4, h5, h6, h7, h8, h9⟩ hall
    have hH := adopt_to (G := G) T h8 h9 ops.size hq (Nat.le_refl _) (fun j oj hj hqj hjn => ⟨fun ha => by
      have := (hgap j oj hj ha).2 (hall j hjn)
      omega, fun _ => hall j hjn⟩) h2
    have hE : ∀ t, TS ops V (E 0) listed ops.size t = E ops.size t := fun t =>
      TS_all (E := E) rfl (fun p o hp ho => (T.st p o ho).env) (fun p hp => hlt p hp) (fun j o hj _ _ => hall j hj) ops.size (Nat.le_refl _)
    refine hQ ρ' a w h1 (hH.weak rfl (fun k hk => .inl hk) (by show G.N ≤ N; omega)) (fun t => ?_) h4 h5 h6
    rw [← hE t]
    exact h3 t
  have hready : ∀ listed, listed.size = ops.size → Region.ready .any ops listed = [] → ∀ i, i < ops.size → S listed i := by
    intro listed hsz hr i
    induction i using Nat.strongRecOn with
    | _ i ih =>
      intro hi
      obtain ⟨o, ho⟩ := hlt i hi
      by_cases hs : S listed i
      · exact hs
      · exfalso
        have hmem : i ∈ Region.ready .any ops listed := by
          rw [mem_ready]
          refine ⟨hi, ?_, o, ho, fun e he hb => ?_⟩
          · rw [getD_true (by omega)]
            unfold S at hs
            simpa using hs
          · have := (drawOk_spec T.ok ho).1 e he hb
            exact ih e.on this (by omega)
        rw [hr] at hmem
        cases hmem
  intro fuel
  induction fuel with
  | zero =>
    intro listed a w hI hfuel
    have hall : ∀ i, i < ops.size → S listed i := by
      intro i hi
      by_cases hs : S listed i
      · exact hs
      · exfalso
        have : i ∈ (List.range ops.size).filter fun i => !listed.getD i false := by
          rw [List.mem_filter]
          refine ⟨by simpa using hi, ?_⟩
          unfold S at hs
          simpa using hs
        have := List.length_pos_of_mem this
        omega
    refine ⟨?_, hend listed a w hI hall⟩
    cases hr : Region.ready .any ops listed with
    | nil => rfl
    | cons x xs =>
      have hx : x ∈ Region.ready .any ops listed := by rw [hr]; simp
      rw [mem_ready] at hx
      have := hall x hx.1
      rw [getD_true (by rw [hI.1]; exact hx.1)] at hx
      unfold S at this
      rw [this] at hx
      cases hx.2.1
  | succ fuel ih =>
    intro listed a w hI hfuel
    refine ⟨fun hr => hend listed a w hI (hready listed hI.1 hr), fun i hi => ?_⟩
    obtain ⟨hsz, hdown, q, hq, hcand, hgap, ρ', R, h1, h2, h3, h4, h5, h6, h7, h8, h9⟩ := hI
    rw [mem_ready] at hi
    obtain ⟨hisz, hni, o, ho, hpre0⟩ := hi
    rw [getD_true (by omega)] at hni
    have hnS : ¬ S listed i := by unfold S; rw [hni]; simp
    have hpre : ∀ j, ordD (Region.before ops) j i = true → S listed j := by
      intro j hj
      obtain ⟨e, he, hb, h | h⟩ := before_spec ho hj
      · rw [← h]; exact hpre0 e he hb
      · exact hdown j e.on h (hpre0 e he hb)
    have hst := T.st i o ho
    -- its operands are those of the text's order
    have hlook : ∀ t ∈ o.looksAt ops, TS ops V (E 0) listed ops.size t = E i t := by
      intro t ht
      rw [TS_skip (i := i) (fun j oj hij hj hd hS => ?_) ops.size (by omega)]
      · exact TS_all (E := E) rfl (fun p op hp hop => (T.st p op hop).env) (fun p hp => hlt p (by omega)) (fun j oj hj hoj hd => by
          rcases (drawOk_spec T.ok ho).2.2 j oj hj hoj with h | ⟨h, _⟩
          · exact hpre j h
          · exact absurd ht ((Oper.apart_spec h).1 t hd)) i (Nat.le_refl _)
      · rcases Nat.eq_or_lt_of_le hij with e | e
        · subst e; exact hnS hS
        · rcases (drawOk_spec T.ok hj).2.2 i o e ho with h | ⟨h, _⟩
          · exact hnS (hdown i j h hS)
          · exact absurd ht ((Oper.apart_spec h).2.2 t hd)
    -- what was made ahead of the gap is done
    have hmkq : ∀ j oj, ops[j]? = some oj → clsOf C.P oj.op = .makes → j < q → S listed j := by
      intro j oj hj hmj hjq
      rcases hcand with rfl | ⟨l, ol, hl, hal, rfl⟩
      · omega
      · have hSl : S listed l := (hgap l ol hl hal).1 (by omega)
        have hjl : j ≠ l := fun e => by subst e; rw [hl] at hj; cases hj; rw [hal] at hmj; cases hmj
        rcases (drawOk_spec T.ok hl).2.2 j oj (by omega) hj with h | ⟨_, h⟩
        · exact hdown j l h hSl
        · exact absurd ⟨.inr hmj, hal⟩ h
    -- what stays of the tasks behind it
    have hdown' : ∀ j x, ordD (Region.before ops) j x = true → S (listed.setIfInBounds i true) x → S (listed.setIfInBounds i true) j := by
      intro j x hjx hx
      rw [S_set (by omega)] at hx ⊢
      rcases hx with rfl | hx
      · exact .inr (hpre j hjx)
      · exact .inr (hdown j x hjx hx)
    have hTS : ∀ (ρ2 : Ren) (v2 : Value), Ext ρ' ρ2 → VR ρ2 (V i) v2 → EnvR ρ2 (TS ops V (E 0) (listed.setIfInBounds i true) ops.size) (a.put o.dst v2) := by
      intro ρ2 v2 e1 e2 t
      rw [TS_set ho (by omega) hnS t (fun j oj hij hj hd hod hS => by
        rcases (drawOk_spec T.ok hj).2.2 i o hij ho with h | ⟨h, _⟩
        · exact hnS (hdown i j h hS)
        · exact (Oper.apart_spec h).2.1 t hod hd) ops.size (by omega)]
      have := EnvR.put h3 e1 e2 hst.fits h5 t
      rwa [setE_at] at this
    have hcount : ((List.range ops.size).filter fun j => !(listed.setIfInBounds i true).getD j false).length ≤ fuel := by
      have hmem : i ∈ (List.range ops.size).filter fun i => !listed.getD i false := by
        rw [List.mem_filter]
        exact ⟨by simpa using hisz, by simp [hni]⟩
      have hle : ((List.range ops.size).filter fun j => !(listed.setIfInBounds i true).getD j false).length < ((List.range ops.size).filter fun j => !listed.getD j false).length := by
        have hsub : ((List.range ops.size).filter fun j => !(listed.setIfInBounds i true).getD j false) = ((List.range ops.size).filter fun j => !listed.getD j false).filter (fun j => j != i) := by
          rw [List.filter_filter]
          apply List.filter_congr
          intro j hj
          by_cases e : j = i
          · subst e; simp [show j < listed.size by omega]
          · simp [Array.getElem?_setIfInBounds_ne (Ne.symm e), e]
        rw [hsub]
        exact List.length_filter_lt_length_iff_exists.2 ⟨i, hmem, by simp⟩
      omega
    have hS' : ∀ j, S (listed.setIfInBounds i true) j ↔ (j = i ∨ S listed j) := fun j => S_set (by omega)
    by_cases hmk : clsOf C.P o.op = .makes
    · -- something is made
      have hqi : q ≤ i := by
        rcases Nat.lt_or_ge i q with h | h
        · exact absurd (hmkq i o ho hmk h) hnS
        · exact h
      have hg := (drawOk_spec T.ok ho).2.1 hmk
      have hbn := h7 i o ho hmk hnS
      have hst1 := hst.made hmk
      have hext : Ext ρ' (upd ρ' (idp C ops p0 i) ⟨w.heap.size, 0, 0, none⟩) := by
        intro x L hx
        by_cases e : x = idp C ops p0 i
        · subst e; rw [hbn] at hx; cases hx
        · rw [upd_other _ _ e]; exact hx
      have hE0 : opsemMk C o (idp C ops p0 i) (TS ops V (E 0) listed ops.size) (Hh i) = some (V i, Hh (i + 1)) := by
        rw [← hst1]
        refine opsemMk_congr fun x hx => opr_congr fun t ht => hlook t ?_
        unfold Oper.looksAt
        refine List.mem_append_left _ (List.mem_filterMap.2 ⟨x, by simpa using hx, ?_⟩)
        rw [ht]
      obtain ⟨cs, arr, t, v', m1, m2, m3, m4⟩ := mk_run (w := w) h3 hE0 hbn
      have hidlt := idp_lt (p0 := p0) ho hmk
      have H2 := h2.early hbn (by have := h2.nx; simp only [GX] at this; omega) arr t
      unfold wpOp
      simp only [ho]
      rw [if_pos (by simp [Region.wanted, hg])]
      refine .inl ?_
      unfold Oper.wp
      rw [m1]
      show wpAny C.P .any ops Q fuel (listed.setIfInBounds i true) (a.put o.dst v') (w.alloc (.cells arr t))
      have hEarly : ∀ j, Early C ops (listed.setIfInBounds i true) q j → j = i ∨ Early C ops listed q j := by
        rintro j ⟨oj, e1, e2, e3, e4⟩
        rcases (hS' j).1 e3 with e | e
        · exact .inl e
        · exact .inr ⟨oj, e1, e2, e, e4⟩
      have hRlt : ∀ j, Early C ops listed q j → R j < w.heap.size := fun j hj => h2.sz.2 _ (.inr ⟨j, hj, rfl⟩)
      have hjne : ∀ j, Early C ops listed q j → j ≠ i := by
        rintro j ⟨oj, e1, e2, e3, e4⟩ e
        subst e; exact hnS e3
      refine ih _ _ _ ⟨by simpa using hsz, hdown', q, hq, hcand, fun j oj hj haj => ?_, upd ρ' (idp C ops p0 i) ⟨w.heap.size, 0, 0, none⟩, fun j => if j = i then w.heap.size else R j, ?_, ?_, hTS _ _ hext m4, ?_, by rw [put_size]; exact h5, by rw [put_defers]; exact h6, ?_, ?_, ?_⟩ hcount
      · rw [hS' j, hgap j oj hj haj]
        constructor
        · exact .inr
        · rintro (h | h)
          · subst h; rw [ho] at hj; cases hj; rw [hmk] at haj; cases haj
          · exact h
      · refine h1.trans ⟨hext, fun b L hb => ?_⟩
        by_cases e : b = idp C ops p0 i
        · right
          rw [e]
          unfold idp
          rw [nthPos_toNat]
          omega
        · rw [upd_other _ _ e] at hb; exact .inl hb
      · refine H2.weak rfl ?_ (Nat.le_refl _)
        rintro k (hk | ⟨j, hj, hjk⟩)
        · exact .inl (.inl hk)
        · rcases hEarly j hj with rfl | hj'
          · right; simpa using hjk.symm
          · left; right
            refine ⟨j, hj', ?_⟩
            simpa [hjne j hj'] using hjk
      · exact h4.trans (below_alloc (G := G) ⟨h2.sz.1, fun k hk => h2.sz.2 k (.inl hk)⟩ _)
      · intro j oj hj hmj hSj
        have hji : j ≠ i := fun e => hSj ((hS' j).2 (.inl e))
        rw [upd_other _ _ (idp_ne hj hmj ho hmk hji)]
        exact h7 j oj hj hmj fun h => hSj ((hS' j).2 (.inr h))
      · intro j hj
        rcases hEarly j hj with rfl | hj'
        · refine ⟨by simp [upd_same], by simp; exact h2.sz.1, ?_, arr, t, cs, ?_, m2.mono hext, m3⟩
          · simp only [if_true]
            intro hx
            have := h2.sz.2 _ (.inl hx)
            omega
          · simp only [if_true]
            show (w.heap.push _)[w.heap.size]? = _
            simp
        · have hM := h8 j hj'
          obtain ⟨arr', t', cs', r1, r2, r3⟩ := hM.row
          have hji := hjne j hj'
          refine ⟨?_, by simp [hji]; exact hM.low, by simp [hji]; exact hM.ex, arr', t', cs', ?_, r2.mono hext, r3⟩
          · simp only [hji, if_false]; exact hext _ _ hM.name
          · simp only [hji, if_false]
            rw [Below.heap_alloc _ _ _ (hRlt j hj')]
            exact r1
      · intro j j' hj hj' he
        rcases hEarly j hj with rfl | hj1
        · rcases hEarly j' hj' with rfl | hj1'
          · rfl
          · simp only [if_true, hjne j' hj1', if_false] at he
            have := hRlt j' hj1'
            omega
        · rcases hEarly j' hj' with rfl | hj1'
          · simp only [if_true, hjne j hj1, if_false] at he
            have := hRlt j hj1
            omega
          · simp only [hjne j hj1, hjne j' hj1', if_false] at he
            exact h9 j j' hj1 hj1' he
    · -- it is done as in the text's order
      have hstep : ∃ q1 q2, q ≤ q1 ∧ q1 ≤ ops.size ∧ q2 ≤ ops.size ∧ q1 ≤ q2 ∧ Cand C ops q2 ∧ HR (GX G N C ops listed R q1) ρ' (Hh q1) w ∧
          stepD C rec ops o (TS ops V (E 0) listed ops.size) (Hh q1) = some (V i, Hh q2) ∧
          (∀ j oj, ops[j]? = some oj → clsOf C.P oj.op = .acts → (j < q2 ↔ S (listed.setIfInBounds i true) j)) ∧
          (∀ j, Early C ops (listed.setIfInBounds i true) q2 j → Early C ops listed q1 j) := by
        rw [show stepD C rec ops o (TS ops V (E 0) listed ops.size) = stepD C rec ops o (E i) from funext fun h => stepD_congr hlook]
        by_cases ha : clsOf C.P o.op = .acts
        · have hqi : q ≤ i := by
            rcases Nat.lt_or_ge i q with h | h
            · exact absurd ((hgap i o ho ha).1 h) hnS
            · exact h
          refine ⟨i, i + 1, hqi, by omega, by omega, by omega, .inr ⟨i, o, ho, ha, rfl⟩, ?_, hst.step hmk, fun j oj hj haj => ?_, ?_⟩
          · refine adopt_to (G := G) T h8 h9 i hqi (by omega) (fun j oj hj hqj hji => ⟨fun haj => ?_, fun hmj => ?_⟩) h2
            · rcases (drawOk_spec T.ok ho).2.2 j oj hji hj with h | ⟨_, h⟩
              · have := (hgap j oj hj haj).2 (hpre j h); omega
              · exact absurd ⟨.inl haj, ha⟩ h
            · rcases (drawOk_spec T.ok ho).2.2 j oj hji hj with h | ⟨_, h⟩
              · exact hpre j h
              · exact absurd ⟨.inr hmj, ha⟩ h
          · rw [hS' j]
            constructor
            · intro hlt'
              by_cases e : j = i
              · exact .inl e
              · right
                rcases (drawOk_spec T.ok ho).2.2 j oj (by omega) hj with h | ⟨_, h⟩
                · exact hpre j h
                · exact absurd ⟨.inl haj, ha⟩ h
            · rintro (h | h)
              · omega
              · rcases Nat.lt_or_ge i j with hij | hij
                · rcases (drawOk_spec T.ok hj).2.2 i o hij ho with h' | ⟨_, h'⟩
                  · exact absurd (hdown i j h' h) hnS
                  · exact absurd ⟨.inl ha, haj⟩ h'
                · omega
          · rintro j ⟨oj, e1, e2, e3, e4⟩
            rcases (hS' j).1 e3 with e | e
            · omega
            · exact ⟨oj, e1, e2, e, by omega⟩
        · refine ⟨q, q, Nat.le_refl _, hq, hq, Nat.le_refl _, hcand, h2, T.value ho ha hmk hcand hgap hnS hdown hpre, fun j oj hj haj => ?_, ?_⟩
          · rw [hS' j, hgap j oj hj haj]
            constructor
            · exact .inr
            · rintro (h | h)
              · subst h; rw [ho] at hj; cases hj; exact absurd haj ha
              · exact h
          · rintro j ⟨oj, e1, e2, e3, e4⟩
            rcases (hS' j).1 e3 with e | e
            · subst e; rw [ho] at e1; cases e1; exact absurd e2 hmk
            · exact ⟨oj, e1, e2, e, e4⟩
      obtain ⟨q1, q2, k1, k2, k2', k12, k3, k4, k5, k6, k7⟩ := hstep
      refine step_wp (step_ok K k4 h3 k5) rfl ho k4 fun ρ2 w2 v2 e1 e2 e3 e4 => ?_
      have hEq : ∀ j, Early C ops listed q1 j → Early C ops listed q j := by
        rintro j ⟨oj, f1, f2, f3, f4⟩
        exact ⟨oj, f1, f2, f3, by omega⟩
      refine ih _ _ _ ⟨by simpa using hsz, hdown', q2, k2', k3, k6, ρ2, R, ?_, ?_, hTS _ _ e1.ext e2, ?_, by rw [put_size]; exact h5, by rw [put_defers]; exact h6, ?_, ?_, ?_⟩ hcount
      · refine h1.trans ⟨e1.ext, fun b L hb => (e1.new b L hb).imp id fun h => ?_⟩
        simp only [GX] at h
        omega
      · refine e3.weak rfl ?_ (Nat.le_refl _)
        rintro k (hk | ⟨j, hj, hjk⟩)
        · exact .inl hk
        · exact .inr ⟨j, k7 j hj, hjk⟩
      · exact h4.trans ⟨e4.low, fun k hk => e4.ex k (.inl hk)⟩
      · intro j oj hj hmj hSj
        have hn := h7 j oj hj hmj fun h => hSj ((hS' j).2 (.inr h))
        cases hr : ρ2 (idp C ops p0 j) with
        | none => rfl
        | some L =>
          rcases e1.new _ _ hr with h | h
          · rw [hn] at h; cases h
          · have := idp_lt (p0 := p0) hj hmj
            simp only [GX] at h
            omega
      · intro j hj
        have hj1 := k7 j hj
        have hM := h8 j (hEq j hj1)
        obtain ⟨arr', t', cs', r1, r2, r3⟩ := hM.row
        exact ⟨e1.ext _ _ hM.name, hM.low, hM.ex, arr', t', cs', by rw [e4.ex _ (.inr ⟨j, hj1, rfl⟩)]; exact r1, r2.mono e1.ext, r3⟩
      · intro j j' hj hj' he
        exact h9 j j' (hEq j (k7 j hj)) (hEq j' (k7 j' hj')) he

theorem draw_wp (K : OkC C rec) (hm : C.P.follows .mixedOrders = true) {id : Nat} {k : Dd.K} {r : DV × Hp} {env : Env} {h : Hp} {ρ : Ren} {a : Act} {w : World} {Q : Exit → Act → World → Prop}
    (hok : drawOk C.P ops = true) (hp : drawK C rec nt ops k env h = some r) (H : HR G ρ h w) (he : EnvR ρ env a) (hnt : nt ≤ a.tmps.size) (hd : a.defers = [])
    (hQ : ∀ ρ' env' h' a' w', Ex G ρ ρ' → HR G ρ' h' w' → EnvR ρ' env' a' → Kp G w w' → nt ≤ a'.tmps.size → a'.defers = [] → k env' h' = some r → Q .normal a' w') :
    (Code.region id ops true).wp C.P Q a w := by
  obtain ⟨E, Hh, V, e1, e2, e3, e4⟩ := dopsD_trace (p0 := h.next) ops.toList 0 0 false [] _ env _ r hp (by simp) (fun _ => ⟨_, _, rfl⟩)
  simp only [Nat.zero_add, Array.length_toList, Nat.sub_zero] at e3 e4
  have T : Tr1 C rec ops nt h.next E Hh V := ⟨hok, fun p o ho => by
    have := (e4 p o (Nat.zero_le _) (by
      rcases Nat.lt_or_ge p ops.size with h | h
      · exact h
      · simp [Array.getElem?_eq_none h] at ho) ho).1
    rw [← e2] at this
    exact this⟩
  obtain ⟨n1, n2⟩ := resv_next (mkCount C.P ops.toList) h
  have hNN : (resv (mkCount C.P ops.toList) h).next.toNat = h.next.toNat + mkCount C.P ops.toList := by rw [n1, nthPos_toNat]
  refine wp_region_any hm (draw_any (G := G) K T rfl H.nx (ρ := ρ) (w0 := w) (fun ρ' a' w' h1 h2 h3 h4 h5 h6 => hQ ρ' _ _ a' w' h1 h2 h3 h4 h5 h6 e3) ops.size _ a _ ?_ ?_)
  · have hno : ∀ j, ¬ S (Array.replicate ops.size false) j := by
      intro j hj
      unfold S at hj
      simp [Array.getElem?_replicate] at hj
      split at hj <;> simp at hj
    have hnoE : ∀ j, ¬ Early C ops (Array.replicate ops.size false) 0 j := by
      rintro j ⟨oj, _, _, h3, _⟩
      exact hno j h3
    refine ⟨by simp, fun j x _ hx => absurd hx (hno x), 0, Nat.zero_le _, .inl rfl, fun j oj hj ha => ⟨fun h => by omega, fun h => absurd h (hno j)⟩, ρ, fun _ => 0, Ex.refl G ρ, ?_, ?_, ?_, hnt, hd, ?_, fun j hj => absurd hj (hnoE j), fun j j' hj => absurd hj (hnoE j)⟩
    · rw [e2]
      have := (H.reserve (mkCount C.P ops.toList)).congr (w' := { w with drawn := w.drawn + 1 }) rfl
      rw [hNN] at this
      refine this.weak rfl ?_ (Nat.le_refl _)
      rintro k (hk | ⟨j, hj, _⟩)
      · exact hk
      · exact absurd hj (hnoE j)
    · have hT : ∀ p, TS ops V (E 0) (Array.replicate ops.size false) p = E 0 := by
        intro p
        induction p with
        | zero => rfl
        | succ p ih =>
          simp only [TS, ih]
          split
          · rename_i o ho
            rw [if_neg (show ¬ (Array.replicate ops.size false).getD p false = true from hno p)]
          · rfl
      intro t
      rw [hT, e1]
      exact he t
    · exact (Kp.refl G w).drew
    · intro j oj hj hmj _
      cases hr : ρ (idp C ops h.next j) with
      | none => rfl
      | some L =>
        have h1 := H.lt _ _ hr
        unfold idp at h1
        rw [nthPos_toNat] at h1
        omega
  · have := List.length_filter_le (fun i => !(Array.replicate ops.size false).getD i false) (List.range ops.size)
    simpa using this

end
end Go.Dd
