/- Dd, part M: a region that draws its order. -/
import Derived.Test.YtliejomdaookoaaDdxL
set_option linter.unusedSimpArgs false
set_option linter.constructorNameAsVariable false
set_option linter.unusedVariables false
namespace Go.Dd
open Go.RowKit (Below)

section
variable {C : Cfg} {G : Gd} {rec : FuncId → List DV → Hp → Res} {ops : Array Oper} {m : Array Nat} {nt : Nat} {k : K}

def actAt (C : Cfg) (ops : Array Oper) (j : Nat) : Bool :=
  match ops[j]? with
  | some o => decide (clsOf C.P o.op = .acts)
  | none => false

theorem actAt_iff {j : Nat} {o : Oper} (ho : ops[j]? = some o) : actAt C ops j = true ↔ clsOf C.P o.op = .acts := by
  unfold actAt; rw [ho]; simp

/-- The heaps behind what acted, the last first. -/
def actsL (C : Cfg) (ops : Array Oper) (Hh : Nat → Hp) (lo : Nat) : Nat → List (Option Nat × Hp)
  | 0 => []
  | d + 1 => (if actAt C ops (lo + d) then [(some (lo + d), Hh (lo + d + 1))] else []) ++ actsL C ops Hh lo d

theorem actsL_congr {Hh Hh' : Nat → Hp} {lo : Nat} : ∀ d, (∀ p, lo < p → p ≤ lo + d → Hh p = Hh' p) → actsL C ops Hh lo d = actsL C ops Hh' lo d
  | 0, _ => rfl
  | d + 1, h => by
    simp only [actsL]
    rw [actsL_congr d (fun p h1 h2 => h p h1 (by omega)), h (lo + d + 1) (by omega) (by omega)]

theorem actsL_first {Hh : Nat → Hp} {lo : Nat} : ∀ d, actsL C ops Hh lo (d + 1) = actsL C ops Hh (lo + 1) d ++ (if actAt C ops lo then [(some lo, Hh (lo + 1))] else [])
  | 0 => by simp [actsL]
  | d + 1 => by
    have ih := actsL_first (Hh := Hh) (lo := lo) d
    rw [actsL, ih]
    simp only [actsL, List.append_assoc]
    rw [show lo + 1 + d = lo + (d + 1) from by omega]

def candOK (m : Array Nat) (p : Nat) (Pv : Hp → Prop) : List (Option Nat × Hp) → Prop
  | [] => True
  | (j, hj) :: rest => Pv hj ∧ (match j with
    | none => True
    | some j => ordD m j p = true ∨ candOK m p Pv rest)

theorem candChk_ok {m : Array Nat} {i : Nat} {v : DV} {look : Hp → Res} {Pv : Hp → Prop} (hP : ∀ h, sameR (look h) v = true → Pv h) : ∀ (hs : List (Option Nat × Hp)), candChk m i v look true hs = true → candOK m i Pv hs
  | [], _ => trivial
  | (j, hj) :: rest, hc => by
    simp only [candChk, cond_true, Bool.and_eq_true] at hc
    refine ⟨hP hj hc.1, ?_⟩
    cases j with
    | none => trivial
    | some j =>
      simp only at hc ⊢
      cases ho : ordD m j i with
      | true => exact .inl rfl
      | false =>
        rw [ho] at hc
        exact .inr (candChk_ok hP rest hc.2)

structure StepT (C : Cfg) (rec : FuncId → List DV → Hp → Res) (ops : Array Oper) (m : Array Nat) (nt : Nat) (b : Pos) (E : Nat → Env) (Hh : Nat → Hp) (V : Nat → DV) (lo : Nat) (hs : List (Option Nat × Hp)) (p : Nat) (o : Oper) : Prop where
  fits : fitsE nt o.dst = true
  step : clsOf C.P o.op ≠ .makes → stepD C rec ops o (E p) (Hh p) = some (V p, Hh (p + 1))
  made : clsOf C.P o.op = .makes → opsemMk C o b (E p) (Hh p) = some (V p, Hh (p + 1))
  env : E (p + 1) = setE (E p) o.dst (V p)
  reads : clsOf C.P o.op = .reads → candOK m p (fun h => stepD C rec ops o (E p) h = some (V p, h)) (actsL C ops Hh lo (p - lo) ++ hs)
  acts : clsOf C.P o.op = .acts → ∀ j oj, lo ≤ j → j < p → ops[j]? = some oj → clsOf C.P oj.op = .reads → ordD m j p = true ∨ sameR (stepD C rec ops oj (E j) (Hh (p + 1))) (V j) = true

theorem sameR_reads {o : Oper} {env : Env} {h : Hp} {v : DV} (hc : clsOf C.P o.op = .reads) (hs : sameR (stepD C rec ops o env h) v = true) : stepD C rec ops o env h = some (v, h) := by
  cases hr : stepD C rec ops o env h with
  | none => rw [hr] at hs; cases hs
  | some r =>
    obtain ⟨x, h1⟩ := r
    rw [hr] at hs
    have := DV.beq_eq _ _ hs
    have h2 := step_reads hc hr
    rw [this, h2]

theorem dopsD_trace {p0 : Pos} : ∀ (l : List Oper) (i c : Nat) (dirty : Bool) (rd : List Seen) (hs : List (Option Nat × Hp)) (env : Env) (h : Hp) (r : DV × Hp),
    dopsD C rec nt ops m p0 l k i c dirty rd hs env h = some r → (∀ j : Nat, l[j]? = ops[i + j]?) → (dirty = false → ∃ j rest, hs = (j, h) :: rest) →
    ∃ (E : Nat → Env) (Hh : Nat → Hp) (V : Nat → DV), E i = env ∧ Hh i = h ∧ k (E (i + l.length)) (Hh (i + l.length)) = some r ∧
      ∀ p o, i ≤ p → p < i + l.length → ops[p]? = some o → StepT C rec ops m nt (nthPos (c + mkCount C.P (l.take (p - i))) p0) E Hh V i hs p o ∧
        (clsOf C.P o.op = .acts → ∀ q ∈ rd, ordD m q.at_ p = true ∨ sameR (q.look (Hh (p + 1))) q.v = true)
  | [], i, c, dirty, rd, hs, env, h, r, hp, hl, _ => ⟨fun _ => env, fun _ => h, fun _ => .u, rfl, rfl, hp, fun p o h1 h2 => by simp at h2; omega⟩
  | o :: os, i, c, dirty, rd, hs, env, h, r, hp, hl, hdirty => by
    have hi : ops[i]? = some o := by simpa using (hl 0).symm
    have hl' : ∀ j : Nat, os[j]? = ops[i + 1 + j]? := fun j => by
      have := hl (j + 1)
      simpa [Nat.add_assoc, Nat.add_comm 1 j] using this
    -- the step, whatever its class
    have hstep : ∃ v h1 c' dirty' rd' hs', fitsE nt o.dst = true ∧ (clsOf C.P o.op ≠ .makes → stepD C rec ops o env h = some (v, h1)) ∧ (clsOf C.P o.op = .makes → opsemMk C o (nthPos c p0) env h = some (v, h1)) ∧
        dopsD C rec nt ops m p0 os k (i + 1) c' dirty' rd' hs' (setE env o.dst v) h1 = some r ∧ (dirty' = false → ∃ j rest, hs' = (j, h1) :: rest) ∧
        (∀ q ∈ rd, q ∈ rd') ∧ hs' = (if actAt C ops i then [(some i, h1)] else []) ++ hs ∧ c' = c + mkCount C.P [o] ∧
        (clsOf C.P o.op = .reads → candOK m i (fun h => stepD C rec ops o env h = some (v, h)) hs ∧ ⟨i, stepD C rec ops o env, v⟩ ∈ rd') ∧
        (clsOf C.P o.op = .acts → (∀ q ∈ rd, ordD m q.at_ i = true ∨ sameR (q.look h1) q.v = true)) := by
      change cnd (fitsE nt o.dst) (
          match clsOf C.P o.op with
          | .pure => bnd (stepD C rec ops o env h) fun v h' => dopsD C rec nt ops m p0 os k (i + 1) c dirty rd hs (setE env o.dst v) h'
          | .reads => bnd (stepD C rec ops o env h) fun v h' =>
              cnd (candChk m i v (stepD C rec ops o env) dirty hs) (dopsD C rec nt ops m p0 os k (i + 1) c dirty (⟨i, stepD C rec ops o env, v⟩ :: rd) hs (setE env o.dst v) h')
          | .makes => bnd (opsemMk C o (nthPos c p0) env h) fun v h' => dopsD C rec nt ops m p0 os k (i + 1) (c + 1) true rd hs (setE env o.dst v) h'
          | .acts => bnd (stepD C rec ops o env h) fun v h' =>
              cnd (rd.all (fun q => ordD m q.at_ i || sameR (q.look h') q.v)) (dopsD C rec nt ops m p0 os k (i + 1) c false rd ((some i, h') :: hs) (setE env o.dst v) h')) = some r at hp
      cases hf : fitsE nt o.dst with
      | false => rw [hf] at hp; cases hp
      | true =>
        rw [hf] at hp
        dsimp only [cnd] at hp
        cases hc : clsOf C.P o.op with
        | pure =>
          have ha : actAt C ops i = false := by unfold actAt; rw [hi]; simp [hc]
          rw [hc] at hp
          obtain ⟨v, h1, h2, h3⟩ := bnd_some hp
          have hh := (step_pure hc _ _ _ h2).1
          refine ⟨v, h1, c, dirty, rd, hs, rfl, fun _ => h2, (fun h => by cases h), h3, (by rw [hh]; exact hdirty), fun q hq => hq, by simp [ha], by simp [mkCount, hc], (fun h => by cases h), (fun h => by cases h)⟩
        | reads =>
          have ha : actAt C ops i = false := by unfold actAt; rw [hi]; simp [hc]
          rw [hc] at hp
          obtain ⟨v, h1, h2, h3⟩ := bnd_some hp
          have hh := step_reads hc h2
          cases hall : candChk m i v (stepD C rec ops o env) dirty hs with
          | false => rw [hall] at h3; cases h3
          | true =>
            rw [hall] at h3
            refine ⟨v, h1, c, dirty, _, hs, rfl, fun _ => h2, (fun h => by cases h), h3, (by rw [hh]; exact hdirty), (fun q hq => by simp [hq]), by simp [ha], by simp [mkCount, hc], fun _ => ⟨?_, by simp⟩, (fun h => by cases h)⟩
            have hP : ∀ h, sameR (stepD C rec ops o env h) v = true → stepD C rec ops o env h = some (v, h) := fun h hs => sameR_reads hc hs
            cases hd : dirty with
            | true => rw [hd] at hall; exact candChk_ok hP hs hall
            | false =>
              obtain ⟨j, rest, hcons⟩ := hdirty hd
              subst hcons
              rw [hd] at hall
              simp only [candChk, cond_false, Bool.true_and] at hall
              refine ⟨by rw [hh] at h2; exact h2, ?_⟩
              cases j with
              | none => trivial
              | some j =>
                simp only at hall ⊢
                cases ho : ordD m j i with
                | true => exact .inl rfl
                | false => rw [ho] at hall; exact .inr (candChk_ok hP rest hall)
        | makes =>
          have ha : actAt C ops i = false := by unfold actAt; rw [hi]; simp [hc]
          rw [hc] at hp
          obtain ⟨v, h1, h2, h3⟩ := bnd_some hp
          exact ⟨v, h1, c + 1, true, rd, hs, rfl, (fun h => absurd rfl h), fun _ => h2, h3, (fun h => by cases h), fun q hq => hq, by simp [ha], by simp [mkCount, hc], (fun h => by cases h), (fun h => by cases h)⟩
        | acts =>
          have ha : actAt C ops i = true := by unfold actAt; rw [hi]; simp [hc]
          rw [hc] at hp
          obtain ⟨v, h1, h2, h3⟩ := bnd_some hp
          cases hall : rd.all (fun q => ordD m q.at_ i || sameR (q.look h1) q.v) with
          | false => rw [hall] at h3; cases h3
          | true =>
            rw [hall] at h3
            refine ⟨v, h1, c, false, rd, _, rfl, fun _ => h2, (fun h => by cases h), h3, fun _ => ⟨_, _, rfl⟩, fun q hq => hq, by simp [ha], by simp [mkCount, hc], (fun h => by cases h), fun _ q hq => ?_⟩
            have := List.all_eq_true.1 hall q hq
            simpa using this
    obtain ⟨v, h1, c', dirty', rd', hs', hf, hst, hmk, hrest, hdirty', hrd, hhs, hcc, hR, hA⟩ := hstep
    obtain ⟨E', Hh', V', e1, e2, e3, e4⟩ := dopsD_trace os (i + 1) c' dirty' rd' hs' _ h1 r hrest hl' hdirty'
    refine ⟨fun p => if p = i then env else E' p, fun p => if p = i then h else Hh' p, fun p => if p = i then v else V' p, by simp, by simp, ?_, ?_⟩
    · simp only [List.length_cons]
      rw [if_neg (by omega), if_neg (by omega), show i + (os.length + 1) = i + 1 + os.length from by omega]
      exact e3
    · intro p o' hp1 hp2 ho'
      by_cases hpi : p = i
      · subst hpi
        rw [hi] at ho'
        cases ho'
        refine ⟨⟨hf, ?_, ?_, ?_, ?_, ?_⟩, ?_⟩
        · intro hc
          simp only [if_true]
          rw [if_neg (by omega), e2]
          exact hst hc
        · intro hc
          simp only [if_true, Nat.sub_self, List.take_zero, mkCount, Nat.add_zero]
          rw [if_neg (by omega), e2]
          exact hmk hc
        · simp only [if_true]
          rw [if_neg (by omega), e1]
        · intro hc
          simpa [actsL] using (hR hc).1
        · intro _ j oj hj1 hj2; omega
        · intro hc q hq
          simp only [show p + 1 ≠ p from by omega, if_false, e2]
          exact hA hc q hq
      · simp only [List.length_cons] at hp2
        obtain ⟨s, sa⟩ := e4 p o' (by omega) (by omega) ho'
        refine ⟨⟨s.fits, ?_, ?_, ?_, ?_, ?_⟩, ?_⟩
        · intro hc; simp only [hpi, if_false, show p + 1 ≠ i from by omega]; exact s.step hc
        · intro hc
          simp only [hpi, if_false, show p + 1 ≠ i from by omega]
          have := s.made hc
          rw [hcc] at this
          have e : c + mkCount C.P ((o :: os).take (p - i)) = c + mkCount C.P [o] + mkCount C.P (os.take (p - (i + 1))) := by
            rw [show p - i = (p - (i + 1)) + 1 from by omega, List.take_succ_cons]
            simp [mkCount, Nat.add_assoc]
          rw [e]
          exact this
        · simp only [hpi, if_false, show p + 1 ≠ i from by omega]; exact s.env
        · intro hc
          have := s.reads hc
          simp only [hpi, if_false]
          have e : actsL C ops (fun p => if p = i then h else Hh' p) i (p - i) ++ hs = actsL C ops Hh' (i + 1) (p - (i + 1)) ++ hs' := by
            rw [show p - i = (p - (i + 1)) + 1 from by omega, actsL_first, hhs]
            rw [actsL_congr (Hh' := Hh') (p - (i + 1)) (fun q h1 h2 => by simp [show q ≠ i from by omega])]
            simp only [show i + 1 ≠ i from by omega, if_false, e2, List.append_assoc]
          rw [e]
          exact this
        · intro hc j oj hj1 hj2 hoj hcj
          by_cases hji : j = i
          · subst hji
            rw [hi] at hoj
            cases hoj
            simp only [if_true, show p + 1 ≠ j from by omega, if_false]
            exact sa hc ⟨j, stepD C rec ops o env, v⟩ (hR hcj).2
          · simp only [hji, if_false, show p + 1 ≠ i from by omega]
            exact s.acts hc j oj (by omega) hj2 hoj hcj
        · intro hc q hq
          simp only [show p + 1 ≠ i from by omega, if_false]
          exact sa hc q (hrd q hq)

theorem drawOk_spec (hd : drawOk C.P ops = true) {j : Nat} {y : Oper} (hy : ops[j]? = some y) :
    (∀ e ∈ y.after, Region.binds .any e = true → e.on < j) ∧ (clsOf C.P y.op = .makes → y.guard = none) ∧
    ∀ i x, i < j → ops[i]? = some x → ordD (Region.before ops) i j = true ∨ (Oper.apart ops x y = true ∧ ¬ ((clsOf C.P x.op = .acts ∨ clsOf C.P x.op = .makes) ∧ clsOf C.P y.op = .acts)) := by
  unfold drawOk at hd
  have hj : j < ops.size := by
    rcases Nat.lt_or_ge j ops.size with h | h
    · exact h
    · simp [Array.getElem?_eq_none h] at hy
  have h1 := List.all_eq_true.1 hd j (by simpa using hj)
  simp only [hy, Bool.and_eq_true] at h1
  obtain ⟨⟨h2, hg⟩, h3⟩ := h1
  refine ⟨fun e he hb => ?_, fun hm => ?_, fun i x hij hx => ?_⟩
  · have := (Array.all_eq_true_iff_forall_mem.1 h2) e he
    simp only [hb, Bool.not_true, Bool.false_or] at this
    exact Nat.le_of_ble_eq_true this
  · cases hgd : y.guard with
    | none => rfl
    | some g => rw [hgd] at hg; simp [hm] at hg
  · have := List.all_eq_true.1 h3 i (by simpa using hij)
    simp only [hx, Bool.or_eq_true, Bool.and_eq_true] at this
    rcases this with h | ⟨h, h'⟩
    · exact .inl h
    · refine .inr ⟨h, ?_⟩
      rintro ⟨a1, a2⟩
      rcases a1 with a1 | a1 <;> simp [a1, a2] at h'

/-! ### What has been done so far -/

def S (listed : Array Bool) (j : Nat) : Prop := listed.getD j false = true

/-- The environment, some of the operations being done. -/
def TS (ops : Array Oper) (V : Nat → DV) (env : Env) (listed : Array Bool) : Nat → Env
  | 0 => env
  | p + 1 => match ops[p]? with
    | some o => if listed.getD p false then setE (TS ops V env listed p) o.dst (V p) else TS ops V env listed p
    | none => TS ops V env listed p

theorem setE_at (env : Env) (d : Option Tmp) (v : DV) (t : Nat) : setE env d v t = if d = some t then v else env t := by
  cases d with
  | none => simp [setE]
  | some d =>
    simp only [setE, Option.some.injEq]
    by_cases e : t = d
    · subst e
      rw [if_pos rfl]
      have : Nat.beq t t = true := Nat.beq_refl t
      rw [this]; rfl
    · rw [if_neg (fun h => e h.symm)]
      have : Nat.beq t d = false := by
        cases hb : Nat.beq t d with
        | false => rfl
        | true => exact absurd (Nat.eq_of_beq_eq_true hb) e
      rw [this]; rfl

theorem TS_skip {V : Nat → DV} {env : Env} {listed : Array Bool} {t i : Nat} (hno : ∀ j o, i ≤ j → ops[j]? = some o → o.dst = some t → ¬ S listed j) :
    ∀ p, i ≤ p → TS ops V env listed p t = TS ops V env listed i t := by
  intro p
  induction p with
  | zero => intro h; have : i = 0 := by omega
            subst this; rfl
  | succ p ih =>
    intro h
    by_cases e : i = p + 1
    · rw [e]
    · have ih' := ih (by omega)
      cases ho : ops[p]? with
      | none => simp only [TS, ho]; exact ih'
      | some o =>
        simp only [TS, ho]
        split
        · rename_i hl
          rw [setE_at]
          rw [if_neg (fun hd => hno p o (by omega) ho hd hl)]
          exact ih'
        · exact ih'

theorem TS_all {V : Nat → DV} {env : Env} {listed : Array Bool} {E : Nat → Env} (h0 : E 0 = env) {t i : Nat} (hE : ∀ p o, p < i → ops[p]? = some o → E (p + 1) = setE (E p) o.dst (V p))
    (hin : ∀ p, p < i → ∃ o, ops[p]? = some o) (hyes : ∀ j o, j < i → ops[j]? = some o → o.dst = some t → S listed j) :
    ∀ p, p ≤ i → TS ops V env listed p t = E p t := by
  intro p
  induction p with
  | zero => intro _; simp [TS, h0]
  | succ p ih =>
    intro h
    have ih' := ih (by omega)
    obtain ⟨o, ho⟩ := hin p (by omega)
    rw [hE p o (by omega) ho, setE_at]
    simp only [TS, ho]
    split
    · rw [setE_at, ih']
    · rename_i hl
      rw [if_neg (fun hd => hl (hyes p o (by omega) ho hd))]
      exact ih'

end
end Go.Dd
