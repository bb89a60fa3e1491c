/- Dd, part K: operations one behind the other. -/
import Derived.Test.YtliejomdaookoaaDdxJ
set_option linter.unusedSimpArgs false
set_option linter.constructorNameAsVariable false
set_option linter.unusedVariables false
namespace Go.Dd
open Go.RowKit (Below)

section
variable {C : Cfg} {G : Gd} {rec : FuncId → List DV → Hp → Res} {ρ : Ren} {w : World} {h h1 : Hp} {v : DV} {a : Act} {env : Env} {ops : Array Oper}

def StepOk (P : Program) (G : Gd) (ρ : Ren) (w : World) (v : DV) (h h1 : Hp) (a : Act) (ops : Array Oper) (o : Oper) : Prop :=
  (Region.wanted o (yielded ops a.tmps) = true ∧ OpOk P G ρ w v h1 a o) ∨ (Region.wanted o (yielded ops a.tmps) = false ∧ v = undefD ∧ h1 = h)

theorem step_ok (K : OkC C rec) (H : HR G ρ h w) (he : EnvR ρ env a) {o : Oper} (hp : stepD C rec ops o env h = some (v, h1)) : StepOk C.P G ρ w v h h1 a ops o := by
  unfold stepD at hp
  split at hp
  · rename_i hg
    exact .inl ⟨by simp [Region.wanted, hg], opsem_ok K H he hp⟩
  · rename_i j want hg
    have hw : Region.wanted o (yielded ops a.tmps) = (yielded ops a.tmps j == some want) := by simp [Region.wanted, hg]
    have hy : ∀ d, (ops[j]?).bind (·.dst) = some d → ∀ x, a.tmps.getD d undef = .bool x → yielded ops a.tmps j = some x := by
      intro d hd x hx
      unfold yielded
      rw [hd]
      simp only [Option.bind_some]
      have hx' : a.tmps[d]? = some (.bool x) := by
        cases ht : a.tmps[d]? with
        | none => simp [ht, undef] at hx
        | some y => simp [ht] at hx; rw [hx]
      rw [hx']
    unfold gD dstAt at hp
    cases hd : (ops[j]?).bind (·.dst) with
    | none =>
      simp only [hd, undefD] at hp
      simp only [Option.some.injEq, Prod.mk.injEq] at hp
      refine .inr ⟨?_, hp.1.symm, hp.2.symm⟩
      rw [hw]
      unfold yielded
      rw [hd]
      rfl
    | some d =>
      simp only [hd] at hp
      have hv := he d
      split at hp <;> (try (cases hp; done))
      · rename_i x hx
        rw [hx] at hv
        generalize hvv : a.tmps.getD d undef = vv at hv
        cases hv
        have hyy := hy d hd x hvv
        split at hp
        · rename_i hxw
          refine .inl ⟨?_, opsem_ok K H he hp⟩
          rw [hw, hyy]
          simpa using hxw
        · rename_i hxw
          simp only [Option.some.injEq, Prod.mk.injEq] at hp
          refine .inr ⟨?_, hp.1.symm, hp.2.symm⟩
          rw [hw, hyy]
          simpa using hxw
      · rename_i hx
        rw [hx] at hv
        simp only [Option.some.injEq, Prod.mk.injEq] at hp
        refine .inr ⟨?_, hp.1.symm, hp.2.symm⟩
        rw [hw]
        generalize hvv : a.tmps.getD d undef = vv at hv
        cases hv with
        | t _ x' hx' =>
          unfold yielded
          rw [hd]
          simp only [Option.bind_some]
          cases ht : a.tmps[d]? with
          | none => rfl
          | some y => simp [ht] at hvv; subst hvv; rfl

/-- A step of Dd, in the model's own words. -/
theorem step_wp {o' : Oper} (hs : StepOk C.P G ρ w v h h1 a ops o') {o : Oper} (ho : o' = o) {i : Nat} (hi : ops[i]? = some o) (H : HR G ρ h w) {Kc : Act → World → Prop} {Q : Exit → Act → World → Prop}
    (hn : ∀ ρ' w' v', Ex G ρ ρ' → VR ρ' v v' → HR G ρ' h1 w' → Kp G w w' → Kc (a.put o.dst v') w') : wpOp C.P ops Q i Kc a w := by
  subst ho
  unfold wpOp
  simp only [hi]
  rcases hs with ⟨hw, hok⟩ | ⟨hw, rfl, rfl⟩
  · rw [if_pos hw]
    refine .inl ?_
    unfold Oper.wp
    rcases hok with ⟨ρ', w', v', hr | ⟨hr, rfl⟩, h2, h3, h4, h5⟩ | ⟨g, args, hr, hc⟩
    · rw [hr]; exact hn ρ' w' v' h2 h3 h4 h5
    · rw [hr]; exact hn ρ' w' _ h2 h3 h4 h5
    · rw [hr]
      refine hc.mono fun e w'' he => ?_
      obtain ⟨ρ', v', rfl, h2, h3, h4, h5⟩ := he
      exact hn ρ' w'' v' h2 h3 h4 h5
  · rw [if_neg (by rw [hw]; simp)]
    exact hn ρ w undef (Ex.refl G ρ) (.t [] #[] .nil) H (Kp.refl G w)

theorem put_size (a : Act) (d : Option Tmp) (x : Value) : (a.put d x).tmps.size = a.tmps.size := by
  cases d <;> simp [Act.put]

theorem put_defers (a : Act) (d : Option Tmp) (x : Value) : (a.put d x).defers = a.defers := by
  cases d <;> rfl

theorem EnvR.put {ρ' : Ren} (he : EnvR ρ env a) (hext : Ext ρ ρ') {d : Option Tmp} {v' : Value} (hv : VR ρ' v v') {nt : Nat} (hf : fitsE nt d = true) (hnt : nt ≤ a.tmps.size) : EnvR ρ' (setE env d v) (a.put d v') := by
  intro t
  cases d with
  | none => exact (he t).mono hext
  | some d =>
    simp only [fitsE] at hf
    have hlt : d < a.tmps.size := Nat.lt_of_lt_of_le (Nat.le_of_ble_eq_true hf) hnt
    simp only [setE, Act.put]
    by_cases e : t = d
    · subst e
      simp [hlt, hv]
    · have e' : Nat.beq t d = false := by
        cases hb : Nat.beq t d with
        | false => rfl
        | true => exact absurd (Nat.eq_of_beq_eq_true hb) e
      rw [e']
      have h0 := (he t).mono hext
      simpa [Array.getElem?_setIfInBounds_ne (Ne.symm e)] using h0

theorem EnvR.mono {ρ' : Ren} (he : EnvR ρ env a) (hext : Ext ρ ρ') : EnvR ρ' env a := fun t => (he t).mono hext

/-- What the operations come to. -/
def OpsRun (C : Cfg) (rec : FuncId → List DV → Hp → Res) (nt : Nat) (ops : Array Oper) : List Oper → Env → Hp → Env → Hp → Prop
  | [], e, h, e', h' => e = e' ∧ h = h'
  | o :: os, e, h, e', h' => fitsE nt o.dst = true ∧ ∃ v h1, stepD C rec ops o e h = some (v, h1) ∧ OpsRun C rec nt ops os (setE e o.dst v) h1 e' h'

theorem bnd_some {r : Res} {k : DV → Hp → Res} {z : DV × Hp} (hb : bnd r k = some z) : ∃ v h, r = some (v, h) ∧ k v h = some z := by
  unfold bnd at hb
  split at hb
  · rename_i v h; exact ⟨v, h, rfl, hb⟩
  · cases hb

theorem opsD_run {nt : Nat} : ∀ (l : List Oper) (k : K) (env : Env) (h : Hp) (r : DV × Hp), opsD C rec nt ops l k env h = some r → ∃ env' h', OpsRun C rec nt ops l env h env' h' ∧ k env' h' = some r
  | [], k, env, h, r, hp => ⟨env, h, ⟨rfl, rfl⟩, hp⟩
  | o :: os, k, env, h, r, hp => by
    change cnd (fitsE nt o.dst) (bnd (stepD C rec ops o env h) fun v h' => opsD C rec nt ops os k (setE env o.dst v) h') = some r at hp
    cases hf : fitsE nt o.dst with
    | false => rw [hf] at hp; cases hp
    | true =>
      rw [hf] at hp
      obtain ⟨v, h1, h2, h3⟩ := bnd_some hp
      obtain ⟨env', h', h4, h5⟩ := opsD_run os k _ _ r h3
      exact ⟨env', h', ⟨hf, v, h1, h2, h4⟩, h5⟩

theorem ops_wp (K : OkC C rec) {nt : Nat} {Q : Exit → Act → World → Prop} {env' : Env} {h' : Hp} : ∀ (l : List Oper) (i : Nat) (ρ : Ren) (env : Env) (h : Hp) (a : Act) (w : World),
    (∀ j : Nat, l[j]? = ops[i + j]?) → OpsRun C rec nt ops l env h env' h' → HR G ρ h w → EnvR ρ env a → nt ≤ a.tmps.size → a.defers = [] →
    (∀ ρ' a' w', Ex G ρ ρ' → HR G ρ' h' w' → EnvR ρ' env' a' → Kp G w w' → nt ≤ a'.tmps.size → a'.defers = [] → Q .normal a' w') → wpOps C.P ops Q (List.range' i l.length) a w
  | [], i, ρ, env, h, a, w, _, hr, H, he, hnt, hd, hQ => by
    obtain ⟨rfl, rfl⟩ := hr
    exact hQ ρ a w (Ex.refl G ρ) H he (Kp.refl G w) hnt hd
  | o :: os, i, ρ, env, h, a, w, hl, hr, H, he, hnt, hd, hQ => by
    obtain ⟨hf, v, h1, hs, hr'⟩ := hr
    have hi : ops[i]? = some o := by simpa using (hl 0).symm
    simp only [List.length_cons, List.range'_succ]
    rw [wpOps_cons]
    refine step_wp (step_ok K H he hs) rfl hi H fun ρ' w' v' h2 h3 h4 h5 => ?_
    refine ops_wp K os (i + 1) ρ' _ h1 _ w' (fun j => ?_) hr' h4 (he.put h2.ext h3 hf hnt) (by rw [put_size]; exact hnt) (by rw [put_defers]; exact hd) fun ρ2 a2 w2 e1 e2 e3 e4 e5 e6 => ?_
    · have := hl (j + 1)
      simpa [Nat.add_assoc, Nat.add_comm 1 j] using this
    · exact hQ ρ2 a2 w2 (h2.trans e1) e2 e3 (h5.trans e4) e5 e6

end
end Go.Dd
