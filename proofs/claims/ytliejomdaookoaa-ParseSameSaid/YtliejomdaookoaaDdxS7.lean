/- Dd, part S7: Few answers a number. -/
import Derived.Test.YtliejomdaookoaaDdxS6
set_option linter.unusedVariables false
set_option linter.unusedSimpArgs false
set_option maxRecDepth 100000
namespace Go.Dd
open Go.Proofs

/-- A call answers some int. -/
def AnsI (h : Hp) (x : Res) : Prop := ∃ (q : Int) (h1 : Hp), x = some (.i .i64 q, h1) ∧ Ge h h1 ∧ Wf h1

theorem stepI {h h1 : Hp} {r : Res} {v : DV} {k : DV → Hp → Res} (e : r = some (v, h1)) (H : AnsI h (k v h1)) : AnsI h (bnd r k) := by
  rw [e]; exact H

theorem s13_loop {rec : FuncId → List DV → Hp → Res} {n : Nat} {h : Hp} {b1 : Pos} {c1 : List DV} {s1 : DV} {k1 : List (List DV)} {mo : Int}
    (G1 : h.bl.get b1 = some (.row .ex c1)) (C1 : c1[5]? = some s1) (H1 : KL h s1 k1)
    (Hc : ∀ (i : Nat) x, k1[i]? = some x → ∀ h' q, Ge h h' → Wf h' → AnsI h' (rec 13 [.a x, .i .i64 q] h')) :
    ∀ (m i : Nat) (h' : Hp) (q : Int), i ≤ k1.length → k1.length < m + i → Ge h h' → Wf h' → AnsI h' (s13a5l rec n m (.i .i64 mo) (.p b1 0) (.i .i64 q) (.i .i64 (i : Int)) h')
  | 0, i, h', q, h1, h2, g, W => by omega
  | m + 1, i, h', q, h1, h2, g, W => by
    show AnsI _ (s13a5b rec n (s13a5l rec n m) (.i .i64 mo) (.p b1 0) (.i .i64 q) (.i .i64 (i : Int)) h')
    unfold s13a5b
    have L1 : ∀ h'', Ge h h'' → pLoad1 (.p b1 (0 + 5)) h'' = some (s1, h'') := fun h'' g' => ld1 (g' _ _ G1) (by simpa using C1) H1.one
    refine stepI (fld _ _ _ _) (stepI (L1 _ g) (stepI (H1.len _) (stepI (int_lt _ _ _) ?_)))
    by_cases hi : i < k1.length
    · have hd : decide ((i : Int) < (k1.length : Int)) = true := by simp; omega
      have g1 : k1[i]? = some k1[i] := by simp [hi]
      obtain ⟨p1, a1, e1⟩ := H1.at g1
      rw [hd, ifD_t]
      refine stepI (int_ge _ _ _) ?_
      cases decide (q ≥ mo) with
      | true => exact ⟨_, h', rfl, Ge.refl _, W⟩
      | false =>
      rw [ifD_f]
      refine stepI (fld _ _ _ _) (stepI (L1 _ g) (stepI (a1 _) (stepI (e1 _ g) (stepI (int_sub _ _ _) ?_))))
      obtain ⟨q3, h3, r3, g3, W3⟩ := Hc i _ g1 h' (IntKind.i64.wrap (mo - q)) g W
      refine stepI r3 (stepI (int_lt _ _ _) ?_)
      cases decide (q3 < Int.ofNat 0) with
      | true => exact ⟨_, h3, rfl, g3, W3⟩
      | false =>
      rw [ifD_f]
      refine stepI (int_add _ _ _) (stepI (int_add _ _ _) ?_)
      rw [wrap_succ i _ hi H1.1]
      obtain ⟨q4, h4, r4, g4, W4⟩ := s13_loop G1 C1 H1 Hc m (i + 1) h3 (IntKind.i64.wrap (q + q3)) (by omega) (by omega) (g.trans g3) W3
      exact ⟨q4, h4, r4, g3.trans g4, W4⟩
    · have hd : decide ((i : Int) < (k1.length : Int)) = false := by simp; omega
      rw [hd, ifD_f]
      unfold s13a3
      refine stepI (int_gt _ _ _) ?_
      cases decide (q > mo) with
      | true => exact ⟨_, h', rfl, Ge.refl _, W⟩
      | false => exact ⟨_, h', rfl, Ge.refl _, W⟩

theorem few_bound {h : Hp} : ∀ (k1 : List (List DV)), (∀ x ∈ k1, ∃ N, ∀ h' n q, Ge h h' → Wf h' → N ≤ n → AnsI h' (shD n 13 [.a x, .i .i64 q] h')) →
    ∃ N, ∀ x ∈ k1, ∀ h' n q, Ge h h' → Wf h' → N ≤ n → AnsI h' (shD n 13 [.a x, .i .i64 q] h')
  | [], _ => ⟨0, fun x hx => by simp at hx⟩
  | x :: k1, H => by
    obtain ⟨N1, h1⟩ := few_bound k1 (fun a ha => H a (by simp [ha]))
    obtain ⟨N2, h2⟩ := H x (by simp)
    refine ⟨max N1 N2, fun a ha h' n q g W hn => ?_⟩
    rcases List.mem_cons.1 ha with rfl | ha
    · exact h2 h' n q g W (by omega)
    · exact h1 a ha h' n q g W (by omega)

theorem few : ∀ (d : Nat) (h : Hp) (x : List DV), ND h d x → ∃ N, ∀ h' n q, Ge h h' → Wf h' → N ≤ n → AnsI h' (shD n 13 [.a x, .i .i64 q] h')
  | 0, h, x, H => H.elim
  | d + 1, h, x, ⟨k, t, m, s1, s2, s3, l1, l2, ks, e, a, b, c, f⟩ => by
    obtain ⟨N, hN⟩ := few_bound (h := h) ks (fun u hu => few d h u (f u hu))
    refine ⟨N + ks.length + 5, fun h' n q g W hn => ?_⟩
    obtain ⟨n, rfl⟩ : ∃ p, n = p + 1 := ⟨n - 1, by omega⟩
    subst e
    rw [enter13]
    unfold s13
    refine stepI (box_a _ _) ?_
    have W1 := nw_wf W (.row .ex [.i .i64 k, .s t, .i .i64 m, s1, s2, s3])
    have G1 := nw_ge W (.row .ex [.i .i64 k, .s t, .i .i64 m, s1, s2, s3])
    have A3 := (c.mono g).mono G1
    obtain ⟨q4, h4, r4, g4, W4⟩ := s13_loop (rec := shD n) (n := n) (mo := q) (nw_get h' _) rfl A3
      (fun i u hu h2 q2 g2 W2 => hN u (List.mem_of_getElem? hu) h2 n q2 ((g.trans G1).trans g2) W2 (by omega)) n 0 _ (Int.ofNat 1) (by omega) (by omega) (Ge.refl _) W1
    exact ⟨q4, h4, r4, G1.trans g4, W4⟩

end Go.Dd
