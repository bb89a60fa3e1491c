/- Dd, part S6: both tell one thing, whatever the two nodes are; and a node is the same as itself. -/
import Derived.Test.YtliejomdaookoaaDdxS5
set_option linter.unusedVariables false
set_option linter.unusedSimpArgs false
set_option maxRecDepth 100000
namespace Go.Dd
open Go.Proofs

def Both (h : Hp) (r : Bool) (N : Nat) (x y : List DV) : Prop :=
  ∀ h' n, Ge h h' → Wf h' → N ≤ n → Ans r h' (shD n 14 [.a x, .a y] h') ∧ Ans r h' (shD n 11 [.a x, .a y] h')

def Says (h : Hp) (x y : List DV) (r : Bool) : Prop := (∃ N, Both h r N x y) ∧ (x = y → r = true)

theorem ND.shape {h : Hp} : ∀ {d : Nat} {x : List DV}, ND h d x → x.length = 6 ∧ ∀ v ∈ x, v.one = true
  | 0, x, H => H.elim
  | d + 1, x, ⟨k, t, m, s1, s2, s3, l1, l2, ks, e, a, b, c, f⟩ => by
    subst e
    refine ⟨rfl, fun v hv => ?_⟩
    simp only [List.mem_cons, List.not_mem_nil, or_false] at hv
    rcases hv with rfl | rfl | rfl | rfl | rfl | rfl
    · rfl
    · rfl
    · rfl
    · exact a.one
    · exact b.one
    · exact c.one

/-- One bound for many calls. -/
theorem bound_all {h : Hp} {rr : List DV → List DV → Bool} : ∀ (k1 k2 : List (List DV)), (∀ x ∈ k1, ∀ y ∈ k2, ∃ N, Both h (rr x y) N x y) →
    ∃ N, ∀ (i : Nat) x y, k1[i]? = some x → k2[i]? = some y → Both h (rr x y) N x y
  | [], k2, _ => ⟨0, fun i x y hx => by simp at hx⟩
  | x :: k1, [], _ => ⟨0, fun i x y _ hy => by simp at hy⟩
  | x :: k1, y :: k2, H => by
    obtain ⟨N1, h1⟩ := bound_all k1 k2 (fun a ha b hb => H a (by simp [ha]) b (by simp [hb]))
    obtain ⟨N2, h2⟩ := H x (by simp) y (by simp)
    refine ⟨max N1 N2, fun i a b ha hb => ?_⟩
    cases i with
    | zero =>
      simp at ha hb
      subst ha; subst hb
      exact fun h' n g W hn => h2 h' n g W (by omega)
    | succ i =>
      simp at ha hb
      exact fun h' n g W hn => h1 i a b ha hb h' n g W (by omega)

theorem allR_self {rr : List DV → List DV → Bool} : ∀ (k : List (List DV)), (∀ x ∈ k, rr x x = true) → allR rr k k = true
  | [], _ => rfl
  | x :: k, H => by simp [allR, H x (by simp), allR_self k (fun y hy => H y (by simp [hy]))]

theorem SL.det {h : Hp} {s : DV} {l l' : List (List Nat)} (H : SL h s l) (H' : SL h s l') : l = l' := by
  obtain ⟨_, ⟨rfl, rfl⟩ | ⟨b, cap, k, row, rfl, e2, e3⟩⟩ := H
  · obtain ⟨_, ⟨_, rfl⟩ | ⟨b, cap, k, row, h1, _⟩⟩ := H'
    · rfl
    · cases h1
  · obtain ⟨_, ⟨h1, _⟩ | ⟨b', cap', k', row', h1, f2, f3⟩⟩ := H'
    · cases h1
    · simp only [DV.l.injEq] at h1
      obtain ⟨rfl, _, hl, _⟩ := h1
      rw [e2] at f2
      cases f2
      refine List.ext_getElem hl fun i hi hi' => ?_
      have a := e3 i l[i] (by simp [hi])
      have b := f3 i l'[i] (by simp [hi'])
      rw [a] at b
      simpa using b

theorem KL.det {h : Hp} {s : DV} {l l' : List (List DV)} (H : KL h s l) (H' : KL h s l') : l = l' := by
  obtain ⟨_, ⟨rfl, rfl⟩ | ⟨b, cap, k, row, rfl, e2, e3⟩⟩ := H
  · obtain ⟨_, ⟨_, rfl⟩ | ⟨b, cap, k, row, h1, _⟩⟩ := H'
    · rfl
    · cases h1
  · obtain ⟨_, ⟨h1, _⟩ | ⟨b', cap', k', row', h1, f2, f3⟩⟩ := H'
    · cases h1
    · simp only [DV.l.injEq] at h1
      obtain ⟨rfl, _, hl, _⟩ := h1
      rw [e2] at f2
      cases f2
      refine List.ext_getElem hl fun i hi hi' => ?_
      have a := e3 i l[i] (by simp [hi])
      have b := f3 i l'[i] (by simp [hi'])
      rw [a] at b
      simpa using b

theorem says : ∀ (d : Nat) (h : Hp) (x y : List DV), ND h d x → ND h d y → ∃ r, Says h x y r
  | 0, h, x, y, H, _ => H.elim
  | d + 1, h, x, y, ⟨k, t, m, s1, s2, s3, l1, l2, ks, e, a, b, c, f⟩, ⟨k', t', m', s1', s2', s3', l1', l2', ks', e', a', b', c', f'⟩ => by
    classical
    have ih : ∀ u v, ∃ r, ND h d u → ND h d v → Says h u v r := fun u v => by
      by_cases hu : ND h d u
      · by_cases hv : ND h d v
        · obtain ⟨r, hr⟩ := says d h u v hu hv
          exact ⟨r, fun _ _ => hr⟩
        · exact ⟨true, fun _ h2 => absurd h2 hv⟩
      · exact ⟨true, fun h1 => absurd h1 hu⟩
    obtain ⟨rr, hrr⟩ : ∃ rr : List DV → List DV → Bool, ∀ u v, ND h d u → ND h d v → Says h u v (rr u v) :=
      ⟨fun u v => Classical.choose (ih u v), fun u v => Classical.choose_spec (ih u v)⟩
    obtain ⟨N, hN⟩ := bound_all (h := h) (rr := rr) ks ks' (fun u hu v hv => (hrr u v (f u hu) (f' v hv)).1)
    refine ⟨sm rr k k' t t' m m' l1 l1' l2 l2' ks ks', ⟨N + l1.length + l2.length + ks.length + 5, ?_⟩, ?_⟩
    · intro h' n g W hn
      obtain ⟨n, rfl⟩ : ∃ p, n = p + 1 := ⟨n - 1, by omega⟩
      subst e; subst e'
      have A1 := a.mono g
      have A2 := b.mono g
      have A3 := c.mono g
      have B1 := a'.mono g
      have B2 := b'.mono g
      have B3 := c'.mono g
      rw [enter14, enter11]
      exact ⟨s14_ok A1 A2 A3 B1 B2 B3 (fun u hu => (f u hu).shape) (fun u hu => (f' u hu).shape) W (by omega) (by omega) (by omega)
          (fun i u v hu hv h2 g2 W2 => (hN i u v hu hv h2 (n - 1) (g.trans g2) W2 (by omega)).1),
        s11_ok A1 A2 A3 B1 B2 B3 W (by omega) (by omega) (by omega)
          (fun i u v hu hv h2 g2 W2 => (hN i u v hu hv h2 n (g.trans g2) W2 (by omega)).2)⟩
    · intro exy
      rw [e, e'] at exy
      simp only [List.cons.injEq, DV.i.injEq, DV.s.injEq, true_and, and_true] at exy
      obtain ⟨rfl, rfl, rfl, rfl, rfl, rfl⟩ := exy
      obtain rfl := a.det a'
      obtain rfl := b.det b'
      obtain rfl := c.det c'
      have q : eqD t t = true := by rw [eqD_iff]
      have q2 : allR rr ks ks = true := allR_self ks (fun u hu => (hrr u u (f u hu) (f u hu)).2 rfl)
      simp [sm, q, q2]

end Go.Dd
