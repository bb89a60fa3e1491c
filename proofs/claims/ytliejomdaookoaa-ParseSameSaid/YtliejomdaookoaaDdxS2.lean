/- Dd, part S2: nodes in a heap of Dd; whether two are the same, by the program and by the document. -/
import Derived.Test.YtliejomdaookoaaDdxS1
set_option linter.unusedVariables false
set_option linter.unusedSimpArgs false
set_option maxRecDepth 100000
namespace Go.Dd
open Go.Proofs

/-- A slice of nodes, by the cells of each. -/
def KL (h : Hp) (s : DV) (ks : List (List DV)) : Prop :=
  ks.length ≤ 9223372036854775807 ∧ ((s = .l0 ∧ ks = []) ∨ ∃ (b : Pos) (cap : Nat) (k : Kind) (row : List DV), s = .l b 0 ks.length cap ∧ h.bl.get b = some (.row k row) ∧ ∀ (i : Nat) (x : List DV), ks[i]? = some x → takeD 6 (row.drop (i * 6)) = some x)

theorem KL.mono {h h' : Hp} {s : DV} {l : List (List DV)} (g : Ge h h') (H : KL h s l) : KL h' s l := by
  obtain ⟨h0, H | ⟨b, cap, k, row, e1, e2, e3⟩⟩ := H
  · exact ⟨h0, .inl H⟩
  · exact ⟨h0, .inr ⟨b, cap, k, row, e1, g _ _ e2, e3⟩⟩

theorem KL.one {h : Hp} {s : DV} {l : List (List DV)} (H : KL h s l) : s.one = true := by
  obtain ⟨_, ⟨rfl, _⟩ | ⟨b, cap, k, row, rfl, _⟩⟩ := H <;> rfl

theorem KL.len {h : Hp} {s : DV} {l : List (List DV)} (H : KL h s l) (h' : Hp) : pLen s h' = some (.i .i64 (l.length : Int), h') := by
  obtain ⟨_, ⟨rfl, rfl⟩ | ⟨b, cap, k, row, rfl, _⟩⟩ := H <;> rfl

theorem KL.at {h : Hp} {s : DV} {l : List (List DV)} (H : KL h s l) {i : Nat} {x : List DV} (hi : l[i]? = some x) : ∃ p, (∀ h', pIndexAddr 6 s (.i .i64 (i : Int)) h' = some (p, h')) ∧ ∀ h', Ge h h' → pLoadA 6 p h' = some (.a x, h') := by
  obtain ⟨_, ⟨rfl, rfl⟩ | ⟨b, cap, k, row, rfl, e2, e3⟩⟩ := H
  · simp at hi
  · have hlt : i < l.length := (List.getElem?_eq_some_iff.1 hi).1
    refine ⟨.p b (0 + i * 6), fun h' => ?_, fun h' g => ?_⟩
    · show (if 0 ≤ (i : Int) ∧ (i : Int) < (l.length : Int) then some (DV.p b (0 + (i : Int).toNat * 6), h') else none) = _
      rw [if_pos ⟨by omega, by omega⟩]
      rfl
    · refine ldA (g _ _ e2) ?_
      simpa using e3 i x hi

/-- The cells of a node, so deep. -/
def ND (h : Hp) : Nat → List DV → Prop
  | 0, _ => False
  | d + 1, cs => ∃ (k : Int) (t : List Nat) (m : Int) (s1 s2 s3 : DV) (l1 l2 : List (List Nat)) (ks : List (List DV)), cs = [.i .i64 k, .s t, .i .i64 m, s1, s2, s3] ∧ SL h s1 l1 ∧ SL h s2 l2 ∧ KL h s3 ks ∧ ∀ x ∈ ks, ND h d x

theorem ND.mono {h h' : Hp} (g : Ge h h') : ∀ (d : Nat) (cs : List DV), ND h d cs → ND h' d cs
  | 0, _, H => H
  | d + 1, cs, ⟨k, t, m, s1, s2, s3, l1, l2, ks, e, a, b, c, f⟩ => ⟨k, t, m, s1, s2, s3, l1, l2, ks, e, a.mono g, b.mono g, c.mono g, fun x hx => ND.mono g d x (f x hx)⟩

theorem takeD_one : ∀ (n : Nat) (l x : List DV), takeD n l = some x → ∀ v ∈ x, v.one = true
  | 0, l, x, h, v, hv => by simp [takeD] at h; subst h; simp at hv
  | n + 1, [], x, h, v, hv => by simp [takeD] at h
  | n + 1, y :: l, x, h, v, hv => by
    simp only [takeD] at h
    split at h
    · rename_i hy
      cases h2 : takeD n l with
      | none => rw [h2] at h; simp at h
      | some x2 =>
        rw [h2] at h
        simp at h
        subst h
        rcases List.mem_cons.1 hv with rfl | hv
        · exact hy
        · exact takeD_one n l x2 h2 v hv
    · cases h

/-- What a call that answers a bool comes to. -/
def Ans (r : Bool) (h : Hp) (x : Res) : Prop := ∃ h1, x = some (.b r, h1) ∧ Ge h h1 ∧ Wf h1

def allR (rr : List DV → List DV → Bool) : List (List DV) → List (List DV) → Bool
  | x :: a, y :: b => rr x y && allR rr a b
  | _, _ => true

theorem wrap_succ (i n : Nat) (h : i < n) (hn : n ≤ 9223372036854775807) : IntKind.i64.wrap ((i : Int) + Int.ofNat 1) = ((i + 1 : Nat) : Int) := by
  rw [wrap64s _ (by simp; omega) (by simp; omega)]; simp

theorem s11_loop {rec : FuncId → List DV → Hp → Res} {n : Nat} {h : Hp} {b1 b2 : Pos} {c1 c2 : List DV} {s1 s2 : DV} {k1 k2 : List (List DV)} {rr : List DV → List DV → Bool}
    (G1 : h.bl.get b1 = some (.row .ex c1)) (G2 : h.bl.get b2 = some (.row .ex c2)) (C1 : c1[5]? = some s1) (C2 : c2[5]? = some s2) (H1 : KL h s1 k1) (H2 : KL h s2 k2) (hl : k1.length = k2.length)
    (Hc : ∀ (i : Nat) x y, k1[i]? = some x → k2[i]? = some y → ∀ h', Ge h h' → Wf h' → Ans (rr x y) h' (rec 11 [.a x, .a y] h')) :
    ∀ (m i : Nat) (h' : Hp), i ≤ k1.length → k1.length < m + i → Ge h h' → Wf h' → Ans (allR rr (k1.drop i) (k2.drop i)) h' (s11a7l rec n m (.p b1 0) (.p b2 0) (.i .i64 (i : Int)) h')
  | 0, i, h', h1, h2, g, W => by omega
  | m + 1, i, h', h1, h2, g, W => by
    show Ans _ _ (s11a7b rec n (s11a7l rec n m) (.p b1 0) (.p b2 0) (.i .i64 (i : Int)) h')
    unfold s11a7b
    have L1 : ∀ h'', Ge h h'' → pLoad1 (.p b1 (0 + 5)) h'' = some (s1, h'') := fun h'' g' => ld1 (g' _ _ G1) (by simpa using C1) H1.one
    have L2 : ∀ h'', Ge h h'' → pLoad1 (.p b2 (0 + 5)) h'' = some (s2, h'') := fun h'' g' => ld1 (g' _ _ G2) (by simpa using C2) H2.one
    simp only [fld, bnS, L1 _ g, H1.len, int_lt]
    by_cases hi : i < k1.length
    · have hd : decide ((i : Int) < (k1.length : Int)) = true := by simp; omega
      have g1 : k1[i]? = some k1[i] := by simp [hi]
      have g2 : k2[i]? = some (k2[i]'(by omega)) := by simp [show i < k2.length by omega]
      obtain ⟨p1, a1, e1⟩ := H1.at g1
      obtain ⟨p2, a2, e2⟩ := H2.at g2
      simp only [hd, ifD_t, fld, bnS, L1 _ g, L2 _ g, a1, a2, e1 _ g, e2 _ g]
      obtain ⟨h3, r3, g3, W3⟩ := Hc i _ _ g1 g2 h' g W
      rw [r3, drop_cons g1, drop_cons g2]
      simp only [bnS, not_b, allR]
      cases hq : rr k1[i] (k2[i]'(by omega)) with
      | false =>
        simp only [Bool.not_false, ifD_t, Bool.false_and]
        exact ⟨h3, rfl, g3, W3⟩
      | true =>
        simp only [Bool.not_true, ifD_f, int_add, bnS, Bool.true_and]
        rw [wrap_succ i _ hi H1.1]
        obtain ⟨h4, r4, g4, W4⟩ := s11_loop G1 G2 C1 C2 H1 H2 hl Hc m (i + 1) h3 (by omega) (by omega) (g.trans g3) W3
        exact ⟨h4, r4, g3.trans g4, W4⟩
    · have hd : decide ((i : Int) < (k1.length : Int)) = false := by simp; omega
      simp only [hd, ifD_f]
      rw [List.drop_eq_nil_of_le (show k1.length ≤ i by omega), List.drop_eq_nil_of_le (show k2.length ≤ i by omega)]
      exact ⟨h', rfl, Ge.refl _, W⟩

theorem putD_all : ∀ (l vs : List DV), l.length = vs.length → (∀ v ∈ l, v.one = true) → (∀ v ∈ vs, v.one = true) → putD l vs = some vs
  | [], [], _, _, _ => rfl
  | x :: l, v :: vs, h, h1, h2 => by
    have := putD_all l vs (by simpa using h) (fun y hy => h1 y (by simp [hy])) (fun y hy => h2 y (by simp [hy]))
    simp [putD, this, h1 x (by simp), h2 v (by simp)]
  | [], _ :: _, h, _, _ => by simp at h
  | _ :: _, [], h, _, _ => by simp at h

theorem takeD_len : ∀ (n : Nat) (l x : List DV), takeD n l = some x → x.length = n
  | 0, l, x, h => by simp [takeD] at h; subst h; rfl
  | n + 1, [], x, h => by simp [takeD] at h
  | n + 1, y :: l, x, h => by
    simp only [takeD] at h
    split at h
    · cases h2 : takeD n l with
      | none => rw [h2] at h; simp at h
      | some x2 => rw [h2] at h; simp at h; subst h; simp [takeD_len n l x2 h2]
    · cases h

theorem takeD_all : ∀ (x : List DV), (∀ v ∈ x, v.one = true) → takeD x.length x = some x
  | [], _ => rfl
  | v :: x, h => by simp [takeD, h v (by simp), takeD_all x (fun y hy => h y (by simp [hy]))]

def nz : List DV := [(.i .i64 (Int.ofNat 0)), (.s []), (.i .i64 (Int.ofNat 0)), .l0, .l0, .l0]

/-- A new node, stored over at once. -/
theorem new_store {h : Hp} {x : List DV} (W : Wf h) (hx : x.length = 6) (ho : ∀ v ∈ x, v.one = true) :
    ∃ h', pStore 6 (.p h.next 0) (.a x) (nw (.row .ex nz) h) = some (undefD, h') ∧ Ge h h' ∧ Wf h' ∧ h'.bl.get h.next = some (.row .ex x) ∧ h'.next = h.next.succ := by
  refine ⟨⟨h.next.succ, Tr.set (.row .ex x) h.next (nw (.row .ex nz) h).bl⟩, ?_, ?_, ?_, Tr.get_set_same _ _ _, rfl⟩
  · have hp : putAt 0 nz x = some x := by
      refine putD_all nz x (by rw [hx]; rfl) (by simp [nz, DV.one]) ho
    simp [pStore, cellsD, hx, storeAtD, nw_get, Kind.writable, hp]
    rfl
  · intro b o e
    show (Tr.set _ h.next _).get b = some o
    rw [Tr.get_set_other _ _ _ _ (nw_ne W e)]
    exact nw_ge W _ b o e
  · intro b o e
    show b.toNat < h.next.succ.toNat
    by_cases hb : b = h.next
    · rw [hb, Pos.toNat_succ]; omega
    · have e' : (Tr.set (.row .ex x) h.next (nw (.row .ex nz) h).bl).get b = some o := e
      rw [Tr.get_set_other _ _ _ _ hb] at e'
      exact nw_wf W (.row .ex nz) b o e'

end Go.Dd
