/- Dd, part S1: heaps that have grown; nodes in a heap of Dd; lists of strings are compared. -/
import Derived.Test.YtliejomdaookoaaDdxU
set_option linter.unusedVariables false
set_option linter.unusedSimpArgs false
set_option maxRecDepth 100000
namespace Go.Dd
open Go.Proofs

def Wf (h : Hp) : Prop := ∀ b o, h.bl.get b = some o → b.toNat < h.next.toNat
def Ge (h h' : Hp) : Prop := ∀ b o, h.bl.get b = some o → h'.bl.get b = some o

theorem Ge.refl (h : Hp) : Ge h h := fun _ _ e => e
theorem Ge.trans {a b c : Hp} (h : Ge a b) (k : Ge b c) : Ge a c := fun x o e => k x o (h x o e)

noncomputable def nw (o : Ob) (h : Hp) : Hp := ⟨h.next.succ, Tr.set o h.next h.bl⟩

theorem nw_ne {h : Hp} (W : Wf h) {b : Pos} {o : Ob} (e : h.bl.get b = some o) : b ≠ h.next := by
  intro e2
  have := W b o e
  rw [e2] at this
  omega

theorem nw_ge {h : Hp} (W : Wf h) (o : Ob) : Ge h (nw o h) := by
  intro b o' e
  show (Tr.set o h.next h.bl).get b = some o'
  rw [Tr.get_set_other _ _ _ _ (nw_ne W e)]
  exact e

theorem nw_wf {h : Hp} (W : Wf h) (o : Ob) : Wf (nw o h) := by
  intro b o' e
  show b.toNat < h.next.succ.toNat
  rw [Pos.toNat_succ]
  by_cases hb : b = h.next
  · rw [hb]; omega
  · have : h.bl.get b = some o' := by
      rw [← Tr.get_set_other o h.next b h.bl hb]; exact e
    have := W b o' this
    omega

theorem nw_get (h : Hp) (o : Ob) : (nw o h).bl.get h.next = some o := Tr.get_set_same o _ _

theorem bnS (v : DV) (h : Hp) (k : DV → Hp → Res) : bnd (some (v, h)) k = k v h := rfl
theorem ifD_t (a b : Res) : ifD (.b true) a b = a := rfl
theorem ifD_f (a b : Res) : ifD (.b false) a b = b := rfl
theorem gD_tt (r : Res) (h : Hp) : gD (.b true) true r h = r := rfl
theorem gD_ff (r : Res) (h : Hp) : gD (.b false) false r h = r := rfl
theorem gD_ft (r : Res) (h : Hp) : gD (.b false) true r h = some (undefD, h) := rfl
theorem gD_tf (r : Res) (h : Hp) : gD (.b true) false r h = some (undefD, h) := rfl
theorem pick_t (x y : DV) (h : Hp) : pPick (.b true) x y h = some (x, h) := rfl
theorem pick_f (x y : DV) (h : Hp) : pPick (.b false) x y h = some (y, h) := rfl
theorem fld (b : Pos) (o i : Nat) (h : Hp) : pField i (.p b o) h = some (.p b (o + i), h) := rfl
theorem not_b (x : Bool) (h : Hp) : pUn .not (.b x) h = some (.b (!x), h) := rfl
theorem box_a (cs : List DV) (h : Hp) : pBox (.a cs) h = some (.p h.next 0, nw (.row .ex cs) h) := rfl
theorem new_a (cs : List DV) (h : Hp) : pNew cs h = some (.p h.next 0, nw (.row .ex cs) h) := rfl
theorem str_eq (x y : List Nat) (h : Hp) : pStr .eql (.s x) (.s y) h = some (.b (eqD x y), h) := rfl
theorem str_ne (x y : List Nat) (h : Hp) : pStr .neq (.s x) (.s y) h = some (.b (!eqD x y), h) := rfl
theorem int_eq (x y : Int) (h : Hp) : pInt .eql (.i .i64 x) (.i .i64 y) h = some (.b (x == y), h) := rfl
theorem int_ne (x y : Int) (h : Hp) : pInt .neq (.i .i64 x) (.i .i64 y) h = some (.b (x != y), h) := rfl
theorem int_lt (x y : Int) (h : Hp) : pInt .lss (.i .i64 x) (.i .i64 y) h = some (.b (decide (x < y)), h) := rfl
theorem int_ge (x y : Int) (h : Hp) : pInt .geq (.i .i64 x) (.i .i64 y) h = some (.b (decide (x ≥ y)), h) := rfl
theorem int_gt (x y : Int) (h : Hp) : pInt .gtr (.i .i64 x) (.i .i64 y) h = some (.b (decide (x > y)), h) := rfl
theorem int_add (x y : Int) (h : Hp) : pInt .add (.i .i64 x) (.i .i64 y) h = some (.i .i64 (IntKind.i64.wrap (x + y)), h) := rfl
theorem int_sub (x y : Int) (h : Hp) : pInt .sub (.i .i64 x) (.i .i64 y) h = some (.i .i64 (IntKind.i64.wrap (x - y)), h) := rfl

theorem wrap64s (n : Int) (h1 : -9223372036854775808 ≤ n) (h2 : n ≤ 9223372036854775807) : IntKind.i64.wrap n = n := by
  unfold IntKind.wrap
  simp [IntKind.bits, IntKind.signed, IntKind.min, IntKind.max]
  omega

theorem ld1 {h : Hp} {b : Pos} {k : Kind} {l : List DV} {o : Nat} {v : DV} (e : h.bl.get b = some (.row k l)) (ho : l[o]? = some v) (hv : v.one = true) : pLoad1 (.p b o) h = some (v, h) := by
  simp [pLoad1, cellD, rowOf, e, ho, hv]

theorem ldA {h : Hp} {b : Pos} {k : Kind} {l : List DV} {o n : Nat} {cs : List DV} (e : h.bl.get b = some (.row k l)) (ho : takeD n (l.drop o) = some cs) : pLoadA n (.p b o) h = some (.a cs, h) := by
  simp [pLoadA, cellsAt, rowOf, e, ho]

/-- A slice of strings. -/
def SL (h : Hp) (s : DV) (l : List (List Nat)) : Prop :=
  l.length ≤ 9223372036854775807 ∧ ((s = .l0 ∧ l = []) ∨ ∃ (b : Pos) (cap : Nat) (k : Kind) (row : List DV), s = .l b 0 l.length cap ∧ h.bl.get b = some (.row k row) ∧ ∀ (i : Nat) (x : List Nat), l[i]? = some x → row[i]? = some (DV.s x))

theorem SL.mono {h h' : Hp} {s : DV} {l : List (List Nat)} (g : Ge h h') (H : SL h s l) : SL h' s l := by
  obtain ⟨h0, H | ⟨b, cap, k, row, e1, e2, e3⟩⟩ := H
  · exact ⟨h0, .inl H⟩
  · exact ⟨h0, .inr ⟨b, cap, k, row, e1, g _ _ e2, e3⟩⟩

theorem SL.one {h : Hp} {s : DV} {l : List (List Nat)} (H : SL h s l) : s.one = true := by
  obtain ⟨_, ⟨rfl, _⟩ | ⟨b, cap, k, row, rfl, _⟩⟩ := H <;> rfl

theorem SL.len {h : Hp} {s : DV} {l : List (List Nat)} (H : SL h s l) (h' : Hp) : pLen s h' = some (.i .i64 (l.length : Int), h') := by
  obtain ⟨_, ⟨rfl, rfl⟩ | ⟨b, cap, k, row, rfl, _⟩⟩ := H <;> rfl

theorem SL.at {h : Hp} {s : DV} {l : List (List Nat)} (H : SL h s l) {i : Nat} {x : List Nat} (hi : l[i]? = some x) : ∃ p, pIndexAddr 1 s (.i .i64 (i : Int)) h = some (p, h) ∧ pLoad1 p h = some (.s x, h) := by
  obtain ⟨_, ⟨rfl, rfl⟩ | ⟨b, cap, k, row, rfl, e2, e3⟩⟩ := H
  · simp at hi
  · have hlt : i < l.length := (List.getElem?_eq_some_iff.1 hi).1
    refine ⟨.p b (0 + i * 1), ?_, ?_⟩
    · show (if 0 ≤ (i : Int) ∧ (i : Int) < (l.length : Int) then some (DV.p b (0 + (i : Int).toNat * 1), h) else none) = _
      rw [if_pos ⟨by omega, by omega⟩]
      rfl
    · refine ld1 e2 ?_ rfl
      simpa using e3 i x hi

theorem drop_cons {α : Type} {l : List α} {i : Nat} {x : α} (hi : l[i]? = some x) : l.drop i = x :: l.drop (i + 1) := by
  obtain ⟨h1, h2⟩ := List.getElem?_eq_some_iff.1 hi
  rw [← h2]
  exact List.drop_eq_getElem_cons h1

theorem dec_cons (x y : List Nat) (a b : List (List Nat)) : decide (x :: a = y :: b) = (decide (x = y) && decide (a = b)) := by
  by_cases h : x = y <;> simp [h]

theorem eqD_dec (x y : List Nat) : eqD x y = decide (x = y) := by
  rw [Bool.eq_iff_iff, eqD_iff]; simp

theorem s21_loop {rec : FuncId → List DV → Hp → Res} {n : Nat} {h : Hp} {s1 s2 : DV} {l1 l2 : List (List Nat)} (H1 : SL h s1 l1) (H2 : SL h s2 l2) (hl : l1.length = l2.length) :
    ∀ (m i : Nat), i ≤ l1.length → l1.length < m + i → s21a5l rec n m s1 s2 (.i .i64 (i : Int)) h = some (.b (decide (l1.drop i = l2.drop i)), h)
  | 0, i, h1, h2 => by omega
  | m + 1, i, h1, h2 => by
    show s21a5b rec n (s21a5l rec n m) s1 s2 (.i .i64 (i : Int)) h = _
    unfold s21a5b
    simp only [H1.len, bnS, int_lt]
    by_cases hi : i < l1.length
    · have hd : decide ((i : Int) < (l1.length : Int)) = true := by simp; omega
      have g1 : l1[i]? = some l1[i] := by simp [hi]
      have g2 : l2[i]? = some (l2[i]'(by omega)) := by simp [show i < l2.length by omega]
      obtain ⟨p1, a1, b1⟩ := H1.at g1
      obtain ⟨p2, a2, b2⟩ := H2.at g2
      simp only [hd, ifD_t, a1, b1, a2, b2, bnS, str_ne]
      rw [drop_cons g1, drop_cons g2]
      by_cases he : l1[i] = l2[i]'(by omega)
      · have q : eqD l1[i] (l2[i]'(by omega)) = true := by rw [eqD_iff]; exact he
        simp only [q, Bool.not_true, ifD_f, int_add, bnS]
        have hb := H1.1
        have e1 : IntKind.i64.wrap ((i : Int) + Int.ofNat 1) = ((i + 1 : Nat) : Int) := by
          rw [wrap64s _ (by simp; omega) (by simp; omega)]; simp
        rw [e1, s21_loop H1 H2 hl m (i + 1) (by omega) (by omega), dec_cons, decide_eq_true he]
        rfl
      · have q : eqD l1[i] (l2[i]'(by omega)) = false := by rw [eqD_dec]; simp [he]
        simp only [q, Bool.not_false, ifD_t]
        rw [dec_cons, decide_eq_false he]
        rfl
    · have hd : decide ((i : Int) < (l1.length : Int)) = false := by simp; omega
      simp only [hd, ifD_f]
      have e1 : l1.drop i = [] := List.drop_eq_nil_of_le (by omega)
      have e2 : l2.drop i = [] := List.drop_eq_nil_of_le (by omega)
      rw [e1, e2]
      rfl

theorem s21_ok {rec : FuncId → List DV → Hp → Res} {n : Nat} {h : Hp} {s1 s2 : DV} {l1 l2 : List (List Nat)} (H1 : SL h s1 l1) (H2 : SL h s2 l2) (hn : l1.length < n) :
    s21 rec n s1 s2 h = some (.b (decide (l1 = l2)), h) := by
  unfold s21 s21a1
  simp only [H1.len, H2.len, bnS, int_ne]
  by_cases hl : l1.length = l2.length
  · have q : ((l1.length : Int) != (l2.length : Int)) = false := by simp [hl]
    simp only [q, ifD_f]
    show s21a5l rec n n s1 s2 (.i .i64 ((0 : Nat) : Int)) h = _
    rw [s21_loop H1 H2 hl n 0 (by omega) (by omega)]
    simp
  · have q : ((l1.length : Int) != (l2.length : Int)) = true := by simp; omega
    simp only [q, ifD_t]
    have : l1 ≠ l2 := fun e => hl (by rw [e])
    simp [this]

theorem s22_loop {rec : FuncId → List DV → Hp → Res} {n : Nat} {h : Hp} {s1 s2 : DV} {l1 l2 : List (List Nat)} (H1 : SL h s1 l1) (H2 : SL h s2 l2) (hl : l1.length = l2.length) :
    ∀ (m i : Nat), i ≤ l1.length → l1.length < m + i → s22a5l rec n m s1 s2 (.i .i64 (l1.length : Int)) (.i .i64 (i : Int)) h = some (.b (decide (l1.drop i = l2.drop i)), h)
  | 0, i, h1, h2 => by omega
  | m + 1, i, h1, h2 => by
    show s22a5b rec n (s22a5l rec n m) s1 s2 (.i .i64 (l1.length : Int)) (.i .i64 (i : Int)) h = _
    unfold s22a5b
    simp only [bnS, int_lt]
    by_cases hi : i < l1.length
    · have hd : decide ((i : Int) < (l1.length : Int)) = true := by simp; omega
      have g1 : l1[i]? = some l1[i] := by simp [hi]
      have g2 : l2[i]? = some (l2[i]'(by omega)) := by simp [show i < l2.length by omega]
      obtain ⟨p1, a1, b1⟩ := H1.at g1
      obtain ⟨p2, a2, b2⟩ := H2.at g2
      simp only [hd, ifD_t, a1, b1, a2, b2, bnS, str_ne]
      rw [drop_cons g1, drop_cons g2]
      by_cases he : l1[i] = l2[i]'(by omega)
      · have q : eqD l1[i] (l2[i]'(by omega)) = true := by rw [eqD_iff]; exact he
        simp only [q, Bool.not_true, ifD_f, int_add, bnS]
        have hb := H1.1
        have e1 : IntKind.i64.wrap ((i : Int) + Int.ofNat 1) = ((i + 1 : Nat) : Int) := by
          rw [wrap64s _ (by simp; omega) (by simp; omega)]; simp
        rw [e1, s22_loop H1 H2 hl m (i + 1) (by omega) (by omega), dec_cons, decide_eq_true he]
        rfl
      · have q : eqD l1[i] (l2[i]'(by omega)) = false := by rw [eqD_dec]; simp [he]
        simp only [q, Bool.not_false, ifD_t]
        rw [dec_cons, decide_eq_false he]
        rfl
    · have hd : decide ((i : Int) < (l1.length : Int)) = false := by simp; omega
      simp only [hd, ifD_f]
      have e1 : l1.drop i = [] := List.drop_eq_nil_of_le (by omega)
      have e2 : l2.drop i = [] := List.drop_eq_nil_of_le (by omega)
      rw [e1, e2]
      rfl

theorem s22_ok {rec : FuncId → List DV → Hp → Res} {n : Nat} {h : Hp} {s1 s2 : DV} {l1 l2 : List (List Nat)} (H1 : SL h s1 l1) (H2 : SL h s2 l2) (hn : l1.length < n) :
    s22 rec n s1 s2 h = some (.b (decide (l1 = l2)), h) := by
  unfold s22 s22a1
  simp only [H1.len, H2.len, bnS, int_ne]
  by_cases hl : l1.length = l2.length
  · have q : ((l1.length : Int) != (l2.length : Int)) = false := by simp [hl]
    simp only [q, ifD_f]
    unfold s22a2
    simp only [H1.len, bnS]
    show s22a5l rec n n s1 s2 (.i .i64 (l1.length : Int)) (.i .i64 ((0 : Nat) : Int)) h = _
    rw [s22_loop H1 H2 hl n 0 (by omega) (by omega)]
    simp
  · have q : ((l1.length : Int) != (l2.length : Int)) = true := by simp; omega
    simp only [q, ifD_t]
    have : l1 ≠ l2 := fun e => hl (by rw [e])
    simp [this]

theorem enter21 (n : Nat) (x y : DV) (h : Hp) : shD (n + 1) 21 [x, y] h = s21 (shD n) n x y h := by kernel_rfl
theorem enter22 (n : Nat) (x y : DV) (h : Hp) : shD (n + 1) 22 [x, y] h = s22 (shD n) n x y h := by kernel_rfl
theorem enter23 (n : Nat) (x y z : DV) (h : Hp) : shD (n + 1) 23 [x, y, z] h = s23 (shD n) n x y z h := by kernel_rfl
theorem enter11 (n : Nat) (x y : DV) (h : Hp) : shD (n + 1) 11 [x, y] h = s11 (shD n) n x y h := by kernel_rfl
theorem enter13 (n : Nat) (x y : DV) (h : Hp) : shD (n + 1) 13 [x, y] h = s13 (shD n) n x y h := by kernel_rfl
theorem enter14 (n : Nat) (x y : DV) (h : Hp) : shD (n + 1) 14 [x, y] h = s14 (shD n) n x y h := by kernel_rfl

theorem f21_ok {n : Nat} {h : Hp} {s1 s2 : DV} {l1 l2 : List (List Nat)} (H1 : SL h s1 l1) (H2 : SL h s2 l2) (hn : l1.length + 1 < n) : shD n 21 [s1, s2] h = some (.b (decide (l1 = l2)), h) := by
  obtain ⟨n, rfl⟩ : ∃ m, n = m + 1 := ⟨n - 1, by omega⟩
  rw [enter21]
  exact s21_ok H1 H2 (by omega)

theorem f22_ok {n : Nat} {h : Hp} {s1 s2 : DV} {l1 l2 : List (List Nat)} (H1 : SL h s1 l1) (H2 : SL h s2 l2) (hn : l1.length + 1 < n) : shD n 22 [s1, s2] h = some (.b (decide (l1 = l2)), h) := by
  obtain ⟨n, rfl⟩ : ∃ m, n = m + 1 := ⟨n - 1, by omega⟩
  rw [enter22]
  exact s22_ok H1 H2 (by omega)

end Go.Dd
