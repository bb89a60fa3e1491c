/- A part of the proof: T2 T3 T4 T5 T6 T7 T8 T9 T10 T11 T12 T13 T14 B1: each text has a comment of its own. -/
import Derived.Test.YtliejomdaookoaaPl2
/- Dd, part T2: tokens, nodes, slices that stay and slices that grow. -/
set_option linter.unusedVariables false
set_option linter.unusedSimpArgs false
set_option maxRecDepth 100000
namespace Go.Dd
open Go.Proofs

def lim : Nat := 100000000000

structure Tok where
  kind : Int
  text : List Nat
  num : Int
  pos : Int

def tc (t : Tok) : List DV := [.i .i64 t.kind, .s t.text, .i .i64 t.num, .i .i64 t.pos]

inductive Node where
  | mk (kind : Int) (text : List Nat) (num : Int) (names temps : List (List Nat)) (kids : List Node)

/-- A slice that stays: its cells. -/
def Fz (I : Im) (sz : Nat) (s : DV) (len : Nat) (cells : List DV) : Prop :=
  (s = .l0 ∧ len = 0 ∧ cells = []) ∨
    ∃ (b : Pos) (o cap : Nat) (k : Kind) (row rest : List DV), s = .l b o len cap ∧ len ≤ cap ∧ I b = some (.row k row) ∧ row.drop o = cells ++ rest ∧ cells.length = len * sz ∧ ∀ v ∈ cells, v.one = true

theorem Fz.mono {I J : Im} (g : ILe I J) {sz : Nat} {s : DV} {len : Nat} {cells : List DV} (H : Fz I sz s len cells) : Fz J sz s len cells := by
  rcases H with H | ⟨b, o, cap, k, row, rest, h1, h2, h3, h4⟩
  · exact .inl H
  · exact .inr ⟨b, o, cap, k, row, rest, h1, h2, g _ _ h3, h4⟩

theorem Fz.one {I : Im} {sz : Nat} {s : DV} {len : Nat} {cells : List DV} (H : Fz I sz s len cells) : s.one = true := by
  rcases H with ⟨rfl, _⟩ | ⟨b, o, cap, k, row, rest, rfl, _⟩ <;> rfl

theorem Fz.beq {I : Im} {sz : Nat} {s : DV} {len : Nat} {cells : List DV} (H : Fz I sz s len cells) : DV.beq s s = true := by
  rcases H with ⟨rfl, _⟩ | ⟨b, o, cap, k, row, rest, rfl, _⟩
  · rfl
  · simp [DV.beq]

theorem Fz.len {I : Im} {sz : Nat} {s : DV} {len : Nat} {cells : List DV} (H : Fz I sz s len cells) (h : Hp) : pLen s h = some (.i .i64 (len : Int), h) := by
  rcases H with ⟨rfl, rfl, _⟩ | ⟨b, o, cap, k, row, rest, rfl, _⟩ <;> rfl

/-- An element. -/
theorem Fz.at {I : Im} {sz : Nat} {s : DV} {len : Nat} {cells : List DV} (H : Fz I sz s len cells) {A Q L : Ls} {h : Hp} (S : Sy I A Q L h) {i : Nat} (hi : i < len) :
    ∃ b o, (∀ h', pIndexAddr sz s (.i .i64 (i : Int)) h' = some (.p b o, h')) ∧ ∃ k row, h.bl.get b = some (.row k row) ∧ ∃ rest, row.drop o = cells.drop (i * sz) ++ rest := by
  rcases H with ⟨rfl, rfl, _⟩ | ⟨b, o, cap, k, row, rest, rfl, h2, h3, h4, h5, h6⟩
  · omega
  · refine ⟨b, o + i * sz, fun h' => ?_, k, row, S.im _ _ h3, rest, ?_⟩
    · show (if 0 ≤ (i : Int) ∧ (i : Int) < (len : Int) then some (DV.p b (o + (i : Int).toNat * sz), h') else none) = _
      rw [if_pos ⟨by omega, by omega⟩]
      rfl
    · have : i * sz ≤ cells.length := by rw [h5]; exact Nat.mul_le_mul_right _ (by omega)
      rw [← List.drop_drop, h4, List.drop_append_of_le_length this]

/-- The rest of a slice. -/
theorem Fz.tail {I : Im} {sz : Nat} {s : DV} {len : Nat} {cells : List DV} (H : Fz I sz s len cells) {A Q L : Ls} {h : Hp} (S : Sy I A Q L h) {i : Nat} (hi : i < len) :
    ∃ s', pSlice sz s (some (.i .i64 (Int.ofNat i))) none h = some (s', h) ∧ Fz I sz s' (len - i) (cells.drop (i * sz)) := by
  rcases H with ⟨rfl, rfl, _⟩ | ⟨b, o, cap, k, row, rest, rfl, h2, h3, h4, h5, h6⟩
  · omega
  · have hle : i * sz ≤ cells.length := by rw [h5]; exact Nat.mul_le_mul_right _ (by omega)
    have hd : row.drop (o + i * sz) = cells.drop (i * sz) ++ rest := by
      rw [← List.drop_drop, h4, List.drop_append_of_le_length hle]
    refine ⟨.l b (o + i * sz) (len - i) (cap - i), ?_, .inr ⟨b, o + i * sz, cap - i, k, row, rest, rfl, by omega, h3, hd, ?_, fun v hv => h6 v (List.mem_of_mem_drop hv)⟩⟩
    · have e1 : hiD none len cap = some len := by simp [hiD, h2]
      have e2 : loD (some (.i .i64 (Int.ofNat i))) len = some i := by
        show (if 0 ≤ (Int.ofNat i) ∧ (Int.ofNat i) ≤ (len : Int) then some (Int.ofNat i).toNat else none) = _
        have hi' : (Int.ofNat i) = (i : Int) := rfl
        rw [if_pos ⟨by omega, by omega⟩]
        rfl
      have hne : ¬ cap = i := by omega
      unfold pSlice
      simp only [e1, e2, S.im _ _ h3]
      cases k <;> simp [hne]
    · rw [List.length_drop, h5, Nat.sub_mul]

/-- A slice that grows: rows of its own in A. -/
def Gr (I : Im) (sz : Nat) (A : Ls) (s : DV) (len : Nat) (cells : List DV) : Prop :=
  cells.length = len * sz ∧ (∀ v ∈ cells, v.one = true) ∧
    ((A = [] ∧ s = .l0 ∧ len = 0) ∨ (A = [] ∧ ∃ b, s = .l b 0 len len ∧ I b = some (.row .ex cells)) ∨ ∃ b, A = [(b, some (.row (.gr sz) cells))] ∧ s = .l b 0 len len)

theorem Gr.nil (I : Im) (sz : Nat) : Gr I sz [] .l0 0 [] := ⟨by simp, by simp, .inl ⟨rfl, rfl, rfl⟩⟩

theorem Gr.one {I : Im} {sz : Nat} {A : Ls} {s : DV} {len : Nat} {cells : List DV} (H : Gr I sz A s len cells) : s.one = true := by
  obtain ⟨_, _, ⟨_, rfl, _⟩ | ⟨_, b, rfl, _⟩ | ⟨b, _, rfl⟩⟩ := H <;> rfl
theorem Gr.beq {I : Im} {sz : Nat} {A : Ls} {s : DV} {len : Nat} {cells : List DV} (H : Gr I sz A s len cells) : DV.beq s s = true := by
  obtain ⟨_, _, ⟨_, rfl, _⟩ | ⟨_, b, rfl, _⟩ | ⟨b, _, rfl⟩⟩ := H
  · rfl
  · simp [DV.beq]
  · simp [DV.beq]
theorem Gr.len {I : Im} {sz : Nat} {A : Ls} {s : DV} {len : Nat} {cells : List DV} (H : Gr I sz A s len cells) (h : Hp) : pLen s h = some (.i .i64 (len : Int), h) := by
  obtain ⟨_, _, ⟨_, rfl, rfl⟩ | ⟨_, b, rfl, _⟩ | ⟨b, _, rfl⟩⟩ := H <;> rfl
theorem Gr.mono {I J : Im} (g : ILe I J) {sz : Nat} {A : Ls} {s : DV} {len : Nat} {cells : List DV} (H : Gr I sz A s len cells) : Gr J sz A s len cells := by
  obtain ⟨h1, h2, h3 | ⟨h3, b, h4, h5⟩ | h3⟩ := H
  · exact ⟨h1, h2, .inl h3⟩
  · exact ⟨h1, h2, .inr (.inl ⟨h3, b, h4, g _ _ h5⟩)⟩
  · exact ⟨h1, h2, .inr (.inr h3)⟩

theorem takeD_app2 (x rest : List DV) (n : Nat) (hn : x.length = n) (ho : ∀ v ∈ x, v.one = true) : takeD n (x ++ rest) = some x := by
  subst hn
  induction x with
  | nil => simp [takeD]
  | cons y x ih => simp [takeD, ho y (by simp), ih (fun v hv => ho v (by simp [hv]))]

/-- Cells are appended. -/
theorem Gr.app {I : Im} {sz bytes : Nat} {A A0 Q L : Ls} {s : DV} {len : Nat} {cells : List DV} (H : Gr I sz A s len cells) {h : Hp} (S : Sy I (A ++ A0) Q L h) {x : DV} {n : Nat} {new : List DV} (hs : srcD sz x h = some (n, new))
    (h1 : new.length = n * sz) (h2 : ∀ v ∈ new, v.one = true) (hn : n ≠ 0) (hb : (len + n) * bytes ≤ roomD) :
    ∃ s' h' A', pAppend sz bytes s x h = some (s', h') ∧ Sy I (A' ++ A0) Q L h' ∧ Gr I sz A' s' (len + n) (cells ++ new) := by
  obtain ⟨g1, g2, g3⟩ := H
  have l' : (cells ++ new).length = (len + n) * sz := by rw [List.length_append, g1, h1, Nat.add_mul]
  have o' : ∀ v ∈ cells ++ new, v.one = true := fun v hv => by
    rcases List.mem_append.1 hv with hv | hv
    · exact g2 v hv
    · exact h2 v hv
  have mv : ∀ {e : Pos × Option Ob} {h' : Hp}, Sy I A0 Q (e :: L) h' → Sy I ([e] ++ A0) Q L h' := @fun e h' S => perm3 (by
    have : List.Perm (A0 ++ Q ++ e :: L) (e :: (A0 ++ Q ++ L)) := List.perm_middle
    simpa using this) S
  rcases g3 with ⟨rfl, rfl, rfl⟩ | ⟨rfl, b, rfl, hI⟩ | ⟨b, rfl, rfl⟩
  · have hc : cells = [] := by simpa using g1
    subst hc
    refine ⟨.l h.next 0 n n, nw (.row (.gr sz) new) h, [(h.next, some (.row (.gr sz) new))], ?_, mv (Sy.new (by simpa using S) _), ?_⟩
    · unfold pAppend
      simp only [hs, if_neg hn]
      rw [Nat.zero_add] at hb
      rw [if_pos hb]
      rfl
    · simp only [Nat.zero_add, List.nil_append]
      exact ⟨by simpa using l', by simpa using o', .inr (.inr ⟨_, rfl, rfl⟩)⟩
  · have hg := S.im _ _ hI
    have hc : cellsAt b 0 (len * sz) h = some cells := by
      simp only [cellsAt, rowOf, hg, List.drop_zero]
      have := takeD_app2 cells [] (len * sz) g1 g2
      simpa using this
    refine ⟨.l h.next 0 (len + n) (len + n), nw (.row (.gr sz) (cells ++ new)) h, [(h.next, some (.row (.gr sz) (cells ++ new)))], ?_, mv (Sy.new (by simpa using S) _), l', o', .inr (.inr ⟨_, rfl, rfl⟩)⟩
    unfold pAppend
    simp only [hs]
    rw [if_neg (by omega)]
    simp only [hg, hc]
    rw [if_pos hb]
    rfl
  · have hg := S.memA (b := b) (o := .row (.gr sz) cells) (by simp)
    have hc : cellsAt b 0 (len * sz) h = some cells := by
      simp only [cellsAt, rowOf, hg, List.drop_zero]
      have := takeD_app2 cells [] (len * sz) g1 g2
      simpa using this
    let h1 : Hp := ⟨h.next, Tr.set (.row .sp (killFrom 0 cells)) b h.bl⟩
    have S1 : Sy I ((b, some (.row .sp (killFrom 0 cells))) :: A0) Q L h1 := S.setA (Rpl.head A0) rfl (fun c => Tr.get_set _ _ _ _)
    have S2 := S1.new (.row (.gr sz) (cells ++ new))
    have S3 : Sy I ([(h.next, some (.row (.gr sz) (cells ++ new)))] ++ A0) Q L (nw (.row (.gr sz) (cells ++ new)) h1) := by
      have S4 : Sy I A0 Q ((h1.next, some (.row (.gr sz) (cells ++ new))) :: L) (nw (.row (.gr sz) (cells ++ new)) h1) :=
        sub3 (by simp) S2
      exact mv S4
    refine ⟨.l h.next 0 (len + n) (len + n), _, _, ?_, S3, l', o', .inr (.inr ⟨_, rfl, rfl⟩)⟩
    unfold pAppend
    simp only [hs]
    rw [if_neg (by omega)]
    simp only [hg, hc]
    rw [if_pos hb]
    have e3 : 0 + len * sz = cells.length := by rw [g1]; omega
    simp only [e3, and_self, if_true]
    rfl

/-- It grows no more. -/
theorem Gr.freeze {I : Im} {sz : Nat} {A A0 Q L : Ls} {s : DV} {len : Nat} {cells : List DV} (H : Gr I sz A s len cells) {h : Hp} (S : Sy I (A ++ A0) Q L h) : ∃ J, ILe I J ∧ Sy J A0 Q L h ∧ Fz J sz s len cells := by
  obtain ⟨g1, g2, g3⟩ := H
  rcases g3 with ⟨rfl, rfl, rfl⟩ | ⟨rfl, b, rfl, hI⟩ | ⟨b, rfl, rfl⟩
  · have hc : cells = [] := by simpa using g1
    exact ⟨I, ILe.refl _, by simpa using S, .inl ⟨rfl, rfl, hc⟩⟩
  · exact ⟨I, ILe.refl _, by simpa using S, .inr ⟨b, 0, len, .ex, cells, [], rfl, Nat.le_refl _, hI, by simp, g1, g2⟩⟩
  · have S1 : Sy I A0 Q ((b, some (.row (.gr sz) cells)) :: L) h := perm3 (by
      have : List.Perm (A0 ++ Q ++ (b, some (Ob.row (.gr sz) cells)) :: L) ((b, some (Ob.row (.gr sz) cells)) :: (A0 ++ Q ++ L)) := List.perm_middle
      simpa using this.symm) S
    obtain ⟨S2, g⟩ := S1.freeze
    exact ⟨_, g, S2, .inr ⟨b, 0, len, .gr sz, cells, [], rfl, Nat.le_refl _, Im.put_same _ _ _, by simp, g1, g2⟩⟩

/-- A slice that was just built stays. -/
theorem Fz.built {I : Im} {sz : Nat} {A Q L : Ls} {b : Pos} {n : Nat} {cells : List DV} {h : Hp} (S : Sy I A Q ((b, some (.row .ex cells)) :: L) h) (h1 : cells.length = n * sz) (h2 : ∀ v ∈ cells, v.one = true) :
    ∃ J, ILe I J ∧ Sy J A Q L h ∧ Fz J sz (.l b 0 n n) n cells ∧ Gr J sz [] (.l b 0 n n) n cells := by
  obtain ⟨S2, g⟩ := S.freeze
  exact ⟨_, g, S2, .inr ⟨b, 0, n, .ex, cells, [], rfl, Nat.le_refl _, Im.put_same _ _ _, by simp, h1, h2⟩, h1, h2, .inr (.inl ⟨rfl, b, rfl, Im.put_same _ _ _⟩)⟩

/-- What a slice has, to be appended. -/
theorem Fz.src {I : Im} {sz : Nat} {s : DV} {len : Nat} {cells : List DV} (H : Fz I sz s len cells) {A Q L : Ls} {h : Hp} (S : Sy I A Q L h) : srcD sz s h = some (len, cells) := by
  rcases H with ⟨rfl, rfl, rfl⟩ | ⟨b, o, cap, k, row, rest, rfl, h2, h3, h4, h5, h6⟩
  · rfl
  · have : cellsAt b o (len * sz) h = some cells := by
      simp only [cellsAt, rowOf, S.im _ _ h3, h4]
      exact takeD_app2 cells rest (len * sz) h5 h6
    simp [srcD, this]

theorem src_own {I : Im} {sz : Nat} {A Q L : Ls} {h : Hp} (S : Sy I A Q L h) {b : Pos} {n : Nat} {cells : List DV} (m : (b, some (.row .ex cells)) ∈ L) (h1 : cells.length = n * sz) (h2 : ∀ v ∈ cells, v.one = true) : srcD sz (.l b 0 n n) h = some (n, cells) := by
  have : cellsAt b 0 (n * sz) h = some cells := by
    simp only [cellsAt, rowOf, S.memL m, List.drop_zero]
    have := takeD_app2 cells [] (n * sz) h1 h2
    simpa using this
  simp [srcD, this]

/-! ### Strings, tokens, nodes -/

def SS (I : Im) (s : DV) (l : List (List Nat)) : Prop := l.length ≤ lim ∧ Fz I 1 s l.length (l.map .s)
def TS' (I : Im) (s : DV) (l : List Tok) : Prop := l.length ≤ lim ∧ Fz I 4 s l.length (l.map tc).flatten

mutual
def NV (I : Im) : Node → List DV → Prop
  | .mk k t m ns ts ks, cs => ∃ s1 s2 s3, cs = [.i .i64 k, .s t, .i .i64 m, s1, s2, s3] ∧ SS I s1 ns ∧ SS I s2 ts ∧ ks.length ≤ lim ∧ ∃ cells, Fz I 6 s3 ks.length cells ∧ NVL I ks cells
def NVL (I : Im) : List Node → List DV → Prop
  | [], cells => cells = []
  | x :: l, cells => ∃ c rest, cells = c ++ rest ∧ NV I x c ∧ NVL I l rest
end

/-- A slice of nodes. -/
def NS (I : Im) (s : DV) (ks : List Node) : Prop := ks.length ≤ lim ∧ ∃ cells, Fz I 6 s ks.length cells ∧ NVL I ks cells

theorem SS.mono {I J : Im} (g : ILe I J) {s : DV} {l : List (List Nat)} (H : SS I s l) : SS J s l := ⟨H.1, H.2.mono g⟩
theorem TS'.mono {I J : Im} (g : ILe I J) {s : DV} {l : List Tok} (H : TS' I s l) : TS' J s l := ⟨H.1, H.2.mono g⟩

mutual
theorem NV.mono {I J : Im} (g : ILe I J) : ∀ {x : Node} {cs : List DV}, NV I x cs → NV J x cs
  | .mk k t m ns ts ks, cs, ⟨s1, s2, s3, e, a, b, c, cells, f, n⟩ => ⟨s1, s2, s3, e, a.mono g, b.mono g, c, cells, f.mono g, NVL.mono g n⟩
theorem NVL.mono {I J : Im} (g : ILe I J) : ∀ {l : List Node} {cells : List DV}, NVL I l cells → NVL J l cells
  | [], _, e => e
  | x :: l, _, ⟨c, rest, e, a, b⟩ => ⟨c, rest, e, NV.mono g a, NVL.mono g b⟩
end
theorem NS.mono {I J : Im} (g : ILe I J) {s : DV} {l : List Node} (H : NS I s l) : NS J s l := by
  obtain ⟨a, cells, b, c⟩ := H
  exact ⟨a, cells, b.mono g, c.mono g⟩

theorem NV.shape {I : Im} {x : Node} {cs : List DV} (H : NV I x cs) : cs.length = 6 ∧ (∀ v ∈ cs, v.one = true) ∧ DV.beq (.a cs) (.a cs) = true := by
  cases x with
  | mk k t m ns ts ks =>
    obtain ⟨s1, s2, s3, rfl, a, b, c, cells, f, n⟩ := H
    have o1 := a.2.one
    have o2 := b.2.one
    have o3 := f.one
    refine ⟨rfl, ?_, ?_⟩
    · intro v hv
      simp only [List.mem_cons, List.not_mem_nil, or_false] at hv
      rcases hv with rfl | rfl | rfl | rfl | rfl | rfl
      · rfl
      · rfl
      · rfl
      · exact o1
      · exact o2
      · exact o3
    · have e : eqD t t = true := by rw [eqD_iff]
      simp [DV.beq, DV.beqs, e, a.2.beq, b.2.beq, f.beq]

theorem NVL.shape {I : Im} : ∀ {l : List Node} {cells : List DV}, NVL I l cells → cells.length = l.length * 6 ∧ ∀ v ∈ cells, v.one = true
  | [], _, e => by
    have e : _ = [] := e
    subst e; simp
  | x :: l, _, ⟨c, rest, e, a, b⟩ => by
    obtain ⟨h1, h2⟩ := NVL.shape b
    obtain ⟨h3, h4, _⟩ := a.shape
    subst e
    refine ⟨by rw [List.length_append, h1, h3, List.length_cons]; omega, fun v hv => ?_⟩
    rcases List.mem_append.1 hv with hv | hv
    · exact h4 v hv
    · exact h2 v hv

theorem NVL.app {I : Im} : ∀ {l l' : List Node} {c c' : List DV}, NVL I l c → NVL I l' c' → NVL I (l ++ l') (c ++ c')
  | [], l', c, c', e, H => by
    have e : c = [] := e
    subst e; simpa using H
  | x :: l, l', _, c', ⟨c, rest, e, a, b⟩, H => by
    subst e
    exact ⟨c, rest ++ c', by simp, a, NVL.app b H⟩

theorem NVL.single {I : Im} {x : Node} {c : List DV} (H : NV I x c) : NVL I [x] c := ⟨c, [], by simp, H, rfl⟩

theorem NVL.drop {I : Im} : ∀ {l : List Node} {c : List DV} (i : Nat), NVL I l c → NVL I (l.drop i) (c.drop (i * 6))
  | l, c, 0, H => by simpa using H
  | [], c, i + 1, e => by
    have e : c = [] := e
    subst e; simp; rfl
  | x :: l, _, i + 1, ⟨c, rest, e, a, b⟩ => by
    subst e
    have := NVL.drop i b
    rw [List.drop_succ_cons, show (i + 1) * 6 = c.length + i * 6 by rw [a.shape.1]; omega, ← List.drop_drop, List.drop_left]
    exact this

theorem tc_drop : ∀ (l : List Tok) (i : Nat), (l.map tc).flatten.drop (i * 4) = ((l.drop i).map tc).flatten
  | l, 0 => by simp
  | [], i + 1 => by simp
  | t :: l, i + 1 => by
    have := tc_drop l i
    rw [List.map_cons, List.flatten_cons, List.drop_succ_cons, show (i + 1) * 4 = (tc t).length + i * 4 by simp [tc]; omega, ← List.drop_drop, List.drop_left]
    exact this

theorem TS'.tail {I : Im} {s : DV} {l : List Tok} (H : TS' I s l) {A Q L : Ls} {h : Hp} (S : Sy I A Q L h) {i : Nat} (hi : i < l.length) :
    ∃ s', pSlice 4 s (some (.i .i64 (Int.ofNat i))) none h = some (s', h) ∧ TS' I s' (l.drop i) := by
  obtain ⟨s', e, f⟩ := H.2.tail S hi
  refine ⟨s', e, ?_, ?_⟩
  · have := H.1
    simp; omega
  · rw [tc_drop] at f
    simpa using f

theorem TS'.at {I : Im} {s : DV} {l : List Tok} (H : TS' I s l) {A Q L : Ls} {h : Hp} (S : Sy I A Q L h) {i : Nat} {t : Tok} (hi : l[i]? = some t) :
    ∃ b o, (∀ h', pIndexAddr 4 s (.i .i64 (i : Int)) h' = some (.p b o, h')) ∧ pLoadA 4 (.p b o) h = some (.a (tc t), h) := by
  obtain ⟨hlt, hg⟩ := List.getElem?_eq_some_iff.1 hi
  obtain ⟨b, o, e, k, row, g, rest, d⟩ := H.2.at S hlt
  refine ⟨b, o, e, ldA g ?_⟩
  rw [d, tc_drop, drop_cons hi, List.map_cons, List.flatten_cons, List.append_assoc]
  refine takeD_app2 (tc t) _ 4 rfl ?_
  intro v hv
  simp only [tc, List.mem_cons, List.not_mem_nil, or_false] at hv
  rcases hv with rfl | rfl | rfl | rfl <;> rfl

end Go.Dd

/- Dd, part T3: the program's parser: what it says; its small methods. -/
set_option linter.unusedVariables false
set_option linter.unusedSimpArgs false
set_option maxRecDepth 100000
namespace Go.Dd
open Go.Proofs

section
variable {I : Im} {A Q L : Ls} {h : Hp} {k : Nat → DV → Hp → Res} {P : DV → Hp → Prop} {b : Pos} {o i : Nat} {v : DV}
theorem Ev.fld (H : Ev (fun n => k n (.p b (o + i)) h) P) : Ev (fun n => bnd (pField i (.p b o) h) (k n)) P := H
theorem Ev.neg {q : IntKind} {x : Int} (H : Ev (fun n => k n (.i q (q.wrap (0 - x))) h) P) : Ev (fun n => bnd (pUn .neg (.i q x) h) (k n)) P := H
theorem Ev.part {cs : List DV} (e : cs[i]? = some v) (H : Ev (fun n => k n v h) P) : Ev (fun n => bnd (pPart1 i (.a cs) h) (k n)) P := by
  refine Ev.op (v := v) (h := h) ?_ H
  simp [pPart1, e]
theorem Ev.extr {cs : List DV} (e : cs[i]? = some v) (H : Ev (fun n => k n v h) P) : Ev (fun n => bnd (pExtract i (.t cs) h) (k n)) P := by
  refine Ev.op (v := v) (h := h) ?_ H
  simp [pExtract, e]
end

theorem ones_nil : ∀ v ∈ ([] : List DV), v.one = true := fun v hv => by simp at hv
theorem ones_cons {v : DV} {l : List DV} (h : v.one = true) (t : ∀ w ∈ l, w.one = true) : ∀ w ∈ v :: l, w.one = true := fun w hw => by
  rcases List.mem_cons.1 hw with rfl | hw
  · exact h
  · exact t w hw
theorem tc_ones (t : Tok) : ∀ v ∈ tc t, v.one = true := ones_cons rfl (ones_cons rfl (ones_cons rfl (ones_cons rfl ones_nil)))

theorem fillD_one {cells : List DV} {off : Nat} {v : DV} {rest : List (Nat × Nat × DV)} (hv : v.one = true) (ho : off + 1 ≤ cells.length) : fillD cells ((off, 1, v) :: rest) = fillD (cells.set off v) rest := by
  have e : cells.take off ++ [v] ++ cells.drop (off + 1) = cells.set off v := by
    rw [List.set_eq_take_append_cons_drop, if_pos (by omega)]
    simp
  show (match cellsD v with
    | some cs => if cs.length = 1 ∧ off + 1 ≤ cells.length then fillD (cells.take off ++ cs ++ cells.drop (off + 1)) rest else none
    | none => none) = _
  rw [cells_one hv]
  show (if [v].length = 1 ∧ off + 1 ≤ cells.length then fillD (cells.take off ++ [v] ++ cells.drop (off + 1)) rest else none) = _
  rw [if_pos ⟨rfl, ho⟩, e]

/-! ### Steps, in short -/
section
variable {I : Im} {A Q L L' Q' : Ls} {h : Hp} {k : Nat → DV → Hp → Res} {F G : Nat → Res} {P : DV → Hp → Prop} {b : Pos} {kd : Kind} {l l' cs : List DV} {o n i : Nat} {v x y : DV}
theorem dp (S : Sy I A Q L h := by first | assumption | exact Sy.dropL (by assumption) | exact Sy.dropL (Sy.dropL (by assumption)) | exact Sy.dropL (Sy.dropL (Sy.dropL (by assumption))) | exact Sy.dropL (Sy.dropL (Sy.dropL (Sy.dropL (by assumption)))) | exact Sy.dropL (Sy.dropL (Sy.dropL (Sy.dropL (Sy.dropL (by assumption))))) | exact Sy.dropL (Sy.dropL (Sy.dropL (Sy.dropL (Sy.dropL (Sy.dropL (by assumption)))))) | exact Sy.dropL (Sy.dropL (Sy.dropL (Sy.dropL (Sy.dropL (Sy.dropL (Sy.dropL (by assumption)))))))) : Sy I A Q L h := S
theorem wf (H : Ev (fun n => k n (.p b (o + i)) h) P) : Ev (fun n => bnd (pField i (.p b o) h) (k n)) P := H
theorem wn (H : Ev (fun n => k n (.p b o) h) P) : Ev (fun n => bnd (pNil (.p b o) h) (k n)) P := H
theorem wm (H : Ev (fun n => k n v h) P) : Ev (fun n => bnd (some (v, h)) (k n)) P := H
theorem wl (H : Ev (fun n => k n v h) P) (S : Sy I A Q L h := by assumption) (m : (b, some (.row kd l)) ∈ L := by first | exact List.Mem.head _ | exact (List.Mem.tail _ (List.Mem.head _)) | exact (List.Mem.tail _ (List.Mem.tail _ (List.Mem.head _))) | exact (List.Mem.tail _ (List.Mem.tail _ (List.Mem.tail _ (List.Mem.head _)))) | exact (List.Mem.tail _ (List.Mem.tail _ (List.Mem.tail _ (List.Mem.tail _ (List.Mem.head _))))) | exact (List.Mem.tail _ (List.Mem.tail _ (List.Mem.tail _ (List.Mem.tail _ (List.Mem.tail _ (List.Mem.head _)))))) | exact (List.Mem.tail _ (List.Mem.tail _ (List.Mem.tail _ (List.Mem.tail _ (List.Mem.tail _ (List.Mem.tail _ (List.Mem.head _))))))) | exact (List.Mem.tail _ (List.Mem.tail _ (List.Mem.tail _ (List.Mem.tail _ (List.Mem.tail _ (List.Mem.tail _ (List.Mem.tail _ (List.Mem.head _)))))))) | exact (List.Mem.tail _ (List.Mem.tail _ (List.Mem.tail _ (List.Mem.tail _ (List.Mem.tail _ (List.Mem.tail _ (List.Mem.tail _ (List.Mem.tail _ (List.Mem.head _)))))))))) (e : l[o]? = some v := by rfl) (hv : v.one = true := by first | rfl | assumption | exact Fz.one (by assumption)) : Ev (fun n => bnd (pLoad1 (.p b o) h) (k n)) P := Ev.ldL S m e hv H
theorem wq (H : Ev (fun n => k n v h) P) (S : Sy I A Q L h := by assumption) (m : (b, some (.row kd l)) ∈ Q := by first | exact List.Mem.head _ | exact (List.Mem.tail _ (List.Mem.head _)) | exact (List.Mem.tail _ (List.Mem.tail _ (List.Mem.head _))) | exact (List.Mem.tail _ (List.Mem.tail _ (List.Mem.tail _ (List.Mem.head _)))) | exact (List.Mem.tail _ (List.Mem.tail _ (List.Mem.tail _ (List.Mem.tail _ (List.Mem.head _))))) | exact (List.Mem.tail _ (List.Mem.tail _ (List.Mem.tail _ (List.Mem.tail _ (List.Mem.tail _ (List.Mem.head _)))))) | exact (List.Mem.tail _ (List.Mem.tail _ (List.Mem.tail _ (List.Mem.tail _ (List.Mem.tail _ (List.Mem.tail _ (List.Mem.head _))))))) | exact (List.Mem.tail _ (List.Mem.tail _ (List.Mem.tail _ (List.Mem.tail _ (List.Mem.tail _ (List.Mem.tail _ (List.Mem.tail _ (List.Mem.head _)))))))) | exact (List.Mem.tail _ (List.Mem.tail _ (List.Mem.tail _ (List.Mem.tail _ (List.Mem.tail _ (List.Mem.tail _ (List.Mem.tail _ (List.Mem.tail _ (List.Mem.head _)))))))))) (e : l[o]? = some v := by rfl) (hv : v.one = true := by first | rfl | assumption | exact Fz.one (by assumption)) : Ev (fun n => bnd (pLoad1 (.p b o) h) (k n)) P := Ev.ldQ S m e hv H
theorem ws (H : Ev (fun n => k n (.a l) h) P) (S : Sy I A Q L h := by assumption) (m : (b, some (.row kd l)) ∈ L := by first | exact List.Mem.head _ | exact (List.Mem.tail _ (List.Mem.head _)) | exact (List.Mem.tail _ (List.Mem.tail _ (List.Mem.head _))) | exact (List.Mem.tail _ (List.Mem.tail _ (List.Mem.tail _ (List.Mem.head _)))) | exact (List.Mem.tail _ (List.Mem.tail _ (List.Mem.tail _ (List.Mem.tail _ (List.Mem.head _))))) | exact (List.Mem.tail _ (List.Mem.tail _ (List.Mem.tail _ (List.Mem.tail _ (List.Mem.tail _ (List.Mem.head _)))))) | exact (List.Mem.tail _ (List.Mem.tail _ (List.Mem.tail _ (List.Mem.tail _ (List.Mem.tail _ (List.Mem.tail _ (List.Mem.head _))))))) | exact (List.Mem.tail _ (List.Mem.tail _ (List.Mem.tail _ (List.Mem.tail _ (List.Mem.tail _ (List.Mem.tail _ (List.Mem.tail _ (List.Mem.head _)))))))) | exact (List.Mem.tail _ (List.Mem.tail _ (List.Mem.tail _ (List.Mem.tail _ (List.Mem.tail _ (List.Mem.tail _ (List.Mem.tail _ (List.Mem.tail _ (List.Mem.head _)))))))))) (h1 : l.length = n := by first | rfl | assumption) (h2 : ∀ v ∈ l, v.one = true := by first | assumption | exact tc_ones _ | (repeat (first | exact ones_nil | refine ones_cons (by first | rfl | assumption | exact Fz.one (by assumption)) ?_))) : Ev (fun m => bnd (pLoadA n (.p b 0) h) (k m)) P := Ev.ldsL S m h1 h2 H
theorem wa (H : ∀ b h', Sy I A Q ((b, some (.row .ex cs)) :: L) h' → Ev (fun n => k n (.p b 0) h') P) (S : Sy I A Q L h := by assumption) : Ev (fun n => bnd (pNew cs h) (k n)) P := Ev.new S H
theorem wt (H : ∀ h', Sy I A Q L' h' → Ev (fun n => k n undefD h') P) (S : Sy I A Q L h := by assumption) (r : Rpl b (some (.row .ex l)) (some (.row .ex l')) L L' := by first | exact Rpl.head _ | exact (Rpl.tail _ (Rpl.head _)) | exact (Rpl.tail _ (Rpl.tail _ (Rpl.head _))) | exact (Rpl.tail _ (Rpl.tail _ (Rpl.tail _ (Rpl.head _)))) | exact (Rpl.tail _ (Rpl.tail _ (Rpl.tail _ (Rpl.tail _ (Rpl.head _))))) | exact (Rpl.tail _ (Rpl.tail _ (Rpl.tail _ (Rpl.tail _ (Rpl.tail _ (Rpl.head _)))))) | exact (Rpl.tail _ (Rpl.tail _ (Rpl.tail _ (Rpl.tail _ (Rpl.tail _ (Rpl.tail _ (Rpl.head _))))))) | exact (Rpl.tail _ (Rpl.tail _ (Rpl.tail _ (Rpl.tail _ (Rpl.tail _ (Rpl.tail _ (Rpl.tail _ (Rpl.head _)))))))) | exact (Rpl.tail _ (Rpl.tail _ (Rpl.tail _ (Rpl.tail _ (Rpl.tail _ (Rpl.tail _ (Rpl.tail _ (Rpl.tail _ (Rpl.head _)))))))))) (h1 : l.length = n := by first | rfl | assumption) (h2 : ∀ v ∈ l, v.one = true := by first | assumption | exact tc_ones _ | (repeat (first | exact ones_nil | refine ones_cons (by first | rfl | assumption | exact Fz.one (by assumption)) ?_))) (h3 : l'.length = n := by first | rfl | assumption) (h4 : ∀ v ∈ l', v.one = true := by first | assumption | exact tc_ones _ | (repeat (first | exact ones_nil | refine ones_cons (by first | rfl | assumption | exact Fz.one (by assumption)) ?_))) : Ev (fun m => bnd (pStore n (.p b 0) (.a l') h) (k m)) P := Ev.stsL S r h1 h2 h3 h4 H
theorem wu (H : ∀ h', Sy I A Q L' h' → Ev (fun n => k n undefD h') P) (S : Sy I A Q L h := by assumption) (r : Rpl b (some (.row .ex l)) (some (.row .ex l')) L L' := by first | exact Rpl.head _ | exact (Rpl.tail _ (Rpl.head _)) | exact (Rpl.tail _ (Rpl.tail _ (Rpl.head _))) | exact (Rpl.tail _ (Rpl.tail _ (Rpl.tail _ (Rpl.head _)))) | exact (Rpl.tail _ (Rpl.tail _ (Rpl.tail _ (Rpl.tail _ (Rpl.head _))))) | exact (Rpl.tail _ (Rpl.tail _ (Rpl.tail _ (Rpl.tail _ (Rpl.tail _ (Rpl.head _)))))) | exact (Rpl.tail _ (Rpl.tail _ (Rpl.tail _ (Rpl.tail _ (Rpl.tail _ (Rpl.tail _ (Rpl.head _))))))) | exact (Rpl.tail _ (Rpl.tail _ (Rpl.tail _ (Rpl.tail _ (Rpl.tail _ (Rpl.tail _ (Rpl.tail _ (Rpl.head _)))))))) | exact (Rpl.tail _ (Rpl.tail _ (Rpl.tail _ (Rpl.tail _ (Rpl.tail _ (Rpl.tail _ (Rpl.tail _ (Rpl.tail _ (Rpl.head _)))))))))) (e : l.set o v = l' := by rfl) (h1 : ∃ x, l[o]? = some x ∧ x.one = true := by exact ⟨_, rfl, by first | rfl | assumption | exact Fz.one (by assumption)⟩) (hv : v.one = true := by first | rfl | assumption | exact Fz.one (by assumption)) : Ev (fun m => bnd (pStore 1 (.p b o) v h) (k m)) P := Ev.stL S r e h1 hv H
theorem wv (H : ∀ h', Sy I A Q' L h' → Ev (fun n => k n undefD h') P) (S : Sy I A Q L h := by assumption) (r : Rpl b (some (.row .ex l)) (some (.row .ex l')) Q Q' := by first | exact Rpl.head _ | exact (Rpl.tail _ (Rpl.head _)) | exact (Rpl.tail _ (Rpl.tail _ (Rpl.head _))) | exact (Rpl.tail _ (Rpl.tail _ (Rpl.tail _ (Rpl.head _)))) | exact (Rpl.tail _ (Rpl.tail _ (Rpl.tail _ (Rpl.tail _ (Rpl.head _))))) | exact (Rpl.tail _ (Rpl.tail _ (Rpl.tail _ (Rpl.tail _ (Rpl.tail _ (Rpl.head _)))))) | exact (Rpl.tail _ (Rpl.tail _ (Rpl.tail _ (Rpl.tail _ (Rpl.tail _ (Rpl.tail _ (Rpl.head _))))))) | exact (Rpl.tail _ (Rpl.tail _ (Rpl.tail _ (Rpl.tail _ (Rpl.tail _ (Rpl.tail _ (Rpl.tail _ (Rpl.head _)))))))) | exact (Rpl.tail _ (Rpl.tail _ (Rpl.tail _ (Rpl.tail _ (Rpl.tail _ (Rpl.tail _ (Rpl.tail _ (Rpl.tail _ (Rpl.head _)))))))))) (e : l.set o v = l' := by rfl) (h1 : ∃ x, l[o]? = some x ∧ x.one = true := by exact ⟨_, rfl, by first | rfl | assumption | exact Fz.one (by assumption)⟩) (hv : v.one = true := by first | rfl | assumption | exact Fz.one (by assumption)) : Ev (fun m => bnd (pStore 1 (.p b o) v h) (k m)) P := Ev.stQ S r e h1 hv H
theorem wb (H : ∀ b h', Sy I A Q ((b, some (.row .ex cs)) :: L) h' → Ev (fun n => k n (.p b 0) h') P) (S : Sy I A Q L h := by assumption) (e : cellsD v = some cs := by rfl) : Ev (fun n => bnd (pBox v h) (k n)) P := Ev.box S e H
theorem zt (H : Ev (fun n => bnd (F n) (k n)) P) : Ev (fun n => bnd (gD (.b true) true (F n) h) (k n)) P := H
theorem zf (H : Ev (fun n => bnd (F n) (k n)) P) : Ev (fun n => bnd (gD (.b false) false (F n) h) (k n)) P := H
theorem yf (H : Ev (fun n => k n undefD h) P) : Ev (fun n => bnd (gD (.b false) true (F n) h) (k n)) P := H
theorem yg (H : Ev (fun n => k n undefD h) P) : Ev (fun n => bnd (gD (.b true) false (F n) h) (k n)) P := H
theorem yu {c : Bool} (H : Ev (fun n => k n undefD h) P) : Ev (fun n => bnd (gD undefD c (F n) h) (k n)) P := H
theorem yt (H : Ev F P) : Ev (fun n => ifD (.b true) (F n) (G n)) P := H
theorem yj (H : Ev G P) : Ev (fun n => ifD (.b false) (F n) (G n)) P := H
theorem ap (H : Ev (fun n => k n x h) P) : Ev (fun n => bnd (pPick (.b true) x y h) (k n)) P := H
theorem aq (H : Ev (fun n => k n y h) P) : Ev (fun n => bnd (pPick (.b false) x y h) (k n)) P := H
theorem an (H : Ev (fun n => k n (.b false) h) P) : Ev (fun n => bnd (pUn .not (.b true) h) (k n)) P := H
theorem ao (H : Ev (fun n => k n (.b true) h) P) : Ev (fun n => bnd (pUn .not (.b false) h) (k n)) P := H
theorem wp (H : Ev (fun n => k n v h) P) (e : cs[i]? = some v := by rfl) : Ev (fun n => bnd (pPart1 i (.a cs) h) (k n)) P := Ev.part e H
theorem wx (H : Ev (fun n => k n v h) P) (e : cs[i]? = some v := by rfl) : Ev (fun n => bnd (pExtract i (.t cs) h) (k n)) P := Ev.extr e H
end
theorem wd {k : Nat → DV → Hp → Res} {P : DV → Hp → Prop} {h : Hp} {cs : List DV} {z : List DV} {ps : List (Nat × Nat × DV)} (H : Ev (fun n => k n (.a cs) h) P) (e : fillD z ps = some cs := by first | rfl | ((repeat (rw [fillD_one (by first | rfl | assumption | exact Fz.one (by assumption)) (by simp)])); rfl)) : Ev (fun n => bnd (pBuild z ps h) (k n)) P := Ev.bld e H


/-! ### What it says -/

structure PSt where
  toks : List Tok
  deep : Int
  pos : Int
  err : Int

def w64 (x : Int) : Int := IntKind.i64.wrap x

def lookS (st : PSt) (k : Nat) : Option Tok := st.toks[min k (st.toks.length - 1)]?
def failS (st : PSt) (t : Tok) (e : Int) : PSt := if st.err = 0 then { st with pos := t.pos, err := e } else st
def takeS (st : PSt) : Option (Tok × PSt) :=
  (lookS st 0).bind fun t => if t.kind = 0 then some (t, st) else if 2 ≤ st.toks.length then some (t, { st with toks := st.toks.drop 1 }) else none
def isS (st : PSt) (kind : Int) (text : List Nat) : Option Bool :=
  (lookS st 0).bind fun t => some (decide (st.err = 0) && decide (t.kind = kind) && (decide (text = []) || decide (t.text = text)))
def z4 : Tok := ⟨0, [], 0, 0⟩
def needS (st : PSt) (kind : Int) (text : List Nat) : Option (Tok × PSt) :=
  (isS st kind text).bind fun c => if c then takeS st else (lookS st 0).bind fun t => some (z4, failS st t 13)
def nameS (st : PSt) (kind : Int) (len : Nat) : Option (List Nat × PSt) :=
  (needS st kind []).bind fun r => some (r.1.text, if len = 4 then failS r.2 r.1 18 else r.2)
def negS (st : PSt) : Option Bool :=
  (lookS st 1).bind fun t => (isS st 3 [45]).bind fun c => (lookS st 0).bind fun u => some (c && decide (t.kind = 4) && decide (t.pos = w64 (u.pos + 1)))

def PS (p : Pos) (s : DV) (st : PSt) : Pos × Option Ob := (p, some (.row .ex [s, .i .i64 st.deep, .i .i64 st.pos, .i .i64 st.err]))

theorem lookS_lt {st : PSt} {k : Nat} {t : Tok} (h : lookS st k = some t) : 1 ≤ st.toks.length := by
  unfold lookS at h
  have := (List.getElem?_eq_some_iff.1 h).1
  omega

theorem enter55 (n : Nat) (x y : DV) (h : Hp) : shD (n + 1) 55 [x, y] h = s55 (shD n) n x y h := by kernel_rfl
theorem enter51 (n : Nat) (x y z : DV) (h : Hp) : shD (n + 1) 51 [x, y, z] h = s51 (shD n) n x y z h := by kernel_rfl
theorem enter52 (n : Nat) (x : DV) (h : Hp) : shD (n + 1) 52 [x] h = s52 (shD n) n x h := by kernel_rfl
theorem enter54 (n : Nat) (x y z : DV) (h : Hp) : shD (n + 1) 54 [x, y, z] h = s54 (shD n) n x y z h := by kernel_rfl
theorem enter32 (n : Nat) (x y z : DV) (h : Hp) : shD (n + 1) 32 [x, y, z] h = s32 (shD n) n x y z h := by kernel_rfl
theorem enter56 (n : Nat) (x y z : DV) (h : Hp) : shD (n + 1) 56 [x, y, z] h = s56 (shD n) n x y z h := by kernel_rfl
theorem enter93 (n : Nat) (x : DV) (h : Hp) : shD (n + 1) 93 [x] h = s93 (shD n) n x h := by kernel_rfl

section
variable {I : Im} {A L : Ls} {h : Hp} {p : Pos} {s : DV} {st : PSt}

theorem look_ok (S : Sy I A [PS p s st] L h) (T : TS' I s st.toks) {k : Nat} {t : Tok} (hk : lookS st k = some t) :
    Ev (fun n => shD n 55 [.p p 0, .i .i64 (Int.ofNat k)] h) (fun v h' => v = .a (tc t) ∧ Sy I A [PS p s st] L h') := by
  refine Ev.enter (fun n => enter55 n _ _ h) ?_
  unfold s55
  have hs := T.2.one
  refine wa fun _ _ _ => ?_; refine wn ?_; refine wf ?_; refine wq ?_; refine wn ?_; refine wf ?_; refine wq ?_
  refine Ev.op (T.2.len _) (Ev.isub ?_)
  have hlen := lookS_lt hk
  have hl := T.1
  have e1 : IntKind.i64.wrap ((st.toks.length : Int) - Int.ofNat 1) = ((st.toks.length - 1 : Nat) : Int) := by
    rw [wrap64s _ (by simp; omega) (by simp [lim] at hl ⊢; omega)]
    simp; omega
  rw [e1]
  have e2 : ∀ h, pMin (.i .i64 (Int.ofNat k)) (.i .i64 ((st.toks.length - 1 : Nat) : Int)) h = some (.i .i64 ((min k (st.toks.length - 1) : Nat) : Int), h) := fun h => by
    unfold pMin
    have : (if ((st.toks.length - 1 : Nat) : Int) < Int.ofNat k then ((st.toks.length - 1 : Nat) : Int) else Int.ofNat k) = ((min k (st.toks.length - 1) : Nat) : Int) := by
      show (if ((st.toks.length - 1 : Nat) : Int) < (k : Int) then ((st.toks.length - 1 : Nat) : Int) else (k : Int)) = _
      split <;> omega
    show some (DV.i .i64 (if ((st.toks.length - 1 : Nat) : Int) < Int.ofNat k then ((st.toks.length - 1 : Nat) : Int) else Int.ofNat k), h) = _
    rw [this]
  refine Ev.op (e2 _) ?_
  obtain ⟨b, o, a1, a2⟩ := T.at (by assumption) hk
  refine Ev.op (a1 _) (Ev.op a2 ?_)
  refine wt fun _ _ => ?_; refine ws ?_
  exact Ev.ret ⟨rfl, Sy.dropL (by assumption)⟩

theorem is_ok (S : Sy I A [PS p s st] L h) (T : TS' I s st.toks) {kind : Int} {text : List Nat} {c : Bool} (hc : isS st kind text = some c) :
    Ev (fun n => shD n 51 [.p p 0, .i .i64 kind, .s text] h) (fun v h' => v = .b c ∧ Sy I A [PS p s st] L h') := by
  unfold isS at hc
  obtain ⟨t, ht, hc⟩ := Option.bind_eq_some_iff.1 hc
  simp only [Option.some.injEq] at hc
  refine Ev.enter (fun n => enter51 n _ _ _ h) ?_
  unfold s51
  refine Ev.call (look_ok S T ht) ?_
  rintro _ _ ⟨rfl, S1⟩
  refine wa fun _ _ _ => ?_; refine wt fun _ _ => ?_; refine wn ?_; refine wf ?_; refine wq ?_
  refine Ev.ieq (fun e1 => ?_) (fun e1 => ?_)
  · refine zt ?_; refine wf ?_; refine zt ?_; refine wl ?_; refine zt ?_; refine wm ?_; refine zt ?_
    refine Ev.ieq (fun e2 => ?_) (fun e2 => ?_)
    · refine ap ?_; refine zt ?_; refine wm ?_; refine zt ?_
      refine Ev.seq (fun e3 => ?_) (fun e3 => ?_)
      · refine zt ?_; refine wm ?_; refine yg ?_; refine yg ?_; refine yg ?_; refine yg ?_; refine zt ?_; refine ap ?_; refine ap ?_
        exact Ev.ret ⟨by rw [← hc]; simp at e1; simp [e1, e2, e3], dp⟩
      · refine zt ?_; refine wm ?_; refine zf ?_; refine wf ?_; refine zf ?_; refine wl ?_; refine zf ?_; refine wm ?_; refine zf ?_
        refine Ev.seq (fun e4 => ?_) (fun e4 => ?_)
        · refine zt ?_; refine aq ?_; refine ap ?_
          exact Ev.ret ⟨by rw [← hc]; simp at e1; simp [e1, e2, e3, e4], dp⟩
        · refine zt ?_; refine aq ?_; refine ap ?_
          exact Ev.ret ⟨by rw [← hc]; simp at e1; simp [e1, e2, e3, e4], dp⟩
    · refine ap ?_; refine yf ?_; refine yf ?_; refine yf ?_; refine yu ?_; refine yu ?_; refine yu ?_; refine yu ?_; refine yf ?_; refine aq ?_
      exact Ev.ret ⟨by rw [← hc]; simp at e1; simp [e1, e2], dp⟩
  · refine yf ?_; refine yf ?_; refine yf ?_; refine yf ?_; refine aq ?_; refine yf ?_; refine yf ?_; refine yf ?_; refine yu ?_; refine yu ?_; refine yu ?_; refine yu ?_; refine yf ?_; refine aq ?_
    exact Ev.ret ⟨by rw [← hc]; simp at e1; simp [e1], dp⟩

theorem fail_ok (S : Sy I A [PS p s st] L h) (hs : s.one = true) (t : Tok) (e : Int) :
    Ev (fun n => shD n 54 [.p p 0, .a (tc t), .i .i64 e] h) (fun v h' => v = .t [] ∧ Sy I A [PS p s (failS st t e)] L h') := by
  refine Ev.enter (fun n => enter54 n _ _ _ h) ?_
  unfold s54
  refine wb fun _ _ _ => ?_; refine wn ?_; refine wf ?_; refine wq ?_
  refine Ev.ieq (fun e1 => ?_) (fun e1 => ?_)
  · refine yt ?_; refine wf ?_; refine wl ?_; refine wn ?_; refine wf ?_; refine wv fun _ _ => ?_; refine wn ?_; refine wf ?_; refine wv fun _ _ => ?_
    have : failS st t e = { st with pos := t.pos, err := e } := by simp at e1; simp [failS, e1]
    rw [this]
    exact Ev.ret ⟨rfl, dp⟩
  · refine yj ?_
    have : failS st t e = st := by simp at e1; simp [failS, e1]
    rw [this]
    exact Ev.ret ⟨rfl, dp⟩

theorem take_ok (S : Sy I A [PS p s st] L h) (T : TS' I s st.toks) {t : Tok} {st' : PSt} (ht : takeS st = some (t, st')) :
    Ev (fun n => shD n 52 [.p p 0] h) (fun v h' => v = .a (tc t) ∧ ∃ s', Sy I A [PS p s' st'] L h' ∧ TS' I s' st'.toks) := by
  unfold takeS at ht
  obtain ⟨u, hu, ht⟩ := Option.bind_eq_some_iff.1 ht
  have hs := T.2.one
  refine Ev.enter (fun n => enter52 n _ h) ?_
  unfold s52 s52a1
  refine wa fun _ _ _ => ?_
  refine Ev.call (look_ok (by assumption) T hu) ?_
  rintro _ _ ⟨rfl, S1⟩
  unfold s52a2
  refine wa fun _ _ _ => ?_; refine wt fun _ _ => ?_; refine wf ?_; refine wl ?_
  unfold s52a3
  refine Ev.ine (fun e1 => ?_) (fun e1 => ?_)
  · refine yt ?_; refine wn ?_; refine wf ?_; refine wq ?_
    simp only [show ¬ u.kind = 0 from e1, if_false] at ht
    split at ht
    · rename_i h2
      simp only [Option.some.injEq, Prod.mk.injEq] at ht
      obtain ⟨rfl, rfl⟩ := ht
      obtain ⟨s', e, T'⟩ := T.tail (i := 1) (by assumption) (by omega)
      have hs' := T'.2.one
      refine Ev.op e ?_
      refine wn ?_; refine wf ?_; refine wv fun _ _ => ?_; refine ws ?_; refine wt fun _ _ => ?_; refine ws ?_
      exact Ev.ret ⟨rfl, s', dp, T'⟩
    · cases ht
  · refine yj ?_; refine ws ?_; refine wt fun _ _ => ?_; refine ws ?_
    simp only [show u.kind = 0 from e1, if_true, Option.some.injEq, Prod.mk.injEq] at ht
    obtain ⟨rfl, rfl⟩ := ht
    exact Ev.ret ⟨rfl, s, dp, T⟩

theorem failS_toks (st : PSt) (t : Tok) (e : Int) : (failS st t e).toks = st.toks := by
  unfold failS; split <;> rfl

theorem need_ok (S : Sy I A [PS p s st] L h) (T : TS' I s st.toks) {kind : Int} {text : List Nat} {t : Tok} {st' : PSt} (ht : needS st kind text = some (t, st')) :
    Ev (fun n => shD n 32 [.p p 0, .i .i64 kind, .s text] h) (fun v h' => v = .a (tc t) ∧ ∃ s', Sy I A [PS p s' st'] L h' ∧ TS' I s' st'.toks) := by
  unfold needS at ht
  obtain ⟨c, hc, ht⟩ := Option.bind_eq_some_iff.1 ht
  refine Ev.enter (fun n => enter32 n _ _ _ h) ?_
  unfold s32
  refine wa fun _ _ _ => ?_
  refine Ev.call (is_ok (by assumption) T hc) ?_
  rintro _ _ ⟨rfl, S1⟩
  cases c with
  | true =>
    refine an ?_; refine yj ?_
    refine Ev.call (take_ok (by assumption) T ht) ?_
    rintro _ _ ⟨rfl, s', S2, T2⟩
    refine wt fun _ _ => ?_; refine ws ?_
    exact Ev.ret ⟨rfl, s', dp, T2⟩
  | false =>
    refine ao ?_; refine yt ?_
    obtain ⟨u, hu, ht⟩ := Option.bind_eq_some_iff.1 (by simpa using ht)
    simp only [Option.some.injEq, Prod.mk.injEq] at ht
    obtain ⟨rfl, rfl⟩ := ht
    refine Ev.call (look_ok (k := 0) (by assumption) T hu) ?_
    rintro _ _ ⟨rfl, S2⟩
    refine Ev.call (fail_ok (by assumption) T.2.one u _) ?_
    rintro _ _ ⟨rfl, S3⟩
    refine wd ?_; refine wt fun _ _ => ?_; refine ws ?_
    exact Ev.ret ⟨rfl, s, dp, by rw [failS_toks]; exact T⟩

theorem name_ok (S : Sy I A [PS p s st] L h) (T : TS' I s st.toks) {kind : Int} {x : DV} {len : Nat} (hl : ∀ h, pLen x h = some (.i .i64 (len : Int), h)) {t : List Nat} {st' : PSt} (ht : nameS st kind len = some (t, st')) :
    Ev (fun n => shD n 56 [.p p 0, .i .i64 kind, x] h) (fun v h' => v = .s t ∧ ∃ s', Sy I A [PS p s' st'] L h' ∧ TS' I s' st'.toks) := by
  unfold nameS at ht
  obtain ⟨⟨u, st1⟩, hu, ht⟩ := Option.bind_eq_some_iff.1 ht
  simp only [Option.some.injEq, Prod.mk.injEq] at ht
  obtain ⟨rfl, rfl⟩ := ht
  refine Ev.enter (fun n => enter56 n _ _ _ h) ?_
  unfold s56 s56a1
  refine Ev.call (need_ok S T hu) ?_
  rintro _ _ ⟨rfl, s', S1, T1⟩
  unfold s56a2
  refine wa fun _ _ _ => ?_; refine wt fun _ _ => ?_
  refine Ev.op (hl _) ?_
  unfold s56a3
  refine Ev.ieq (fun e1 => ?_) (fun e1 => ?_)
  · refine yt ?_; refine ws ?_
    have e2 : len = 4 := by simp at e1; omega
    rw [if_pos e2]
    refine Ev.call (fail_ok (by assumption) T1.2.one u _) ?_
    rintro _ _ ⟨rfl, S3⟩
    refine wf ?_; refine wl ?_
    exact Ev.ret ⟨rfl, s', dp, by rw [failS_toks]; exact T1⟩
  · refine yj ?_; refine wf ?_; refine wl ?_
    have e2 : ¬ len = 4 := by simp at e1; omega
    rw [if_neg e2]
    exact Ev.ret ⟨rfl, s', dp, T1⟩

theorem neg_ok (S : Sy I A [PS p s st] L h) (T : TS' I s st.toks) {c : Bool} (hc : negS st = some c) :
    Ev (fun n => shD n 93 [.p p 0] h) (fun v h' => v = .b c ∧ Sy I A [PS p s st] L h') := by
  unfold negS at hc
  obtain ⟨t, ht, hc⟩ := Option.bind_eq_some_iff.1 hc
  obtain ⟨d, hd, hc⟩ := Option.bind_eq_some_iff.1 hc
  obtain ⟨u, hu, hc⟩ := Option.bind_eq_some_iff.1 hc
  simp only [Option.some.injEq] at hc
  refine Ev.enter (fun n => enter93 n _ h) ?_
  unfold s93
  refine Ev.call (look_ok (k := 1) S T ht) ?_
  rintro _ _ ⟨rfl, S1⟩
  refine wa fun _ _ _ => ?_; refine wt fun _ _ => ?_
  refine Ev.call (is_ok (by assumption) T hd) ?_
  rintro _ _ ⟨rfl, S2⟩
  cases d with
  | false =>
    refine yf ?_; refine yf ?_; refine yf ?_; refine aq ?_; refine yf ?_; refine yf ?_; refine yf ?_; refine yf ?_
    refine Ev.cnd rfl ?_
    refine yf ?_; refine yf ?_; refine yf ?_; refine aq ?_
    exact Ev.ret ⟨by rw [← hc]; rfl, dp⟩
  | true =>
    refine zt ?_; refine wf ?_; refine zt ?_; refine wl ?_; refine zt ?_
    refine Ev.ieq (fun e1 => ?_) (fun e1 => ?_)
    · refine ap ?_; refine zt ?_; refine wf ?_; refine zt ?_; refine wl ?_; refine zt ?_; refine wm ?_; refine zt ?_
      refine Ev.call (look_ok (k := 0) (by assumption) T hu) ?_
      rintro _ _ ⟨rfl, S3⟩
      refine Ev.cnd ?_ ?_
      · rw [Bool.and_true]
        exact same1 (S := S3) (List.Mem.head _) rfl rfl (by simp [DV.beq])
      refine zt ?_; refine wp ?_; refine zt ?_
      refine Ev.iadd ?_
      refine zt ?_
      refine Ev.ieq (fun e2 => ?_) (fun e2 => ?_)
      · refine ap ?_
        exact Ev.ret ⟨by rw [← hc, decide_eq_true (show t.kind = 4 from e1), decide_eq_true (show t.pos = w64 (u.pos + 1) from e2)]; rfl, dp⟩
      · refine ap ?_
        exact Ev.ret ⟨by rw [← hc, decide_eq_true (show t.kind = 4 from e1), decide_eq_false (show ¬ t.pos = w64 (u.pos + 1) from e2)]; rfl, dp⟩
    · refine ap ?_; refine yf ?_; refine yf ?_; refine yf ?_; refine yf ?_
      refine Ev.cnd rfl ?_
      refine yf ?_; refine yf ?_; refine yf ?_; refine aq ?_
      exact Ev.ret ⟨by rw [← hc, decide_eq_false (show ¬ t.kind = 4 from e1)]; rfl, dp⟩

end
end Go.Dd

/- Dd, part T4: the program's parser: nodes, plain things, messages to one name, temporaries. -/
set_option linter.unusedVariables false
set_option linter.unusedSimpArgs false
set_option maxRecDepth 100000
namespace Go.Dd
open Go.Proofs

/-! ### Operations, more -/

theorem fill6 {c : List DV} (h : c.length = 6) : fillD [(.i .i64 (Int.ofNat 0)), (.s []), (.i .i64 (Int.ofNat 0)), .l0, .l0, .l0] [(0, 6, .a c)] = some c := by
  simp [fillD, cellsD, h]
theorem fill12 {c d : List DV} (h : c.length = 6) (h' : d.length = 6) : fillD [(.i .i64 (Int.ofNat 0)), (.s []), (.i .i64 (Int.ofNat 0)), .l0, .l0, .l0, (.i .i64 (Int.ofNat 0)), (.s []), (.i .i64 (Int.ofNat 0)), .l0, .l0, .l0] [(0, 6, .a c), (6, 6, .a d)] = some (c ++ d) := by
  have e : List.take 6 (c ++ [(.i .i64 (Int.ofNat 0)), (.s []), (.i .i64 (Int.ofNat 0)), .l0, .l0, .l0]) = c := by rw [← h, List.take_left]
  have e2 : List.drop 12 (c ++ [(DV.i .i64 (Int.ofNat 0)), (.s []), (.i .i64 (Int.ofNat 0)), .l0, .l0, .l0]) = [] := by simp [h]
  simp [fillD, cellsD, h, h']

section
variable {I : Im} {A Q L L' : Ls} {h : Hp} {k : Nat → DV → Hp → Res} {P : DV → Hp → Prop} {b : Pos} {cs : List DV} {n : Nat} {kd : Kind} {l : List DV}
theorem Ev.bsAt0 (S : Sy I A Q L h) {z : List DV} {ps : List (Nat × Nat × DV)} (r : Rpl b none (some (.row .ex cs)) L L') (e : fillD z ps = some cs)
    (H : ∀ h', Sy I A Q L' h' → Ev (fun m => k m (.l b 0 n n) h') P) : Ev (fun m => bnd (pBuildSliceAt (nthPos 0 b) z n ps h) (k m)) P := Ev.bsAt S r e H

theorem sameA (S : Sy I A Q L h) (m : (b, some (.row kd l)) ∈ L) (h1 : l.length = n) (h2 : ∀ v ∈ l, v.one = true) (hb : DV.beq (.a l) (.a l) = true) : sameR (pLoadA n (.p b 0) h) (.a l) = true := by
  rw [ldA (S.memL m) (take_all h1 h2)]; exact hb
end

/-! ### What it says -/

def zN : Node := .mk 0 [] 0 [] [] []
def sendN (t : List Nat) (ks : List Node) : Node := .mk 7 t 0 [] [] ks
def Node.kids : Node → List Node | .mk _ _ _ _ _ ks => ks
def Node.text : Node → List Nat | .mk _ t _ _ _ _ => t
def Node.kind : Node → Int | .mk k _ _ _ _ _ => k

def plainS (st : PSt) : Option ((Node × Bool) × PSt) :=
  (lookS st 0).bind fun t =>
    if st.err = 0 then (negS st).bind fun c =>
      if c then (takeS st).bind fun r => (takeS r.2).bind fun q => some ((.mk 1 [] (w64 (0 - q.1.num)) [] [] [], true), q.2)
      else if t.kind = 4 then (takeS st).bind fun r => some ((.mk 1 t.text t.num [] [] [], true), r.2)
      else if t.kind = 5 then (takeS st).bind fun r => some ((.mk 2 t.text t.num [] [] [], true), r.2)
      else if t.kind = 6 then (takeS st).bind fun r => some ((.mk 3 t.text t.num [] [] [], true), r.2)
      else some ((.mk 0 t.text t.num [] [] [], false), st)
    else some ((.mk 0 t.text t.num [] [] [], false), st)

def withinS (f : PSt → Option (Node × PSt)) (st : PSt) : Option (Node × PSt) :=
  (takeS st).bind fun r => if r.2.deep = 20 then some (zN, failS r.2 r.1 14)
    else (f { r.2 with deep := w64 (r.2.deep + 1) }).bind fun q => some (q.1, { q.2 with deep := w64 (q.2.deep - 1) })

def unaryS : Nat → Node → PSt → Option (Node × PSt)
  | 0, _, _ => none
  | f + 1, x, st => (isS st 1 []).bind fun c => if c then (takeS st).bind fun r => unaryS f (sendN r.1.text [x]) r.2 else some (x, st)

def tempsL : Nat → List (List Nat) → PSt → Option (List (List Nat) × PSt)
  | 0, _, _ => none
  | f + 1, l, st => (isS st 1 []).bind fun c => if c then (takeS st).bind fun r => tempsL f (l ++ [r.1.text]) r.2 else (needS st 10 [124]).bind fun r => some (l, r.2)
def tempsS (f : Nat) (st : PSt) : Option (List (List Nat) × PSt) :=
  (isS st 10 [124]).bind fun c => if c then (takeS st).bind fun r => tempsL f [] r.2 else some ([], st)

/-! ### The walks -/

/-- What a method that answers a node leaves. -/
def NPost (I : Im) (A L : Ls) (p : Pos) (x : Node) (st : PSt) (v : DV) (h : Hp) : Prop := ∃ J s cs, v = .a cs ∧ ILe I J ∧ Sy J A [PS p s st] L h ∧ TS' J s st.toks ∧ NV J x cs

theorem NPost.le {I J : Im} {A L : Ls} {p : Pos} {x : Node} {st : PSt} (g : ILe I J) : ∀ v h, NPost J A L p x st v h → NPost I A L p x st v h := by
  rintro v h ⟨K, s, cs, e, g', r⟩
  exact ⟨K, s, cs, e, g.trans g', r⟩

def NOk (g : FuncId) (f : PSt → Option (Node × PSt)) : Prop := ∀ (I : Im) (A L : Ls) (h : Hp) (p : Pos) (s : DV) (st : PSt) (x : Node) (st' : PSt), Sy I A [PS p s st] L h → TS' I s st.toks → f st = some (x, st') →
  Ev (fun n => shD n g [.p p 0] h) (NPost I A L p x st')

def NOk1 (g : FuncId) (f : Node → PSt → Option (Node × PSt)) : Prop := ∀ (I : Im) (A L : Ls) (h : Hp) (p : Pos) (s : DV) (st : PSt) (x y : Node) (cs : List DV) (st' : PSt), Sy I A [PS p s st] L h → TS' I s st.toks → NV I x cs → f x st = some (y, st') →
  Ev (fun n => shD n g [.p p 0, .a cs] h) (NPost I A L p y st')

theorem NS.nil (I : Im) : NS I .l0 [] := ⟨by simp, [], .inl ⟨rfl, rfl, rfl⟩, rfl⟩
theorem SS.nil (I : Im) : SS I .l0 [] := ⟨by simp, .inl ⟨rfl, rfl, rfl⟩⟩
theorem NV.of {I : Im} {k : Int} {t : List Nat} {m : Int} {s1 s2 s3 : DV} {ns ts : List (List Nat)} {ks : List Node} (h1 : SS I s1 ns) (h2 : SS I s2 ts) (h3 : NS I s3 ks) : NV I (.mk k t m ns ts ks) [.i .i64 k, .s t, .i .i64 m, s1, s2, s3] :=
  ⟨s1, s2, s3, rfl, h1, h2, h3.1, h3.2⟩
theorem NV.flat {I : Im} (k : Int) (t : List Nat) (m : Int) : NV I (.mk k t m [] [] []) [.i .i64 k, .s t, .i .i64 m, .l0, .l0, .l0] := NV.of (SS.nil I) (SS.nil I) (NS.nil I)
theorem NS.one {I : Im} {s : DV} {ks : List Node} (H : NS I s ks) : s.one = true := by
  obtain ⟨_, c, f, _⟩ := H; exact f.one
theorem NS.len {I : Im} {s : DV} {ks : List Node} (H : NS I s ks) (h : Hp) : pLen s h = some (.i .i64 (ks.length : Int), h) := by
  obtain ⟨_, c, f, _⟩ := H; exact f.len h

theorem enter86 (n : Nat) (x y : DV) (h : Hp) : shD (n + 1) 86 [x, y] h = s86 (shD n) n x y h := by kernel_rfl
theorem enter84 (n : Nat) (x : DV) (h : Hp) : shD (n + 1) 84 [x] h = s84 (shD n) n x h := by kernel_rfl
theorem enter92 (n : Nat) (x : DV) (h : Hp) : shD (n + 1) 92 [x] h = s92 (shD n) n x h := by kernel_rfl
theorem enter87 (n : Nat) (x : DV) (h : Hp) : shD (n + 1) 87 [x] h = s87 (shD n) n x h := by kernel_rfl
theorem enter88 (n : Nat) (x y : DV) (h : Hp) : shD (n + 1) 88 [x, y] h = s88 (shD n) n x y h := by kernel_rfl
theorem enter82 (n : Nat) (x y : DV) (h : Hp) : shD (n + 1) 82 [x, y] h = s82 (shD n) n x y h := by kernel_rfl
theorem enter30 (n : Nat) (x : DV) (h : Hp) : shD (n + 1) 30 [x] h = s30 (shD n) n x h := by kernel_rfl

theorem send_ok {I : Im} {A Q L : Ls} {h : Hp} (S : Sy I A Q L h) {t : List Nat} {x : DV} {ks : List Node} (N : NS I x ks) :
    Ev (fun n => shD n 86 [.s t, x] h) (fun v h' => ∃ cs, v = .a cs ∧ NV I (sendN t ks) cs ∧ Sy I A Q L h') := by
  have hx := N.one
  refine Ev.enter (fun n => enter86 n _ _ h) ?_
  unfold s86
  refine wa fun _ _ _ => ?_; refine wd ?_; refine wt fun _ _ => ?_; refine ws ?_
  exact Ev.ret ⟨_, rfl, NV.of (SS.nil I) (SS.nil I) N, dp⟩

section
variable {I : Im} {A L : Ls} {h : Hp} {p : Pos} {s : DV} {st : PSt}

theorem plain_ok (S : Sy I A [PS p s st] L h) (T : TS' I s st.toks) {x : Node} {c : Bool} {st' : PSt} (hm : plainS st = some ((x, c), st')) :
    Ev (fun n => shD n 87 [.p p 0] h) (fun v h' => ∃ s' cs, v = .t [.a cs, .b c] ∧ Sy I A [PS p s' st'] L h' ∧ TS' I s' st'.toks ∧ NV I x cs) := by
  unfold plainS at hm
  obtain ⟨t, ht, hm⟩ := Option.bind_eq_some_iff.1 hm
  refine Ev.enter (fun n => enter87 n _ h) ?_
  unfold s87 s87a1
  refine wa fun _ _ _ => ?_
  refine Ev.call (look_ok (k := 0) (by assumption) T ht) ?_
  rintro _ _ ⟨rfl, S1⟩
  unfold s87a2 s87a3 s87a4
  refine wa fun _ _ _ => ?_; refine wt fun _ _ => ?_; refine wf ?_; refine wl ?_; refine wf ?_; refine wl ?_; refine wd ?_; refine wa fun _ _ _ => ?_; refine wt fun _ _ => ?_; refine wn ?_; refine wf ?_; refine wq ?_
  refine Ev.ine (fun e1 => ?_) (fun e1 => ?_)
  · refine yt ?_; refine ws ?_; refine wt fun _ _ => ?_; refine ws ?_
    rw [if_neg (show ¬ st.err = 0 from e1)] at hm
    simp only [Option.some.injEq, Prod.mk.injEq] at hm
    obtain ⟨⟨rfl, rfl⟩, rfl⟩ := hm
    exact Ev.ret ⟨s, _, rfl, dp, T, NV.flat _ _ _⟩
  · refine yj ?_
    rw [if_pos (show st.err = 0 from e1)] at hm
    obtain ⟨d, hd, hm⟩ := Option.bind_eq_some_iff.1 hm
    refine Ev.call (neg_ok (by assumption) T hd) ?_
    rintro _ _ ⟨rfl, S2⟩
    cases d with
    | true =>
      refine yt ?_
      rw [if_pos rfl] at hm
      obtain ⟨⟨t1, st1⟩, ht1, hm⟩ := Option.bind_eq_some_iff.1 hm
      obtain ⟨⟨t2, st2⟩, ht2, hm⟩ := Option.bind_eq_some_iff.1 hm
      simp only [Option.some.injEq, Prod.mk.injEq] at hm
      obtain ⟨⟨rfl, rfl⟩, rfl⟩ := hm
      refine Ev.call (take_ok (by assumption) T ht1) ?_
      rintro _ _ ⟨rfl, s3, S3, T3⟩
      refine Ev.call (take_ok (by assumption) T3 ht2) ?_
      rintro _ _ ⟨rfl, s4, S4, T4⟩
      refine wp ?_
      refine Ev.neg ?_
      refine wd ?_; refine wt fun _ _ => ?_; refine ws ?_
      exact Ev.ret ⟨s4, _, rfl, dp, T4, NV.flat _ _ _⟩
    | false =>
      refine yj ?_; refine wf ?_; refine wl ?_
      rw [if_neg (by simp)] at hm
      refine Ev.ieq (fun e2 => ?_) (fun e2 => ?_)
      · refine yt ?_; refine wf ?_; refine wu fun _ _ => ?_
        rw [if_pos (show t.kind = 4 from e2)] at hm
        obtain ⟨⟨t1, st1⟩, ht1, hm⟩ := Option.bind_eq_some_iff.1 hm
        simp only [Option.some.injEq, Prod.mk.injEq] at hm
        obtain ⟨⟨rfl, rfl⟩, rfl⟩ := hm
        refine Ev.call (take_ok (by assumption) T ht1) ?_
        rintro _ _ ⟨rfl, s3, S3, T3⟩
        refine ws ?_; refine wt fun _ _ => ?_; refine ws ?_
        exact Ev.ret ⟨s3, _, rfl, dp, T3, NV.flat _ _ _⟩
      · refine yj ?_; refine wf ?_; refine wl ?_
        rw [if_neg (show ¬ t.kind = 4 from e2)] at hm
        refine Ev.ieq (fun e3 => ?_) (fun e3 => ?_)
        · refine yt ?_; refine wf ?_; refine wu fun _ _ => ?_
          rw [if_pos (show t.kind = 5 from e3)] at hm
          obtain ⟨⟨t1, st1⟩, ht1, hm⟩ := Option.bind_eq_some_iff.1 hm
          simp only [Option.some.injEq, Prod.mk.injEq] at hm
          obtain ⟨⟨rfl, rfl⟩, rfl⟩ := hm
          refine Ev.call (take_ok (by assumption) T ht1) ?_
          rintro _ _ ⟨rfl, s3, S3, T3⟩
          refine ws ?_; refine wt fun _ _ => ?_; refine ws ?_
          exact Ev.ret ⟨s3, _, rfl, dp, T3, NV.flat _ _ _⟩
        · refine yj ?_; refine wf ?_; refine wl ?_
          rw [if_neg (show ¬ t.kind = 5 from e3)] at hm
          refine Ev.ieq (fun e4 => ?_) (fun e4 => ?_)
          · refine yt ?_; refine wf ?_; refine wu fun _ _ => ?_
            rw [if_pos (show t.kind = 6 from e4)] at hm
            obtain ⟨⟨t1, st1⟩, ht1, hm⟩ := Option.bind_eq_some_iff.1 hm
            simp only [Option.some.injEq, Prod.mk.injEq] at hm
            obtain ⟨⟨rfl, rfl⟩, rfl⟩ := hm
            refine Ev.call (take_ok (by assumption) T ht1) ?_
            rintro _ _ ⟨rfl, s3, S3, T3⟩
            refine ws ?_; refine wt fun _ _ => ?_; refine ws ?_
            exact Ev.ret ⟨s3, _, rfl, dp, T3, NV.flat _ _ _⟩
          · refine yj ?_; refine ws ?_; refine wt fun _ _ => ?_; refine ws ?_
            rw [if_neg (show ¬ t.kind = 6 from e4)] at hm
            simp only [Option.some.injEq, Prod.mk.injEq] at hm
            obtain ⟨⟨rfl, rfl⟩, rfl⟩ := hm
            exact Ev.ret ⟨s, _, rfl, dp, T, NV.flat _ _ _⟩

theorem within_ok {g : FuncId} {f : PSt → Option (Node × PSt)} (hg : ∀ (rec : FuncId → List DV → Hp → Res) (x : DV) (h : Hp), pCall CF rec (.f g [x] []) [] h = rec g [x] h) (F : NOk g f) (S : Sy I A [PS p s st] L h) (T : TS' I s st.toks) {x : Node} {st' : PSt} (hm : withinS f st = some (x, st')) :
    Ev (fun n => shD n 88 [.p p 0, .f g [.p p 0] []] h) (NPost I A L p x st') := by
  unfold withinS at hm
  obtain ⟨⟨t, st1⟩, ht, hm⟩ := Option.bind_eq_some_iff.1 hm
  refine Ev.enter (fun n => enter88 n _ _ h) ?_
  unfold s88
  simp only [hg]
  refine wa fun _ _ _ => ?_
  refine Ev.call (take_ok (by assumption) T ht) ?_
  rintro _ _ ⟨rfl, s1, S1, T1⟩
  have hs1 := T1.2.one
  refine wa fun _ _ _ => ?_; refine wt fun _ _ => ?_; refine wn ?_; refine wf ?_; refine wq ?_
  refine Ev.ieq (fun e1 => ?_) (fun e1 => ?_)
  · refine yt ?_; refine ws ?_
    rw [if_pos (show st1.deep = 20 from e1)] at hm
    simp only [Option.some.injEq, Prod.mk.injEq] at hm
    obtain ⟨rfl, rfl⟩ := hm
    refine Ev.call (fail_ok (by assumption) T1.2.one t _) ?_
    rintro _ _ ⟨rfl, S3⟩
    refine wd ?_; refine wt fun _ _ => ?_; refine ws ?_
    exact Ev.ret ⟨I, s1, _, rfl, ILe.refl _, dp, by rw [failS_toks]; exact T1, NV.flat _ _ _⟩
  · refine yj ?_; refine wn ?_; refine wf ?_; refine wq ?_
    rw [if_neg (show ¬ st1.deep = 20 from e1)] at hm
    obtain ⟨⟨y, st2⟩, hy, hm⟩ := Option.bind_eq_some_iff.1 hm
    simp only [Option.some.injEq, Prod.mk.injEq] at hm
    obtain ⟨rfl, rfl⟩ := hm
    refine Ev.iadd ?_
    refine wn ?_; refine wf ?_; refine wv fun _ _ => ?_
    refine Ev.call (F I A _ _ p s1 { st1 with deep := w64 (st1.deep + 1) } _ _ (by assumption) T1 hy) ?_
    rintro _ _ ⟨J, s2, cs, rfl, g2, S2, T2, N2⟩
    obtain ⟨l2, o2, b2⟩ := N2.shape
    have hs2 := T2.2.one
    refine wa fun _ _ _ => ?_; refine wt fun _ _ => ?_; refine wn ?_; refine wf ?_; refine wq ?_
    refine Ev.isub ?_
    refine wn ?_; refine wf ?_; refine wv fun _ _ => ?_; refine ws ?_; refine wt fun _ _ => ?_; refine ws ?_
    exact Ev.ret ⟨J, s2, cs, rfl, g2, dp, T2, N2⟩

theorem unary_loop : ∀ (f j : Nat) (I : Im) (A L : Ls) (h : Hp) (p : Pos) (s : DV) (st : PSt) (x y : Node) (cs z : List DV) (st' : PSt) (b3 b4 : Pos), Sy I A [PS p s st] ((b4, some (.row .ex z)) :: (b3, some (.row .ex cs)) :: L) h →
    z.length = 6 → (∀ v ∈ z, v.one = true) → TS' I s st.toks → NV I x cs → unaryS f x st = some (y, st') → Ev (fun n => s82a3l (shD n) n (n - j) (.p p 0) (.p b3 0) (.p b4 0) h) (NPost I A L p y st')
  | 0, j, I, A, L, h, p, s, st, x, y, cs, z, st', b3, b4, S, z1, z2, T, N, hm => by cases hm
  | f + 1, j, I, A, L, h, p, s, st, x, y, cs, z, st', b3, b4, S, z1, z2, T, N, hm => by
    unfold unaryS at hm
    obtain ⟨c, hc, hm⟩ := Option.bind_eq_some_iff.1 hm
    refine Ev.loop j (ll := fun n m => s82a3l (shD n) n m (.p p 0) (.p b3 0) (.p b4 0) h) (bb := fun n m => s82a3b (shD n) n (s82a3l (shD n) n m) (.p p 0) (.p b3 0) (.p b4 0) h) (fun _ _ => rfl) ?_
    unfold s82a3b s82a2
    obtain ⟨l1, o1, b1⟩ := N.shape
    refine Ev.call (is_ok S T hc) ?_
    rintro _ _ ⟨rfl, S1⟩
    cases c with
    | false =>
      refine yj ?_; refine ws ?_; refine wt fun _ _ => ?_; refine ws ?_
      rw [if_neg (by simp)] at hm
      simp only [Option.some.injEq, Prod.mk.injEq] at hm
      obtain ⟨rfl, rfl⟩ := hm
      exact Ev.ret ⟨I, s, cs, rfl, ILe.refl _, dp, T, N⟩
    | true =>
      refine yt ?_
      rw [if_pos rfl] at hm
      obtain ⟨⟨t, st1⟩, ht, hm⟩ := Option.bind_eq_some_iff.1 hm
      have Sr := S1.res
      refine Ev.call (take_ok Sr T ht) ?_
      rintro _ _ ⟨rfl, s2, S2, T2⟩
      refine wp ?_; refine ws ?_
      refine Ev.cnd ?_ ?_
      · rw [Bool.and_true]; exact sameA Sr (by first | exact List.Mem.head _ | exact (List.Mem.tail _ (List.Mem.head _)) | exact (List.Mem.tail _ (List.Mem.tail _ (List.Mem.head _))) | exact (List.Mem.tail _ (List.Mem.tail _ (List.Mem.tail _ (List.Mem.head _)))) | exact (List.Mem.tail _ (List.Mem.tail _ (List.Mem.tail _ (List.Mem.tail _ (List.Mem.head _))))) | exact (List.Mem.tail _ (List.Mem.tail _ (List.Mem.tail _ (List.Mem.tail _ (List.Mem.tail _ (List.Mem.head _)))))) | exact (List.Mem.tail _ (List.Mem.tail _ (List.Mem.tail _ (List.Mem.tail _ (List.Mem.tail _ (List.Mem.tail _ (List.Mem.head _))))))) | exact (List.Mem.tail _ (List.Mem.tail _ (List.Mem.tail _ (List.Mem.tail _ (List.Mem.tail _ (List.Mem.tail _ (List.Mem.tail _ (List.Mem.head _)))))))) | exact (List.Mem.tail _ (List.Mem.tail _ (List.Mem.tail _ (List.Mem.tail _ (List.Mem.tail _ (List.Mem.tail _ (List.Mem.tail _ (List.Mem.tail _ (List.Mem.head _)))))))))) l1 o1 b1
      refine Ev.bsAt0 S2 (by first | exact Rpl.head _ | exact (Rpl.tail _ (Rpl.head _)) | exact (Rpl.tail _ (Rpl.tail _ (Rpl.head _))) | exact (Rpl.tail _ (Rpl.tail _ (Rpl.tail _ (Rpl.head _)))) | exact (Rpl.tail _ (Rpl.tail _ (Rpl.tail _ (Rpl.tail _ (Rpl.head _))))) | exact (Rpl.tail _ (Rpl.tail _ (Rpl.tail _ (Rpl.tail _ (Rpl.tail _ (Rpl.head _)))))) | exact (Rpl.tail _ (Rpl.tail _ (Rpl.tail _ (Rpl.tail _ (Rpl.tail _ (Rpl.tail _ (Rpl.head _))))))) | exact (Rpl.tail _ (Rpl.tail _ (Rpl.tail _ (Rpl.tail _ (Rpl.tail _ (Rpl.tail _ (Rpl.tail _ (Rpl.head _)))))))) | exact (Rpl.tail _ (Rpl.tail _ (Rpl.tail _ (Rpl.tail _ (Rpl.tail _ (Rpl.tail _ (Rpl.tail _ (Rpl.tail _ (Rpl.head _)))))))))) (fill6 l1) ?_
      intro h3 S3
      obtain ⟨J, gJ, S4, F4, _⟩ := Fz.built (sz := 6) (n := 1) S3 (by omega) o1
      have N4 : NS J _ [x] := ⟨by simp [lim], cs, F4, NVL.single (N.mono gJ)⟩
      refine Ev.call (send_ok S4 N4) ?_
      rintro _ _ ⟨cs5, rfl, N5, S5⟩
      obtain ⟨l5, o5, b5⟩ := N5.shape
      refine wt fun _ _ => ?_
      exact (unary_loop f (j + 1) J A L _ p s2 st1 _ y cs5 z st' b3 b4 (by assumption) z1 z2 (T2.mono gJ) N5 hm).mono (NPost.le gJ)

theorem unary_ok (f : Nat) : NOk1 82 (unaryS f) := by
  intro I A L h p s st x y cs st' S T N hm
  refine Ev.enter (fun n => enter82 n _ _ h) ?_
  unfold s82 s82a1 s82a3
  refine wb fun _ _ _ => ?_; refine wa fun _ _ _ => ?_
  exact unary_loop f 0 _ _ _ _ _ _ _ _ _ _ _ _ _ _ (by assumption) rfl (by first | assumption | exact tc_ones _ | (repeat (first | exact ones_nil | refine ones_cons (by first | rfl | assumption | exact Fz.one (by assumption)) ?_))) T N hm

theorem temps_loop : ∀ (f j : Nat) (I : Im) (B A L : Ls) (h : Hp) (p : Pos) (s x : DV) (st : PSt) (l l' : List (List Nat)) (st' : PSt), Sy I (B ++ A) [PS p s st] L h → Gr I 1 B x l.length (l.map .s) → l.length + f ≤ lim →
    TS' I s st.toks → tempsL f l st = some (l', st') →
    Ev (fun n => s30a6l (shD n) n (n - j) (.p p 0) x h) (fun v h' => ∃ J s', ILe I J ∧ Sy J A [PS p s' st'] L h' ∧ TS' J s' st'.toks ∧ SS J v l')
  | 0, j, I, B, A, L, h, p, s, x, st, l, l', st', S, G, hl, T, hm => by cases hm
  | f + 1, j, I, B, A, L, h, p, s, x, st, l, l', st', S, G, hl, T, hm => by
    unfold tempsL at hm
    obtain ⟨c, hc, hm⟩ := Option.bind_eq_some_iff.1 hm
    refine Ev.loop j (ll := fun n m => s30a6l (shD n) n m (.p p 0) x h) (bb := fun n m => s30a6b (shD n) n (s30a6l (shD n) n m) (.p p 0) x h) (fun _ _ => rfl) ?_
    unfold s30a6b s30a5
    refine Ev.call (is_ok S T hc) ?_
    rintro _ _ ⟨rfl, S1⟩
    cases c with
    | false =>
      refine yj ?_
      rw [if_neg (by simp)] at hm
      obtain ⟨⟨t, st1⟩, ht, hm⟩ := Option.bind_eq_some_iff.1 hm
      simp only [Option.some.injEq, Prod.mk.injEq] at hm
      obtain ⟨rfl, rfl⟩ := hm
      refine Ev.call (need_ok S1 T ht) ?_
      rintro _ _ ⟨rfl, s2, S2, T2⟩
      obtain ⟨J, gJ, S3, F3⟩ := G.freeze S2
      exact Ev.ret ⟨J, s2, gJ, S3, T2.mono gJ, by omega, F3⟩
    | true =>
      refine yt ?_
      rw [if_pos rfl] at hm
      obtain ⟨⟨t, st1⟩, ht, hm⟩ := Option.bind_eq_some_iff.1 hm
      refine Ev.call (take_ok S1 T ht) ?_
      rintro _ _ ⟨rfl, s2, S2, T2⟩
      refine wp ?_
      refine Ev.bs S2 (cs := [.s t.text]) rfl ?_
      intro b3 h3 S3
      have hr : (l.length + 1) * 16 ≤ roomD := by simp [roomD, lim] at hl ⊢; omega
      obtain ⟨x4, h4, B4, e4, S4, G4⟩ := G.app S3 (src_own S3 (n := 1) (List.Mem.head _) rfl (ones_cons rfl ones_nil)) rfl (ones_cons rfl ones_nil) (by omega) hr
      refine Ev.op e4 ?_
      refine temps_loop f (j + 1) I B4 A L h4 p s2 x4 st1 (l ++ [t.text]) l' st' (dp) ?_ (by simp; omega) T2 hm
      simpa using G4

theorem temps_ok (f : Nat) (hf : f ≤ lim) (S : Sy I A [PS p s st] L h) (T : TS' I s st.toks) {l' : List (List Nat)} {st' : PSt} (hm : tempsS f st = some (l', st')) :
    Ev (fun n => shD n 30 [.p p 0] h) (fun v h' => ∃ J s', ILe I J ∧ Sy J A [PS p s' st'] L h' ∧ TS' J s' st'.toks ∧ SS J v l') := by
  unfold tempsS at hm
  obtain ⟨c, hc, hm⟩ := Option.bind_eq_some_iff.1 hm
  refine Ev.enter (fun n => enter30 n _ h) ?_
  unfold s30 s30a1 s30a2
  refine Ev.call (is_ok S T hc) ?_
  rintro _ _ ⟨rfl, S1⟩
  cases c with
  | false =>
    refine ao ?_; refine yt ?_
    rw [if_neg (by simp)] at hm
    simp only [Option.some.injEq, Prod.mk.injEq] at hm
    obtain ⟨rfl, rfl⟩ := hm
    exact Ev.ret ⟨I, s, ILe.refl _, S1, T, SS.nil I⟩
  | true =>
    refine an ?_; refine yj ?_
    rw [if_pos rfl] at hm
    obtain ⟨⟨t, st1⟩, ht, hm⟩ := Option.bind_eq_some_iff.1 hm
    unfold s30a3 s30a4 s30a6
    refine Ev.call (take_ok S1 T ht) ?_
    rintro _ _ ⟨rfl, s2, S2, T2⟩
    exact temps_loop f 0 I [] A L _ p s2 .l0 st1 [] l' st' S2 (Gr.nil I 1) (by simpa using hf) T2 hm

end
end Go.Dd

/- Dd, part T5: the program's parser: expressions, blocks, statements. -/
set_option linter.unusedVariables false
set_option linter.unusedSimpArgs false
set_option maxRecDepth 100000
namespace Go.Dd
open Go.Proofs

/-! ### What it says -/
abbrev PF := PSt → Option (Node × PSt)

def innerS (E : PF) : PF := fun st => (E st).bind fun r => (needS r.2 10 [41]).bind fun q => some (r.1, q.2)

def litsL (LI : PF) : Nat → List Node → PSt → Option (List Node × PSt)
  | 0, _, _ => none
  | f + 1, xs, st => if st.err = 0 then (isS st 10 [41]).bind fun c => if c then some (xs, st) else
      (plainS st).bind fun r => if r.1.2 then litsL LI f (xs ++ [r.1.1]) r.2 else
        (isS r.2 7 []).bind fun c1 => (if c1 then some true else isS r.2 10 [40]).bind fun c2 =>
          if c2 then (withinS LI r.2).bind fun q => litsL LI f (xs ++ [q.1]) q.2 else (lookS r.2 0).bind fun t => litsL LI f (xs ++ [r.1.1]) (failS r.2 t 13)
    else some (xs, st)
def literalsS (LI : PF) (f : Nat) : PF := fun st => (litsL LI f [] st).bind fun r => (takeS r.2).bind fun q => some (.mk 4 [] 0 [] [] r.1, q.2)

def paramsL : Nat → List (List Nat) → PSt → Option (List (List Nat) × PSt)
  | 0, _, _ => none
  | f + 1, l, st => (isS st 8 []).bind fun c => if c then (nameS st 8 l.length).bind fun r => paramsL f (l ++ [r.1]) r.2 else some (l, st)

def stmtsL (E : PF) : Nat → List Node → PSt → Option (List Node × PSt)
  | 0, _, _ => none
  | f + 1, xs, st => if st.err = 0 then (isS st 0 []).bind fun c => if c then some (xs, st) else (isS st 10 [93]).bind fun c => if c then some (xs, st) else
      (isS st 10 [94]).bind fun c =>
        if c then (takeS st).bind fun r => (E r.2).bind fun q => (isS q.2 10 [46]).bind fun d => if d then (takeS q.2).bind fun u => some (xs ++ [.mk 10 [] 0 [] [] [q.1]], u.2) else some (xs ++ [.mk 10 [] 0 [] [] [q.1]], q.2)
        else (E st).bind fun q => (isS q.2 10 [46]).bind fun d => if d then (takeS q.2).bind fun u => stmtsL E f (xs ++ [q.1]) u.2 else some (xs ++ [q.1], q.2)
    else some (xs, st)

def bar (l : List (List Nat)) (st : PSt) : Option PSt :=
  if 0 < l.length then (isS st 10 [93]).bind fun c => if c then some st else (needS st 10 [124]).bind fun r => some r.2 else some st
def blockS (E : PF) (f : Nat) : PF := fun st => (paramsL f [] st).bind fun r => (bar r.1 r.2).bind fun st2 => (tempsS f st2).bind fun q => (stmtsL E f [] q.2).bind fun u => (needS u.2 10 [93]).bind fun w => some (.mk 9 [] 0 r.1 q.1 u.1, w.2)

def primaryS (LI E : PF) (f : Nat) : PF := fun st => (plainS st).bind fun r => if r.1.2 then some (r.1.1, r.2) else (lookS r.2 0).bind fun t =>
  if r.2.err = 0 then
    if t.kind = 1 then (takeS r.2).bind fun q => some (.mk 5 q.1.text 0 [] [] [], q.2)
    else if t.kind = 7 then withinS LI r.2
    else (isS r.2 10 [40]).bind fun c => if c then withinS (innerS E) r.2 else (isS r.2 10 [91]).bind fun c => if c then withinS (blockS E f) r.2 else some (zN, failS r.2 t 13)
  else some (zN, r.2)

def binaryL (P : PF) (g : Nat) : Nat → Node → PSt → Option (Node × PSt)
  | 0, _, _ => none
  | f + 1, x, st => (isS st 3 []).bind fun c => if c then (takeS st).bind fun r => (P r.2).bind fun q => (unaryS g q.1 q.2).bind fun u => binaryL P g f (sendN r.1.text [x, u.1]) u.2 else some (x, st)

def keysL (P : PF) (g : Nat) : Nat → List Nat → List Node → PSt → Option (Node × PSt)
  | 0, _, _, _ => none
  | f + 1, t, ks, st => (isS st 2 []).bind fun c => if c then (takeS st).bind fun r => if t.length + r.1.text.length ≤ lim then
      (P r.2).bind fun q => (unaryS g q.1 q.2).bind fun u => (binaryL P g g u.1 u.2).bind fun w => keysL P g f (t ++ r.1.text) (ks ++ [w.1]) w.2 else none
    else some (sendN t ks, st)
def keysS (P : PF) (g : Nat) : Node → PF := fun x st => (isS st 2 []).bind fun c => if c then keysL P g g [] [x] st else some (x, st)

def msgN (x : Node) : Node := if x.kids.length = 0 then x else sendN x.text (x.kids.drop 1)
def msgS (P : PF) (g : Nat) : PF := fun st => (lookS st 0).bind fun t =>
  if t.kind = 1 then (takeS st).bind fun r => some (sendN t.text [zN], r.2)
  else if t.kind = 3 then (takeS st).bind fun r => (P r.2).bind fun q => (unaryS g q.1 q.2).bind fun u => some (sendN t.text [zN, u.1], u.2)
  else if t.kind = 2 then keysS P g zN st
  else some (zN, failS st t 13)

def casL (P : PF) (g : Nat) : Nat → List Node → PSt → Option (Node × PSt)
  | 0, _, _ => none
  | f + 1, ks, st => (isS st 10 [59]).bind fun c => if c then (takeS st).bind fun r => (msgS P g r.2).bind fun q => casL P g f (ks ++ [msgN q.1]) q.2 else some (.mk 8 [] 0 [] [] ks, st)
def cascadeS (P : PF) (g : Nat) : PF := fun st => (P st).bind fun q => (unaryS g q.1 q.2).bind fun u => (binaryL P g g u.1 u.2).bind fun w => (keysS P g w.1 w.2).bind fun n =>
  (isS n.2 10 [59]).bind fun c => if c then
      if n.1.kind = 7 then (n.1.kids[0]?).bind fun k0 => casL P g g [k0, msgN n.1] n.2
      else (lookS n.2 0).bind fun t => some (n.1, failS n.2 t 13)
    else some n
def exprS (P E : PF) (g : Nat) : PF := fun st => (isS st 1 []).bind fun c => (if c then (lookS st 1).bind fun t => some (decide (t.kind = 9)) else some false).bind fun d =>
  if d then (takeS st).bind fun r => (takeS r.2).bind fun q => (E q.2).bind fun u => some (.mk 6 r.1.text 0 [] [] [u.1], u.2) else cascadeS P g st

def litF : Nat → PF
  | 0 => fun _ => none
  | f + 1 => literalsS (litF f) f
def exprF : Nat → PF
  | 0 => fun _ => none
  | f + 1 => exprS (primaryS (litF f) (exprF f) f) (exprF f) f

/-! ### Slices of nodes -/

theorem NVL.at {I : Im} : ∀ {l : List Node} {c : List DV} {i : Nat} {x : Node}, NVL I l c → l[i]? = some x → ∃ d rest, c.drop (i * 6) = d ++ rest ∧ NV I x d := by
  intro l c i x H hi
  have := H.drop i
  rw [drop_cons hi] at this
  obtain ⟨d, rest, e, N, _⟩ := this
  exact ⟨d, rest, e, N⟩

theorem NS.at {I : Im} {s : DV} {ks : List Node} (H : NS I s ks) {i : Nat} {x : Node} (hi : ks[i]? = some x) :
    ∃ b o c, (∀ h', pIndexAddr 6 s (.i .i64 (i : Int)) h' = some (.p b o, h')) ∧ NV I x c ∧ ∀ (J : Im) (A Q L : Ls) (h : Hp), ILe I J → Sy J A Q L h → pLoadA 6 (.p b o) h = some (.a c, h) := by
  obtain ⟨_, cells, F, N⟩ := H
  obtain ⟨hlt, _⟩ := List.getElem?_eq_some_iff.1 hi
  obtain ⟨d, rest, e, Nd⟩ := N.at hi
  rcases F with ⟨_, h2, _⟩ | ⟨b, o, cap, k, row, rest2, rfl, h2, h3, h4, h5, h6⟩
  · omega
  · refine ⟨b, o + i * 6, d, fun h' => ?_, Nd, fun J A Q L h g S => ldA (S.im _ _ (g _ _ h3)) ?_⟩
    · show (if 0 ≤ (i : Int) ∧ (i : Int) < (ks.length : Int) then some (DV.p b (o + (i : Int).toNat * 6), h') else none) = _
      rw [if_pos ⟨by omega, by omega⟩]
      rfl
    · have hle : i * 6 ≤ cells.length := by rw [h5]; exact Nat.mul_le_mul_right _ (by omega)
      rw [← List.drop_drop, h4, List.drop_append_of_le_length hle, e, List.append_assoc]
      obtain ⟨s1, s2, _⟩ := Nd.shape
      exact takeD_app2 d _ 6 s1 s2

/-- The rest of a slice, which may be nothing. -/
theorem Fz.rest {I : Im} {sz : Nat} {s : DV} {len : Nat} {cells : List DV} (H : Fz I sz s len cells) {A Q L : Ls} {h : Hp} (S : Sy I A Q L h) {i : Nat} (hi : i ≤ len) (h0 : 0 < len) :
    ∃ s' h' J, pSlice sz s (some (.i .i64 (Int.ofNat i))) none h = some (s', h') ∧ ILe I J ∧ Sy J A Q L h' ∧ Fz J sz s' (len - i) (cells.drop (i * sz)) ∧ s' ≠ .l0 := by
  rcases H with ⟨rfl, rfl, _⟩ | ⟨b, o, cap, k, row, rest, rfl, h2, h3, h4, h5, h6⟩
  · omega
  · have hle : i * sz ≤ cells.length := by rw [h5]; exact Nat.mul_le_mul_right _ (by omega)
    have hd : row.drop (o + i * sz) = cells.drop (i * sz) ++ rest := by
      rw [← List.drop_drop, h4, List.drop_append_of_le_length hle]
    have e1 : hiD none len cap = some len := by simp [hiD, h2]
    have e2 : loD (some (.i .i64 (Int.ofNat i))) len = some i := by
      show (if 0 ≤ (Int.ofNat i) ∧ (Int.ofNat i) ≤ (len : Int) then some (Int.ofNat i).toNat else none) = _
      have hi' : (Int.ofNat i) = (i : Int) := rfl
      rw [if_pos ⟨by omega, by omega⟩]
      rfl
    have hlen : (cells.drop (i * sz)).length = (len - i) * sz := by rw [List.length_drop, h5, Nat.sub_mul]
    by_cases hc : cap = i
    · have hz : len - i = 0 := by omega
      have hnil : cells.drop (i * sz) = [] := List.eq_nil_of_length_eq_zero (by rw [hlen, hz]; simp)
      have hg := S.im _ _ h3
      have other : (k = .ro ∨ k = .ex) → pSlice sz (.l b o len cap) (some (.i .i64 (Int.ofNat i))) none h = some (.l b o (len - i) (cap - i), h) := fun hk => by
        unfold pSlice
        simp only [e1, e2, hg]
        rcases hk with rfl | rfl <;> simp [hc]
      have grow : (k ≠ .ro ∧ k ≠ .ex) → pSlice sz (.l b o len cap) (some (.i .i64 (Int.ofNat i))) none h = some (.l h.next 0 0 0, nw (.row .sp []) h) := fun hk => by
        unfold pSlice
        simp only [e1, e2, hg]
        cases k with
        | ro => exact absurd rfl hk.1
        | ex => exact absurd rfl hk.2
        | gr es => simp [hc]; rfl
        | sp => simp [hc]; rfl
      by_cases hk : k = .ro ∨ k = .ex
      · refine ⟨_, _, I, other hk, ILe.refl _, S, .inr ⟨b, o, cap - i, k, row, row.drop o, rfl, by omega, h3, ?_, hlen, fun v hv => h6 v (List.mem_of_mem_drop hv)⟩, by simp⟩
        rw [hnil]; rfl
      · obtain ⟨S2, g⟩ := (S.new (.row .sp [])).freeze
        refine ⟨_, _, _, grow ⟨fun e => hk (.inl e), fun e => hk (.inr e)⟩, g, S2, ?_, by simp⟩
        rw [hz, hnil]
        exact .inr ⟨h.next, 0, 0, .sp, [], [], rfl, Nat.le_refl _, Im.put_same _ _ _, by simp, by simp, by simp⟩
    · refine ⟨.l b (o + i * sz) (len - i) (cap - i), h, I, ?_, ILe.refl _, S, .inr ⟨b, o + i * sz, cap - i, k, row, rest, rfl, by omega, h3, hd, hlen, fun v hv => h6 v (List.mem_of_mem_drop hv)⟩, by simp⟩
      unfold pSlice
      simp only [e1, e2, S.im _ _ h3]
      cases k <;> simp [hc]

/-- A slice copied. -/
theorem clone_ok {I : Im} {A Q L : Ls} {h : Hp} (S : Sy I A Q L h) {x : DV} {ks : List Node} (N : NS I x ks) :
    Ev (fun n => shD n 92 [x] h) (fun v h' => ∃ J, ILe I J ∧ Sy J A Q L h' ∧ NS J v ks) := by
  refine Ev.enter (fun n => enter92 n _ h) ?_
  unfold s92
  have N0 := N
  obtain ⟨hl, cells, F, NL⟩ := N
  have F0 := F
  rcases F with ⟨rfl, h2, _⟩ | ⟨b, o, cap, k, row, rest, rfl, _⟩
  · refine Ev.op (show pEq (.slice 25) true .l0 .l0 h = some (.b true, h) from rfl) ?_
    refine yt ?_
    exact Ev.ret ⟨I, ILe.refl _, S, N0⟩
  · refine Ev.op (show pEq (.slice 25) true (.l b o ks.length cap) .l0 h = some (.b false, h) from rfl) ?_
    refine yj ?_
    refine Ev.bs S (cs := []) rfl ?_
    intro b1 h1 S1
    by_cases hk : ks.length = 0
    · have hks : ks = [] := List.eq_nil_of_length_eq_zero hk
      subst hks
      have hs : srcD 6 (.l b o ([] : List Node).length cap) h1 = some (0, []) := by
        have hc : cells = [] := NL
        rw [F0.src S1.dropL, hc]
        rfl
      have hg := S1.memL (List.Mem.head _)
      have e : pAppend 6 104 (.l b1 0 0 0) (.l b o ([] : List Node).length cap) h1 = some (.l b1 0 0 0, ⟨h1.next, Tr.set (.row .ex []) b1 h1.bl⟩) := by
        unfold pAppend
        simp only [hs]
        simp [storeAtD, hg, Kind.writable, putAt, putD]
      refine Ev.op e ?_
      have S2 : Sy I A Q ((b1, some (.row .ex [])) :: L) ⟨h1.next, Tr.set (.row .ex []) b1 h1.bl⟩ := S1.setL (Rpl.head _) rfl (fun c => Tr.get_set _ _ _ _)
      obtain ⟨J, gJ, S4, F4, _⟩ := Fz.built (sz := 6) (n := 0) S2 (by simp) ones_nil
      exact Ev.ret ⟨J, gJ, S4, by simp, [], F4, rfl⟩
    · obtain ⟨J, gJ, S4, F4, G4⟩ := Fz.built (sz := 6) (n := 0) S1 (by simp) ones_nil
      obtain ⟨c1, c2⟩ := NL.shape
      have hr : (0 + ks.length) * 104 ≤ roomD := by simp [roomD, lim] at hl ⊢; omega
      obtain ⟨x5, h5, B5, e5, S5, G5⟩ := G4.app (A0 := A) S4 ((F0.mono gJ).src S4) c1 c2 hk hr
      refine Ev.op e5 ?_
      obtain ⟨K, gK, S6, F6⟩ := G5.freeze S5
      refine Ev.ret ⟨K, gJ.trans gK, S6, hl, cells, by simpa using F6, (NL.mono gJ).mono gK⟩

theorem same1S {I : Im} {A Q L : Ls} {h : Hp} {b : Pos} {kd : Kind} {l : List DV} {o : Nat} {v : DV} (S : Sy I A Q L h) (m : (b, some (.row kd l)) ∈ L) (e : l[o]? = some v) (hv : v.one = true) (hb : DV.beq v v = true) : sameR (pLoad1 (.p b o) h) v = true := same1 (S := S) m e hv hb

theorem beq_s (t : List Nat) : DV.beq (.s t) (.s t) = true := by
  have e : eqD t t = true := by rw [eqD_iff]
  simp [DV.beq, e]

theorem message_ok {I : Im} {A Q L : Ls} {h : Hp} (S : Sy I A Q L h) {x : Node} {cs : List DV} (N : NV I x cs) :
    Ev (fun n => shD n 84 [.a cs] h) (fun v h' => ∃ J ds, v = .a ds ∧ ILe I J ∧ Sy J A Q L h' ∧ NV J (msgN x) ds) := by
  refine Ev.enter (fun n => enter84 n _ h) ?_
  unfold s84
  have N0 := N
  obtain ⟨k, t, m, ns, ts, ks⟩ := x
  obtain ⟨s1, s2, s3, rfl, a, b, c, cells, F, NL⟩ := N
  have o1 := a.2.one
  have o2 := b.2.one
  have o3 := F.one
  refine wb fun _ _ _ => ?_; refine wa fun _ _ _ => ?_; refine wf ?_; refine wl ?_
  refine Ev.op (F.len _) ?_
  refine Ev.ieq (fun e1 => ?_) (fun e1 => ?_)
  · refine yt ?_; refine ws ?_; refine wt fun _ _ => ?_; refine ws ?_
    refine Ev.ret ⟨I, _, rfl, ILe.refl _, dp, ?_⟩
    have e2 : ks.length = 0 := by simp at e1; simp [e1]
    rw [show msgN (.mk k t m ns ts ks) = .mk k t m ns ts ks by simp [msgN, Node.kids, e2]]
    exact N0
  · refine yj ?_; refine wf ?_; refine wl ?_; refine wf ?_; refine wl ?_
    have e2 : ks.length ≠ 0 := fun e => e1 (by rw [e]; rfl)
    rename_i bb hh SX
    obtain ⟨s4, h4, J, e4, g4, S4, F4, n4⟩ := F.rest SX (i := 1) (by omega) (by omega)
    refine Ev.op e4 ?_
    refine Ev.cnd ?_ ?_
    · rw [Bool.and_true]; exact same1S S4 (by first | exact List.Mem.head _ | exact (List.Mem.tail _ (List.Mem.head _)) | exact (List.Mem.tail _ (List.Mem.tail _ (List.Mem.head _))) | exact (List.Mem.tail _ (List.Mem.tail _ (List.Mem.tail _ (List.Mem.head _)))) | exact (List.Mem.tail _ (List.Mem.tail _ (List.Mem.tail _ (List.Mem.tail _ (List.Mem.head _))))) | exact (List.Mem.tail _ (List.Mem.tail _ (List.Mem.tail _ (List.Mem.tail _ (List.Mem.tail _ (List.Mem.head _)))))) | exact (List.Mem.tail _ (List.Mem.tail _ (List.Mem.tail _ (List.Mem.tail _ (List.Mem.tail _ (List.Mem.tail _ (List.Mem.head _))))))) | exact (List.Mem.tail _ (List.Mem.tail _ (List.Mem.tail _ (List.Mem.tail _ (List.Mem.tail _ (List.Mem.tail _ (List.Mem.tail _ (List.Mem.head _)))))))) | exact (List.Mem.tail _ (List.Mem.tail _ (List.Mem.tail _ (List.Mem.tail _ (List.Mem.tail _ (List.Mem.tail _ (List.Mem.tail _ (List.Mem.tail _ (List.Mem.head _)))))))))) rfl rfl (beq_s _)
    have N4 : NS J s4 (ks.drop 1) := ⟨by simp; omega, cells.drop (1 * 6), by simpa using F4, (NL.mono g4).drop 1⟩
    refine Ev.call (clone_ok S4 N4) ?_
    rintro v5 h5 ⟨K, g5, S5, N5⟩
    have o5 := N5.one
    refine Ev.cnd ?_ ?_
    · rw [Bool.and_true]; exact same1S S5 (by first | exact List.Mem.head _ | exact (List.Mem.tail _ (List.Mem.head _)) | exact (List.Mem.tail _ (List.Mem.tail _ (List.Mem.head _))) | exact (List.Mem.tail _ (List.Mem.tail _ (List.Mem.tail _ (List.Mem.head _)))) | exact (List.Mem.tail _ (List.Mem.tail _ (List.Mem.tail _ (List.Mem.tail _ (List.Mem.head _))))) | exact (List.Mem.tail _ (List.Mem.tail _ (List.Mem.tail _ (List.Mem.tail _ (List.Mem.tail _ (List.Mem.head _)))))) | exact (List.Mem.tail _ (List.Mem.tail _ (List.Mem.tail _ (List.Mem.tail _ (List.Mem.tail _ (List.Mem.tail _ (List.Mem.head _))))))) | exact (List.Mem.tail _ (List.Mem.tail _ (List.Mem.tail _ (List.Mem.tail _ (List.Mem.tail _ (List.Mem.tail _ (List.Mem.tail _ (List.Mem.head _)))))))) | exact (List.Mem.tail _ (List.Mem.tail _ (List.Mem.tail _ (List.Mem.tail _ (List.Mem.tail _ (List.Mem.tail _ (List.Mem.tail _ (List.Mem.tail _ (List.Mem.head _)))))))))) rfl rfl (beq_s _)
    refine wd ?_; refine wt fun _ _ => ?_; refine ws ?_
    refine Ev.ret ⟨K, _, rfl, g4.trans g5, dp, ?_⟩
    rw [show msgN (.mk k t m ns ts ks) = sendN t (ks.drop 1) by simp [msgN, Node.kids, Node.text, e2]]
    exact NV.of (SS.nil K) (SS.nil K) N5

end Go.Dd

/- Dd, part T6: the program's parser: walks of expressions, blocks, statements. -/
set_option linter.unusedVariables false
set_option linter.unusedSimpArgs false
set_option maxRecDepth 100000
namespace Go.Dd
open Go.Proofs

theorem enter90 (n : Nat) (x : DV) (h : Hp) : shD (n + 1) 90 [x] h = s90 (shD n) n x h := by kernel_rfl
theorem enter89 (n : Nat) (x : DV) (h : Hp) : shD (n + 1) 89 [x] h = s89 (shD n) n x h := by kernel_rfl
theorem enter31 (n : Nat) (x : DV) (h : Hp) : shD (n + 1) 31 [x] h = s31 (shD n) n x h := by kernel_rfl
theorem enter91 (n : Nat) (x : DV) (h : Hp) : shD (n + 1) 91 [x] h = s91 (shD n) n x h := by kernel_rfl
theorem enter83 (n : Nat) (x : DV) (h : Hp) : shD (n + 1) 83 [x] h = s83 (shD n) n x h := by kernel_rfl
theorem enter81 (n : Nat) (x y : DV) (h : Hp) : shD (n + 1) 81 [x, y] h = s81 (shD n) n x y h := by kernel_rfl
theorem enter80 (n : Nat) (x y : DV) (h : Hp) : shD (n + 1) 80 [x, y] h = s80 (shD n) n x y h := by kernel_rfl
theorem enter85 (n : Nat) (x : DV) (h : Hp) : shD (n + 1) 85 [x] h = s85 (shD n) n x h := by kernel_rfl
theorem enter72 (n : Nat) (x : DV) (h : Hp) : shD (n + 1) 72 [x] h = s72 (shD n) n x h := by kernel_rfl
theorem enter53 (n : Nat) (x : DV) (h : Hp) : shD (n + 1) 53 [x] h = s53 (shD n) n x h := by kernel_rfl

theorem call89 (rec : FuncId → List DV → Hp → Res) (x : DV) (h : Hp) : pCall CF rec (.f 89 [x] []) [] h = rec 89 [x] h := by kernel_rfl
theorem call90 (rec : FuncId → List DV → Hp → Res) (x : DV) (h : Hp) : pCall CF rec (.f 90 [x] []) [] h = rec 90 [x] h := by kernel_rfl
theorem call91 (rec : FuncId → List DV → Hp → Res) (x : DV) (h : Hp) : pCall CF rec (.f 91 [x] []) [] h = rec 91 [x] h := by kernel_rfl

theorem inner_ok {E : PF} (HE : NOk 53 E) : NOk 90 (innerS E) := by
  intro I A L h p s st x st' S T hm
  unfold innerS at hm
  obtain ⟨⟨y, st1⟩, hy, hm⟩ := Option.bind_eq_some_iff.1 hm
  obtain ⟨⟨t, st2⟩, ht, hm⟩ := Option.bind_eq_some_iff.1 hm
  simp only [Option.some.injEq, Prod.mk.injEq] at hm
  obtain ⟨rfl, rfl⟩ := hm
  refine Ev.enter (fun n => enter90 n _ h) ?_
  unfold s90
  refine wa fun _ _ _ => ?_
  refine Ev.call (HE _ _ _ _ _ _ _ _ _ (by assumption) T hy) ?_
  rintro _ _ ⟨J, s1, cs, rfl, g1, S1, T1, N1⟩
  obtain ⟨l1, o1, b1⟩ := N1.shape
  refine wa fun _ _ _ => ?_; refine wt fun _ _ => ?_
  refine Ev.call (need_ok (by assumption) T1 ht) ?_
  rintro _ _ ⟨rfl, s2, S2, T2⟩
  refine ws ?_; refine wt fun _ _ => ?_; refine ws ?_
  exact Ev.ret ⟨J, s2, cs, rfl, g1, dp, T2, N1⟩

/-- A node is appended to a slice of nodes that grows. -/
theorem app_node {I : Im} {B A Q L : Ls} {h : Hp} {x : DV} {xs : List Node} {cells : List DV} (G : Gr I 6 B x xs.length cells) (NL : NVL I xs cells) {y : Node} {cs : List DV} (N : NV I y cs) {b : Pos}
    (S : Sy I (B ++ A) Q L h) (m : (b, some (.row .ex cs)) ∈ L) (hl : xs.length + 1 ≤ lim) :
    ∃ x' h' B' cells', pAppend 6 104 x (.l b 0 1 1) h = some (x', h') ∧ Sy I (B' ++ A) Q L h' ∧ Gr I 6 B' x' (xs ++ [y]).length cells' ∧ NVL I (xs ++ [y]) cells' := by
  obtain ⟨l1, o1, b1⟩ := N.shape
  have hr : (xs.length + 1) * 104 ≤ roomD := by simp [roomD, lim] at hl ⊢; omega
  obtain ⟨x4, h4, B4, e4, S4, G4⟩ := G.app S (src_own S (n := 1) m (by omega) o1) (by omega) o1 (by omega) hr
  exact ⟨x4, h4, B4, cells ++ cs, e4, S4, by simpa using G4, NL.app (NVL.single N)⟩

/-- It grows no more. -/
theorem Gr.nodes {I : Im} {B A Q L : Ls} {h : Hp} {x : DV} {xs : List Node} {cells : List DV} (G : Gr I 6 B x xs.length cells) (NL : NVL I xs cells) (S : Sy I (B ++ A) Q L h) (hl : xs.length ≤ lim) :
    ∃ J, ILe I J ∧ Sy J A Q L h ∧ NS J x xs := by
  obtain ⟨J, gJ, S3, F3⟩ := G.freeze S
  exact ⟨J, gJ, S3, hl, cells, F3, NL.mono gJ⟩

theorem stmts_loop {E : PF} (HE : NOk 53 E) : ∀ (f j : Nat) (I : Im) (B A L : Ls) (h : Hp) (p : Pos) (s x : DV) (st : PSt) (xs ys : List Node) (cells : List DV) (st' : PSt), Sy I (B ++ A) [PS p s st] L h → Gr I 6 B x xs.length cells → NVL I xs cells →
    xs.length + f ≤ lim → TS' I s st.toks → stmtsL E f xs st = some (ys, st') →
    Ev (fun n => s31a4l (shD n) n (n - j) (.p p 0) x h) (fun v h' => ∃ J s', ILe I J ∧ Sy J A [PS p s' st'] L h' ∧ TS' J s' st'.toks ∧ NS J v ys)
  | 0, j, I, B, A, L, h, p, s, x, st, xs, ys, cells, st', S, G, NL, hl, T, hm => by cases hm
  | f + 1, j, I, B, A, L, h, p, s, x, st, xs, ys, cells, st', S, G, NL, hl, T, hm => by
    unfold stmtsL at hm
    refine Ev.loop j (ll := fun n m => s31a4l (shD n) n m (.p p 0) x h) (bb := fun n m => s31a4b (shD n) n (s31a4l (shD n) n m) (.p p 0) x h) (fun _ _ => rfl) ?_
    have hs := T.2.one
    unfold s31a4b s31a3
    refine wn ?_; refine wf ?_; refine wq ?_
    have fin : ∀ h', Sy I (B ++ A) [PS p s st] L h' → some (xs, st) = some (ys, st') → Ev (fun _ => some (x, h')) (fun v h' => ∃ J s', ILe I J ∧ Sy J A [PS p s' st'] L h' ∧ TS' J s' st'.toks ∧ NS J v ys) := by
      intro h' S' hm
      simp only [Option.some.injEq, Prod.mk.injEq] at hm
      obtain ⟨rfl, rfl⟩ := hm
      obtain ⟨J, gJ, S3, N3⟩ := G.nodes NL S' (by omega)
      exact Ev.ret ⟨J, s, gJ, S3, T.mono gJ, N3⟩
    refine Ev.ieq (fun e1 => ?_) (fun e1 => ?_)
    · rw [if_pos (show st.err = 0 from e1)] at hm
      refine zt ?_; refine wm ?_; refine zt ?_
      obtain ⟨c, hc, hm⟩ := Option.bind_eq_some_iff.1 hm
      refine Ev.call (is_ok (by assumption) T hc) ?_
      rintro _ _ ⟨rfl, S1⟩
      cases c with
      | true =>
        refine zt ?_; refine an ?_; refine ap ?_; refine yf ?_; refine yf ?_; refine yf ?_; refine aq ?_; refine yj ?_
        exact fin _ S1 (by simpa using hm)
      | false =>
        refine zt ?_; refine ao ?_; refine ap ?_; refine zt ?_; refine wm ?_; refine zt ?_
        rw [if_neg (by simp)] at hm
        obtain ⟨c, hc, hm⟩ := Option.bind_eq_some_iff.1 hm
        refine Ev.call (is_ok (by assumption) T hc) ?_
        rintro _ _ ⟨rfl, S2⟩
        cases c with
        | true =>
          refine zt ?_; refine an ?_; refine ap ?_; refine yj ?_
          exact fin _ S2 (by simpa using hm)
        | false =>
          refine zt ?_; refine ao ?_; refine ap ?_; refine yt ?_
          rw [if_neg (by simp)] at hm
          obtain ⟨c, hc, hm⟩ := Option.bind_eq_some_iff.1 hm
          unfold s31a5
          refine Ev.call (is_ok (by assumption) T hc) ?_
          rintro _ _ ⟨rfl, S3⟩
          unfold s31a7
          cases c with
          | true =>
            refine yt ?_
            rw [if_pos rfl] at hm
            obtain ⟨⟨t, st1⟩, ht, hm⟩ := Option.bind_eq_some_iff.1 hm
            obtain ⟨⟨y, st2⟩, hy, hm⟩ := Option.bind_eq_some_iff.1 hm
            obtain ⟨d, hd, hm⟩ := Option.bind_eq_some_iff.1 hm
            unfold s31a8
            refine Ev.call (take_ok S3 T ht) ?_
            rintro _ _ ⟨rfl, s4, S4, T4⟩
            unfold s31a9
            refine Ev.call (HE _ _ _ _ _ _ _ _ _ S4 T4 hy) ?_
            rintro _ _ ⟨J, s5, cs, rfl, g5, S5, T5, N5⟩
            obtain ⟨l5, o5, b5⟩ := N5.shape
            refine Ev.bs S5 (fill6 l5) ?_
            intro b6 h6 S6
            obtain ⟨K, g7, S7, F7, _⟩ := Fz.built (sz := 6) (n := 1) S6 (by omega) o5
            have N7 : NS K _ [y] := ⟨by simp [lim], cs, F7, NVL.single (N5.mono g7)⟩
            have o7 := N7.one
            refine wd ?_
            have N8 := NV.of (I := K) (k := 10) (t := []) (m := 0) (SS.nil K) (SS.nil K) N7
            obtain ⟨l8, o8, b8⟩ := N8.shape
            refine Ev.bs S7 (fill6 l8) ?_
            intro b9 h9 S9
            obtain ⟨x10, h10, B10, cells10, e10, S10, G10, NL10⟩ := app_node ((G.mono g5).mono g7) ((NL.mono g5).mono g7) N8 S9 (List.Mem.head _) (by omega)
            refine Ev.op e10 ?_
            unfold s31a10 s31a11
            refine Ev.call (is_ok S10.dropL (T5.mono g7) hd) ?_
            rintro _ _ ⟨rfl, S11⟩
            have fin2 : ∀ h' s', Sy K (B10 ++ A) [PS p s' st'] L h' → TS' K s' st'.toks → ys = xs ++ [.mk 10 [] 0 [] [] [y]] → Ev (fun _ => some (x10, h')) (fun v h' => ∃ J s', ILe I J ∧ Sy J A [PS p s' st'] L h' ∧ TS' J s' st'.toks ∧ NS J v ys) := by
              intro h' s' S' T' e
              subst e
              obtain ⟨M, gM, S12, N12⟩ := G10.nodes NL10 S' (by simp; omega)
              exact Ev.ret ⟨M, s', (g5.trans g7).trans gM, S12, T'.mono gM, N12⟩
            cases d with
            | true =>
              refine yt ?_
              rw [if_pos rfl] at hm
              obtain ⟨⟨t2, st3⟩, ht2, hm⟩ := Option.bind_eq_some_iff.1 hm
              simp only [Option.some.injEq, Prod.mk.injEq] at hm
              obtain ⟨rfl, rfl⟩ := hm
              refine Ev.call (take_ok S11 (T5.mono g7) ht2) ?_
              rintro _ _ ⟨rfl, s13, S13, T13⟩
              exact fin2 _ s13 S13 T13 rfl
            | false =>
              refine yj ?_
              rw [if_neg (by simp)] at hm
              simp only [Option.some.injEq, Prod.mk.injEq] at hm
              obtain ⟨rfl, rfl⟩ := hm
              exact fin2 _ s5 S11 (T5.mono g7) rfl
          | false =>
            refine yj ?_
            rw [if_neg (by simp)] at hm
            obtain ⟨⟨y, st2⟩, hy, hm⟩ := Option.bind_eq_some_iff.1 hm
            obtain ⟨d, hd, hm⟩ := Option.bind_eq_some_iff.1 hm
            unfold s31a6
            refine Ev.call (HE _ _ _ _ _ _ _ _ _ S3 T hy) ?_
            rintro _ _ ⟨J, s5, cs, rfl, g5, S5, T5, N5⟩
            obtain ⟨l5, o5, b5⟩ := N5.shape
            refine Ev.bs S5 (fill6 l5) ?_
            intro b6 h6 S6
            obtain ⟨x10, h10, B10, cells10, e10, S10, G10, NL10⟩ := app_node (G.mono g5) (NL.mono g5) N5 S6 (List.Mem.head _) (by omega)
            refine Ev.op e10 ?_
            refine Ev.call (is_ok S10.dropL T5 hd) ?_
            rintro _ _ ⟨rfl, S11⟩
            cases d with
            | true =>
              refine an ?_; refine yj ?_
              rw [if_pos rfl] at hm
              obtain ⟨⟨t2, st3⟩, ht2, hm⟩ := Option.bind_eq_some_iff.1 hm
              refine Ev.call (take_ok S11 T5 ht2) ?_
              rintro _ _ ⟨rfl, s13, S13, T13⟩
              refine (stmts_loop HE f (j + 1) J B10 A L _ p s13 x10 st3 (xs ++ [y]) ys cells10 st' S13 G10 NL10 (by simp; omega) T13 hm).mono ?_
              rintro v h' ⟨M, s', gM, r⟩
              exact ⟨M, s', g5.trans gM, r⟩
            | false =>
              refine ao ?_; refine yt ?_
              rw [if_neg (by simp)] at hm
              simp only [Option.some.injEq, Prod.mk.injEq] at hm
              obtain ⟨rfl, rfl⟩ := hm
              obtain ⟨M, gM, S12, N12⟩ := G10.nodes NL10 S11 (by simp; omega)
              exact Ev.ret ⟨M, s5, g5.trans gM, S12, T5.mono gM, N12⟩
    · rw [if_neg (show ¬ st.err = 0 from e1)] at hm
      refine yf ?_; refine yf ?_; refine yf ?_; refine aq ?_; refine yf ?_; refine yf ?_; refine yf ?_; refine aq ?_; refine yj ?_
      exact fin _ (by assumption) hm

theorem stmts_ok {E : PF} (HE : NOk 53 E) {I : Im} {A L : Ls} {h : Hp} {p : Pos} {s : DV} {st : PSt} (f : Nat) (hf : f ≤ lim) (S : Sy I A [PS p s st] L h) (T : TS' I s st.toks) {ys : List Node} {st' : PSt} (hm : stmtsL E f [] st = some (ys, st')) :
    Ev (fun n => shD n 31 [.p p 0] h) (fun v h' => ∃ J s', ILe I J ∧ Sy J A [PS p s' st'] L h' ∧ TS' J s' st'.toks ∧ NS J v ys) := by
  refine Ev.enter (fun n => enter31 n _ h) ?_
  unfold s31 s31a1 s31a2 s31a4
  exact stmts_loop HE f 0 I [] A L h p s .l0 st [] ys [] st' S (Gr.nil I 6) rfl (by simpa using hf) T hm

end Go.Dd

/- Dd, part T7: the program's parser: walks of literals, blocks, primaries, messages. -/
set_option linter.unusedVariables false
set_option linter.unusedSimpArgs false
set_option maxRecDepth 100000
namespace Go.Dd
open Go.Proofs

theorem lits_loop {LI : PF} (HL : NOk 89 LI) : ∀ (f j : Nat) (I : Im) (B A L : Ls) (h : Hp) (p : Pos) (s x : DV) (st : PSt) (xs ys : List Node) (cells z : List DV) (st' : PSt) (b2 b3 : Pos),
    Sy I (B ++ A) [PS p s st] ((b3, some (.row .ex [.i .i64 (Int.ofNat 4), .s [], .i .i64 (Int.ofNat 0), .l0, .l0, x])) :: (b2, some (.row .ex z)) :: L) h → Gr I 6 B x xs.length cells → NVL I xs cells → z.length = 6 → (∀ v ∈ z, v.one = true) →
    xs.length + f ≤ lim → TS' I s st.toks → (litsL LI f xs st).bind (fun r => (takeS r.2).bind fun q => some (r.1, q.2)) = some (ys, st') →
    Ev (fun n => s89a4l (shD n) n (n - j) (.p p 0) (.p b2 0) (.p b3 0) h) (NPost I A L p (.mk 4 [] 0 [] [] ys) st')
  | 0, j, I, B, A, L, h, p, s, x, st, xs, ys, cells, z, st', b2, b3, S, G, NL, z1, z2, hl, T, hm => by cases hm
  | f + 1, j, I, B, A, L, h, p, s, x, st, xs, ys, cells, z, st', b2, b3, S, G, NL, z1, z2, hl, T, hm => by
    unfold litsL at hm
    refine Ev.loop j (ll := fun n m => s89a4l (shD n) n m (.p p 0) (.p b2 0) (.p b3 0) h) (bb := fun n m => s89a4b (shD n) n (s89a4l (shD n) n m) (.p p 0) (.p b2 0) (.p b3 0) h) (fun _ _ => rfl) ?_
    have hs := T.2.one
    have hx := G.one
    unfold s89a4b
    refine wn ?_; refine wf ?_; refine wq ?_
    have fin : ∀ h', Sy I (B ++ A) [PS p s st] ((b3, some (.row .ex [.i .i64 (Int.ofNat 4), .s [], .i .i64 (Int.ofNat 0), .l0, .l0, x])) :: (b2, some (.row .ex z)) :: L) h' → (some (xs, st)).bind (fun r => (takeS r.2).bind fun q => some (r.1, q.2)) = some (ys, st') →
        Ev (fun n => s89a3 (shD n) n (.p p 0) (.p b2 0) (.p b3 0) h') (NPost I A L p (.mk 4 [] 0 [] [] ys) st') := by
      intro h' S' hm
      simp only [Option.bind_some] at hm
      obtain ⟨⟨t2, st2⟩, ht2, hm⟩ := Option.bind_eq_some_iff.1 hm
      simp only [Option.some.injEq, Prod.mk.injEq] at hm
      obtain ⟨rfl, rfl⟩ := hm
      unfold s89a3
      refine Ev.call (take_ok S' T ht2) ?_
      rintro _ _ ⟨rfl, s2, S2, T2⟩
      obtain ⟨J, gJ, S3, N3⟩ := G.nodes NL S2 (by omega)
      have o3 := N3.one
      refine ws ?_; refine wt fun _ _ => ?_; refine ws ?_
      exact Ev.ret ⟨J, s2, _, rfl, gJ, dp, T2.mono gJ, NV.of (SS.nil J) (SS.nil J) N3⟩
    refine Ev.ieq (fun e1 => ?_) (fun e1 => ?_)
    · rw [if_pos (show st.err = 0 from e1)] at hm
      refine zt ?_; refine wm ?_; refine zt ?_
      rw [Option.bind_assoc] at hm
      obtain ⟨c, hc, hm⟩ := Option.bind_eq_some_iff.1 hm
      refine Ev.call (is_ok (by assumption) T hc) ?_
      rintro _ _ ⟨rfl, S1⟩
      cases c with
      | true =>
        refine zt ?_; refine an ?_; refine ap ?_; refine yj ?_
        exact fin _ S1 (by simpa using hm)
      | false =>
        refine zt ?_; refine ao ?_; refine ap ?_; refine yt ?_
        rw [if_neg (by simp), Option.bind_assoc] at hm
        obtain ⟨⟨⟨y, d⟩, st1⟩, hy, hm⟩ := Option.bind_eq_some_iff.1 hm
        unfold s89a5
        refine Ev.call (plain_ok S1 T hy) ?_
        rintro _ _ ⟨s2, cs, rfl, S2, T2, N2⟩
        obtain ⟨l2, o2, q2⟩ := N2.shape
        refine wx ?_; refine wx ?_; refine wa fun _ _ _ => ?_; refine wt fun _ _ => ?_
        unfold s89a6
        have body : ∀ (J : Im) (h' : Hp) (b4 : Pos) (y' : Node) (cs' : List DV) (s' : DV) (st1' : PSt), ILe I J → Sy J (B ++ A) [PS p s' st1'] ((b4, some (.row .ex cs')) :: (b3, some (.row .ex [.i .i64 (Int.ofNat 4), .s [], .i .i64 (Int.ofNat 0), .l0, .l0, x])) :: (b2, some (.row .ex z)) :: L) h' →
            TS' J s' st1'.toks → NV J y' cs' → (litsL LI f (xs ++ [y']) st1').bind (fun r => (takeS r.2).bind fun q => some (r.1, q.2)) = some (ys, st') →
            Ev (fun n => s89a7 (shD n) n (s89a4l (shD n) n (n - (j + 1))) (.p p 0) (.p b2 0) (.p b3 0) (.p b4 0) h') (NPost I A L p (.mk 4 [] 0 [] [] ys) st') := by
          intro J h' b4 y' cs' s' st1' gJ S' T' N' hm
          obtain ⟨l', o', q'⟩ := N'.shape
          unfold s89a7
          refine wf ?_; refine wl ?_; refine ws ?_
          refine Ev.bs S' (fill6 l') ?_
          intro b6 h6 S6
          obtain ⟨x10, h10, B10, cells10, e10, S10, G10, NL10⟩ := app_node (G.mono gJ) (NL.mono gJ) N' S6 (List.Mem.head _) (by omega)
          have hx10 := G10.one
          refine Ev.op e10 ?_
          refine wf ?_; refine wu fun _ _ => ?_
          refine (lits_loop HL f (j + 1) J B10 A L _ p s' x10 st1' (xs ++ [y']) ys cells10 z st' b2 b3 ?_ G10 NL10 z1 z2 (by simp; omega) T' hm).mono (NPost.le gJ)
          exact Sy.dropL (Sy.dropL (by assumption))
        cases d with
        | true =>
          refine yt ?_
          exact body I _ _ y cs s2 st1 (ILe.refl _) (by assumption) T2 N2 (by simpa using hm)
        | false =>
          refine yj ?_
          rw [if_neg (by simp), Option.bind_assoc] at hm
          obtain ⟨c1, hc1, hm⟩ := Option.bind_eq_some_iff.1 hm
          rw [Option.bind_assoc] at hm
          obtain ⟨c2, hc2, hm2⟩ := Option.bind_eq_some_iff.1 hm
          refine Ev.call (is_ok (by assumption) T2 hc1) ?_
          rintro _ _ ⟨rfl, S3⟩
          have more : ∀ (b4 : Pos) h', Sy I (B ++ A) [PS p s2 st1] ((b4, some (.row .ex cs)) :: (b3, some (.row .ex [.i .i64 (Int.ofNat 4), .s [], .i .i64 (Int.ofNat 0), .l0, .l0, x])) :: (b2, some (.row .ex z)) :: L) h' → (if c2 = true then (withinS LI st1).bind fun q => litsL LI f (xs ++ [q.1]) q.2 else (lookS st1 0).bind fun t => litsL LI f (xs ++ [y]) (failS st1 t 13)).bind (fun r => (takeS r.2).bind fun q => some (r.1, q.2)) = some (ys, st') →
            Ev (fun n => ifD (.b c2)
              (bnd (shD n 88 [.p p 0, .f 89 [.p p 0] []] h') fun v41 h41 => bnd (pStore 6 (.p b4 0) v41 h41) fun _ h42 => s89a7 (shD n) n (s89a4l (shD n) n (n - (j + 1))) (.p p 0) (.p b2 0) (.p b3 0) (.p b4 0) h42)
              (bnd (shD n 55 [.p p 0, .i .i64 (Int.ofNat 0)] h') fun v43 h43 => bnd (shD n 54 [.p p 0, v43, .i .i64 (Int.ofNat 13)] h43) fun v44 h44 => s89a7 (shD n) n (s89a4l (shD n) n (n - (j + 1))) (.p p 0) (.p b2 0) (.p b3 0) (.p b4 0) h44))
              (NPost I A L p (.mk 4 [] 0 [] [] ys) st') := by
            intro b4 h' S' hm
            cases c2 with
            | true =>
              rw [if_pos rfl, Option.bind_assoc] at hm
              obtain ⟨⟨w, st2⟩, hw, hm⟩ := Option.bind_eq_some_iff.1 hm
              refine yt ?_
              refine Ev.call (within_ok call89 HL S' T2 hw) ?_
              rintro _ _ ⟨J, s5, ds, rfl, g5, S5, T5, N5⟩
              obtain ⟨l5, o5, q5⟩ := N5.shape
              refine wt fun _ _ => ?_
              exact body J _ _ w ds s5 st2 g5 (by assumption) T5 N5 hm
            | false =>
              rw [if_neg (by simp), Option.bind_assoc] at hm
              obtain ⟨t, ht, hm⟩ := Option.bind_eq_some_iff.1 hm
              refine yj ?_
              refine Ev.call (look_ok (k := 0) S' T2 ht) ?_
              rintro _ _ ⟨rfl, S5⟩
              refine Ev.call (fail_ok S5 T2.2.one t _) ?_
              rintro _ _ ⟨rfl, S6⟩
              exact body I _ _ y cs s2 (failS st1 t 13) (ILe.refl _) S6 (by rw [failS_toks]; exact T2) N2 hm
          cases c1 with
          | true =>
            simp only [if_true, Option.some.injEq] at hc2
            subst hc2
            have M := more _ _ S3 hm2
            refine yg ?_; refine yg ?_; refine ap ?_; refine yt ?_
            exact M
          | false =>
            refine zf ?_; refine wm ?_; refine zf ?_
            refine Ev.call (is_ok (by assumption) T2 (by simpa using hc2)) ?_
            rintro _ _ ⟨rfl, S4⟩
            have M := more _ _ S4 hm2
            refine aq ?_
            exact M
    · rw [if_neg (show ¬ st.err = 0 from e1)] at hm
      refine yf ?_; refine yf ?_; refine yf ?_; refine aq ?_; refine yj ?_
      exact fin _ (by assumption) hm

theorem literals_ok {LI : PF} (HL : NOk 89 LI) (f : Nat) (hf : f ≤ lim) : NOk 89 (literalsS LI f) := by
  intro I A L h p s st x st' S T hm
  unfold literalsS at hm
  refine Ev.enter (fun n => enter89 n _ h) ?_
  unfold s89 s89a1 s89a2 s89a4
  refine wa fun _ _ _ => ?_; refine wd ?_; refine wa fun _ _ _ => ?_; refine wt fun _ _ => ?_
  obtain ⟨⟨ys, st1⟩, h1, hm⟩ := Option.bind_eq_some_iff.1 hm
  obtain ⟨⟨t, st2⟩, h2, hm⟩ := Option.bind_eq_some_iff.1 hm
  simp only [Option.some.injEq, Prod.mk.injEq] at hm
  obtain ⟨rfl, rfl⟩ := hm
  refine lits_loop HL f 0 I [] A L _ p s .l0 st [] ys [] _ st2 _ _ (by assumption) (Gr.nil I 6) rfl rfl (by first | assumption | exact tc_ones _ | (repeat (first | exact ones_nil | refine ones_cons (by first | rfl | assumption | exact Fz.one (by assumption)) ?_))) (by simpa using hf) T ?_
  rw [h1]
  simp [h2]

theorem lit_ok : ∀ (f : Nat), f ≤ lim → NOk 89 (litF f)
  | 0, _ => fun I A L h p s st x st' S T hm => by cases hm
  | f + 1, hf => literals_ok (lit_ok f (by omega)) f (by omega)

end Go.Dd

/- Dd, part T8: the program's parser: walks of blocks, primaries, messages, expressions. -/
set_option linter.unusedVariables false
set_option linter.unusedSimpArgs false
set_option maxRecDepth 100000
namespace Go.Dd
open Go.Proofs

/-- A text is appended to a slice of texts that grows. -/
theorem app_text {I : Im} {B A Q L : Ls} {h : Hp} {x : DV} {l : List (List Nat)} (G : Gr I 1 B x l.length (l.map .s)) {t : List Nat} {b : Pos} (S : Sy I (B ++ A) Q L h) (m : (b, some (.row .ex [.s t])) ∈ L) (hl : l.length + 1 ≤ lim) :
    ∃ x' h' B', pAppend 1 16 x (.l b 0 1 1) h = some (x', h') ∧ Sy I (B' ++ A) Q L h' ∧ Gr I 1 B' x' (l ++ [t]).length ((l ++ [t]).map .s) := by
  have hr : (l.length + 1) * 16 ≤ roomD := by simp [roomD, lim] at hl ⊢; omega
  obtain ⟨x4, h4, B4, e4, S4, G4⟩ := G.app S (src_own S (n := 1) m rfl (ones_cons rfl ones_nil)) rfl (ones_cons rfl ones_nil) (by omega) hr
  exact ⟨x4, h4, B4, e4, S4, by simpa using G4⟩

theorem params_loop {P : DV → Hp → Prop} : ∀ (f j : Nat) (I : Im) (B A L : Ls) (h : Hp) (p : Pos) (s x : DV) (st : PSt) (l l' : List (List Nat)) (z : List DV) (st' : PSt) (b2 b3 : Pos),
    Sy I (B ++ A) [PS p s st] ((b3, some (.row .ex [.i .i64 (Int.ofNat 9), .s [], .i .i64 (Int.ofNat 0), x, .l0, .l0])) :: (b2, some (.row .ex z)) :: L) h → Gr I 1 B x l.length (l.map .s) → z.length = 6 → (∀ v ∈ z, v.one = true) →
    l.length + f ≤ lim → TS' I s st.toks → paramsL f l st = some (l', st') →
    (∀ (B' : Ls) (h' : Hp) (s' x' : DV), Sy I (B' ++ A) [PS p s' st'] ((b3, some (.row .ex [.i .i64 (Int.ofNat 9), .s [], .i .i64 (Int.ofNat 0), x', .l0, .l0])) :: (b2, some (.row .ex z)) :: L) h' → Gr I 1 B' x' l'.length (l'.map .s) → l'.length ≤ lim → TS' I s' st'.toks →
      Ev (fun n => s91a3 (shD n) n (.p p 0) (.p b2 0) (.p b3 0) h') P) →
    Ev (fun n => s91a5l (shD n) n (n - j) (.p p 0) (.p b2 0) (.p b3 0) h) P
  | 0, j, I, B, A, L, h, p, s, x, st, l, l', z, st', b2, b3, S, G, z1, z2, hl, T, hm, K => by cases hm
  | f + 1, j, I, B, A, L, h, p, s, x, st, l, l', z, st', b2, b3, S, G, z1, z2, hl, T, hm, K => by
    unfold paramsL at hm
    obtain ⟨c, hc, hm⟩ := Option.bind_eq_some_iff.1 hm
    refine Ev.loop j (ll := fun n m => s91a5l (shD n) n m (.p p 0) (.p b2 0) (.p b3 0) h) (bb := fun n m => s91a5b (shD n) n (s91a5l (shD n) n m) (.p p 0) (.p b2 0) (.p b3 0) h) (fun _ _ => rfl) ?_
    have hx := G.one
    unfold s91a5b
    refine Ev.call (is_ok S T hc) ?_
    rintro _ _ ⟨rfl, S1⟩
    cases c with
    | false =>
      refine yj ?_
      rw [if_neg (by simp)] at hm
      simp only [Option.some.injEq, Prod.mk.injEq] at hm
      obtain ⟨rfl, rfl⟩ := hm
      exact K B _ s x S1 G (by omega) T
    | true =>
      refine yt ?_; refine wf ?_
      rw [if_pos rfl] at hm
      obtain ⟨⟨t, st1⟩, ht, hm⟩ := Option.bind_eq_some_iff.1 hm
      have Sr := S1.res
      refine wl ?_; refine wf ?_; refine wl ?_
      refine Ev.call (name_ok Sr T G.len ht) ?_
      rintro _ _ ⟨rfl, s2, S2, T2⟩
      refine Ev.cnd ?_ ?_
      · rw [Bool.and_true]; exact same1S S2 (by first | exact List.Mem.head _ | exact (List.Mem.tail _ (List.Mem.head _)) | exact (List.Mem.tail _ (List.Mem.tail _ (List.Mem.head _))) | exact (List.Mem.tail _ (List.Mem.tail _ (List.Mem.tail _ (List.Mem.head _)))) | exact (List.Mem.tail _ (List.Mem.tail _ (List.Mem.tail _ (List.Mem.tail _ (List.Mem.head _))))) | exact (List.Mem.tail _ (List.Mem.tail _ (List.Mem.tail _ (List.Mem.tail _ (List.Mem.tail _ (List.Mem.head _)))))) | exact (List.Mem.tail _ (List.Mem.tail _ (List.Mem.tail _ (List.Mem.tail _ (List.Mem.tail _ (List.Mem.tail _ (List.Mem.head _))))))) | exact (List.Mem.tail _ (List.Mem.tail _ (List.Mem.tail _ (List.Mem.tail _ (List.Mem.tail _ (List.Mem.tail _ (List.Mem.tail _ (List.Mem.head _)))))))) | exact (List.Mem.tail _ (List.Mem.tail _ (List.Mem.tail _ (List.Mem.tail _ (List.Mem.tail _ (List.Mem.tail _ (List.Mem.tail _ (List.Mem.tail _ (List.Mem.head _)))))))))) rfl hx G.beq
      refine Ev.bsAt0 S2 (cs := [.s t]) (by first | exact Rpl.head _ | exact (Rpl.tail _ (Rpl.head _)) | exact (Rpl.tail _ (Rpl.tail _ (Rpl.head _))) | exact (Rpl.tail _ (Rpl.tail _ (Rpl.tail _ (Rpl.head _)))) | exact (Rpl.tail _ (Rpl.tail _ (Rpl.tail _ (Rpl.tail _ (Rpl.head _))))) | exact (Rpl.tail _ (Rpl.tail _ (Rpl.tail _ (Rpl.tail _ (Rpl.tail _ (Rpl.head _)))))) | exact (Rpl.tail _ (Rpl.tail _ (Rpl.tail _ (Rpl.tail _ (Rpl.tail _ (Rpl.tail _ (Rpl.head _))))))) | exact (Rpl.tail _ (Rpl.tail _ (Rpl.tail _ (Rpl.tail _ (Rpl.tail _ (Rpl.tail _ (Rpl.tail _ (Rpl.head _)))))))) | exact (Rpl.tail _ (Rpl.tail _ (Rpl.tail _ (Rpl.tail _ (Rpl.tail _ (Rpl.tail _ (Rpl.tail _ (Rpl.tail _ (Rpl.head _)))))))))) rfl ?_
      intro h3 S3
      obtain ⟨x4, h4, B4, e4, S4, G4⟩ := app_text G S3 (by first | exact List.Mem.head _ | exact (List.Mem.tail _ (List.Mem.head _)) | exact (List.Mem.tail _ (List.Mem.tail _ (List.Mem.head _))) | exact (List.Mem.tail _ (List.Mem.tail _ (List.Mem.tail _ (List.Mem.head _)))) | exact (List.Mem.tail _ (List.Mem.tail _ (List.Mem.tail _ (List.Mem.tail _ (List.Mem.head _))))) | exact (List.Mem.tail _ (List.Mem.tail _ (List.Mem.tail _ (List.Mem.tail _ (List.Mem.tail _ (List.Mem.head _)))))) | exact (List.Mem.tail _ (List.Mem.tail _ (List.Mem.tail _ (List.Mem.tail _ (List.Mem.tail _ (List.Mem.tail _ (List.Mem.head _))))))) | exact (List.Mem.tail _ (List.Mem.tail _ (List.Mem.tail _ (List.Mem.tail _ (List.Mem.tail _ (List.Mem.tail _ (List.Mem.tail _ (List.Mem.head _)))))))) | exact (List.Mem.tail _ (List.Mem.tail _ (List.Mem.tail _ (List.Mem.tail _ (List.Mem.tail _ (List.Mem.tail _ (List.Mem.tail _ (List.Mem.tail _ (List.Mem.head _)))))))))) (by omega)
      have hx4 := G4.one
      refine Ev.op e4 ?_
      refine wf ?_; refine wu fun _ _ => ?_
      exact params_loop f (j + 1) I B4 A L _ p s2 x4 st1 (l ++ [t]) l' z st' b2 b3 (dp) G4 z1 z2 (by simp; omega) T2 hm K

theorem block_ok {E : PF} (HE : NOk 53 E) (f : Nat) (hf : f ≤ lim) : NOk 91 (blockS E f) := by
  intro I A L h p s st x st' S T hm
  unfold blockS at hm
  obtain ⟨⟨l, st1⟩, h1, hm⟩ := Option.bind_eq_some_iff.1 hm
  obtain ⟨st2, h2, hm⟩ := Option.bind_eq_some_iff.1 hm
  obtain ⟨⟨ts, st3⟩, h3, hm⟩ := Option.bind_eq_some_iff.1 hm
  obtain ⟨⟨ks, st4⟩, h4, hm⟩ := Option.bind_eq_some_iff.1 hm
  obtain ⟨⟨t, st5⟩, h5, hm⟩ := Option.bind_eq_some_iff.1 hm
  simp only [Option.some.injEq, Prod.mk.injEq] at hm
  obtain ⟨rfl, rfl⟩ := hm
  refine Ev.enter (fun n => enter91 n _ h) ?_
  unfold s91 s91a1 s91a2 s91a5
  refine wa fun _ _ _ => ?_; refine wd ?_; refine wa fun _ _ _ => ?_; refine wt fun _ _ => ?_
  refine params_loop f 0 I [] A L _ p s .l0 st [] l _ st1 _ _ (by assumption) (Gr.nil I 1) rfl (by first | assumption | exact tc_ones _ | (repeat (first | exact ones_nil | refine ones_cons (by first | rfl | assumption | exact Fz.one (by assumption)) ?_))) (by simpa using hf) T h1 ?_
  intro B h' s' x' S1 G1 hl T1
  have hx := G1.one
  unfold s91a3
  have rest : ∀ (h' : Hp) (s' : DV) (b2 b3 : Pos) (z : List DV), z.length = 6 → (∀ v ∈ z, v.one = true) → Sy I (B ++ A) [PS p s' st2] ((b3, some (.row .ex [.i .i64 (Int.ofNat 9), .s [], .i .i64 (Int.ofNat 0), x', .l0, .l0])) :: (b2, some (.row .ex z)) :: L) h' → TS' I s' st2.toks →
      Ev (fun n => s91a4 (shD n) n (.p p 0) (.p b2 0) (.p b3 0) h') (NPost I A L p (.mk 9 [] 0 l ts ks) st5) := by
    intro h' s' b2 b3 z z1 z2 S2 T2
    unfold s91a4
    obtain ⟨J, gJ, S3, F3⟩ := G1.freeze S2
    refine Ev.call (temps_ok f hf S3 (T2.mono gJ) h3) ?_
    rintro v4 h4' ⟨K, s4, g4, S4, T4, N4⟩
    have o4 := N4.2.one
    refine wf ?_; refine wu fun _ _ => ?_
    refine Ev.call (stmts_ok HE f hf (by assumption) T4 h4) ?_
    rintro v5 h5' ⟨M, s5, g5, S5, T5, N5⟩
    have o5 := N5.one
    refine wf ?_; refine wu fun _ _ => ?_
    refine Ev.call (need_ok (by assumption) T5 h5) ?_
    rintro _ _ ⟨rfl, s6, S6, T6⟩
    refine ws ?_; refine wt fun _ _ => ?_; refine ws ?_
    exact Ev.ret ⟨M, s6, _, rfl, (gJ.trans g4).trans g5, dp, T6, NV.of ⟨hl, (F3.mono g4).mono g5⟩ (N4.mono g5) N5⟩
  refine wf ?_; refine wl ?_
  refine Ev.op (G1.len _) ?_
  unfold bar at h2
  refine Ev.igt (fun e1 => ?_) (fun e1 => ?_)
  · have e2 : 0 < l.length := by simp at e1; exact e1
    simp only [if_pos e2] at h2
    obtain ⟨c, hc, h2⟩ := Option.bind_eq_some_iff.1 h2
    refine zt ?_; refine wm ?_; refine zt ?_
    refine Ev.call (is_ok (by assumption) T1 hc) ?_
    rintro _ _ ⟨rfl, S2⟩
    cases c with
    | true =>
      refine zt ?_; refine an ?_; refine ap ?_; refine yj ?_
      simp only [if_true, Option.some.injEq] at h2
      subst h2
      exact rest _ s' _ _ _ rfl (by first | assumption | exact tc_ones _ | (repeat (first | exact ones_nil | refine ones_cons (by first | rfl | assumption | exact Fz.one (by assumption)) ?_))) S2 T1
    | false =>
      refine zt ?_; refine ao ?_; refine ap ?_; refine yt ?_
      obtain ⟨⟨t2, st6⟩, ht2, h2⟩ := Option.bind_eq_some_iff.1 (by simpa using h2)
      simp only [Option.some.injEq] at h2
      subst h2
      refine Ev.call (need_ok (by assumption) T1 ht2) ?_
      rintro _ _ ⟨rfl, s3, S3, T3⟩
      exact rest _ s3 _ _ _ rfl (by first | assumption | exact tc_ones _ | (repeat (first | exact ones_nil | refine ones_cons (by first | rfl | assumption | exact Fz.one (by assumption)) ?_))) S3 T3
  · have e2 : ¬ 0 < l.length := fun e => e1 (by show (0 : Int) < _; omega)
    simp only [if_neg e2, Option.some.injEq] at h2
    subst h2
    refine yf ?_; refine yf ?_; refine yf ?_; refine aq ?_; refine yj ?_
    exact rest _ s' _ _ _ rfl (by first | assumption | exact tc_ones _ | (repeat (first | exact ones_nil | refine ones_cons (by first | rfl | assumption | exact Fz.one (by assumption)) ?_))) S1 T1

theorem primary_ok {LI E : PF} (HL : NOk 89 LI) (HE : NOk 53 E) (f : Nat) (hf : f ≤ lim) : NOk 83 (primaryS LI E f) := by
  intro I A L h p s st x st' S T hm
  unfold primaryS at hm
  obtain ⟨⟨⟨y, d⟩, st1⟩, hy, hm⟩ := Option.bind_eq_some_iff.1 hm
  refine Ev.enter (fun n => enter83 n _ h) ?_
  unfold s83 s83a1
  refine wa fun _ _ _ => ?_
  refine Ev.call (plain_ok (by assumption) T hy) ?_
  rintro _ _ ⟨s2, cs, rfl, S2, T2, N2⟩
  obtain ⟨l2, o2, q2⟩ := N2.shape
  have hs2 := T2.2.one
  refine wx ?_; refine wx ?_; refine wa fun _ _ _ => ?_; refine wt fun _ _ => ?_
  cases d with
  | true =>
    refine yt ?_; refine ws ?_; refine wt fun _ _ => ?_; refine ws ?_
    simp only [if_true, Option.some.injEq, Prod.mk.injEq] at hm
    obtain ⟨rfl, rfl⟩ := hm
    exact Ev.ret ⟨I, s2, _, rfl, ILe.refl _, dp, T2, N2⟩
  | false =>
    refine yj ?_
    rw [if_neg (by simp)] at hm
    obtain ⟨t, ht, hm⟩ := Option.bind_eq_some_iff.1 hm
    unfold s83a2 s83a3
    refine Ev.call (look_ok (k := 0) (by assumption) T2 ht) ?_
    rintro _ _ ⟨rfl, S3⟩
    refine wa fun _ _ _ => ?_; refine wt fun _ _ => ?_; refine wn ?_; refine wf ?_; refine wq ?_
    refine Ev.ine (fun e1 => ?_) (fun e1 => ?_)
    · refine yt ?_; refine wd ?_; refine wt fun _ _ => ?_; refine ws ?_
      rw [if_neg (show ¬ st1.err = 0 from e1)] at hm
      simp only [Option.some.injEq, Prod.mk.injEq] at hm
      obtain ⟨rfl, rfl⟩ := hm
      exact Ev.ret ⟨I, s2, _, rfl, ILe.refl _, dp, T2, NV.flat _ _ _⟩
    · refine yj ?_; refine wf ?_; refine wl ?_
      rw [if_pos (show st1.err = 0 from e1)] at hm
      refine Ev.ieq (fun e2 => ?_) (fun e2 => ?_)
      · refine yt ?_
        rw [if_pos (show t.kind = 1 from e2)] at hm
        obtain ⟨⟨t1, st2⟩, ht1, hm⟩ := Option.bind_eq_some_iff.1 hm
        simp only [Option.some.injEq, Prod.mk.injEq] at hm
        obtain ⟨rfl, rfl⟩ := hm
        refine Ev.call (take_ok (by assumption) T2 ht1) ?_
        rintro _ _ ⟨rfl, s3, S3, T3⟩
        refine wp ?_; refine wd ?_; refine wt fun _ _ => ?_; refine ws ?_
        exact Ev.ret ⟨I, s3, _, rfl, ILe.refl _, dp, T3, NV.flat _ _ _⟩
      · refine yj ?_; refine wf ?_; refine wl ?_
        rw [if_neg (show ¬ t.kind = 1 from e2)] at hm
        refine Ev.ieq (fun e3 => ?_) (fun e3 => ?_)
        · refine yt ?_
          rw [if_pos (show t.kind = 7 from e3)] at hm
          refine Ev.call (within_ok call89 HL (by assumption) T2 hm) ?_
          rintro _ _ ⟨J, s5, ds, rfl, g5, S5, T5, N5⟩
          obtain ⟨l5, o5, q5⟩ := N5.shape
          refine wt fun _ _ => ?_; refine ws ?_
          exact Ev.ret ⟨J, s5, _, rfl, g5, dp, T5, N5⟩
        · refine yj ?_
          rw [if_neg (show ¬ t.kind = 7 from e3)] at hm
          obtain ⟨c, hc, hm⟩ := Option.bind_eq_some_iff.1 hm
          refine Ev.call (is_ok (by assumption) T2 hc) ?_
          rintro _ _ ⟨rfl, S4⟩
          cases c with
          | true =>
            refine yt ?_
            refine Ev.call (within_ok call90 (inner_ok HE) (by assumption) T2 hm) ?_
            rintro _ _ ⟨J, s5, ds, rfl, g5, S5, T5, N5⟩
            obtain ⟨l5, o5, q5⟩ := N5.shape
            refine wt fun _ _ => ?_; refine ws ?_
            exact Ev.ret ⟨J, s5, _, rfl, g5, dp, T5, N5⟩
          | false =>
            refine yj ?_
            rw [if_neg (by simp)] at hm
            obtain ⟨c, hc, hm⟩ := Option.bind_eq_some_iff.1 hm
            refine Ev.call (is_ok (by assumption) T2 hc) ?_
            rintro _ _ ⟨rfl, S5⟩
            cases c with
            | true =>
              refine yt ?_
              refine Ev.call (within_ok call91 (block_ok HE f hf) (by assumption) T2 hm) ?_
              rintro _ _ ⟨J, s5, ds, rfl, g5, S5, T5, N5⟩
              obtain ⟨l5, o5, q5⟩ := N5.shape
              refine wt fun _ _ => ?_; refine ws ?_
              exact Ev.ret ⟨J, s5, _, rfl, g5, dp, T5, N5⟩
            | false =>
              refine yj ?_; refine ws ?_
              simp only [Bool.false_eq_true, if_false, Option.some.injEq, Prod.mk.injEq] at hm
              obtain ⟨rfl, rfl⟩ := hm
              refine Ev.call (fail_ok (by assumption) T2.2.one t _) ?_
              rintro _ _ ⟨rfl, S6⟩
              refine wd ?_; refine wt fun _ _ => ?_; refine ws ?_
              exact Ev.ret ⟨I, s2, _, rfl, ILe.refl _, dp, by rw [failS_toks]; exact T2, NV.flat _ _ _⟩

theorem binary_loop {P : PF} (HP : NOk 83 P) (g : Nat) : ∀ (f j : Nat) (I : Im) (A L : Ls) (h : Hp) (p : Pos) (s : DV) (st : PSt) (x y : Node) (cs z : List DV) (st' : PSt) (b3 b4 : Pos), Sy I A [PS p s st] ((b4, some (.row .ex z)) :: (b3, some (.row .ex cs)) :: L) h →
    z.length = 6 → (∀ v ∈ z, v.one = true) → TS' I s st.toks → NV I x cs → binaryL P g f x st = some (y, st') → Ev (fun n => s81a3l (shD n) n (n - j) (.p p 0) (.p b3 0) (.p b4 0) h) (NPost I A L p y st')
  | 0, j, I, A, L, h, p, s, st, x, y, cs, z, st', b3, b4, S, z1, z2, T, N, hm => by cases hm
  | f + 1, j, I, A, L, h, p, s, st, x, y, cs, z, st', b3, b4, S, z1, z2, T, N, hm => by
    unfold binaryL at hm
    obtain ⟨c, hc, hm⟩ := Option.bind_eq_some_iff.1 hm
    refine Ev.loop j (ll := fun n m => s81a3l (shD n) n m (.p p 0) (.p b3 0) (.p b4 0) h) (bb := fun n m => s81a3b (shD n) n (s81a3l (shD n) n m) (.p p 0) (.p b3 0) (.p b4 0) h) (fun _ _ => rfl) ?_
    unfold s81a3b s81a2
    obtain ⟨l1, o1, q1⟩ := N.shape
    refine Ev.call (is_ok S T hc) ?_
    rintro _ _ ⟨rfl, S1⟩
    cases c with
    | false =>
      refine yj ?_; refine ws ?_; refine wt fun _ _ => ?_; refine ws ?_
      rw [if_neg (by simp)] at hm
      simp only [Option.some.injEq, Prod.mk.injEq] at hm
      obtain ⟨rfl, rfl⟩ := hm
      exact Ev.ret ⟨I, s, cs, rfl, ILe.refl _, dp, T, N⟩
    | true =>
      refine yt ?_
      rw [if_pos rfl] at hm
      obtain ⟨⟨t, st1⟩, ht, hm⟩ := Option.bind_eq_some_iff.1 hm
      obtain ⟨⟨y1, st2⟩, hy1, hm⟩ := Option.bind_eq_some_iff.1 hm
      obtain ⟨⟨y2, st3⟩, hy2, hm⟩ := Option.bind_eq_some_iff.1 hm
      refine Ev.call (take_ok S1 T ht) ?_
      rintro _ _ ⟨rfl, s2, S2, T2⟩
      refine wa fun _ _ _ => ?_; refine wt fun _ _ => ?_; refine wf ?_
      have Sr := Sy.res (by assumption)
      refine wl ?_; refine ws ?_
      refine Ev.call (HP _ _ _ _ _ _ _ _ _ Sr T2 hy1) ?_
      rintro _ _ ⟨J, s5, ds, rfl, g5, S5, T5, N5⟩
      refine Ev.cnd ?_ ?_
      · rw [sameA S5 (by first | exact List.Mem.head _ | exact (List.Mem.tail _ (List.Mem.head _)) | exact (List.Mem.tail _ (List.Mem.tail _ (List.Mem.head _))) | exact (List.Mem.tail _ (List.Mem.tail _ (List.Mem.tail _ (List.Mem.head _)))) | exact (List.Mem.tail _ (List.Mem.tail _ (List.Mem.tail _ (List.Mem.tail _ (List.Mem.head _))))) | exact (List.Mem.tail _ (List.Mem.tail _ (List.Mem.tail _ (List.Mem.tail _ (List.Mem.tail _ (List.Mem.head _)))))) | exact (List.Mem.tail _ (List.Mem.tail _ (List.Mem.tail _ (List.Mem.tail _ (List.Mem.tail _ (List.Mem.tail _ (List.Mem.head _))))))) | exact (List.Mem.tail _ (List.Mem.tail _ (List.Mem.tail _ (List.Mem.tail _ (List.Mem.tail _ (List.Mem.tail _ (List.Mem.tail _ (List.Mem.head _)))))))) | exact (List.Mem.tail _ (List.Mem.tail _ (List.Mem.tail _ (List.Mem.tail _ (List.Mem.tail _ (List.Mem.tail _ (List.Mem.tail _ (List.Mem.tail _ (List.Mem.head _)))))))))) l1 o1 q1, same1S S5 (by first | exact List.Mem.head _ | exact (List.Mem.tail _ (List.Mem.head _)) | exact (List.Mem.tail _ (List.Mem.tail _ (List.Mem.head _))) | exact (List.Mem.tail _ (List.Mem.tail _ (List.Mem.tail _ (List.Mem.head _)))) | exact (List.Mem.tail _ (List.Mem.tail _ (List.Mem.tail _ (List.Mem.tail _ (List.Mem.head _))))) | exact (List.Mem.tail _ (List.Mem.tail _ (List.Mem.tail _ (List.Mem.tail _ (List.Mem.tail _ (List.Mem.head _)))))) | exact (List.Mem.tail _ (List.Mem.tail _ (List.Mem.tail _ (List.Mem.tail _ (List.Mem.tail _ (List.Mem.tail _ (List.Mem.head _))))))) | exact (List.Mem.tail _ (List.Mem.tail _ (List.Mem.tail _ (List.Mem.tail _ (List.Mem.tail _ (List.Mem.tail _ (List.Mem.tail _ (List.Mem.head _)))))))) | exact (List.Mem.tail _ (List.Mem.tail _ (List.Mem.tail _ (List.Mem.tail _ (List.Mem.tail _ (List.Mem.tail _ (List.Mem.tail _ (List.Mem.tail _ (List.Mem.head _)))))))))) rfl rfl (beq_s _)]; rfl
      refine Ev.call (unary_ok g _ _ _ _ _ _ _ _ _ _ _ S5 T5 N5 hy2) ?_
      rintro _ _ ⟨K, s6, es, rfl, g6, S6, T6, N6⟩
      obtain ⟨l6, o6, q6⟩ := N6.shape
      refine Ev.cnd ?_ ?_
      · rw [sameA S6 (by first | exact List.Mem.head _ | exact (List.Mem.tail _ (List.Mem.head _)) | exact (List.Mem.tail _ (List.Mem.tail _ (List.Mem.head _))) | exact (List.Mem.tail _ (List.Mem.tail _ (List.Mem.tail _ (List.Mem.head _)))) | exact (List.Mem.tail _ (List.Mem.tail _ (List.Mem.tail _ (List.Mem.tail _ (List.Mem.head _))))) | exact (List.Mem.tail _ (List.Mem.tail _ (List.Mem.tail _ (List.Mem.tail _ (List.Mem.tail _ (List.Mem.head _)))))) | exact (List.Mem.tail _ (List.Mem.tail _ (List.Mem.tail _ (List.Mem.tail _ (List.Mem.tail _ (List.Mem.tail _ (List.Mem.head _))))))) | exact (List.Mem.tail _ (List.Mem.tail _ (List.Mem.tail _ (List.Mem.tail _ (List.Mem.tail _ (List.Mem.tail _ (List.Mem.tail _ (List.Mem.head _)))))))) | exact (List.Mem.tail _ (List.Mem.tail _ (List.Mem.tail _ (List.Mem.tail _ (List.Mem.tail _ (List.Mem.tail _ (List.Mem.tail _ (List.Mem.tail _ (List.Mem.head _)))))))))) l1 o1 q1, same1S S6 (by first | exact List.Mem.head _ | exact (List.Mem.tail _ (List.Mem.head _)) | exact (List.Mem.tail _ (List.Mem.tail _ (List.Mem.head _))) | exact (List.Mem.tail _ (List.Mem.tail _ (List.Mem.tail _ (List.Mem.head _)))) | exact (List.Mem.tail _ (List.Mem.tail _ (List.Mem.tail _ (List.Mem.tail _ (List.Mem.head _))))) | exact (List.Mem.tail _ (List.Mem.tail _ (List.Mem.tail _ (List.Mem.tail _ (List.Mem.tail _ (List.Mem.head _)))))) | exact (List.Mem.tail _ (List.Mem.tail _ (List.Mem.tail _ (List.Mem.tail _ (List.Mem.tail _ (List.Mem.tail _ (List.Mem.head _))))))) | exact (List.Mem.tail _ (List.Mem.tail _ (List.Mem.tail _ (List.Mem.tail _ (List.Mem.tail _ (List.Mem.tail _ (List.Mem.tail _ (List.Mem.head _)))))))) | exact (List.Mem.tail _ (List.Mem.tail _ (List.Mem.tail _ (List.Mem.tail _ (List.Mem.tail _ (List.Mem.tail _ (List.Mem.tail _ (List.Mem.tail _ (List.Mem.head _)))))))))) rfl rfl (beq_s _)]; rfl
      refine Ev.bsAt0 S6 (by first | exact Rpl.head _ | exact (Rpl.tail _ (Rpl.head _)) | exact (Rpl.tail _ (Rpl.tail _ (Rpl.head _))) | exact (Rpl.tail _ (Rpl.tail _ (Rpl.tail _ (Rpl.head _)))) | exact (Rpl.tail _ (Rpl.tail _ (Rpl.tail _ (Rpl.tail _ (Rpl.head _))))) | exact (Rpl.tail _ (Rpl.tail _ (Rpl.tail _ (Rpl.tail _ (Rpl.tail _ (Rpl.head _)))))) | exact (Rpl.tail _ (Rpl.tail _ (Rpl.tail _ (Rpl.tail _ (Rpl.tail _ (Rpl.tail _ (Rpl.head _))))))) | exact (Rpl.tail _ (Rpl.tail _ (Rpl.tail _ (Rpl.tail _ (Rpl.tail _ (Rpl.tail _ (Rpl.tail _ (Rpl.head _)))))))) | exact (Rpl.tail _ (Rpl.tail _ (Rpl.tail _ (Rpl.tail _ (Rpl.tail _ (Rpl.tail _ (Rpl.tail _ (Rpl.tail _ (Rpl.head _)))))))))) (fill12 l1 l6) ?_
      intro h7 S7
      have NL7 : NVL K [x, y2] (cs ++ es) := (NVL.single ((N.mono g5).mono g6)).app (NVL.single N6)
      obtain ⟨c1, c2⟩ := NL7.shape
      obtain ⟨M, g8, S8, F8, _⟩ := Fz.built (sz := 6) (n := 2) S7 c1 c2
      have N8 : NS M _ [x, y2] := ⟨by simp [lim], _, F8, NL7.mono g8⟩
      refine Ev.call (send_ok S8 N8) ?_
      rintro _ _ ⟨cs9, rfl, N9, S9⟩
      obtain ⟨l9, o9, q9⟩ := N9.shape
      refine wt fun _ _ => ?_
      refine (binary_loop HP g f (j + 1) M A L _ p s6 st3 _ y cs9 z st' b3 b4 ?_ z1 z2 (T6.mono g8) N9 hm).mono (NPost.le ((g5.trans g6).trans g8))
      exact Sy.dropL (by assumption)

theorem binary_ok {P : PF} (HP : NOk 83 P) (g f : Nat) : NOk1 81 (binaryL P g f) := by
  intro I A L h p s st x y cs st' S T N hm
  refine Ev.enter (fun n => enter81 n _ _ h) ?_
  unfold s81 s81a1 s81a3
  refine wb fun _ _ _ => ?_; refine wa fun _ _ _ => ?_
  exact binary_loop HP g f 0 _ _ _ _ _ _ _ _ _ _ _ _ _ _ (by assumption) rfl (by first | assumption | exact tc_ones _ | (repeat (first | exact ones_nil | refine ones_cons (by first | rfl | assumption | exact Fz.one (by assumption)) ?_))) T N hm

end Go.Dd

/- Dd, part T9: the program's parser: walks of keywords, messages, cascades, expressions. -/
set_option linter.unusedVariables false
set_option linter.unusedSimpArgs false
set_option maxRecDepth 100000
namespace Go.Dd
open Go.Proofs

theorem Sy.swap {I : Im} {A Q L : Ls} {a b : Pos × Option Ob} {h : Hp} (S : Sy I A Q (a :: b :: L) h) : Sy I A Q (b :: a :: L) h :=
  perm3 ((List.Perm.refl _).append (List.Perm.swap _ _ _)) S
theorem Sy.drop2 {I : Im} {A Q L : Ls} {a b : Pos × Option Ob} {h : Hp} (S : Sy I A Q (a :: b :: L) h) : Sy I A Q (a :: L) h := S.swap.dropL

theorem Sy.drop3 {I : Im} {A Q L : Ls} {a b c : Pos × Option Ob} {h : Hp} (S : Sy I A Q (a :: b :: c :: L) h) : Sy I A Q (a :: b :: L) h :=
  sub3 ((List.Sublist.refl _).append (((List.sublist_cons_self c L).cons_cons b).cons_cons a)) S

theorem Ev.newAt {I : Im} {A Q L L' : Ls} {h : Hp} {k : Nat → DV → Hp → Res} {P : DV → Hp → Prop} {b : Pos} {cs : List DV} (S : Sy I A Q L h) (r : Rpl b none (some (.row .ex cs)) L L')
    (H : ∀ h', Sy I A Q L' h' → Ev (fun m => k m (.p b 0) h') P) : Ev (fun m => bnd (pNewAt b cs h) (k m)) P :=
  Ev.op (v := .p b 0) (h := ⟨h.next, Tr.set (.row .ex cs) b h.bl⟩) rfl (H _ (S.setL r rfl (fun c => Tr.get_set _ _ _ _)))

theorem send_eq {I : Im} {A Q L : Ls} {h : Hp} (S : Sy I A Q L h) {t : List Nat} {x : DV} (hx : x.one = true) :
    Ev (fun n => shD n 86 [.s t, x] h) (fun v h' => v = .a [.i .i64 (Int.ofNat 7), .s t, .i .i64 (Int.ofNat 0), .l0, .l0, x] ∧ Sy I A Q L h') := by
  refine Ev.enter (fun n => enter86 n _ _ h) ?_
  unfold s86
  refine wa fun _ _ _ => ?_; refine wd ?_; refine wt fun _ _ => ?_; refine ws ?_
  exact Ev.ret ⟨rfl, dp⟩

theorem keys_loop {P : PF} (HP : NOk 83 P) (g : Nat) : ∀ (f j : Nat) (I : Im) (B A L : Ls) (h : Hp) (p : Pos) (s x : DV) (st : PSt) (t : List Nat) (xs : List Node) (y : Node) (cells z : List DV) (st' : PSt) (b4 b5 : Pos),
    Sy I (B ++ A) [PS p s st] ((b5, some (.row .ex [.i .i64 (Int.ofNat 7), .s t, .i .i64 (Int.ofNat 0), .l0, .l0, x])) :: (b4, some (.row .ex z)) :: L) h → Gr I 6 B x xs.length cells → NVL I xs cells → z.length = 6 → (∀ v ∈ z, v.one = true) →
    xs.length + f ≤ lim → TS' I s st.toks → keysL P g f t xs st = some (y, st') →
    Ev (fun n => s80a5l (shD n) n (n - j) (.p p 0) (.p b4 0) (.p b5 0) h) (NPost I A L p y st')
  | 0, j, I, B, A, L, h, p, s, x, st, t, xs, y, cells, z, st', b4, b5, S, G, NL, z1, z2, hl, T, hm => by cases hm
  | f + 1, j, I, B, A, L, h, p, s, x, st, t, xs, y, cells, z, st', b4, b5, S, G, NL, z1, z2, hl, T, hm => by
    unfold keysL at hm
    obtain ⟨c, hc, hm⟩ := Option.bind_eq_some_iff.1 hm
    refine Ev.loop j (ll := fun n m => s80a5l (shD n) n m (.p p 0) (.p b4 0) (.p b5 0) h) (bb := fun n m => s80a5b (shD n) n (s80a5l (shD n) n m) (.p p 0) (.p b4 0) (.p b5 0) h) (fun _ _ => rfl) ?_
    have hx := G.one
    unfold s80a5b s80a4
    refine Ev.call (is_ok S T hc) ?_
    rintro _ _ ⟨rfl, S1⟩
    cases c with
    | false =>
      rw [if_neg (by simp)] at hm
      simp only [Option.some.injEq, Prod.mk.injEq] at hm
      obtain ⟨rfl, rfl⟩ := hm
      obtain ⟨J, gJ, S3, N3⟩ := G.nodes NL S1 (by omega)
      refine yj ?_; refine ws ?_; refine wt fun _ _ => ?_; refine ws ?_
      exact Ev.ret ⟨J, s, _, rfl, gJ, dp, T.mono gJ, NV.of (SS.nil J) (SS.nil J) N3⟩
    | true =>
      rw [if_pos rfl] at hm
      obtain ⟨⟨t1, st1⟩, ht, hm⟩ := Option.bind_eq_some_iff.1 hm
      split at hm
      · rename_i hlen
        obtain ⟨⟨y1, st2⟩, hy1, hm⟩ := Option.bind_eq_some_iff.1 hm
        obtain ⟨⟨y2, st3⟩, hy2, hm⟩ := Option.bind_eq_some_iff.1 hm
        obtain ⟨⟨y3, st4⟩, hy3, hm⟩ := Option.bind_eq_some_iff.1 hm
        refine yt ?_; refine wf ?_; refine wl ?_
        refine Ev.call (take_ok S1 T ht) ?_
        rintro _ _ ⟨rfl, s2, S2, T2⟩
        refine Ev.cnd ?_ ?_
        · rw [Bool.and_true]; exact same1S S2 (by first | exact List.Mem.head _ | exact (List.Mem.tail _ (List.Mem.head _)) | exact (List.Mem.tail _ (List.Mem.tail _ (List.Mem.head _))) | exact (List.Mem.tail _ (List.Mem.tail _ (List.Mem.tail _ (List.Mem.head _)))) | exact (List.Mem.tail _ (List.Mem.tail _ (List.Mem.tail _ (List.Mem.tail _ (List.Mem.head _))))) | exact (List.Mem.tail _ (List.Mem.tail _ (List.Mem.tail _ (List.Mem.tail _ (List.Mem.tail _ (List.Mem.head _)))))) | exact (List.Mem.tail _ (List.Mem.tail _ (List.Mem.tail _ (List.Mem.tail _ (List.Mem.tail _ (List.Mem.tail _ (List.Mem.head _))))))) | exact (List.Mem.tail _ (List.Mem.tail _ (List.Mem.tail _ (List.Mem.tail _ (List.Mem.tail _ (List.Mem.tail _ (List.Mem.tail _ (List.Mem.head _)))))))) | exact (List.Mem.tail _ (List.Mem.tail _ (List.Mem.tail _ (List.Mem.tail _ (List.Mem.tail _ (List.Mem.tail _ (List.Mem.tail _ (List.Mem.tail _ (List.Mem.head _)))))))))) rfl rfl (beq_s _)
        refine wp ?_
        refine Ev.sadd (by simp only [lim] at hlen; omega) ?_
        refine wf ?_; refine wu fun _ _ => ?_; refine wf ?_
        have Sr := Sy.res (by assumption)
        refine wl ?_
        refine Ev.call (HP _ _ _ _ _ _ _ _ _ Sr T2 hy1) ?_
        rintro _ _ ⟨J, s5, ds, rfl, g5, S5, T5, N5⟩
        refine Ev.cnd ?_ ?_
        · rw [Bool.and_true]; exact same1S S5 (by first | exact List.Mem.head _ | exact (List.Mem.tail _ (List.Mem.head _)) | exact (List.Mem.tail _ (List.Mem.tail _ (List.Mem.head _))) | exact (List.Mem.tail _ (List.Mem.tail _ (List.Mem.tail _ (List.Mem.head _)))) | exact (List.Mem.tail _ (List.Mem.tail _ (List.Mem.tail _ (List.Mem.tail _ (List.Mem.head _))))) | exact (List.Mem.tail _ (List.Mem.tail _ (List.Mem.tail _ (List.Mem.tail _ (List.Mem.tail _ (List.Mem.head _)))))) | exact (List.Mem.tail _ (List.Mem.tail _ (List.Mem.tail _ (List.Mem.tail _ (List.Mem.tail _ (List.Mem.tail _ (List.Mem.head _))))))) | exact (List.Mem.tail _ (List.Mem.tail _ (List.Mem.tail _ (List.Mem.tail _ (List.Mem.tail _ (List.Mem.tail _ (List.Mem.tail _ (List.Mem.head _)))))))) | exact (List.Mem.tail _ (List.Mem.tail _ (List.Mem.tail _ (List.Mem.tail _ (List.Mem.tail _ (List.Mem.tail _ (List.Mem.tail _ (List.Mem.tail _ (List.Mem.head _)))))))))) rfl hx G.beq
        refine Ev.call (unary_ok g _ _ _ _ _ _ _ _ _ _ _ S5 T5 N5 hy2) ?_
        rintro _ _ ⟨K, s6, es, rfl, g6, S6, T6, N6⟩
        refine Ev.cnd ?_ ?_
        · rw [Bool.and_true]; exact same1S S6 (by first | exact List.Mem.head _ | exact (List.Mem.tail _ (List.Mem.head _)) | exact (List.Mem.tail _ (List.Mem.tail _ (List.Mem.head _))) | exact (List.Mem.tail _ (List.Mem.tail _ (List.Mem.tail _ (List.Mem.head _)))) | exact (List.Mem.tail _ (List.Mem.tail _ (List.Mem.tail _ (List.Mem.tail _ (List.Mem.head _))))) | exact (List.Mem.tail _ (List.Mem.tail _ (List.Mem.tail _ (List.Mem.tail _ (List.Mem.tail _ (List.Mem.head _)))))) | exact (List.Mem.tail _ (List.Mem.tail _ (List.Mem.tail _ (List.Mem.tail _ (List.Mem.tail _ (List.Mem.tail _ (List.Mem.head _))))))) | exact (List.Mem.tail _ (List.Mem.tail _ (List.Mem.tail _ (List.Mem.tail _ (List.Mem.tail _ (List.Mem.tail _ (List.Mem.tail _ (List.Mem.head _)))))))) | exact (List.Mem.tail _ (List.Mem.tail _ (List.Mem.tail _ (List.Mem.tail _ (List.Mem.tail _ (List.Mem.tail _ (List.Mem.tail _ (List.Mem.tail _ (List.Mem.head _)))))))))) rfl hx G.beq
        refine Ev.call (binary_ok HP g g _ _ _ _ _ _ _ _ _ _ _ S6 T6 N6 hy3) ?_
        rintro _ _ ⟨M, s7, fs, rfl, g7, S7, T7, N7⟩
        obtain ⟨l7, o7, q7⟩ := N7.shape
        refine Ev.cnd ?_ ?_
        · rw [Bool.and_true]; exact same1S S7 (by first | exact List.Mem.head _ | exact (List.Mem.tail _ (List.Mem.head _)) | exact (List.Mem.tail _ (List.Mem.tail _ (List.Mem.head _))) | exact (List.Mem.tail _ (List.Mem.tail _ (List.Mem.tail _ (List.Mem.head _)))) | exact (List.Mem.tail _ (List.Mem.tail _ (List.Mem.tail _ (List.Mem.tail _ (List.Mem.head _))))) | exact (List.Mem.tail _ (List.Mem.tail _ (List.Mem.tail _ (List.Mem.tail _ (List.Mem.tail _ (List.Mem.head _)))))) | exact (List.Mem.tail _ (List.Mem.tail _ (List.Mem.tail _ (List.Mem.tail _ (List.Mem.tail _ (List.Mem.tail _ (List.Mem.head _))))))) | exact (List.Mem.tail _ (List.Mem.tail _ (List.Mem.tail _ (List.Mem.tail _ (List.Mem.tail _ (List.Mem.tail _ (List.Mem.tail _ (List.Mem.head _)))))))) | exact (List.Mem.tail _ (List.Mem.tail _ (List.Mem.tail _ (List.Mem.tail _ (List.Mem.tail _ (List.Mem.tail _ (List.Mem.tail _ (List.Mem.tail _ (List.Mem.head _)))))))))) rfl hx G.beq
        refine Ev.bsAt0 S7 (by first | exact Rpl.head _ | exact (Rpl.tail _ (Rpl.head _)) | exact (Rpl.tail _ (Rpl.tail _ (Rpl.head _))) | exact (Rpl.tail _ (Rpl.tail _ (Rpl.tail _ (Rpl.head _)))) | exact (Rpl.tail _ (Rpl.tail _ (Rpl.tail _ (Rpl.tail _ (Rpl.head _))))) | exact (Rpl.tail _ (Rpl.tail _ (Rpl.tail _ (Rpl.tail _ (Rpl.tail _ (Rpl.head _)))))) | exact (Rpl.tail _ (Rpl.tail _ (Rpl.tail _ (Rpl.tail _ (Rpl.tail _ (Rpl.tail _ (Rpl.head _))))))) | exact (Rpl.tail _ (Rpl.tail _ (Rpl.tail _ (Rpl.tail _ (Rpl.tail _ (Rpl.tail _ (Rpl.tail _ (Rpl.head _)))))))) | exact (Rpl.tail _ (Rpl.tail _ (Rpl.tail _ (Rpl.tail _ (Rpl.tail _ (Rpl.tail _ (Rpl.tail _ (Rpl.tail _ (Rpl.head _)))))))))) (fill6 l7) ?_
        intro h8 S8
        have g57 := (g5.trans g6).trans g7
        obtain ⟨x10, h10, B10, cells10, e10, S10, G10, NL10⟩ := app_node (G.mono g57) (NL.mono g57) N7 S8 (by first | exact List.Mem.head _ | exact (List.Mem.tail _ (List.Mem.head _)) | exact (List.Mem.tail _ (List.Mem.tail _ (List.Mem.head _))) | exact (List.Mem.tail _ (List.Mem.tail _ (List.Mem.tail _ (List.Mem.head _)))) | exact (List.Mem.tail _ (List.Mem.tail _ (List.Mem.tail _ (List.Mem.tail _ (List.Mem.head _))))) | exact (List.Mem.tail _ (List.Mem.tail _ (List.Mem.tail _ (List.Mem.tail _ (List.Mem.tail _ (List.Mem.head _)))))) | exact (List.Mem.tail _ (List.Mem.tail _ (List.Mem.tail _ (List.Mem.tail _ (List.Mem.tail _ (List.Mem.tail _ (List.Mem.head _))))))) | exact (List.Mem.tail _ (List.Mem.tail _ (List.Mem.tail _ (List.Mem.tail _ (List.Mem.tail _ (List.Mem.tail _ (List.Mem.tail _ (List.Mem.head _)))))))) | exact (List.Mem.tail _ (List.Mem.tail _ (List.Mem.tail _ (List.Mem.tail _ (List.Mem.tail _ (List.Mem.tail _ (List.Mem.tail _ (List.Mem.tail _ (List.Mem.head _)))))))))) (by omega)
        have hx10 := G10.one
        refine Ev.op e10 ?_
        refine wf ?_; refine wu fun _ _ => ?_
        refine (keys_loop HP g f (j + 1) M B10 A L _ p s7 x10 st4 (t ++ t1.text) (xs ++ [y3]) y cells10 z st' b4 b5 ?_ G10 NL10 z1 z2 (by simp; omega) T7 hm).mono (NPost.le g57)
        exact Sy.dropL (by assumption)
      · cases hm

theorem keys_ok {P : PF} (HP : NOk 83 P) (g : Nat) (hg : g + 1 ≤ lim) : NOk1 80 (keysS P g) := by
  intro I A L h p s st x y cs st' S T N hm
  unfold keysS at hm
  obtain ⟨c, hc, hm⟩ := Option.bind_eq_some_iff.1 hm
  obtain ⟨l1, o1, q1⟩ := N.shape
  refine Ev.enter (fun n => enter80 n _ _ h) ?_
  unfold s80 s80a1
  refine wb fun _ _ _ => ?_; refine wa fun _ _ _ => ?_
  refine Ev.call (is_ok (by assumption) T hc) ?_
  rintro _ _ ⟨rfl, S1⟩
  cases c with
  | false =>
    refine ao ?_; refine yt ?_; refine ws ?_; refine wt fun _ _ => ?_; refine ws ?_
    rw [if_neg (by simp)] at hm
    simp only [Option.some.injEq, Prod.mk.injEq] at hm
    obtain ⟨rfl, rfl⟩ := hm
    exact Ev.ret ⟨I, s, cs, rfl, ILe.refl _, dp, T, N⟩
  | true =>
    rw [if_pos rfl] at hm
    unfold s80a2 s80a3 s80a5
    refine an ?_; refine yj ?_; refine ws ?_
    refine Ev.bs S1 (fill6 l1) ?_
    intro b2 h2 S2
    obtain ⟨J, gJ, S4, F4, G4⟩ := Fz.built (sz := 6) (n := 1) S2 (by omega) o1
    refine Ev.call (send_eq S4 rfl) ?_
    rintro _ _ ⟨rfl, S5⟩
    refine wa fun _ _ _ => ?_; refine wt fun _ _ => ?_
    exact (keys_loop HP g g 0 J [] A L _ p s _ st [] [x] y cs _ st' _ _ (Sy.drop3 (by assumption)) G4 (NVL.single (N.mono gJ)) (by rfl) (by first | assumption | exact tc_ones _ | (repeat (first | exact ones_nil | refine ones_cons (by first | rfl | assumption | exact Fz.one (by assumption)) ?_))) (by simp; omega) (T.mono gJ) hm).mono (NPost.le gJ)

theorem msg_ok {P : PF} (HP : NOk 83 P) (g : Nat) (hg : g + 1 ≤ lim) : NOk 85 (msgS P g) := by
  intro I A L h p s st x st' S T hm
  unfold msgS at hm
  obtain ⟨t, ht, hm⟩ := Option.bind_eq_some_iff.1 hm
  refine Ev.enter (fun n => enter85 n _ h) ?_
  unfold s85
  refine wa fun _ _ _ => ?_; refine wa fun _ _ _ => ?_
  refine Ev.call (look_ok (k := 0) (by assumption) T ht) ?_
  rintro _ _ ⟨rfl, S1⟩
  refine wa fun _ _ _ => ?_; refine wt fun _ _ => ?_; refine wf ?_; refine wl ?_
  have NZ : ∀ J : Im, NV J zN [.i .i64 (Int.ofNat 0), .s [], .i .i64 (Int.ofNat 0), .l0, .l0, .l0] := fun J => NV.flat _ _ _
  have ZO : ∀ v ∈ [DV.i .i64 (Int.ofNat 0), .s [], .i .i64 (Int.ofNat 0), .l0, .l0, .l0], v.one = true := by first | assumption | exact tc_ones _ | (repeat (first | exact ones_nil | refine ones_cons (by first | rfl | assumption | exact Fz.one (by assumption)) ?_))
  refine Ev.ieq (fun e1 => ?_) (fun e1 => ?_)
  · rw [if_pos (show t.kind = 1 from e1)] at hm
    obtain ⟨⟨t1, st1⟩, ht1, hm⟩ := Option.bind_eq_some_iff.1 hm
    simp only [Option.some.injEq, Prod.mk.injEq] at hm
    obtain ⟨rfl, rfl⟩ := hm
    refine yt ?_
    refine Ev.call (take_ok (by assumption) T ht1) ?_
    rintro _ _ ⟨rfl, s2, S2, T2⟩
    refine wf ?_; refine wl ?_; refine ws ?_
    refine Ev.bs S2 (fill6 rfl) ?_
    intro b3 h3 S3
    obtain ⟨J, gJ, S4, F4, _⟩ := Fz.built (sz := 6) (n := 1) S3 rfl ZO
    have N4 : NS J _ [zN] := ⟨by simp [lim], _, F4, NVL.single (NZ J)⟩
    refine Ev.call (send_ok S4 N4) ?_
    rintro _ _ ⟨cs5, rfl, N5, S5⟩
    obtain ⟨l5, o5, b5⟩ := N5.shape
    refine wt fun _ _ => ?_; refine ws ?_
    exact Ev.ret ⟨J, s2, _, rfl, gJ, dp, T2.mono gJ, N5⟩
  · rw [if_neg (show ¬ t.kind = 1 from e1)] at hm
    refine yj ?_
    refine Ev.ieq (fun e2 => ?_) (fun e2 => ?_)
    · rw [if_pos (show t.kind = 3 from e2)] at hm
      obtain ⟨⟨t1, st1⟩, ht1, hm⟩ := Option.bind_eq_some_iff.1 hm
      obtain ⟨⟨y1, st2⟩, hy1, hm⟩ := Option.bind_eq_some_iff.1 hm
      obtain ⟨⟨y2, st3⟩, hy2, hm⟩ := Option.bind_eq_some_iff.1 hm
      simp only [Option.some.injEq, Prod.mk.injEq] at hm
      obtain ⟨rfl, rfl⟩ := hm
      refine yt ?_
      refine Ev.call (take_ok (by assumption) T ht1) ?_
      rintro _ _ ⟨rfl, s2, S2, T2⟩
      have Sr := S2.res
      refine wf ?_; refine wl ?_; refine ws ?_
      refine Ev.call (HP _ _ _ _ _ _ _ _ _ Sr T2 hy1) ?_
      rintro _ _ ⟨J, s5, ds, rfl, g5, S5, T5, N5⟩
      refine Ev.cnd ?_ ?_
      · rw [sameA (n := 6) S5 (by first | exact List.Mem.head _ | exact (List.Mem.tail _ (List.Mem.head _)) | exact (List.Mem.tail _ (List.Mem.tail _ (List.Mem.head _))) | exact (List.Mem.tail _ (List.Mem.tail _ (List.Mem.tail _ (List.Mem.head _)))) | exact (List.Mem.tail _ (List.Mem.tail _ (List.Mem.tail _ (List.Mem.tail _ (List.Mem.head _))))) | exact (List.Mem.tail _ (List.Mem.tail _ (List.Mem.tail _ (List.Mem.tail _ (List.Mem.tail _ (List.Mem.head _)))))) | exact (List.Mem.tail _ (List.Mem.tail _ (List.Mem.tail _ (List.Mem.tail _ (List.Mem.tail _ (List.Mem.tail _ (List.Mem.head _))))))) | exact (List.Mem.tail _ (List.Mem.tail _ (List.Mem.tail _ (List.Mem.tail _ (List.Mem.tail _ (List.Mem.tail _ (List.Mem.tail _ (List.Mem.head _)))))))) | exact (List.Mem.tail _ (List.Mem.tail _ (List.Mem.tail _ (List.Mem.tail _ (List.Mem.tail _ (List.Mem.tail _ (List.Mem.tail _ (List.Mem.tail _ (List.Mem.head _)))))))))) rfl ZO (NZ J).shape.2.2, same1S S5 (by first | exact List.Mem.head _ | exact (List.Mem.tail _ (List.Mem.head _)) | exact (List.Mem.tail _ (List.Mem.tail _ (List.Mem.head _))) | exact (List.Mem.tail _ (List.Mem.tail _ (List.Mem.tail _ (List.Mem.head _)))) | exact (List.Mem.tail _ (List.Mem.tail _ (List.Mem.tail _ (List.Mem.tail _ (List.Mem.head _))))) | exact (List.Mem.tail _ (List.Mem.tail _ (List.Mem.tail _ (List.Mem.tail _ (List.Mem.tail _ (List.Mem.head _)))))) | exact (List.Mem.tail _ (List.Mem.tail _ (List.Mem.tail _ (List.Mem.tail _ (List.Mem.tail _ (List.Mem.tail _ (List.Mem.head _))))))) | exact (List.Mem.tail _ (List.Mem.tail _ (List.Mem.tail _ (List.Mem.tail _ (List.Mem.tail _ (List.Mem.tail _ (List.Mem.tail _ (List.Mem.head _)))))))) | exact (List.Mem.tail _ (List.Mem.tail _ (List.Mem.tail _ (List.Mem.tail _ (List.Mem.tail _ (List.Mem.tail _ (List.Mem.tail _ (List.Mem.tail _ (List.Mem.head _)))))))))) rfl rfl (beq_s _)]; rfl
      refine Ev.call (unary_ok g _ _ _ _ _ _ _ _ _ _ _ S5 T5 N5 hy2) ?_
      rintro _ _ ⟨K, s6, es, rfl, g6, S6, T6, N6⟩
      obtain ⟨l6, o6, q6⟩ := N6.shape
      refine Ev.cnd ?_ ?_
      · rw [sameA (n := 6) S6 (by first | exact List.Mem.head _ | exact (List.Mem.tail _ (List.Mem.head _)) | exact (List.Mem.tail _ (List.Mem.tail _ (List.Mem.head _))) | exact (List.Mem.tail _ (List.Mem.tail _ (List.Mem.tail _ (List.Mem.head _)))) | exact (List.Mem.tail _ (List.Mem.tail _ (List.Mem.tail _ (List.Mem.tail _ (List.Mem.head _))))) | exact (List.Mem.tail _ (List.Mem.tail _ (List.Mem.tail _ (List.Mem.tail _ (List.Mem.tail _ (List.Mem.head _)))))) | exact (List.Mem.tail _ (List.Mem.tail _ (List.Mem.tail _ (List.Mem.tail _ (List.Mem.tail _ (List.Mem.tail _ (List.Mem.head _))))))) | exact (List.Mem.tail _ (List.Mem.tail _ (List.Mem.tail _ (List.Mem.tail _ (List.Mem.tail _ (List.Mem.tail _ (List.Mem.tail _ (List.Mem.head _)))))))) | exact (List.Mem.tail _ (List.Mem.tail _ (List.Mem.tail _ (List.Mem.tail _ (List.Mem.tail _ (List.Mem.tail _ (List.Mem.tail _ (List.Mem.tail _ (List.Mem.head _)))))))))) rfl ZO (NZ J).shape.2.2, same1S S6 (by first | exact List.Mem.head _ | exact (List.Mem.tail _ (List.Mem.head _)) | exact (List.Mem.tail _ (List.Mem.tail _ (List.Mem.head _))) | exact (List.Mem.tail _ (List.Mem.tail _ (List.Mem.tail _ (List.Mem.head _)))) | exact (List.Mem.tail _ (List.Mem.tail _ (List.Mem.tail _ (List.Mem.tail _ (List.Mem.head _))))) | exact (List.Mem.tail _ (List.Mem.tail _ (List.Mem.tail _ (List.Mem.tail _ (List.Mem.tail _ (List.Mem.head _)))))) | exact (List.Mem.tail _ (List.Mem.tail _ (List.Mem.tail _ (List.Mem.tail _ (List.Mem.tail _ (List.Mem.tail _ (List.Mem.head _))))))) | exact (List.Mem.tail _ (List.Mem.tail _ (List.Mem.tail _ (List.Mem.tail _ (List.Mem.tail _ (List.Mem.tail _ (List.Mem.tail _ (List.Mem.head _)))))))) | exact (List.Mem.tail _ (List.Mem.tail _ (List.Mem.tail _ (List.Mem.tail _ (List.Mem.tail _ (List.Mem.tail _ (List.Mem.tail _ (List.Mem.tail _ (List.Mem.head _)))))))))) rfl rfl (beq_s _)]; rfl
      refine Ev.bsAt0 S6 (by first | exact Rpl.head _ | exact (Rpl.tail _ (Rpl.head _)) | exact (Rpl.tail _ (Rpl.tail _ (Rpl.head _))) | exact (Rpl.tail _ (Rpl.tail _ (Rpl.tail _ (Rpl.head _)))) | exact (Rpl.tail _ (Rpl.tail _ (Rpl.tail _ (Rpl.tail _ (Rpl.head _))))) | exact (Rpl.tail _ (Rpl.tail _ (Rpl.tail _ (Rpl.tail _ (Rpl.tail _ (Rpl.head _)))))) | exact (Rpl.tail _ (Rpl.tail _ (Rpl.tail _ (Rpl.tail _ (Rpl.tail _ (Rpl.tail _ (Rpl.head _))))))) | exact (Rpl.tail _ (Rpl.tail _ (Rpl.tail _ (Rpl.tail _ (Rpl.tail _ (Rpl.tail _ (Rpl.tail _ (Rpl.head _)))))))) | exact (Rpl.tail _ (Rpl.tail _ (Rpl.tail _ (Rpl.tail _ (Rpl.tail _ (Rpl.tail _ (Rpl.tail _ (Rpl.tail _ (Rpl.head _)))))))))) (fill12 rfl l6) ?_
      intro h7 S7
      have NL7 : NVL K [zN, y2] (_ ++ es) := (NVL.single (NZ K)).app (NVL.single N6)
      obtain ⟨c1, c2⟩ := NL7.shape
      obtain ⟨M, g8, S8, F8, _⟩ := Fz.built (sz := 6) (n := 2) S7 c1 c2
      have N8 : NS M _ [zN, y2] := ⟨by simp [lim], _, F8, NL7.mono g8⟩
      refine Ev.call (send_ok S8 N8) ?_
      rintro _ _ ⟨cs9, rfl, N9, S9⟩
      obtain ⟨l9, o9, q9⟩ := N9.shape
      refine wt fun _ _ => ?_; refine ws ?_
      exact Ev.ret ⟨M, s6, _, rfl, (g5.trans g6).trans g8, dp, T6.mono g8, N9⟩
    · rw [if_neg (show ¬ t.kind = 3 from e2)] at hm
      refine yj ?_
      refine Ev.ieq (fun e3 => ?_) (fun e3 => ?_)
      · rw [if_pos (show t.kind = 2 from e3)] at hm
        refine yt ?_; refine ws ?_
        refine Ev.call (keys_ok HP g hg _ _ _ _ _ _ _ _ _ _ _ (by assumption) T (NZ I) hm) ?_
        rintro _ _ ⟨J, s5, ds, rfl, g5, S5, T5, N5⟩
        obtain ⟨l5, o5, q5⟩ := N5.shape
        refine wt fun _ _ => ?_; refine ws ?_
        exact Ev.ret ⟨J, s5, _, rfl, g5, dp, T5, N5⟩
      · rw [if_neg (show ¬ t.kind = 2 from e3)] at hm
        simp only [Option.some.injEq, Prod.mk.injEq] at hm
        obtain ⟨rfl, rfl⟩ := hm
        refine yj ?_; refine ws ?_
        refine Ev.call (fail_ok (by assumption) T.2.one t _) ?_
        rintro _ _ ⟨rfl, S6⟩
        refine ws ?_; refine wt fun _ _ => ?_; refine ws ?_
        exact Ev.ret ⟨I, s, _, rfl, ILe.refl _, dp, by rw [failS_toks]; exact T, NZ I⟩

theorem cas_loop {P : PF} (HP : NOk 83 P) (g : Nat) (hg : g + 1 ≤ lim) : ∀ (f j : Nat) (I : Im) (B A L : Ls) (h : Hp) (p : Pos) (s x : DV) (st : PSt) (xs : List Node) (y : Node) (cells z : List DV) (st' : PSt) (b2 b4 : Pos),
    Sy I (B ++ A) [PS p s st] ((b4, some (.row .ex [.i .i64 (Int.ofNat 8), .s [], .i .i64 (Int.ofNat 0), .l0, .l0, x])) :: (b2, some (.row .ex z)) :: L) h → Gr I 6 B x xs.length cells → NVL I xs cells → z.length = 6 → (∀ v ∈ z, v.one = true) →
    xs.length + f ≤ lim → TS' I s st.toks → casL P g f xs st = some (y, st') →
    Ev (fun n => s72a7l (shD n) n (n - j) (.p p 0) (.p b2 0) (.p b4 0) h) (NPost I A L p y st')
  | 0, j, I, B, A, L, h, p, s, x, st, xs, y, cells, z, st', b2, b4, S, G, NL, z1, z2, hl, T, hm => by cases hm
  | f + 1, j, I, B, A, L, h, p, s, x, st, xs, y, cells, z, st', b2, b4, S, G, NL, z1, z2, hl, T, hm => by
    unfold casL at hm
    obtain ⟨c, hc, hm⟩ := Option.bind_eq_some_iff.1 hm
    refine Ev.loop j (ll := fun n m => s72a7l (shD n) n m (.p p 0) (.p b2 0) (.p b4 0) h) (bb := fun n m => s72a7b (shD n) n (s72a7l (shD n) n m) (.p p 0) (.p b2 0) (.p b4 0) h) (fun _ _ => rfl) ?_
    have hx := G.one
    unfold s72a7b s72a6
    refine Ev.call (is_ok S T hc) ?_
    rintro _ _ ⟨rfl, S1⟩
    cases c with
    | false =>
      rw [if_neg (by simp)] at hm
      simp only [Option.some.injEq, Prod.mk.injEq] at hm
      obtain ⟨rfl, rfl⟩ := hm
      obtain ⟨J, gJ, S3, N3⟩ := G.nodes NL S1 (by omega)
      refine yj ?_; refine ws ?_; refine wt fun _ _ => ?_; refine ws ?_
      exact Ev.ret ⟨J, s, _, rfl, gJ, dp, T.mono gJ, NV.of (SS.nil J) (SS.nil J) N3⟩
    | true =>
      rw [if_pos rfl] at hm
      obtain ⟨⟨t1, st1⟩, ht, hm⟩ := Option.bind_eq_some_iff.1 hm
      obtain ⟨⟨y1, st2⟩, hy1, hm⟩ := Option.bind_eq_some_iff.1 hm
      refine yt ?_
      refine Ev.call (take_ok S1 T ht) ?_
      rintro _ _ ⟨rfl, s2, S2, T2⟩
      have Sr := S2.res
      refine wf ?_; refine wl ?_
      refine Ev.call (msg_ok HP g hg _ _ _ _ _ _ _ _ _ Sr T2 hy1) ?_
      rintro _ _ ⟨J, s5, ds, rfl, g5, S5, T5, N5⟩
      refine Ev.cnd ?_ ?_
      · rw [Bool.and_true]; exact same1S S5 (by first | exact List.Mem.head _ | exact (List.Mem.tail _ (List.Mem.head _)) | exact (List.Mem.tail _ (List.Mem.tail _ (List.Mem.head _))) | exact (List.Mem.tail _ (List.Mem.tail _ (List.Mem.tail _ (List.Mem.head _)))) | exact (List.Mem.tail _ (List.Mem.tail _ (List.Mem.tail _ (List.Mem.tail _ (List.Mem.head _))))) | exact (List.Mem.tail _ (List.Mem.tail _ (List.Mem.tail _ (List.Mem.tail _ (List.Mem.tail _ (List.Mem.head _)))))) | exact (List.Mem.tail _ (List.Mem.tail _ (List.Mem.tail _ (List.Mem.tail _ (List.Mem.tail _ (List.Mem.tail _ (List.Mem.head _))))))) | exact (List.Mem.tail _ (List.Mem.tail _ (List.Mem.tail _ (List.Mem.tail _ (List.Mem.tail _ (List.Mem.tail _ (List.Mem.tail _ (List.Mem.head _)))))))) | exact (List.Mem.tail _ (List.Mem.tail _ (List.Mem.tail _ (List.Mem.tail _ (List.Mem.tail _ (List.Mem.tail _ (List.Mem.tail _ (List.Mem.tail _ (List.Mem.head _)))))))))) rfl hx G.beq
      refine Ev.call (message_ok S5 N5) ?_
      rintro _ _ ⟨K, es, rfl, g6, S6, N6⟩
      obtain ⟨l6, o6, q6⟩ := N6.shape
      refine Ev.cnd ?_ ?_
      · rw [Bool.and_true]; exact same1S S6 (by first | exact List.Mem.head _ | exact (List.Mem.tail _ (List.Mem.head _)) | exact (List.Mem.tail _ (List.Mem.tail _ (List.Mem.head _))) | exact (List.Mem.tail _ (List.Mem.tail _ (List.Mem.tail _ (List.Mem.head _)))) | exact (List.Mem.tail _ (List.Mem.tail _ (List.Mem.tail _ (List.Mem.tail _ (List.Mem.head _))))) | exact (List.Mem.tail _ (List.Mem.tail _ (List.Mem.tail _ (List.Mem.tail _ (List.Mem.tail _ (List.Mem.head _)))))) | exact (List.Mem.tail _ (List.Mem.tail _ (List.Mem.tail _ (List.Mem.tail _ (List.Mem.tail _ (List.Mem.tail _ (List.Mem.head _))))))) | exact (List.Mem.tail _ (List.Mem.tail _ (List.Mem.tail _ (List.Mem.tail _ (List.Mem.tail _ (List.Mem.tail _ (List.Mem.tail _ (List.Mem.head _)))))))) | exact (List.Mem.tail _ (List.Mem.tail _ (List.Mem.tail _ (List.Mem.tail _ (List.Mem.tail _ (List.Mem.tail _ (List.Mem.tail _ (List.Mem.tail _ (List.Mem.head _)))))))))) rfl hx G.beq
      refine Ev.bsAt0 S6 (by first | exact Rpl.head _ | exact (Rpl.tail _ (Rpl.head _)) | exact (Rpl.tail _ (Rpl.tail _ (Rpl.head _))) | exact (Rpl.tail _ (Rpl.tail _ (Rpl.tail _ (Rpl.head _)))) | exact (Rpl.tail _ (Rpl.tail _ (Rpl.tail _ (Rpl.tail _ (Rpl.head _))))) | exact (Rpl.tail _ (Rpl.tail _ (Rpl.tail _ (Rpl.tail _ (Rpl.tail _ (Rpl.head _)))))) | exact (Rpl.tail _ (Rpl.tail _ (Rpl.tail _ (Rpl.tail _ (Rpl.tail _ (Rpl.tail _ (Rpl.head _))))))) | exact (Rpl.tail _ (Rpl.tail _ (Rpl.tail _ (Rpl.tail _ (Rpl.tail _ (Rpl.tail _ (Rpl.tail _ (Rpl.head _)))))))) | exact (Rpl.tail _ (Rpl.tail _ (Rpl.tail _ (Rpl.tail _ (Rpl.tail _ (Rpl.tail _ (Rpl.tail _ (Rpl.tail _ (Rpl.head _)))))))))) (fill6 l6) ?_
      intro h8 S8
      have g56 := g5.trans g6
      obtain ⟨x10, h10, B10, cells10, e10, S10, G10, NL10⟩ := app_node (G.mono g56) (NL.mono g56) N6 S8 (by first | exact List.Mem.head _ | exact (List.Mem.tail _ (List.Mem.head _)) | exact (List.Mem.tail _ (List.Mem.tail _ (List.Mem.head _))) | exact (List.Mem.tail _ (List.Mem.tail _ (List.Mem.tail _ (List.Mem.head _)))) | exact (List.Mem.tail _ (List.Mem.tail _ (List.Mem.tail _ (List.Mem.tail _ (List.Mem.head _))))) | exact (List.Mem.tail _ (List.Mem.tail _ (List.Mem.tail _ (List.Mem.tail _ (List.Mem.tail _ (List.Mem.head _)))))) | exact (List.Mem.tail _ (List.Mem.tail _ (List.Mem.tail _ (List.Mem.tail _ (List.Mem.tail _ (List.Mem.tail _ (List.Mem.head _))))))) | exact (List.Mem.tail _ (List.Mem.tail _ (List.Mem.tail _ (List.Mem.tail _ (List.Mem.tail _ (List.Mem.tail _ (List.Mem.tail _ (List.Mem.head _)))))))) | exact (List.Mem.tail _ (List.Mem.tail _ (List.Mem.tail _ (List.Mem.tail _ (List.Mem.tail _ (List.Mem.tail _ (List.Mem.tail _ (List.Mem.tail _ (List.Mem.head _)))))))))) (by omega)
      have hx10 := G10.one
      refine Ev.op e10 ?_
      refine wf ?_; refine wu fun _ _ => ?_
      refine (cas_loop HP g hg f (j + 1) K B10 A L _ p s5 x10 st2 (xs ++ [msgN y1]) y cells10 z st' b2 b4 ?_ G10 NL10 z1 z2 (by simp; omega) (T5.mono g6) hm).mono (NPost.le g56)
      exact Sy.dropL (by assumption)

theorem cascade_ok {P : PF} (HP : NOk 83 P) (g : Nat) (hg : g + 2 ≤ lim) : NOk 72 (cascadeS P g) := by
  intro I A L h p s st x st' S T hm
  unfold cascadeS at hm
  obtain ⟨⟨y1, st1⟩, hy1, hm⟩ := Option.bind_eq_some_iff.1 hm
  obtain ⟨⟨y2, st2⟩, hy2, hm⟩ := Option.bind_eq_some_iff.1 hm
  obtain ⟨⟨y3, st3⟩, hy3, hm⟩ := Option.bind_eq_some_iff.1 hm
  obtain ⟨⟨y4, st4⟩, hy4, hm⟩ := Option.bind_eq_some_iff.1 hm
  obtain ⟨c, hc, hm⟩ := Option.bind_eq_some_iff.1 hm
  refine Ev.enter (fun n => enter72 n _ h) ?_
  unfold s72 s72a1
  refine wa fun _ _ _ => ?_
  refine Ev.call (HP _ _ _ _ _ _ _ _ _ (by assumption) T hy1) ?_
  rintro _ _ ⟨J1, s1, c1, rfl, g1, S1, T1, N1⟩
  refine Ev.call (unary_ok g _ _ _ _ _ _ _ _ _ _ _ S1 T1 N1 hy2) ?_
  rintro _ _ ⟨J2, s2, c2, rfl, g2, S2, T2, N2⟩
  refine Ev.call (binary_ok HP g g _ _ _ _ _ _ _ _ _ _ _ S2 T2 N2 hy3) ?_
  rintro _ _ ⟨J3, s3, c3, rfl, g3, S3, T3, N3⟩
  refine Ev.call (keys_ok HP g (by omega) _ _ _ _ _ _ _ _ _ _ _ S3 T3 N3 hy4) ?_
  rintro _ _ ⟨J4, s4, c4, rfl, g4, S4, T4, N4⟩
  have g14 := ((g1.trans g2).trans g3).trans g4
  obtain ⟨l4, o4, q4⟩ := N4.shape
  refine wa fun _ _ _ => ?_; refine wt fun _ _ => ?_
  unfold s72a2
  refine Ev.call (is_ok (by assumption) T4 hc) ?_
  rintro _ _ ⟨rfl, S5⟩
  cases c with
  | false =>
    rw [if_neg (by simp)] at hm
    simp only [Option.some.injEq, Prod.mk.injEq] at hm
    obtain ⟨rfl, rfl⟩ := hm
    refine ao ?_; refine yt ?_; refine ws ?_; refine wt fun _ _ => ?_; refine ws ?_
    exact Ev.ret ⟨J4, s4, _, rfl, g14, dp, T4, N4⟩
  | true =>
    rw [if_pos rfl] at hm
    have N4' := N4
    obtain ⟨k, t, m, ns, ts, ks⟩ := y4
    obtain ⟨d1, d2, d3, rfl, a1, a2, a3, cells, F, NL⟩ := N4
    have o1 := a1.2.one
    have o2 := a2.2.one
    have o3 := F.one
    unfold s72a3
    refine an ?_; refine yj ?_; refine wf ?_; refine wl ?_
    refine Ev.ine (fun e1 => ?_) (fun e1 => ?_)
    · rw [if_neg (show ¬ Node.kind (.mk k t m ns ts ks) = 7 from e1)] at hm
      obtain ⟨u, hu, hm⟩ := Option.bind_eq_some_iff.1 hm
      simp only [Option.some.injEq, Prod.mk.injEq] at hm
      obtain ⟨rfl, rfl⟩ := hm
      refine yt ?_
      refine Ev.call (look_ok (k := 0) (by assumption) T4 hu) ?_
      rintro _ _ ⟨rfl, S6⟩
      refine Ev.call (fail_ok S6 T4.2.one u _) ?_
      rintro _ _ ⟨rfl, S7⟩
      refine ws ?_; refine wt fun _ _ => ?_; refine ws ?_
      exact Ev.ret ⟨J4, s4, _, rfl, g14, dp, by rw [failS_toks]; exact T4, N4'⟩
    · rw [if_pos (show Node.kind (.mk k t m ns ts ks) = 7 from e1)] at hm
      obtain ⟨k0, hk0, hm⟩ := Option.bind_eq_some_iff.1 hm
      refine yj ?_
      unfold s72a4
      rename_i bx _ _ by' _ _ _ _
      have Sr : Sy J4 A [PS p s4 st4] ((_, none) :: (_, none) :: _) (resv 2 _) := S5.res.res
      have NS3 : NS J4 d3 ks := ⟨a3, cells, F, NL⟩
      obtain ⟨b6, o6, c6, i6, N6, L6⟩ := NS3.at (i := 0) hk0
      refine wf ?_; refine wl ?_
      refine Ev.op (i6 _) (Ev.op (L6 J4 _ _ _ _ (ILe.refl _) Sr) ?_)
      refine ws ?_
      refine Ev.call (message_ok Sr N4') ?_
      rintro _ _ ⟨K, es, rfl, g7, S7, N7⟩
      obtain ⟨l7, o7, q7⟩ := N7.shape
      obtain ⟨l6, o6', q6⟩ := N6.shape
      refine Ev.cnd ?_ ?_
      · rw [L6 K _ _ _ _ g7 S7, same1S S7 (by first | exact List.Mem.head _ | exact (List.Mem.tail _ (List.Mem.head _)) | exact (List.Mem.tail _ (List.Mem.tail _ (List.Mem.head _))) | exact (List.Mem.tail _ (List.Mem.tail _ (List.Mem.tail _ (List.Mem.head _)))) | exact (List.Mem.tail _ (List.Mem.tail _ (List.Mem.tail _ (List.Mem.tail _ (List.Mem.head _))))) | exact (List.Mem.tail _ (List.Mem.tail _ (List.Mem.tail _ (List.Mem.tail _ (List.Mem.tail _ (List.Mem.head _)))))) | exact (List.Mem.tail _ (List.Mem.tail _ (List.Mem.tail _ (List.Mem.tail _ (List.Mem.tail _ (List.Mem.tail _ (List.Mem.head _))))))) | exact (List.Mem.tail _ (List.Mem.tail _ (List.Mem.tail _ (List.Mem.tail _ (List.Mem.tail _ (List.Mem.tail _ (List.Mem.tail _ (List.Mem.head _)))))))) | exact (List.Mem.tail _ (List.Mem.tail _ (List.Mem.tail _ (List.Mem.tail _ (List.Mem.tail _ (List.Mem.tail _ (List.Mem.tail _ (List.Mem.tail _ (List.Mem.head _)))))))))) rfl o3 F.beq]
        simpa [sameR] using q6
      refine Ev.bsAt0 S7 (by first | exact Rpl.head _ | exact (Rpl.tail _ (Rpl.head _)) | exact (Rpl.tail _ (Rpl.tail _ (Rpl.head _))) | exact (Rpl.tail _ (Rpl.tail _ (Rpl.tail _ (Rpl.head _)))) | exact (Rpl.tail _ (Rpl.tail _ (Rpl.tail _ (Rpl.tail _ (Rpl.head _))))) | exact (Rpl.tail _ (Rpl.tail _ (Rpl.tail _ (Rpl.tail _ (Rpl.tail _ (Rpl.head _)))))) | exact (Rpl.tail _ (Rpl.tail _ (Rpl.tail _ (Rpl.tail _ (Rpl.tail _ (Rpl.tail _ (Rpl.head _))))))) | exact (Rpl.tail _ (Rpl.tail _ (Rpl.tail _ (Rpl.tail _ (Rpl.tail _ (Rpl.tail _ (Rpl.tail _ (Rpl.head _)))))))) | exact (Rpl.tail _ (Rpl.tail _ (Rpl.tail _ (Rpl.tail _ (Rpl.tail _ (Rpl.tail _ (Rpl.tail _ (Rpl.tail _ (Rpl.head _)))))))))) (fill12 l6 l7) ?_
      intro h8 S8
      have NL8 : NVL K [k0, msgN (.mk k t m ns ts ks)] (c6 ++ es) := (NVL.single (N6.mono g7)).app (NVL.single N7)
      obtain ⟨e8, e9⟩ := NL8.shape
      obtain ⟨M, g9, S9, F9, G9⟩ := Fz.built (sz := 6) (n := 2) S8.swap e8 e9
      refine wd ?_
      refine Ev.newAt S9 (Rpl.head _) ?_
      intro h10 S10
      refine wt fun _ _ => ?_
      unfold s72a5 s72a7
      refine (cas_loop HP g (by omega) g 0 M [] A L _ p s4 _ st4 [k0, msgN (.mk k t m ns ts ks)] x (c6 ++ es) _ st' _ _ (Sy.drop2 (by assumption)) G9 (NL8.mono g9) (by rfl) (by first | assumption | exact tc_ones _ | (repeat (first | exact ones_nil | refine ones_cons (by first | rfl | assumption | exact Fz.one (by assumption)) ?_))) (by simp; omega) ((T4.mono g7).mono g9) hm).mono (NPost.le ((g14.trans g7).trans g9))

theorem expr_ok {P E : PF} (HP : NOk 83 P) (HE : NOk 53 E) (g : Nat) (hg : g + 2 ≤ lim) : NOk 53 (exprS P E g) := by
  intro I A L h p s st x st' S T hm
  unfold exprS at hm
  obtain ⟨c, hc, hm⟩ := Option.bind_eq_some_iff.1 hm
  obtain ⟨d, hd, hm2⟩ := Option.bind_eq_some_iff.1 hm
  refine Ev.enter (fun n => enter53 n _ h) ?_
  unfold s53
  refine wa fun _ _ _ => ?_
  refine Ev.call (is_ok (by assumption) T hc) ?_
  rintro _ _ ⟨rfl, S1⟩
  have cas : d = false → ∀ (b1 : Pos) (z : List DV) h', z.length = 6 → (∀ v ∈ z, v.one = true) → Sy I A [PS p s st] ((b1, some (.row .ex z)) :: L) h' →
      Ev (fun n => bnd (shD n 72 [.p p 0] h') fun v21 h21 => bnd (pStore 6 (.p b1 0) v21 h21) fun _ h22 => bnd (pLoadA 6 (.p b1 0) h22) fun v23 _ => some (v23, h22)) (NPost I A L p x st') := by
    intro hd0 b1 z h' z1 z2 S'
    subst hd0
    rw [if_neg (by simp)] at hm2
    refine Ev.call (cascade_ok HP g hg _ _ _ _ _ _ _ _ _ S' T hm2) ?_
    rintro _ _ ⟨J, s5, ds, rfl, g5, S5, T5, N5⟩
    obtain ⟨l5, o5, q5⟩ := N5.shape
    refine wt fun _ _ => ?_; refine ws ?_
    exact Ev.ret ⟨J, s5, _, rfl, g5, dp, T5, N5⟩
  cases c with
  | false =>
    simp only [Bool.false_eq_true, if_false, Option.some.injEq] at hd
    have C := cas hd.symm _ _ _ rfl (by first | assumption | exact tc_ones _ | (repeat (first | exact ones_nil | refine ones_cons (by first | rfl | assumption | exact Fz.one (by assumption)) ?_))) S1
    refine yf ?_; refine yf ?_; refine yf ?_; refine yf ?_; refine aq ?_; refine yj ?_
    exact C
  | true =>
    rw [if_pos rfl] at hd
    obtain ⟨t, ht, hd⟩ := Option.bind_eq_some_iff.1 hd
    simp only [Option.some.injEq] at hd
    refine zt ?_; refine wm ?_; refine zt ?_
    refine Ev.call (look_ok (k := 1) S1 T ht) ?_
    rintro _ _ ⟨rfl, S2⟩
    refine zt ?_; refine wp ?_; refine zt ?_
    refine Ev.ieq (fun e1 => ?_) (fun e1 => ?_)
    · rw [decide_eq_true (show t.kind = 9 from e1)] at hd
      subst hd
      rw [if_pos rfl] at hm2
      obtain ⟨⟨t1, st1⟩, ht1, hm2⟩ := Option.bind_eq_some_iff.1 hm2
      obtain ⟨⟨t2, st2⟩, ht2, hm2⟩ := Option.bind_eq_some_iff.1 hm2
      obtain ⟨⟨y, st3⟩, hy, hm2⟩ := Option.bind_eq_some_iff.1 hm2
      simp only [Option.some.injEq, Prod.mk.injEq] at hm2
      obtain ⟨rfl, rfl⟩ := hm2
      refine ap ?_; refine yt ?_
      refine Ev.call (take_ok S2 T ht1) ?_
      rintro _ _ ⟨rfl, s3, S3, T3⟩
      refine wp ?_; refine wd ?_; refine wa fun _ _ _ => ?_; refine wt fun _ _ => ?_
      refine Ev.call (take_ok (by assumption) T3 ht2) ?_
      rintro _ _ ⟨rfl, s4, S4, T4⟩
      refine Ev.call (HE _ _ _ _ _ _ _ _ _ S4 T4 hy) ?_
      rintro _ _ ⟨J, s5, ds, rfl, g5, S5, T5, N5⟩
      obtain ⟨l5, o5, q5⟩ := N5.shape
      refine Ev.bs S5 (fill6 l5) ?_
      intro b6 h6 S6
      obtain ⟨K, g7, S7, F7, _⟩ := Fz.built (sz := 6) (n := 1) S6 (by omega) o5
      have N7 : NS K _ [y] := ⟨by simp [lim], ds, F7, NVL.single (N5.mono g7)⟩
      refine wf ?_; refine wu fun _ _ => ?_; refine ws ?_; refine wt fun _ _ => ?_; refine ws ?_
      exact Ev.ret ⟨K, s5, _, rfl, g5.trans g7, dp, T5.mono g7, NV.of (SS.nil K) (SS.nil K) N7⟩
    · rw [decide_eq_false (show ¬ t.kind = 9 from e1)] at hd
      have C := cas hd.symm _ _ _ rfl (by first | assumption | exact tc_ones _ | (repeat (first | exact ones_nil | refine ones_cons (by first | rfl | assumption | exact Fz.one (by assumption)) ?_))) S2
      refine ap ?_; refine yj ?_
      exact C

theorem exprF_ok : ∀ (f : Nat), f + 2 ≤ lim → NOk 53 (exprF f)
  | 0, _ => fun I A L h p s st x st' S T hm => by cases hm
  | f + 1, hf => expr_ok (primary_ok (lit_ok f (by omega)) (exprF_ok f (by omega)) f (by omega)) (exprF_ok f (by omega)) f (by omega)

end Go.Dd

/- Dd, part T10: the program's lexer: bytes, runs of bytes, names, numbers. -/
set_option linter.unusedVariables false
set_option linter.unusedSimpArgs false
set_option maxRecDepth 100000
namespace Go.Dd
open Go.Proofs

/-! ### Bytes -/
def letterB (c : Nat) : Bool := (decide (97 ≤ c) && decide (c ≤ 122)) || (decide (65 ≤ c) && decide (c ≤ 90))
def digitB (c : Nat) : Bool := decide (48 ≤ c) && decide (c ≤ 57)
def nameB (c : Nat) : Bool := letterB c || digitB c
def textB (c : Nat) : Bool := !decide (c = 39)
def inB (l : List Nat) (c : Nat) : Bool := l.contains c

section
variable {k : Nat → DV → Hp → Res} {P : DV → Hp → Prop} {h : Hp}
theorem Ev.lenS {l : List Nat} (H : Ev (fun n => k n (.i .i64 (l.length : Int)) h) P) : Ev (fun n => bnd (pLenS (.s l) h) (k n)) P := H
theorem idxS {l : List Nat} {i c : Nat} (e : l[i]? = some c) (h : Hp) : pIndexS (.s l) (.i .i64 (i : Int)) h = some (.i .u8 (Int.ofNat c), h) := by
  show (if 0 ≤ (i : Int) then (match l[(i : Int).toNat]? with
    | some c => some (DV.i .u8 (c : Int), h)
    | none => none) else none) = _
  rw [if_pos (by omega), show (i : Int).toNat = i by omega, e]
  rfl
theorem cutS {l : List Nat} {a b : Nat} (h1 : a ≤ b) (h2 : b ≤ l.length) (h : Hp) : pSliceS (.s l) (some (.i .i64 (a : Int))) (some (.i .i64 (b : Int))) h = some (.s ((l.take b).drop a), h) := by
  have e1 : hiD (some (.i .i64 (b : Int))) l.length l.length = some b := by
    show (if 0 ≤ (b : Int) ∧ (b : Int) ≤ (l.length : Int) then some (b : Int).toNat else none) = _
    rw [if_pos ⟨by omega, by omega⟩]; rfl
  have e2 : loD (some (.i .i64 (a : Int))) b = some a := by
    show (if 0 ≤ (a : Int) ∧ (a : Int) ≤ (b : Int) then some (a : Int).toNat else none) = _
    rw [if_pos ⟨by omega, by omega⟩]; rfl
  simp only [pSliceS, e1, e2]
theorem cutE {l : List Nat} {a : Nat} (h1 : a ≤ l.length) (h : Hp) : pSliceS (.s l) (some (.i .i64 (a : Int))) none h = some (.s (l.drop a), h) := by
  have e1 : hiD none l.length l.length = some l.length := by simp [hiD]
  have e2 : loD (some (.i .i64 (a : Int))) l.length = some a := by
    show (if 0 ≤ (a : Int) ∧ (a : Int) ≤ (l.length : Int) then some (a : Int).toNat else none) = _
    rw [if_pos ⟨by omega, by omega⟩]; rfl
  simp only [pSliceS, e1, e2, List.take_length]
end

theorem enter65 (n : Nat) (x : DV) (h : Hp) : shD (n + 1) 65 [x] h = s65 (shD n) n x h := by kernel_rfl
theorem enter68 (n : Nat) (x : DV) (h : Hp) : shD (n + 1) 68 [x] h = s68 (shD n) n x h := by kernel_rfl
theorem enter78 (n : Nat) (x : DV) (h : Hp) : shD (n + 1) 78 [x] h = s78 (shD n) n x h := by kernel_rfl
theorem enter79 (n : Nat) (x : DV) (h : Hp) : shD (n + 1) 79 [x] h = s79 (shD n) n x h := by kernel_rfl
theorem enter62 (n : Nat) (x y : DV) (h : Hp) : shD (n + 1) 62 [x, y] h = s62 (shD n) n x y h := by kernel_rfl
theorem enter48 (n : Nat) (x : DV) (h : Hp) : shD (n + 1) 48 [x] h = s48 (shD n) n x h := by kernel_rfl
theorem enter49 (n : Nat) (x y : DV) (h : Hp) : shD (n + 1) 49 [x, y] h = s49 (shD n) n x y h := by kernel_rfl
theorem enter63 (n : Nat) (x y : DV) (h : Hp) : shD (n + 1) 63 [x, y] h = s63 (shD n) n x y h := by kernel_rfl
theorem enter64 (n : Nat) (x y : DV) (h : Hp) : shD (n + 1) 64 [x, y] h = s64 (shD n) n x y h := by kernel_rfl
theorem enter47 (n : Nat) (x y z : DV) (h : Hp) : shD (n + 1) 47 [x, y, z] h = s47 (shD n) n x y z h := by kernel_rfl
theorem enter66 (n : Nat) (x : DV) (h : Hp) : shD (n + 1) 66 [x] h = s66 (shD n) n x h := by kernel_rfl
theorem enter67 (n : Nat) (x : DV) (h : Hp) : shD (n + 1) 67 [x] h = s67 (shD n) n x h := by kernel_rfl
theorem call62 (rec : FuncId → List DV → Hp → Res) (x y : DV) (h : Hp) : pCall CF rec (.f 62 [] [y]) [x] h = rec 62 [x, y] h := by kernel_rfl
theorem call68 (rec : FuncId → List DV → Hp → Res) (x : DV) (h : Hp) : pCall CF rec (.f 68 [] []) [x] h = rec 68 [x] h := by kernel_rfl
theorem call78 (rec : FuncId → List DV → Hp → Res) (x : DV) (h : Hp) : pCall CF rec (.f 78 [] []) [x] h = rec 78 [x] h := by kernel_rfl
theorem call79 (rec : FuncId → List DV → Hp → Res) (x : DV) (h : Hp) : pCall CF rec (.f 79 [] []) [x] h = rec 79 [x] h := by kernel_rfl

theorem letter_ok (c : Nat) (h : Hp) : Ev (fun n => shD n 65 [.i .u8 (Int.ofNat c)] h) (fun v h' => v = .b (letterB c) ∧ h' = h) := by
  refine Ev.enter (fun n => enter65 n _ h) ?_
  unfold s65
  refine Ev.ige (fun e1 => ?_) (fun e1 => ?_)
  · refine zt ?_; refine wm ?_; refine zt ?_
    refine Ev.ile (fun e2 => ?_) (fun e2 => ?_)
    · refine ap ?_; refine yg ?_; refine yg ?_; refine yg ?_; refine yu ?_; refine yu ?_; refine yg ?_; refine ap ?_
      exact Ev.ret ⟨by simp at e1 e2; simp [letterB]; omega, rfl⟩
    · refine ap ?_; refine zf ?_; refine wm ?_; refine zf ?_
      refine Ev.ige (fun e3 => ?_) (fun e3 => ?_)
      · refine zf ?_; refine wm ?_; refine zt ?_; refine wm ?_; refine zt ?_
        refine Ev.ile (fun e4 => ?_) (fun e4 => ?_)
        · refine zf ?_; refine ap ?_; refine aq ?_
          exact Ev.ret ⟨by simp at e1 e2 e3 e4; omega, rfl⟩
        · refine zf ?_; refine ap ?_; refine aq ?_
          exact Ev.ret ⟨by simp at e1 e2 e3 e4; simp [letterB]; omega, rfl⟩
      · refine zf ?_; refine wm ?_; refine yf ?_; refine yf ?_; refine zf ?_; refine aq ?_; refine aq ?_
        exact Ev.ret ⟨by simp at e1 e2 e3; omega, rfl⟩
  · refine yf ?_; refine yf ?_; refine aq ?_; refine zf ?_; refine wm ?_; refine zf ?_
    refine Ev.ige (fun e3 => ?_) (fun e3 => ?_)
    · refine zf ?_; refine wm ?_; refine zt ?_; refine wm ?_; refine zt ?_
      refine Ev.ile (fun e4 => ?_) (fun e4 => ?_)
      · refine zf ?_; refine ap ?_; refine aq ?_
        exact Ev.ret ⟨by simp at e1 e3 e4; simp [letterB]; omega, rfl⟩
      · refine zf ?_; refine ap ?_; refine aq ?_
        exact Ev.ret ⟨by simp at e1 e3 e4; simp [letterB]; omega, rfl⟩
    · refine zf ?_; refine wm ?_; refine yf ?_; refine yf ?_; refine zf ?_; refine aq ?_; refine aq ?_
      exact Ev.ret ⟨by simp at e1 e3; simp [letterB]; omega, rfl⟩

theorem digit_ok (c : Nat) (h : Hp) : Ev (fun n => shD n 68 [.i .u8 (Int.ofNat c)] h) (fun v h' => v = .b (digitB c) ∧ h' = h) := by
  refine Ev.enter (fun n => enter68 n _ h) ?_
  unfold s68
  refine Ev.ige (fun e1 => ?_) (fun e1 => ?_)
  · refine zt ?_; refine wm ?_; refine zt ?_
    refine Ev.ile (fun e2 => ?_) (fun e2 => ?_)
    · refine ap ?_
      exact Ev.ret ⟨by simp at e1 e2; simp [digitB]; omega, rfl⟩
    · refine ap ?_
      exact Ev.ret ⟨by simp at e1 e2; simp [digitB]; omega, rfl⟩
  · refine yf ?_; refine yf ?_; refine aq ?_
    exact Ev.ret ⟨by simp at e1; simp [digitB]; omega, rfl⟩

/-- What a closure over bytes says, wherever it is called. -/
def CSpec (I : Im) (f : DV) (so : Nat → Bool) : Prop := ∀ (J : Im) (A Q L : Ls) (h : Hp) (c : Nat), ILe I J → Sy J A Q L h → c < 256 → Ev (fun n => pCall CF (shD n) f [.i .u8 (Int.ofNat c)] h) (fun v h' => v = .b (so c) ∧ h' = h)

theorem digit_c (I : Im) : CSpec I (.f 68 [] []) digitB := by
  intro J A Q L h c _ _ _
  simp only [call68]
  exact digit_ok c h

theorem name_c (I : Im) : CSpec I (.f 78 [] []) nameB := by
  intro J A Q L h c _ _ _
  simp only [call78]
  refine Ev.enter (fun n => enter78 n _ h) ?_
  unfold s78
  refine Ev.call (letter_ok c h) ?_
  rintro _ _ ⟨rfl, rfl⟩
  cases e : letterB c with
  | true =>
    refine yg ?_; refine yg ?_; refine ap ?_
    exact Ev.ret ⟨by simp [nameB, e], rfl⟩
  | false =>
    refine zf ?_; refine wm ?_; refine zf ?_
    refine Ev.call (digit_ok c _) ?_
    rintro _ _ ⟨rfl, rfl⟩
    refine aq ?_
    exact Ev.ret ⟨by simp [nameB, e], rfl⟩

theorem text_c (I : Im) : CSpec I (.f 79 [] []) textB := by
  intro J A Q L h c _ _ _
  simp only [call79]
  refine Ev.enter (fun n => enter79 n _ h) ?_
  unfold s79
  refine Ev.ine (fun e1 => ?_) (fun e1 => ?_)
  · exact Ev.ret ⟨by simp at e1; simp [textB]; omega, rfl⟩
  · exact Ev.ret ⟨by simp at e1; simp [textB]; omega, rfl⟩

theorem idx_ge (c : Nat) : ∀ (l : List Nat) (i : Nat), decide (0 ≤ idxGo c l i) = l.contains c
  | [], i => rfl
  | x :: l, i => by
    have ih := idx_ge c l (i + 1)
    unfold idxGo
    cases e : Nat.beq x c with
    | true =>
      have e2 := Nat.eq_of_beq_eq_true e
      subst e2
      simp
    | false =>
      have e2 : ¬ x = c := fun e2 => by subst e2; simp at e
      simp only [cond_false, ih]
      have e3 : ¬ c = x := fun e3 => e2 e3.symm
      simp [e3]

theorem index_ok (l : List Nat) (c : Nat) (hc : c < 256) (h : Hp) : Ev (fun n => shD n 49 [.s l, .i .u8 (Int.ofNat c)] h) (fun v h' => v = .i .i64 (idxGo c l 0) ∧ h' = h) := by
  refine Ev.enter (fun n => enter49 n _ _ h) ?_
  unfold s49
  refine Ev.call (F := fun n => shD n 63 [.s l, .i .u8 (Int.ofNat c)] h) (Q := fun v h' => v = .i .i64 (idxGo c l 0) ∧ h' = h) ?_ ?_
  · refine Ev.enter (fun n => enter63 n _ _ h) ?_
    unfold s63
    have e : idxF [.s l, .i .u8 (Int.ofNat c)] h = some (.i .i64 (idxGo c l 0), h) := by
      have e2 : Nat.blt c 256 = true := by simpa [Nat.blt_eq] using hc
      show (bif Nat.blt c 256 then some (DV.i IntKind.i64 (idxGo c l 0), h) else none) = _
      rw [e2]
      rfl
    refine Ev.op e ?_
    exact Ev.ret ⟨rfl, rfl⟩
  · rintro _ _ ⟨rfl, rfl⟩
    exact Ev.ret ⟨rfl, rfl⟩

/-- 'in': a closure over a text. -/
theorem in_ok {I : Im} {A Q L : Ls} {h : Hp} (S : Sy I A Q L h) (l : List Nat) :
    Ev (fun n => shD n 48 [.s l] h) (fun v h' => ∃ J, ILe I J ∧ Sy J A Q L h' ∧ CSpec J v (inB l)) := by
  refine Ev.enter (fun n => enter48 n _ h) ?_
  unfold s48
  refine Ev.box S rfl ?_
  intro b h1 S1
  obtain ⟨S2, g⟩ := S1.freeze
  refine Ev.ret ⟨_, g, S2, ?_⟩
  intro J A' Q' L' h' c gJ S' hc
  simp only [call62]
  refine Ev.enter (fun n => enter62 n _ _ h') ?_
  unfold s62
  refine Ev.ld (S'.im _ _ (gJ _ _ (Im.put_same _ _ _))) rfl rfl ?_
  refine Ev.call (index_ok l c hc h') ?_
  rintro _ _ ⟨rfl, rfl⟩
  refine Ev.op (pInt_eq .geq (.b (decide (idxGo c l 0 ≥ Int.ofNat 0))) rfl) ?_
  refine Ev.ret ⟨?_, rfl⟩
  rw [show (decide (idxGo c l 0 ≥ Int.ofNat 0)) = l.contains c from idx_ge c l 0]
  rfl

/-! ### The reader -/
def RS (r : Pos) (s : List Nat) (at_ : Nat) : Pos × Option Ob := (r, some (.row .ex [.s s, .i .i64 (at_ : Int)]))

/-- So many bytes are so, at most some. -/
def runN (so : Nat → Bool) : Nat → List Nat → Nat
  | 0, _ => 0
  | _ + 1, [] => 0
  | m + 1, c :: u => if so c then runN so m u + 1 else 0

def nextB (s : List Nat) (i : Nat) : Nat := s.getD i 0

theorem runN_le (so : Nat → Bool) : ∀ (m : Nat) (u : List Nat), runN so m u ≤ u.length
  | 0, _ => by simp [runN]
  | _ + 1, [] => by simp [runN]
  | m + 1, c :: u => by
    have := runN_le so m u
    simp only [runN, List.length_cons]
    split <;> omega

section
variable {I : Im} {A L : Ls} {h : Hp} {r : Pos} {s : List Nat} {i : Nat}

theorem wrapN (n : Nat) (h : n ≤ 1000000000000) : IntKind.i64.wrap (n : Int) = (n : Int) := wrap64s _ (by omega) (by omega)

theorem byte_ok (S : Sy I A [RS r s i] L h) (hs : s.length ≤ lim) (hi : i ≤ s.length) (k : Nat) (hk : k ≤ 2) :
    Ev (fun n => shD n 64 [.p r 0, .i .i64 (Int.ofNat k)] h) (fun v h' => v = .i .u8 (Int.ofNat (nextB s (i + k))) ∧ h' = h) := by
  refine Ev.enter (fun n => enter64 n _ _ h) ?_
  unfold s64
  have e0 : IntKind.i64.wrap ((i : Int) + Int.ofNat k) = ((i + k : Nat) : Int) := by
    rw [show (i : Int) + Int.ofNat k = ((i + k : Nat) : Int) by simp]
    exact wrapN _ (by simp only [lim] at hs; omega)
  refine wn ?_; refine wf ?_; refine wq ?_
  refine Ev.iadd ?_
  rw [e0]
  refine wn ?_; refine wf ?_; refine wq ?_
  refine Ev.lenS ?_
  refine Ev.ige (fun e1 => ?_) (fun e1 => ?_)
  · refine yt ?_
    have e2 : s.length ≤ i + k := by omega
    exact Ev.ret ⟨by simp [nextB, List.getD, List.getElem?_eq_none e2], rfl⟩
  · refine yj ?_; refine wn ?_; refine wf ?_; refine wq ?_; refine wn ?_; refine wf ?_; refine wq ?_
    refine Ev.iadd ?_
    rw [e0]
    have e2 : i + k < s.length := by omega
    refine Ev.op (idxS (c := s[i + k]) (by simp [e2]) _) ?_
    exact Ev.ret ⟨by simp [nextB, List.getD, e2], rfl⟩

theorem run_loop {f : DV} {so : Nat → Bool} (C : CSpec I f so) (hs : s.length ≤ lim) (hb : ∀ c ∈ s, c < 256) (from_ : Nat) : ∀ (m j i : Nat) (h : Hp) (most : Nat), Sy I A [RS r s i] L h → from_ ≤ i → i ≤ s.length → (i - from_) + m = most → most ≤ lim →
    Ev (fun n => s47a4l (shD n) n (n - j) (.p r 0) f (.i .i64 (most : Int)) (.i .i64 (from_ : Int)) h) (fun v h' => v = .s ((s.take (i + runN so m (s.drop i))).drop from_) ∧ Sy I A [RS r s (i + runN so m (s.drop i))] L h') := by
  intro m
  induction m with
  | zero =>
    intro j i h most S h1 h2 h3 h4
    refine Ev.loop j (ll := fun n m => s47a4l (shD n) n m (.p r 0) f (.i .i64 (most : Int)) (.i .i64 (from_ : Int)) h) (bb := fun n m => s47a4b (shD n) n (s47a4l (shD n) n m) (.p r 0) f (.i .i64 (most : Int)) (.i .i64 (from_ : Int)) h) (fun _ _ => rfl) ?_
    unfold s47a4b s47a3
    refine wn ?_; refine wf ?_; refine wq ?_; refine wn ?_; refine wf ?_; refine wq ?_
    refine Ev.lenS ?_
    have fin : Ev (fun n => bnd (pSliceS (.s s) (some (.i .i64 (from_ : Int))) (some (.i .i64 (i : Int))) h) fun v7 h7 => some (v7, h7)) (fun v h' => v = .s ((s.take (i + runN so 0 (s.drop i))).drop from_) ∧ Sy I A [RS r s (i + runN so 0 (s.drop i))] L h') :=
      Ev.op (cutS h1 h2 h) (Ev.ret ⟨by simp [runN], by simpa [runN] using S⟩)
    refine Ev.ilt (fun e1 => ?_) (fun e1 => ?_)
    · refine zt ?_; refine wm ?_; refine zt ?_; refine wn ?_; refine zt ?_; refine wf ?_; refine zt ?_; refine wq ?_; refine zt ?_; refine wm ?_; refine zt ?_
      refine Ev.isub ?_
      rw [show (i : Int) - (from_ : Int) = ((i - from_ : Nat) : Int) by omega, wrapN _ (by simp only [lim] at hs; omega)]
      refine zt ?_; refine wm ?_; refine zt ?_
      refine Ev.ilt (fun e2 => ?_) (fun e2 => ?_)
      · omega
      · refine ap ?_; refine yf ?_; refine yf ?_; refine yf ?_; refine yf ?_; refine yf ?_; refine yf ?_; refine yf ?_; refine yf ?_; refine yf ?_; refine yf ?_; refine yf ?_; refine aq ?_; refine yj ?_; refine wn ?_; refine wf ?_; refine wq ?_; refine wn ?_; refine wf ?_; refine wq ?_
        exact fin
    · refine yf ?_; refine yf ?_; refine yf ?_; refine yf ?_; refine yf ?_; refine yf ?_; refine yf ?_; refine yf ?_; refine aq ?_; refine yf ?_; refine yf ?_; refine yf ?_; refine yf ?_; refine yf ?_; refine yf ?_; refine yf ?_; refine yf ?_; refine yf ?_; refine yf ?_; refine yf ?_; refine aq ?_; refine yj ?_; refine wn ?_; refine wf ?_; refine wq ?_; refine wn ?_; refine wf ?_; refine wq ?_
      exact fin
  | succ m ih =>
    intro j i h most S h1 h2 h3 h4
    refine Ev.loop j (ll := fun n m => s47a4l (shD n) n m (.p r 0) f (.i .i64 (most : Int)) (.i .i64 (from_ : Int)) h) (bb := fun n m => s47a4b (shD n) n (s47a4l (shD n) n m) (.p r 0) f (.i .i64 (most : Int)) (.i .i64 (from_ : Int)) h) (fun _ _ => rfl) ?_
    unfold s47a4b s47a3
    refine wn ?_; refine wf ?_; refine wq ?_; refine wn ?_; refine wf ?_; refine wq ?_
    refine Ev.lenS ?_
    have fin : runN so (m + 1) (s.drop i) = 0 → Ev (fun n => bnd (pSliceS (.s s) (some (.i .i64 (from_ : Int))) (some (.i .i64 (i : Int))) h) fun v7 h7 => some (v7, h7)) (fun v h' => v = .s ((s.take (i + runN so (m + 1) (s.drop i))).drop from_) ∧ Sy I A [RS r s (i + runN so (m + 1) (s.drop i))] L h') := fun e0 => by
      rw [e0]
      exact Ev.op (cutS h1 h2 h) (Ev.ret ⟨rfl, S⟩)
    refine Ev.ilt (fun e1 => ?_) (fun e1 => ?_)
    · have e1' : i < s.length := by omega
      have hd : s.drop i = s[i] :: s.drop (i + 1) := List.drop_eq_getElem_cons e1'
      refine zt ?_; refine wm ?_; refine zt ?_; refine wn ?_; refine zt ?_; refine wf ?_; refine zt ?_; refine wq ?_; refine zt ?_; refine wm ?_; refine zt ?_
      refine Ev.isub ?_
      rw [show (i : Int) - (from_ : Int) = ((i - from_ : Nat) : Int) by omega, wrapN _ (by simp only [lim] at hs; omega)]
      refine zt ?_; refine wm ?_; refine zt ?_
      refine Ev.ilt (fun e2 => ?_) (fun e2 => ?_)
      · refine ap ?_; refine zt ?_; refine wm ?_; refine zt ?_; refine wm ?_; refine zt ?_; refine wn ?_; refine zt ?_; refine wf ?_; refine zt ?_; refine wq ?_; refine zt ?_; refine wm ?_; refine zt ?_; refine wn ?_; refine zt ?_; refine wf ?_; refine zt ?_; refine wq ?_; refine zt ?_
        refine Ev.op (idxS (c := s[i]) (by simp [e1']) _) ?_
        refine zt ?_
        refine Ev.call (C I _ _ _ _ s[i] (ILe.refl _) S (hb _ (List.getElem_mem e1'))) ?_
        rintro _ _ ⟨rfl, rfl⟩
        refine ap ?_
        cases e3 : so s[i] with
        | false =>
          refine yj ?_; refine wn ?_; refine wf ?_; refine wq ?_; refine wn ?_; refine wf ?_; refine wq ?_
          exact fin (by rw [hd]; simp [runN, e3])
        | true =>
          refine yt ?_; refine wn ?_; refine wf ?_; refine wq ?_
          refine Ev.iadd ?_
          have e4 : IntKind.i64.wrap ((i : Int) + Int.ofNat 1) = ((i + 1 : Nat) : Int) := by
            rw [show (i : Int) + Int.ofNat 1 = ((i + 1 : Nat) : Int) by simp]
            exact wrapN _ (by simp only [lim] at hs; omega)
          rw [e4]
          refine wn ?_; refine wf ?_; refine wv fun _ _ => ?_
          have := ih (j + 1) (i + 1) _ most (by assumption) (by omega) (by omega) (by omega) h4
          have e5 : i + 1 + runN so m (s.drop (i + 1)) = i + runN so (m + 1) (s.drop i) := by
            rw [hd]
            simp [runN, e3]
            omega
          rw [e5] at this
          exact this
      · omega
    · refine yf ?_; refine yf ?_; refine yf ?_; refine yf ?_; refine yf ?_; refine yf ?_; refine yf ?_; refine yf ?_; refine aq ?_; refine yf ?_; refine yf ?_; refine yf ?_; refine yf ?_; refine yf ?_; refine yf ?_; refine yf ?_; refine yf ?_; refine yf ?_; refine yf ?_; refine yf ?_; refine aq ?_; refine yj ?_; refine wn ?_; refine wf ?_; refine wq ?_; refine wn ?_; refine wf ?_; refine wq ?_
      have e1' : s.drop i = [] := List.drop_eq_nil_of_le (by omega)
      exact fin (by rw [e1']; rfl)

/-- What a run of bytes is. -/
theorem run_ok {f : DV} {so : Nat → Bool} (C : CSpec I f so) (S : Sy I A [RS r s i] L h) (hs : s.length ≤ lim) (hb : ∀ c ∈ s, c < 256) (hi : i ≤ s.length) (most : Nat) (hm : most ≤ lim) :
    Ev (fun n => shD n 47 [.p r 0, f, .i .i64 (most : Int)] h) (fun v h' => v = .s ((s.drop i).take (runN so most (s.drop i))) ∧ Sy I A [RS r s (i + runN so most (s.drop i))] L h') := by
  refine Ev.enter (fun n => enter47 n _ _ _ h) ?_
  unfold s47 s47a1 s47a2 s47a4
  refine wn ?_; refine wf ?_; refine wq ?_
  refine (run_loop C hs hb i most 0 i h most S (Nat.le_refl _) hi (by omega) hm).mono ?_
  rintro v h' ⟨rfl, S'⟩
  refine ⟨?_, S'⟩
  rw [List.drop_take, Nat.add_sub_cancel_left]

end
end Go.Dd

/- Dd, part T11: the program's lexer: names, numbers, texts, symbols. -/
set_option linter.unusedVariables false
set_option linter.unusedSimpArgs false
set_option maxRecDepth 100000
namespace Go.Dd
open Go.Proofs

theorem runN_tw (so : Nat → Bool) : ∀ (u : List Nat) (m : Nat), u.length ≤ m → runN so m u = (u.takeWhile so).length
  | [], 0, _ => rfl
  | [], _ + 1, _ => rfl
  | c :: u, 0, h => by simp at h
  | c :: u, m + 1, h => by
    have := runN_tw so u m (by simpa using h)
    simp only [runN, this]
    cases e : so c <;> simp [e]

theorem take_tw (so : Nat → Bool) : ∀ (u : List Nat), u.take (u.takeWhile so).length = u.takeWhile so
  | [] => rfl
  | c :: u => by
    have := take_tw so u
    cases e : so c <;> simp [e, this]

theorem tw_le (so : Nat → Bool) : ∀ (u : List Nat), (u.takeWhile so).length ≤ u.length
  | [] => Nat.le_refl _
  | c :: u => by
    have := tw_le so u
    cases e : so c <;> simp [e]
    omega

theorem tw_all (so : Nat → Bool) : ∀ (u : List Nat) (c : Nat), c ∈ u.takeWhile so → so c = true
  | [], c, h => by simp at h
  | d :: u, c, h => by
    cases e : so d with
    | false => simp [e] at h
    | true =>
      simp [e] at h
      rcases h with rfl | h
      · exact e
      · exact tw_all so u c h

/-! ### What it says: of the bytes from here on -/
def nx (u : List Nat) (k : Nat) : Nat := u.getD k 0
def nameM (u : List Nat) : List Nat × Int × Nat := if 24 < (u.takeWhile nameB).length then ([], 12, (u.takeWhile nameB).length) else (u.takeWhile nameB, 0, (u.takeWhile nameB).length)
def colonM (u : List Nat) : Bool := decide (nx u 0 = 58) && !decide (nx u 1 = 61)
def numGo : Int → List Nat → Int × Int
  | n, [] => (n, 0)
  | n, c :: w => if 115292150460684697 < n then (0, 2) else if 1152921504606846976 < n * 10 + ((c : Int) - 48) then (0, 2) else numGo (n * 10 + ((c : Int) - 48)) w
def numberM (u : List Nat) : Int × Int × Nat := ((numGo 0 (u.takeWhile digitB)).1, (numGo 0 (u.takeWhile digitB)).2, (u.takeWhile digitB).length)
def textM : Nat → List Nat → List Nat → Option (List Nat × Int × Nat)
  | 0, _, _ => none
  | f + 1, out, u =>
    if (u.takeWhile textB).length = u.length then some ([], 11, u.length)
    else if nx u ((u.takeWhile textB).length + 1) = 39 then
      (textM f (out ++ u.takeWhile textB ++ [39]) (u.drop ((u.takeWhile textB).length + 2))).bind fun r => some (r.1, r.2.1, r.2.2 + ((u.takeWhile textB).length + 2))
    else some (out ++ u.takeWhile textB, 0, (u.takeWhile textB).length + 1)
def signs : List Nat := [43, 45, 42, 47, 60, 62, 61, 126, 44, 64, 38, 37]
def marks : List Nat := [94, 46, 59, 40, 41, 91, 93, 124]
def blanks : List Nat := [9, 10, 13, 32]
def symL : Nat → List Nat → List Nat → Option (List Nat × Int × Nat)
  | 0, _, _ => none
  | f + 1, out, u =>
    if letterB (nx u 0) then
      if colonM (u.drop (nameM u).2.2) then
        if (nameM u).2.1 = 0 then (symL f (out ++ ((nameM u).1 ++ [58])) (u.drop ((nameM u).2.2 + 1))).bind fun r => some (r.1, r.2.1, r.2.2 + ((nameM u).2.2 + 1))
        else some ([], (nameM u).2.1, (nameM u).2.2 + 1)
      else some (out, 0, 0)
    else some (out, 0, 0)
def symbolM (f : Nat) (u : List Nat) : Option (List Nat × Int × Nat) :=
  if runN (inB signs) 2 u = 0 then
    if letterB (nx u 0) then
      if (nameM u).2.1 = 0 then
        if colonM (u.drop (nameM u).2.2) then (symL f ((nameM u).1 ++ [58]) (u.drop ((nameM u).2.2 + 1))).bind fun r => some (r.1, r.2.1, r.2.2 + ((nameM u).2.2 + 1))
        else some ((nameM u).1, 0, (nameM u).2.2)
      else some ((nameM u).1, (nameM u).2.1, (nameM u).2.2)
    else some ([], 10, 0)
  else some (u.take (runN (inB signs) 2 u), 0, runN (inB signs) 2 u)

theorem nx_drop (s : List Nat) (i k : Nat) : nextB s (i + k) = nx (s.drop i) k := by simp [nextB, nx, List.getD, List.getElem?_drop]

theorem nameM_le (u : List Nat) : (nameM u).2.2 ≤ u.length := by
  unfold nameM
  have := tw_le nameB u
  split <;> exact this
section
variable {I : Im} {A L : Ls} {h : Hp} {r : Pos} {s : List Nat} {i : Nat}

theorem nm_ok (S : Sy I A [RS r s i] L h) (hs : s.length ≤ lim) (hb : ∀ c ∈ s, c < 256) (hi : i ≤ s.length) :
    Ev (fun n => shD n 66 [.p r 0] h) (fun v h' => v = .t [.s (nameM (s.drop i)).1, .i .i64 (nameM (s.drop i)).2.1] ∧ Sy I A [RS r s (i + (nameM (s.drop i)).2.2)] L h') := by
  refine Ev.enter (fun n => enter66 n _ h) ?_
  unfold s66
  refine wn ?_; refine wf ?_; refine wq ?_
  refine Ev.lenS ?_
  refine Ev.call (run_ok (name_c I) S hs hb hi s.length hs) ?_
  rintro _ h1 ⟨rfl, S1⟩
  have e0 : runN nameB s.length (s.drop i) = ((s.drop i).takeWhile nameB).length := runN_tw _ _ _ (by simp)
  rw [e0] at S1 ⊢
  rw [take_tw]
  refine Ev.lenS ?_
  unfold nameM
  refine Ev.igt (fun e1 => ?_) (fun e1 => ?_)
  · refine yt ?_
    have e2 : 24 < ((s.drop i).takeWhile nameB).length := by simp at e1; omega
    rw [if_pos e2]
    exact Ev.ret ⟨rfl, S1⟩
  · refine yj ?_
    have e2 : ¬ 24 < ((s.drop i).takeWhile nameB).length := by simp at e1; omega
    rw [if_neg e2]
    exact Ev.ret ⟨rfl, S1⟩

theorem addN {i : Nat} (k : Nat) (hs : i + k ≤ 1000000000000) : IntKind.i64.wrap ((i : Int) + Int.ofNat k) = ((i + k : Nat) : Int) := by
  rw [show (i : Int) + Int.ofNat k = ((i + k : Nat) : Int) by simp]
  exact wrapN _ hs

theorem col_ok (S : Sy I A [RS r s i] L h) (hs : s.length ≤ lim) (hi : i ≤ s.length) :
    Ev (fun n => shD n 67 [.p r 0] h) (fun v h' => v = .b (colonM (s.drop i)) ∧ Sy I A [RS r s (if colonM (s.drop i) then i + 1 else i)] L h') := by
  refine Ev.enter (fun n => enter67 n _ h) ?_
  unfold s67
  refine Ev.call (byte_ok S hs hi 0 (by omega)) ?_
  rintro _ _ ⟨rfl, rfl⟩
  rw [nx_drop]
  unfold colonM
  refine Ev.ine (fun e1 => ?_) (fun e1 => ?_)
  · refine yg ?_; refine yg ?_; refine yg ?_; refine ap ?_; refine yt ?_
    have e2 : ¬ nx (s.drop i) 0 = 58 := by simp at e1; omega
    simp only [e2, decide_false, Bool.false_and, Bool.false_eq_true, if_false]
    exact Ev.ret ⟨rfl, S⟩
  · refine zf ?_; refine wm ?_; refine zf ?_
    have e2 : nx (s.drop i) 0 = 58 := by simp at e1; omega
    refine Ev.call (byte_ok S hs hi 1 (by omega)) ?_
    rintro _ _ ⟨rfl, rfl⟩
    rw [nx_drop]
    refine zf ?_
    refine Ev.ieq (fun e3 => ?_) (fun e3 => ?_)
    · refine aq ?_; refine yt ?_
      have e4 : nx (s.drop i) 1 = 61 := by simp at e3; omega
      simp only [e2, e4, decide_true, Bool.not_true, Bool.and_false, Bool.false_eq_true, if_false]
      exact Ev.ret ⟨rfl, S⟩
    · refine aq ?_; refine yj ?_; refine wn ?_; refine wf ?_; refine wq ?_
      have e4 : ¬ nx (s.drop i) 1 = 61 := by simp at e3; omega
      simp only [e2, e4, decide_true, decide_false, Bool.not_false, Bool.and_true, if_true]
      refine Ev.iadd ?_
      rw [addN 1 (by simp only [lim] at hs; omega)]
      refine wn ?_; refine wf ?_; refine wv fun _ _ => ?_
      exact Ev.ret ⟨rfl, by assumption⟩

theorem colon_lt {u : List Nat} (h : colonM u = true) : 1 ≤ u.length := by
  unfold colonM at h
  cases u with
  | nil => simp [nx] at h
  | cons => simp

end

/-! ### Numbers -/
theorem nextIt {I : Im} {A Q L L' : Ls} {h : Hp} {k : Nat → DV → Hp → Res} {P : DV → Hp → Prop} {b : Pos} {l : List Nat} {pos c : Nat} (S : Sy I A Q L h) (r : Rpl b (some (.it l pos)) (some (.it l (pos + 1))) L L') (e : l[pos]? = some c) (hc : c < 128)
    (H : ∀ h', Sy I A Q L' h' → Ev (fun m => k m (.t [.b true, .i .i64 (pos : Int), .i .i32 (c : Int)]) h') P) : Ev (fun m => bnd (pNext (.p b 0) h) (k m)) P := by
  refine Ev.op (v := .t [.b true, .i .i64 (pos : Int), .i .i32 (c : Int)]) (h := ⟨h.next, Tr.set (.it l (pos + 1)) b h.bl⟩) ?_ (H _ (S.setL r rfl (fun c => Tr.get_set _ _ _ _)))
  simp [pNext, S.memL r.at.1, e, hc]
theorem endIt {I : Im} {A Q L : Ls} {h : Hp} {k : Nat → DV → Hp → Res} {P : DV → Hp → Prop} {b : Pos} {l : List Nat} {pos : Nat} (S : Sy I A Q L h) (r : (b, some (.it l pos)) ∈ L) (e : l[pos]? = none)
    (H : Ev (fun m => k m (.t [.b false]) h) P) : Ev (fun m => bnd (pNext (.p b 0) h) (k m)) P := by
  refine Ev.op (v := .t [.b false]) (h := h) ?_ H
  simp [pNext, S.memL r, e]

theorem enter69 (n : Nat) (x : DV) (h : Hp) : shD (n + 1) 69 [x] h = s69 (shD n) n x h := by kernel_rfl
theorem enter70 (n : Nat) (x : DV) (h : Hp) : shD (n + 1) 70 [x] h = s70 (shD n) n x h := by kernel_rfl
theorem enter71 (n : Nat) (x : DV) (h : Hp) : shD (n + 1) 71 [x] h = s71 (shD n) n x h := by kernel_rfl
theorem enter50 (n : Nat) (x : DV) (h : Hp) : shD (n + 1) 50 [x] h = s50 (shD n) n x h := by kernel_rfl
theorem enter29 (n : Nat) (x : DV) (h : Hp) : shD (n + 1) 29 [x] h = s29 (shD n) n x h := by kernel_rfl

theorem num_loop {I : Im} {A Q L : Ls} {b : Pos} {l : List Nat} (hd : ∀ c ∈ l, digitB c = true) : ∀ (w : List Nat) (j pos : Nat) (h : Hp) (x : Int), Sy I A Q ((b, some (.it l pos)) :: L) h → l.drop pos = w → 0 ≤ x → x ≤ 1152921504606846976 →
    Ev (fun n => s69a5l (shD n) n (n - j) (.i .i64 x) (.p b 0) h) (fun v h' => v = .t [.i .i64 (numGo x w).1, .i .i64 (numGo x w).2] ∧ Sy I A Q L h') := by
  intro w
  induction w with
  | nil =>
    intro j pos h x S hw h0 h1
    refine Ev.loop j (ll := fun n m => s69a5l (shD n) n m (.i .i64 x) (.p b 0) h) (bb := fun n m => s69a5b (shD n) n (s69a5l (shD n) n m) (.i .i64 x) (.p b 0) h) (fun _ _ => rfl) ?_
    unfold s69a5b s69a3
    refine endIt S (List.Mem.head _) (List.getElem?_eq_none (by simpa using hw)) ?_
    refine wx ?_; refine yj ?_
    exact Ev.ret ⟨rfl, S.dropL⟩
  | cons c w ih =>
    intro j pos h x S hw h0 h1
    have hg : l[pos]? = some c := by
      have : (l.drop pos)[0]? = some c := by rw [hw]; rfl
      simpa using this
    have hw' : l.drop (pos + 1) = w := by
      rw [← List.drop_drop, hw]; rfl
    have hdc := hd c (List.mem_of_getElem? hg)
    simp [digitB] at hdc
    refine Ev.loop j (ll := fun n m => s69a5l (shD n) n m (.i .i64 x) (.p b 0) h) (bb := fun n m => s69a5b (shD n) n (s69a5l (shD n) n m) (.i .i64 x) (.p b 0) h) (fun _ _ => rfl) ?_
    unfold s69a5b
    refine nextIt S (Rpl.head _) hg (by omega) ?_
    intro h2 S2
    refine wx ?_; refine yt ?_; refine wx ?_
    unfold numGo
    refine Ev.igt (fun e1 => ?_) (fun e1 => ?_)
    · refine yt ?_
      rw [if_pos (show (115292150460684697 : Int) < x from e1)]
      exact Ev.ret ⟨rfl, S2.dropL⟩
    · rw [if_neg (show ¬ (115292150460684697 : Int) < x from e1)]
      have e1' : x ≤ 115292150460684697 := by
        have : ¬ (115292150460684697 : Int) < x := e1
        omega
      refine yj ?_
      refine Ev.imul ?_
      refine Ev.isub ?_
      have a1 : IntKind.i64.wrap (x * Int.ofNat 10) = x * 10 := wrap64s _ (by show -9223372036854775808 ≤ x * 10; omega) (by show x * 10 ≤ _; omega)
      have a2 : IntKind.i32.wrap ((c : Int) - Int.ofNat 48) = (c : Int) - 48 := by
        show IntKind.i32.wrap ((c : Int) - 48) = _
        unfold IntKind.wrap
        simp [IntKind.bits, IntKind.signed, IntKind.min, IntKind.max]
        omega
      have a3 : ∀ h, pConvI .i64 (.i .i32 ((c : Int) - 48)) h = some (.i .i64 ((c : Int) - 48), h) := fun h => by
        show some (DV.i .i64 (IntKind.i64.wrap ((c : Int) - 48)), h) = _
        rw [wrap64s _ (by omega) (by omega)]
      rw [a1, a2]
      refine Ev.op (a3 _) ?_
      refine Ev.iadd ?_
      rw [wrap64s _ (by omega) (by omega)]
      refine Ev.igt (fun e2 => ?_) (fun e2 => ?_)
      · refine yt ?_
        rw [if_pos (show (1152921504606846976 : Int) < x * 10 + ((c : Int) - 48) from e2)]
        exact Ev.ret ⟨rfl, S2.dropL⟩
      · refine yj ?_
        rw [if_neg (show ¬ (1152921504606846976 : Int) < x * 10 + ((c : Int) - 48) from e2)]
        have e2' : ¬ (1152921504606846976 : Int) < x * 10 + ((c : Int) - 48) := e2
        exact ih (j + 1) (pos + 1) h2 _ S2 hw' (by omega) (by omega)

section
variable {I : Im} {A L : Ls} {h : Hp} {r : Pos} {s : List Nat} {i : Nat}

theorem num_ok (S : Sy I A [RS r s i] L h) (hs : s.length ≤ lim) (hb : ∀ c ∈ s, c < 256) (hi : i ≤ s.length) :
    Ev (fun n => shD n 69 [.p r 0] h) (fun v h' => v = .t [.i .i64 (numberM (s.drop i)).1, .i .i64 (numberM (s.drop i)).2.1] ∧ Sy I A [RS r s (i + (numberM (s.drop i)).2.2)] L h') := by
  refine Ev.enter (fun n => enter69 n _ h) ?_
  unfold s69 s69a1 s69a2 s69a4 s69a5
  refine wn ?_; refine wf ?_; refine wq ?_
  refine Ev.lenS ?_
  refine Ev.call (run_ok (digit_c I) S hs hb hi s.length hs) ?_
  rintro _ h1 ⟨rfl, S1⟩
  have e0 : runN digitB s.length (s.drop i) = ((s.drop i).takeWhile digitB).length := runN_tw _ _ _ (by simp)
  rw [e0] at S1 ⊢
  rw [take_tw]
  refine Ev.op (v := .p h1.next 0) (h := nw (.it ((s.drop i).takeWhile digitB) 0) h1) rfl ?_
  have S2 := S1.new (.it ((s.drop i).takeWhile digitB) 0)
  exact num_loop (fun c hc => tw_all digitB _ c hc) _ 0 0 _ 0 S2 rfl (by omega) (by omega)

theorem text_loop (hs : s.length ≤ lim) (hb : ∀ c ∈ s, c < 256) : ∀ (f j i : Nat) (h : Hp) (out : List Nat) (res : List Nat × Int × Nat), Sy I A [RS r s i] L h → i ≤ s.length → out.length ≤ 3 * i → textM f out (s.drop i) = some res →
    Ev (fun n => s70a3l (shD n) n (n - j) (.p r 0) (.s out) h) (fun v h' => v = .t [.s res.1, .i .i64 res.2.1] ∧ Sy I A [RS r s (i + res.2.2)] L h') := by
  intro f
  induction f with
  | zero => intro j i h out res S hi ho hm; cases hm
  | succ f ih =>
    intro j i h out res S hi ho hm
    unfold textM at hm
    have hlen := tw_le textB (s.drop i)
    have hd : (s.drop i).length = s.length - i := by simp
    refine Ev.loop j (ll := fun n m => s70a3l (shD n) n m (.p r 0) (.s out) h) (bb := fun n m => s70a3b (shD n) n (s70a3l (shD n) n m) (.p r 0) (.s out) h) (fun _ _ => rfl) ?_
    unfold s70a3b
    refine wn ?_; refine wf ?_; refine wq ?_
    refine Ev.lenS ?_
    refine Ev.call (run_ok (text_c I) S hs hb hi s.length hs) ?_
    rintro _ h1 ⟨rfl, S1⟩
    have e0 : runN textB s.length (s.drop i) = ((s.drop i).takeWhile textB).length := runN_tw _ _ _ (by simp)
    rw [e0] at S1 ⊢
    rw [take_tw]
    generalize hw : (s.drop i).takeWhile textB = w at hm S1 hlen ⊢
    simp only [lim] at hs
    refine Ev.sadd (by omega) ?_
    refine wn ?_; refine wf ?_; refine wq ?_; refine wn ?_; refine wf ?_; refine wq ?_
    refine Ev.lenS ?_
    refine Ev.ige (fun e1 => ?_) (fun e1 => ?_)
    · refine yt ?_
      have e2 : w.length = (s.drop i).length := by omega
      rw [if_pos e2] at hm
      cases hm
      exact Ev.ret ⟨rfl, by rw [← e2]; exact S1⟩
    · have e2 : ¬ w.length = (s.drop i).length := by omega
      rw [if_neg e2] at hm
      refine yj ?_; refine wn ?_; refine wf ?_; refine wq ?_
      refine Ev.iadd ?_
      rw [addN 1 (by omega)]
      refine wn ?_; refine wf ?_; refine wv fun _ _ => ?_
      rename_i h2 S2
      refine Ev.call (byte_ok S2 hs (by omega) 0 (by omega)) ?_
      rintro _ _ ⟨rfl, rfl⟩
      have e3 : nextB s (i + w.length + 1 + 0) = nx (s.drop i) (w.length + 1) := by rw [show i + w.length + 1 + 0 = i + (w.length + 1) by omega, nx_drop]
      rw [e3]
      refine Ev.ine (fun e4 => ?_) (fun e4 => ?_)
      · refine yt ?_
        rw [if_neg (show ¬ nx (s.drop i) (w.length + 1) = 39 by simp at e4; omega)] at hm
        cases hm
        exact Ev.ret ⟨rfl, S2⟩
      · have e5 : nx (s.drop i) (w.length + 1) = 39 := by simp at e4; omega
        rw [if_pos e5] at hm
        obtain ⟨res', hr, hm⟩ := Option.bind_eq_some_iff.1 hm
        simp only [Option.some.injEq] at hm
        subst hm
        have e6 : i + w.length + 2 ≤ s.length := by
          have : w.length + 1 < (s.drop i).length := by
            apply Decidable.byContradiction
            intro hn
            rw [nx, List.getD, List.getElem?_eq_none (by omega)] at e5
            cases e5
          omega
        refine yj ?_
        refine Ev.sadd (by simp; omega) ?_
        refine wn ?_; refine wf ?_; refine wq ?_
        refine Ev.iadd ?_
        rw [addN 1 (by omega)]
        refine wn ?_; refine wf ?_; refine wv fun _ _ => ?_
        refine (ih (j + 1) (i + w.length + 1 + 1) _ (out ++ w ++ [39]) res' (by assumption) (by omega) (by simp; omega) ?_).mono ?_
        · rw [← hr, List.drop_drop]
          congr 2
        · rintro v h' ⟨rfl, S'⟩
          refine ⟨rfl, ?_⟩
          have e7 : i + w.length + 1 + 1 + res'.2.2 = i + (res'.2.2 + (w.length + 2)) := by omega
          rw [← e7]; exact S'

theorem text_ok (S : Sy I A [RS r s i] L h) (hs : s.length ≤ lim) (hb : ∀ c ∈ s, c < 256) (hi : i ≤ s.length) (f : Nat) (res : List Nat × Int × Nat) (hm : textM f [] (s.drop i) = some res) :
    Ev (fun n => shD n 70 [.p r 0] h) (fun v h' => v = .t [.s res.1, .i .i64 res.2.1] ∧ Sy I A [RS r s (i + res.2.2)] L h') := by
  refine Ev.enter (fun n => enter70 n _ h) ?_
  unfold s70 s70a1 s70a2 s70a3
  exact text_loop hs hb f 0 i h [] res S hi (by simp) hm

end
end Go.Dd

/- Dd, part T12: the program's lexer: symbols, tokens, all tokens of a source. -/
set_option linter.unusedVariables false
set_option linter.unusedSimpArgs false
set_option maxRecDepth 100000
namespace Go.Dd
open Go.Proofs

/-- A token from here on: kind, text, number; the error; how long. -/
def tokenM (f : Nat) (u : List Nat) : Option (Int × List Nat × Int × Int × Nat) :=
  if letterB (nx u 0) then
    if (nameM u).2.1 = 0 then
      if colonM (u.drop (nameM u).2.2) then some (2, (nameM u).1 ++ [58], 0, 0, (nameM u).2.2 + 1) else some (1, (nameM u).1, 0, 0, (nameM u).2.2)
    else some (1, (nameM u).1, 0, (nameM u).2.1, (nameM u).2.2)
  else if digitB (nx u 0) then some (4, [], (numberM u).1, (numberM u).2.1, (numberM u).2.2)
  else if nx u 0 = 39 then (textM f [] (u.drop 1)).bind fun r => some (5, r.1, 0, r.2.1, r.2.2 + 1)
  else if nx u 0 = 35 then
    if nx u 1 = 40 then some (7, [], 0, 0, 2) else (symbolM f (u.drop 1)).bind fun r => some (6, r.1, 0, r.2.1, r.2.2 + 1)
  else if nx u 0 = 58 ∧ nx u 1 = 61 then some (9, [], 0, 0, 2)
  else if nx u 0 = 58 ∧ letterB (nx u 1) then some (8, (nameM (u.drop 1)).1, 0, (nameM (u.drop 1)).2.1, (nameM (u.drop 1)).2.2 + 1)
  else if inB signs (nx u 0) then some (3, u.take (runN (inB signs) 2 u), 0, 0, runN (inB signs) 2 u)
  else if inB marks (nx u 0) then some (10, u.take (runN (inB marks) 1 u), 0, 0, runN (inB marks) 1 u)
  else some (0, [], 0, 10, 0)

/-- All tokens: them, or a place and an error. -/
def toksM (g : Nat) (s : List Nat) : Nat → Nat → List Tok → Option (List Tok × Int × Int)
  | 0, _, _ => none
  | f + 1, i, out =>
    if s.length ≤ i + ((s.drop i).takeWhile (inB blanks)).length then some (out ++ [⟨0, [], 0, (s.length : Int)⟩], 0, 0)
    else if nx s (i + ((s.drop i).takeWhile (inB blanks)).length) = 34 then
      if idxGo 34 (s.drop (i + ((s.drop i).takeWhile (inB blanks)).length + 1)) 0 < 0 then some ([], ((i + ((s.drop i).takeWhile (inB blanks)).length : Nat) : Int), 11)
      else toksM g s f (i + ((s.drop i).takeWhile (inB blanks)).length + (idxGo 34 (s.drop (i + ((s.drop i).takeWhile (inB blanks)).length + 1)) 0).toNat + 2) out
    else (tokenM g (s.drop (i + ((s.drop i).takeWhile (inB blanks)).length))).bind fun r =>
      if r.2.2.2.1 = 0 then if (s.drop (i + ((s.drop i).takeWhile (inB blanks)).length)).length < r.2.2.2.2 then none else toksM g s f (i + ((s.drop i).takeWhile (inB blanks)).length + r.2.2.2.2) (out ++ [⟨r.1, r.2.1, r.2.2.1, ((i + ((s.drop i).takeWhile (inB blanks)).length : Nat) : Int)⟩])
      else some ([], ((i + ((s.drop i).takeWhile (inB blanks)).length : Nat) : Int), r.2.2.2.1)

def lexM (g f : Nat) (s : List Nat) : Option (List Tok × Int × Int) := if 2000 < s.length then some ([], 0, 12) else toksM g s f 0 []

theorem nameM_fit (u : List Nat) : (nameM u).1.length ≤ (nameM u).2.2 := by
  unfold nameM
  split <;> simp

section
variable {I : Im} {A L : Ls} {h : Hp} {r : Pos} {s : List Nat} {i : Nat}

theorem sym_loop (hs : s.length ≤ lim) (hb : ∀ c ∈ s, c < 256) : ∀ (f j i : Nat) (h : Hp) (out : List Nat) (res : List Nat × Int × Nat), Sy I A [RS r s i] L h → i ≤ s.length → out.length ≤ 3 * i → symL f out (s.drop i) = some res →
    Ev (fun n => s71a8l (shD n) n (n - j) (.p r 0) (.s out) h) (fun v h' => v = .t [.s res.1, .i .i64 res.2.1] ∧ Sy I A [RS r s (i + res.2.2)] L h') := by
  intro f
  induction f with
  | zero => intro j i h out res S hi ho hm; cases hm
  | succ f ih =>
    intro j i h out res S hi ho hm
    unfold symL at hm
    refine Ev.loop j (ll := fun n m => s71a8l (shD n) n m (.p r 0) (.s out) h) (bb := fun n m => s71a8b (shD n) n (s71a8l (shD n) n m) (.p r 0) (.s out) h) (fun _ _ => rfl) ?_
    unfold s71a8b s71a7
    refine Ev.call (byte_ok S hs hi 0 (by omega)) ?_
    rintro _ _ ⟨rfl, rfl⟩
    rw [nx_drop]
    refine Ev.call (letter_ok _ _) ?_
    rintro _ _ ⟨rfl, rfl⟩
    cases e1 : letterB (nx (s.drop i) 0) with
    | false =>
      refine yj ?_
      rw [if_neg (by simp [e1])] at hm
      cases hm
      exact Ev.ret ⟨rfl, S⟩
    | true =>
      rw [if_pos e1] at hm
      refine yt ?_; refine wn ?_; refine wf ?_; refine wq ?_
      refine Ev.call (nm_ok S hs hb hi) ?_
      rintro _ _ ⟨rfl, S1⟩
      have hn := nameM_le (s.drop i)
      have hn1 := nameM_fit (s.drop i)
      have hd : (s.drop i).length = s.length - i := by simp
      have hdd : s.drop (i + (nameM (s.drop i)).2.2) = (s.drop i).drop (nameM (s.drop i)).2.2 := by rw [List.drop_drop]
      generalize hN : nameM (s.drop i) = N at hm S1 hn hn1 hdd ⊢
      refine wx ?_; refine wx ?_
      refine Ev.call (col_ok S1 hs (by omega)) ?_
      rintro _ _ ⟨rfl, S2⟩
      rw [hdd] at S2 ⊢
      cases e2 : colonM ((s.drop i).drop N.2.2) with
      | false =>
        rw [e2] at hm S2
        simp only [Bool.false_eq_true, if_false, Option.some.injEq] at hm
        subst hm
        refine ao ?_; refine yt ?_; refine wn ?_; refine wf ?_; refine wv fun _ _ => ?_
        exact Ev.ret ⟨rfl, by assumption⟩
      | true =>
        rw [if_pos e2] at hm
        rw [e2, if_pos rfl] at S2
        have hc := colon_lt e2
        have hc2 : i + N.2.2 + 1 ≤ s.length := by simp at hc; omega
        refine an ?_; refine yj ?_
        refine Ev.ine (fun e3 => ?_) (fun e3 => ?_)
        · rw [if_neg (show ¬ N.2.1 = 0 from e3)] at hm
          cases hm
          refine yt ?_
          exact Ev.ret ⟨rfl, S2⟩
        · rw [if_pos (show N.2.1 = 0 from e3)] at hm
          obtain ⟨res', hr, hm⟩ := Option.bind_eq_some_iff.1 hm
          simp only [Option.some.injEq] at hm
          subst hm
          simp only [lim] at hs
          refine yj ?_
          refine Ev.sadd (by simp; omega) ?_
          refine Ev.sadd (by simp; omega) ?_
          refine (ih (j + 1) (i + N.2.2 + 1) _ (out ++ (N.1 ++ [58])) res' S2 hc2 (by simp; omega) ?_).mono ?_
          · rw [← hr, List.drop_drop, Nat.add_assoc]
          · rintro v h' ⟨rfl, S'⟩
            refine ⟨rfl, ?_⟩
            have e7 : i + N.2.2 + 1 + res'.2.2 = i + (res'.2.2 + (N.2.2 + 1)) := by omega
            rw [← e7]; exact S'

theorem symbol_ok (S : Sy I A [RS r s i] L h) (hs : s.length ≤ lim) (hb : ∀ c ∈ s, c < 256) (hi : i ≤ s.length) (f : Nat) (res : List Nat × Int × Nat) (hm : symbolM f (s.drop i) = some res) :
    Ev (fun n => shD n 71 [.p r 0] h) (fun v h' => v = .t [.s res.1, .i .i64 res.2.1] ∧ ∃ J, ILe I J ∧ Sy J A [RS r s (i + res.2.2)] L h') := by
  refine Ev.enter (fun n => enter71 n _ h) ?_
  unfold symbolM at hm
  unfold s71 s71a1
  refine Ev.call (in_ok S signs) ?_
  rintro cl h1 ⟨J, gJ, S1, C1⟩
  refine Ev.call (run_ok C1 S1 hs hb hi 2 (by simp [lim])) ?_
  rintro _ h2 ⟨rfl, S2⟩
  have hd : (s.drop i).length = s.length - i := by simp
  have hr := runN_le (inB signs) 2 (s.drop i)
  refine Ev.sne (fun e1 => ?_) (fun e1 => ?_)
  · refine yt ?_
    have e2 : ¬ runN (inB signs) 2 (s.drop i) = 0 := fun e => e1 (by rw [e]; rfl)
    rw [if_neg e2] at hm
    cases hm
    exact Ev.ret ⟨rfl, J, gJ, S2⟩
  · have e2 : runN (inB signs) 2 (s.drop i) = 0 := by
      have := congrArg List.length e1
      rw [List.length_take] at this
      simp only [List.length_nil] at this
      omega
    rw [if_pos e2] at hm
    rw [e2, Nat.add_zero] at S2
    refine yj ?_
    unfold s71a2
    refine Ev.call (byte_ok S2 hs hi 0 (by omega)) ?_
    rintro _ _ ⟨rfl, rfl⟩
    rw [nx_drop]
    refine Ev.call (letter_ok _ _) ?_
    rintro _ _ ⟨rfl, rfl⟩
    cases e3 : letterB (nx (s.drop i) 0) with
    | false =>
      refine ao ?_; refine yt ?_
      rw [if_neg (by simp [e3])] at hm
      cases hm
      exact Ev.ret ⟨rfl, J, gJ, S2⟩
    | true =>
      rw [if_pos e3] at hm
      refine an ?_; refine yj ?_
      unfold s71a3
      refine Ev.call (nm_ok S2 hs hb hi) ?_
      rintro _ _ ⟨rfl, S3⟩
      have hn := nameM_le (s.drop i)
      have hn1 := nameM_fit (s.drop i)
      have hdd : s.drop (i + (nameM (s.drop i)).2.2) = (s.drop i).drop (nameM (s.drop i)).2.2 := by rw [List.drop_drop]
      generalize hN : nameM (s.drop i) = N at hm S3 hn hn1 hdd ⊢
      refine wx ?_; refine wx ?_
      unfold s71a4
      refine Ev.ine (fun e4 => ?_) (fun e4 => ?_)
      · rw [if_neg (show ¬ N.2.1 = 0 from e4)] at hm
        cases hm
        refine yg ?_; refine yg ?_; refine yg ?_; refine ap ?_; refine yt ?_
        exact Ev.ret ⟨rfl, J, gJ, S3⟩
      · rw [if_pos (show N.2.1 = 0 from e4)] at hm
        refine zf ?_; refine wm ?_; refine zf ?_
        refine Ev.call (col_ok S3 hs (by omega)) ?_
        rintro _ _ ⟨rfl, S4⟩
        rw [hdd] at S4 ⊢
        cases e5 : colonM ((s.drop i).drop N.2.2) with
        | false =>
          rw [e5] at hm S4
          simp only [Bool.false_eq_true, if_false, Option.some.injEq] at hm
          subst hm
          refine zf ?_; refine ao ?_; refine aq ?_; refine yt ?_
          refine Ev.ret ⟨?_, J, gJ, S4⟩
          rw [show N.2.1 = 0 from e4]
        | true =>
          rw [e5] at hm S4
          simp only [if_true] at hm
          rw [if_pos rfl] at S4
          obtain ⟨res', hr', hm⟩ := Option.bind_eq_some_iff.1 hm
          simp only [Option.some.injEq] at hm
          subst hm
          have hc := colon_lt e5
          have hc2 : i + N.2.2 + 1 ≤ s.length := by simp at hc; omega
          have hs' := hs
          simp only [lim] at hs
          refine zf ?_; refine an ?_; refine aq ?_; refine yj ?_
          unfold s71a5 s71a6 s71a8
          refine Ev.sadd (by simp; omega) ?_
          refine (sym_loop hs' hb f 0 (i + N.2.2 + 1) _ (N.1 ++ [58]) res' S4 hc2 (by simp; omega) ?_).mono ?_
          · rw [← hr', List.drop_drop, Nat.add_assoc]
          · rintro v h' ⟨rfl, S'⟩
            refine ⟨rfl, J, gJ, ?_⟩
            have e7 : i + N.2.2 + 1 + res'.2.2 = i + (res'.2.2 + (N.2.2 + 1)) := by omega
            rw [← e7]; exact S'

end
end Go.Dd

/- Dd, part T13: the program's lexer: a token, all tokens of a source. -/
set_option linter.unusedVariables false
set_option linter.unusedSimpArgs false
set_option maxRecDepth 100000
namespace Go.Dd
open Go.Proofs

section
variable {I : Im} {A L : Ls} {h : Hp} {r : Pos} {s : List Nat} {i : Nat}

theorem tok_ok (S : Sy I A [RS r s i] L h) (hs : s.length ≤ lim) (hb : ∀ c ∈ s, c < 256) (hi : i < s.length) (f : Nat) (res : Int × List Nat × Int × Int × Nat) (hm : tokenM f (s.drop i) = some res) :
    Ev (fun n => shD n 50 [.p r 0] h) (fun v h' => v = .t [.a (tc ⟨res.1, res.2.1, res.2.2.1, (i : Int)⟩), .i .i64 res.2.2.2.1] ∧ ∃ J, ILe I J ∧ Sy J A [RS r s (i + res.2.2.2.2)] L h') := by
  refine Ev.enter (fun n => enter50 n _ h) ?_
  unfold tokenM at hm
  unfold s50 s50a1
  refine wa fun _ _ _ => ?_; refine wn ?_; refine wf ?_; refine wq ?_; refine wd ?_; refine wa fun _ _ _ => ?_; refine wt fun _ _ => ?_
  unfold s50a2 s50a3
  rename_i h0 S0
  have hd : (s.drop i).length = s.length - i := by simp
  have hs' := hs
  simp only [lim] at hs'
  have hcd : s.drop i = s[i] :: s.drop (i + 1) := List.drop_eq_getElem_cons hi
  have hn0 : nx (s.drop i) 0 < 256 := by rw [hcd]; exact hb _ (List.getElem_mem hi)
  refine Ev.call (byte_ok S0 hs (by omega) 0 (by omega)) ?_
  rintro _ _ ⟨rfl, rfl⟩
  rw [nx_drop]
  unfold s50a4
  refine Ev.call (letter_ok _ _) ?_
  rintro _ _ ⟨rfl, rfl⟩
  cases e1 : letterB (nx (s.drop i) 0) with
  | true =>
    rw [if_pos e1] at hm
    refine yt ?_; refine wf ?_; refine wu fun _ _ => ?_
    refine Ev.call (nm_ok (by assumption) hs hb (by omega)) ?_
    rintro _ _ ⟨rfl, S1⟩
    have hn := nameM_le (s.drop i)
    have hn1 := nameM_fit (s.drop i)
    have hdd : s.drop (i + (nameM (s.drop i)).2.2) = (s.drop i).drop (nameM (s.drop i)).2.2 := by rw [List.drop_drop]
    generalize hN : nameM (s.drop i) = N at hm S1 hn hn1 hdd ⊢
    refine wx ?_; refine wx ?_; refine wf ?_; refine wu fun _ _ => ?_
    unfold s50a5
    refine Ev.ieq (fun e2 => ?_) (fun e2 => ?_)
    · rw [if_pos (show N.2.1 = 0 from e2)] at hm
      refine zt ?_; refine wm ?_; refine zt ?_
      refine Ev.call (col_ok (by assumption) hs (by omega)) ?_
      rintro _ _ ⟨rfl, S2⟩
      rw [hdd] at S2 ⊢
      cases e3 : colonM ((s.drop i).drop N.2.2) with
      | true =>
        rw [e3] at hm S2
        simp only [if_true, Option.some.injEq] at hm
        subst hm
        rw [if_pos rfl] at S2
        refine ap ?_; refine yt ?_; refine wf ?_; refine wl ?_
        refine Ev.sadd (by simp; omega) ?_
        refine wf ?_; refine wu fun _ _ => ?_; refine wf ?_; refine wu fun _ _ => ?_; refine ws ?_; refine wt fun _ _ => ?_; refine ws ?_
        refine Ev.ret ⟨?_, I, ILe.refl _, dp⟩
        rw [show N.2.1 = 0 from e2]; rfl
      | false =>
        rw [e3] at hm S2
        simp only [Bool.false_eq_true, if_false, Option.some.injEq] at hm
        subst hm
        refine ap ?_; refine yj ?_; refine ws ?_; refine wt fun _ _ => ?_; refine ws ?_
        refine Ev.ret ⟨?_, I, ILe.refl _, dp⟩
        rw [show N.2.1 = 0 from e2]; rfl
    · rw [if_neg (show ¬ N.2.1 = 0 from e2)] at hm
      cases hm
      refine yf ?_; refine yf ?_; refine aq ?_; refine yj ?_; refine ws ?_; refine wt fun _ _ => ?_; refine ws ?_
      exact Ev.ret ⟨rfl, I, ILe.refl _, dp⟩
  | false =>
  rw [if_neg (by simp [e1])] at hm
  refine yj ?_
  refine Ev.call (digit_ok _ _) ?_
  rintro _ _ ⟨rfl, rfl⟩
  cases e2 : digitB (nx (s.drop i) 0) with
  | true =>
    rw [if_pos e2] at hm
    cases hm
    refine yt ?_; refine wf ?_; refine wu fun _ _ => ?_
    refine Ev.call (num_ok (by assumption) hs hb (by omega)) ?_
    rintro _ _ ⟨rfl, S1⟩
    refine wx ?_; refine wx ?_; refine wf ?_; refine wu fun _ _ => ?_
    unfold s50a5
    refine ws ?_; refine wt fun _ _ => ?_; refine ws ?_
    exact Ev.ret ⟨rfl, I, ILe.refl _, dp⟩
  | false =>
  rw [if_neg (by simp [e2])] at hm
  refine yj ?_
  refine Ev.ieq (fun e3 => ?_) (fun e3 => ?_)
  · rw [if_pos (show nx (s.drop i) 0 = 39 by simp at e3; omega)] at hm
    obtain ⟨res', hr, hm⟩ := Option.bind_eq_some_iff.1 hm
    simp only [Option.some.injEq] at hm
    subst hm
    refine yt ?_; refine wn ?_; refine wf ?_; refine wq ?_
    refine Ev.iadd ?_
    rw [addN 1 (by omega)]
    refine wn ?_; refine wf ?_; refine wv fun _ _ => ?_; refine wf ?_; refine wu fun _ _ => ?_
    refine Ev.call (text_ok (by assumption) hs hb (by omega) f res' (by rw [← hr, List.drop_drop])) ?_
    rintro _ _ ⟨rfl, S1⟩
    refine wx ?_; refine wx ?_; refine wf ?_; refine wu fun _ _ => ?_
    unfold s50a5
    refine ws ?_; refine wt fun _ _ => ?_; refine ws ?_
    refine Ev.ret ⟨rfl, I, ILe.refl _, ?_⟩
    rw [show i + (res'.2.2 + 1) = i + 1 + res'.2.2 by omega]
    exact dp
  rw [if_neg (show ¬ nx (s.drop i) 0 = 39 by simp at e3; omega)] at hm
  refine yj ?_
  refine Ev.ieq (fun e4 => ?_) (fun e4 => ?_)
  · rw [if_pos (show nx (s.drop i) 0 = 35 by simp at e4; omega)] at hm
    refine zt ?_; refine wm ?_; refine zt ?_
    refine Ev.call (byte_ok (by assumption) hs (by omega) 1 (by omega)) ?_
    rintro _ _ ⟨rfl, rfl⟩
    rw [nx_drop]
    refine zt ?_
    refine Ev.ieq (fun e5 => ?_) (fun e5 => ?_)
    · have e5' : nx (s.drop i) 1 = 40 := by simp at e5; omega
      rw [if_pos e5'] at hm
      cases hm
      refine ap ?_; refine yt ?_; refine wn ?_; refine wf ?_; refine wq ?_
      refine Ev.iadd ?_
      rw [addN 2 (by omega)]
      refine wn ?_; refine wf ?_; refine wv fun _ _ => ?_; refine wf ?_; refine wu fun _ _ => ?_
      unfold s50a5
      refine ws ?_; refine wt fun _ _ => ?_; refine ws ?_
      exact Ev.ret ⟨rfl, I, ILe.refl _, dp⟩
    · rw [if_neg (show ¬ nx (s.drop i) 1 = 40 by simp at e5; omega)] at hm
      obtain ⟨res', hr, hm⟩ := Option.bind_eq_some_iff.1 hm
      simp only [Option.some.injEq] at hm
      subst hm
      refine ap ?_; refine yj ?_
      refine Ev.ieq (fun e6 => ?_) (fun e6 => absurd e4 e6)
      refine yt ?_; refine wn ?_; refine wf ?_; refine wq ?_
      refine Ev.iadd ?_
      rw [addN 1 (by omega)]
      refine wn ?_; refine wf ?_; refine wv fun _ _ => ?_; refine wf ?_; refine wu fun _ _ => ?_
      refine Ev.call (symbol_ok (by assumption) hs hb (by omega) f res' (by rw [← hr, List.drop_drop])) ?_
      rintro _ _ ⟨rfl, J, gJ, S1⟩
      refine wx ?_; refine wx ?_; refine wf ?_; refine wu fun _ _ => ?_
      unfold s50a5
      refine ws ?_; refine wt fun _ _ => ?_; refine ws ?_
      refine Ev.ret ⟨rfl, J, gJ, ?_⟩
      rw [show i + (res'.2.2 + 1) = i + 1 + res'.2.2 by omega]
      exact dp
  rw [if_neg (show ¬ nx (s.drop i) 0 = 35 by simp at e4; omega)] at hm
  refine yf ?_; refine yf ?_; refine yf ?_; refine aq ?_; refine yj ?_
  refine Ev.ieq (fun e6 => absurd e6 e4) (fun e6 => ?_)
  refine yj ?_
  have fin : ¬ (nx (s.drop i) 0 = 58 ∧ nx (s.drop i) 1 = 61) → ¬ (nx (s.drop i) 0 = 58 ∧ letterB (nx (s.drop i) 1) = true) → ∀ (h' : Hp) (b2 b4 : Pos),
      Sy I A [RS r s i] ((b4, some (.row .ex [.i .i64 (Int.ofNat 0), .s [], .i .i64 (Int.ofNat 0), .i .i64 (i : Int)])) :: (b2, some (.row .ex [.i .i64 (Int.ofNat 0), .s [], .i .i64 (Int.ofNat 0), .i .i64 (Int.ofNat 0)])) :: L) h' →
      Ev (fun n => bnd (shD n 48 [.s [43, 45, 42, 47, 60, 62, 61, 126, 44, 64, 38, 37]] h') fun v111 h111 =>
        bnd (pCall CF (shD n) v111 [.i .u8 (Int.ofNat (nx (s.drop i) 0))] h111) fun v112 h112 =>
        ifD v112 (
          bnd (shD n 48 [.s [43, 45, 42, 47, 60, 62, 61, 126, 44, 64, 38, 37]] h112) fun v113 h113 =>
          bnd (shD n 47 [.p r 0, v113, .i .i64 (Int.ofNat 2)] h113) fun v114 h114 =>
          bnd (pField 0 (.p b4 0) h114) fun v115 h115 =>
          bnd (pStore 1 v115 (.i .i64 (Int.ofNat 3)) h115) fun _ h116 =>
          bnd (pField 1 (.p b4 0) h116) fun v117 h117 =>
          bnd (pStore 1 v117 v114 h117) fun _ h118 =>
          s50a5 (shD n) n (.p b2 0) (.p b4 0) (.i .i64 (Int.ofNat 0)) h118) (
          bnd (shD n 48 [.s [94, 46, 59, 40, 41, 91, 93, 124]] h112) fun v119 h119 =>
          bnd (pCall CF (shD n) v119 [.i .u8 (Int.ofNat (nx (s.drop i) 0))] h119) fun v120 h120 =>
          ifD v120 (
            bnd (shD n 48 [.s [94, 46, 59, 40, 41, 91, 93, 124]] h120) fun v121 h121 =>
            bnd (shD n 47 [.p r 0, v121, .i .i64 (Int.ofNat 1)] h121) fun v122 h122 =>
            bnd (pField 0 (.p b4 0) h122) fun v123 h123 =>
            bnd (pStore 1 v123 (.i .i64 (Int.ofNat 10)) h123) fun _ h124 =>
            bnd (pField 1 (.p b4 0) h124) fun v125 h125 =>
            bnd (pStore 1 v125 v122 h125) fun _ h126 =>
            s50a5 (shD n) n (.p b2 0) (.p b4 0) (.i .i64 (Int.ofNat 0)) h126) (
            s50a5 (shD n) n (.p b2 0) (.p b4 0) (.i .i64 (Int.ofNat 10)) h120)))
        (fun v h' => v = .t [.a (tc ⟨res.1, res.2.1, res.2.2.1, (i : Int)⟩), .i .i64 res.2.2.2.1] ∧ ∃ J, ILe I J ∧ Sy J A [RS r s (i + res.2.2.2.2)] L h') := by
    intro n1 n2 h' b2 b4 S'
    rw [if_neg n1, if_neg n2] at hm
    refine Ev.call (in_ok S' signs) ?_
    rintro cl h1 ⟨J, gJ, S1, C1⟩
    refine Ev.call (C1 J _ _ _ _ _ (ILe.refl _) S1 hn0) ?_
    rintro _ _ ⟨rfl, rfl⟩
    cases e7 : inB signs (nx (s.drop i) 0) with
    | true =>
      rw [if_pos e7] at hm
      cases hm
      refine yt ?_
      refine Ev.call (in_ok S1 signs) ?_
      rintro cl2 h2 ⟨K, gK, S2, C2⟩
      refine Ev.call (run_ok C2 S2 hs hb (by omega) 2 (by simp [lim])) ?_
      rintro _ h3 ⟨rfl, S3⟩
      refine wf ?_; refine wu fun _ _ => ?_; refine wf ?_; refine wu fun _ _ => ?_
      unfold s50a5
      refine ws ?_; refine wt fun _ _ => ?_; refine ws ?_
      exact Ev.ret ⟨rfl, K, gJ.trans gK, dp⟩
    | false =>
      rw [if_neg (by simp [e7])] at hm
      refine yj ?_
      refine Ev.call (in_ok S1 marks) ?_
      rintro cl2 h2 ⟨K, gK, S2, C2⟩
      refine Ev.call (C2 K _ _ _ _ _ (ILe.refl _) S2 hn0) ?_
      rintro _ _ ⟨rfl, rfl⟩
      cases e8 : inB marks (nx (s.drop i) 0) with
      | true =>
        rw [if_pos e8] at hm
        cases hm
        refine yt ?_
        refine Ev.call (in_ok S2 marks) ?_
        rintro cl3 h3 ⟨M, gM, S3, C3⟩
        refine Ev.call (run_ok C3 S3 hs hb (by omega) 1 (by simp [lim])) ?_
        rintro _ h4 ⟨rfl, S4⟩
        refine wf ?_; refine wu fun _ _ => ?_; refine wf ?_; refine wu fun _ _ => ?_
        unfold s50a5
        refine ws ?_; refine wt fun _ _ => ?_; refine ws ?_
        exact Ev.ret ⟨rfl, M, (gJ.trans gK).trans gM, dp⟩
      | false =>
        rw [if_neg (by simp [e8])] at hm
        cases hm
        refine yj ?_
        unfold s50a5
        refine ws ?_; refine wt fun _ _ => ?_; refine ws ?_
        exact Ev.ret ⟨rfl, K, gJ.trans gK, dp⟩
  refine Ev.ieq (fun e7 => ?_) (fun e7 => ?_)
  · have e7' : nx (s.drop i) 0 = 58 := by simp at e7; omega
    refine zt ?_; refine wm ?_; refine zt ?_
    refine Ev.call (byte_ok (by assumption) hs (by omega) 1 (by omega)) ?_
    rintro _ _ ⟨rfl, rfl⟩
    rw [nx_drop]
    refine zt ?_
    refine Ev.ieq (fun e8 => ?_) (fun e8 => ?_)
    · have e8' : nx (s.drop i) 1 = 61 := by simp at e8; omega
      rw [if_pos ⟨e7', e8'⟩] at hm
      cases hm
      refine ap ?_; refine yt ?_; refine wn ?_; refine wf ?_; refine wq ?_
      refine Ev.iadd ?_
      rw [addN 2 (by omega)]
      refine wn ?_; refine wf ?_; refine wv fun _ _ => ?_; refine wf ?_; refine wu fun _ _ => ?_
      unfold s50a5
      refine ws ?_; refine wt fun _ _ => ?_; refine ws ?_
      exact Ev.ret ⟨rfl, I, ILe.refl _, dp⟩
    · have e8' : ¬ nx (s.drop i) 1 = 61 := by simp at e8; omega
      refine ap ?_; refine yj ?_
      refine Ev.ieq (fun e9 => ?_) (fun e9 => absurd e7 e9)
      refine zt ?_; refine wm ?_; refine zt ?_
      refine Ev.call (byte_ok (by assumption) hs (by omega) 1 (by omega)) ?_
      rintro _ _ ⟨rfl, rfl⟩
      rw [nx_drop]
      refine zt ?_
      refine Ev.call (letter_ok _ _) ?_
      rintro _ _ ⟨rfl, rfl⟩
      cases e10 : letterB (nx (s.drop i) 1) with
      | true =>
        rw [if_neg (fun q => e8' q.2), if_pos ⟨e7', e10⟩] at hm
        cases hm
        refine ap ?_; refine yt ?_; refine wn ?_; refine wf ?_; refine wq ?_
        refine Ev.iadd ?_
        rw [addN 1 (by omega)]
        refine wn ?_; refine wf ?_; refine wv fun _ _ => ?_; refine wf ?_; refine wu fun _ _ => ?_
        refine Ev.call (nm_ok (by assumption) hs hb (by omega)) ?_
        rintro _ _ ⟨rfl, S1⟩
        have hdd : s.drop (i + 1) = (s.drop i).drop 1 := by rw [List.drop_drop]
        rw [hdd] at S1 ⊢
        refine wx ?_; refine wx ?_; refine wf ?_; refine wu fun _ _ => ?_
        unfold s50a5
        refine ws ?_; refine wt fun _ _ => ?_; refine ws ?_
        refine Ev.ret ⟨rfl, I, ILe.refl _, ?_⟩
        rw [show i + ((nameM ((s.drop i).drop 1)).2.2 + 1) = i + 1 + (nameM ((s.drop i).drop 1)).2.2 by omega]
        exact dp
      | false =>
        have F := fin (fun q => e8' q.2) (fun q => by rw [e10] at q; exact absurd q.2 (by simp)) _ _ _ S0
        refine ap ?_; refine yj ?_
        exact F
  · have e7' : ¬ nx (s.drop i) 0 = 58 := by simp at e7; omega
    refine yf ?_; refine yf ?_; refine yf ?_; refine aq ?_; refine yj ?_
    refine Ev.ieq (fun e9 => absurd e9 e7) (fun e9 => ?_)
    have F := fin (fun q => e7' q.1) (fun q => e7' q.1) _ _ _ S0
    refine yf ?_; refine yf ?_; refine yf ?_; refine aq ?_; refine yj ?_
    exact F

end

theorem idxGo_lt (c : Nat) : ∀ (l : List Nat) (i : Nat), ¬ idxGo c l i < 0 → ∃ k : Nat, k < l.length ∧ idxGo c l i = ((i + k : Nat) : Int)
  | [], i, h => absurd (by show Int.negSucc 0 < 0; decide) h
  | x :: l, i, h => by
    unfold idxGo at h ⊢
    cases e : Nat.beq x c with
    | true => exact ⟨0, by simp, by simp⟩
    | false =>
      rw [e] at h
      obtain ⟨k, h1, h2⟩ := idxGo_lt c l (i + 1) h
      refine ⟨k + 1, by simpa using h1, ?_⟩
      simp only [cond_false, h2]
      omega

/-- A token is appended. -/
theorem app_tok {I : Im} {B A Q L : Ls} {h : Hp} {x : DV} {l : List Tok} (G : Gr I 4 B x l.length (l.map tc).flatten) {t : Tok} {b : Pos} (S : Sy I (B ++ A) Q L h) (m : (b, some (.row .ex (tc t))) ∈ L) (hl : l.length + 1 ≤ lim) :
    ∃ x' h' B', pAppend 4 40 x (.l b 0 1 1) h = some (x', h') ∧ Sy I (B' ++ A) Q L h' ∧ Gr I 4 B' x' (l ++ [t]).length ((l ++ [t]).map tc).flatten := by
  have hr : (l.length + 1) * 40 ≤ roomD := by simp [roomD, lim] at hl ⊢; omega
  obtain ⟨x4, h4, B4, e4, S4, G4⟩ := G.app S (src_own S (n := 1) m rfl (tc_ones t)) rfl (tc_ones t) (by omega) hr
  exact ⟨x4, h4, B4, e4, S4, by simpa using G4⟩

theorem fill4 (t : Tok) : fillD [(.i .i64 (Int.ofNat 0)), (.s []), (.i .i64 (Int.ofNat 0)), (.i .i64 (Int.ofNat 0))] [(0, 4, .a (tc t))] = some (tc t) := by
  simp [fillD, cellsD, tc]

/-- What a call that answers tokens leaves. -/
def TPost (I : Im) (A Q L : Ls) (res : List Tok × Int × Int) (v : DV) (h : Hp) : Prop :=
  ∃ J x, v = .t [x, .i .i64 res.2.1, .i .i64 res.2.2] ∧ ILe I J ∧ Sy J A Q L h ∧ TS' J x res.1

theorem TS'.nil (I : Im) : TS' I .l0 [] := ⟨by simp, .inl ⟨rfl, rfl, rfl⟩⟩

theorem toks_loop {A L : Ls} {s : List Nat} (hs : s.length ≤ lim) (hb : ∀ c ∈ s, c < 256) (g : Nat) {r : Pos} : ∀ (f j i : Nat) (I : Im) (B : Ls) (h : Hp) (x : DV) (out : List Tok) (res : List Tok × Int × Int), Sy I (B ++ A) [RS r s i] L h → Gr I 4 B x out.length (out.map tc).flatten →
    i ≤ s.length → out.length + f ≤ lim → toksM g s f i out = some res →
    Ev (fun n => s29a7l (shD n) n (n - j) (.s s) (.p r 0) x h) (TPost I A [] L res) := by
  intro f
  induction f with
  | zero => intro j i I B h x out res S G hi hl hm; cases hm
  | succ f ih =>
    intro j i I B h x out res S G hi hl hm
    unfold toksM at hm
    refine Ev.loop j (ll := fun n m => s29a7l (shD n) n m (.s s) (.p r 0) x h) (bb := fun n m => s29a7b (shD n) n (s29a7l (shD n) n m) (.s s) (.p r 0) x h) (fun _ _ => rfl) ?_
    unfold s29a7b
    refine Ev.call (in_ok S blanks) ?_
    rintro cl h1 ⟨J, gJ, S1, C1⟩
    refine Ev.lenS ?_
    refine Ev.call (run_ok C1 S1 hs hb hi s.length hs) ?_
    rintro _ h2 ⟨rfl, S2⟩
    have e0 : runN (inB blanks) s.length (s.drop i) = ((s.drop i).takeWhile (inB blanks)).length := runN_tw _ _ _ (by simp)
    rw [e0] at S2
    have hle := tw_le (inB blanks) (s.drop i)
    have hdl : (s.drop i).length = s.length - i := by simp
    generalize hw : ((s.drop i).takeWhile (inB blanks)).length = w at hm S2 hle
    have hi2 : i + w ≤ s.length := by omega
    generalize hi3 : i + w = i' at hm S2 hi2
    have hdrop : ∀ {K : Im} {e : Pos × Option Ob} {M : Ls} {h'' : Hp}, Sy K A [e] M h'' → Sy K A [] M h'' := fun S => Sy.dropL (Sy.lQ (Q := []) S)
    have hs' := hs
    simp only [lim] at hs'
    refine wn ?_; refine wf ?_; refine wq ?_
    refine Ev.lenS ?_
    refine Ev.ige (fun e1 => ?_) (fun e1 => ?_)
    · have e1' : s.length ≤ i' := by omega
      rw [if_pos e1'] at hm
      cases hm
      refine yt ?_
      unfold s29a6
      refine Ev.lenS ?_
      refine wd ?_
      refine Ev.bs S2 (fill4 ⟨0, [], 0, (s.length : Int)⟩) ?_
      intro b3 h3 S3
      obtain ⟨x4, h4, B4, e4, S4, G4⟩ := app_tok (G.mono gJ) S3 (List.Mem.head _) (by omega)
      refine Ev.op e4 ?_
      obtain ⟨K, gK, S5, F5⟩ := G4.freeze S4
      exact Ev.ret ⟨K, x4, rfl, gJ.trans gK, hdrop S5.dropL, by simp; omega, F5⟩
    · have e1' : i' < s.length := by omega
      rw [if_neg (by omega)] at hm
      refine yj ?_; refine wn ?_; refine wf ?_; refine wq ?_
      refine Ev.op (idxS (c := s[i']) (by simp [e1']) _) ?_
      have hnx : nx s i' = s[i'] := by simp [nx, List.getD, e1']
      refine Ev.ieq (fun e2 => ?_) (fun e2 => ?_)
      · have e2' : nx s i' = 34 := by rw [hnx]; simp at e2; omega
        rw [if_pos e2'] at hm
        refine yt ?_; refine wn ?_; refine wf ?_; refine wq ?_
        refine Ev.iadd ?_
        rw [addN 1 (by omega)]
        refine Ev.op (cutE (by omega) _) ?_
        refine Ev.call (index_ok _ 34 (by omega) _) ?_
        rintro _ _ ⟨rfl, rfl⟩
        refine Ev.ilt (fun e3 => ?_) (fun e3 => ?_)
        · rw [if_pos (show idxGo 34 (s.drop (i' + 1)) 0 < 0 from e3)] at hm
          cases hm
          refine yt ?_; refine wn ?_; refine wf ?_; refine wq ?_
          obtain ⟨K, gK, S5, F5⟩ := (G.mono gJ).freeze S2
          exact Ev.ret ⟨K, .l0, rfl, gJ.trans gK, hdrop S5, TS'.nil K⟩
        · have e3' : ¬ idxGo 34 (s.drop (i' + 1)) 0 < 0 := e3
          rw [if_neg e3'] at hm
          obtain ⟨k, hk1, hk2⟩ := idxGo_lt 34 _ _ e3'
          rw [hk2] at hm ⊢
          have hk3 : k < s.length - (i' + 1) := by simpa using hk1
          simp only [Nat.zero_add, Int.toNat_natCast] at hm
          refine yj ?_; refine wn ?_; refine wf ?_; refine wq ?_
          refine Ev.iadd ?_
          rw [Nat.zero_add, addN 2 (by omega)]
          refine Ev.iadd ?_
          rw [show (i' : Int) + ((k + 2 : Nat) : Int) = ((i' + k + 2 : Nat) : Int) by omega, wrapN _ (by omega)]
          refine wn ?_; refine wf ?_; refine wv fun _ _ => ?_
          refine (ih (j + 1) (i' + k + 2) J B _ x out res (by assumption) (G.mono gJ) (by omega) (by omega) hm).mono ?_
          rintro v h' ⟨K, y, a1, a2, a3⟩
          exact ⟨K, y, a1, gJ.trans a2, a3⟩
      · have e2' : ¬ nx s i' = 34 := by rw [hnx]; simp at e2; omega
        rw [if_neg e2'] at hm
        obtain ⟨rs, hr, hm⟩ := Option.bind_eq_some_iff.1 hm
        refine yj ?_
        refine Ev.call (tok_ok S2 hs hb e1' g rs hr) ?_
        rintro _ h3 ⟨rfl, K, gK, S3⟩
        refine wx ?_; refine wx ?_; refine wa fun _ _ _ => ?_; refine wt fun _ _ => ?_
        refine Ev.ine (fun e3 => ?_) (fun e3 => ?_)
        · rw [if_neg (show ¬ rs.2.2.2.1 = 0 from e3)] at hm
          cases hm
          refine yt ?_; refine wf ?_; refine wl ?_
          obtain ⟨M, gM, S5, F5⟩ := ((G.mono gJ).mono gK).freeze (by assumption)
          exact Ev.ret ⟨M, .l0, rfl, (gJ.trans gK).trans gM, hdrop S5.dropL, TS'.nil M⟩
        · rw [if_pos (show rs.2.2.2.1 = 0 from e3)] at hm
          split at hm
          · cases hm
          · rename_i hfit
            refine yj ?_; refine ws ?_
            refine Ev.bs (by assumption) (fill4 ⟨rs.1, rs.2.1, rs.2.2.1, (i' : Int)⟩) ?_
            intro b4 h4 S4
            obtain ⟨x5, h5, B5, e5, S5, G5⟩ := app_tok ((G.mono gJ).mono gK) S4 (List.Mem.head _) (by omega)
            refine Ev.op e5 ?_
            refine (ih (j + 1) (i' + rs.2.2.2.2) K B5 h5 x5 _ res S5.dropL.dropL G5 (by simp at hfit; omega) (by simp; omega) hm).mono ?_
            rintro v h' ⟨M, y, a1, a2, a3⟩
            exact ⟨M, y, a1, (gJ.trans gK).trans a2, a3⟩

/-- The tokens of a source. -/
theorem lex_ok {I : Im} {A L : Ls} {h : Hp} (S : Sy I A [] L h) {s : List Nat} (hs : s.length ≤ lim) (hb : ∀ c ∈ s, c < 256) (g f : Nat) (hf : f ≤ lim) (res : List Tok × Int × Int) (hm : lexM g f s = some res) :
    Ev (fun n => shD n 29 [.s s] h) (TPost I A [] L res) := by
  unfold lexM at hm
  refine Ev.enter (fun n => enter29 n _ h) ?_
  unfold s29 s29a1
  refine Ev.lenS ?_
  refine Ev.igt (fun e1 => ?_) (fun e1 => ?_)
  · rw [if_pos (show 2000 < s.length by simp at e1; omega)] at hm
    cases hm
    refine yt ?_
    exact Ev.ret ⟨I, .l0, rfl, ILe.refl _, S, TS'.nil I⟩
  · rw [if_neg (show ¬ 2000 < s.length by simp at e1; omega)] at hm
    refine yj ?_
    unfold s29a2 s29a3 s29a4 s29a5 s29a7
    refine wd ?_; refine wb fun _ _ _ => ?_
    rename_i r h1 S1
    exact toks_loop hs hb g f 0 0 I [] _ .l0 [] res (Sy.qL S1) (Gr.nil I 4) (by omega) (by simpa using hf) hm

end Go.Dd

/- Dd, part T14: the program's parser: a method's head; a source as a node. -/
set_option linter.unusedVariables false
set_option linter.unusedSimpArgs false
set_option maxRecDepth 100000
namespace Go.Dd
open Go.Proofs

def patL : Nat → List Nat → List (List Nat) → Bool → PSt → Option ((List Nat × List (List Nat)) × PSt)
  | 0, _, _, _, _ => none
  | f + 1, t, l, first, st => (if first then some true else isS st 2 []).bind fun c => if c then (needS st 2 []).bind fun r => if t.length + r.1.text.length ≤ lim then (nameS r.2 1 l.length).bind fun q => patL f (t ++ r.1.text) (l ++ [q.1]) false q.2 else none else some ((t, l), st)
def patternS (f : Nat) (st : PSt) : Option ((List Nat × List (List Nat)) × PSt) :=
  (isS st 1 []).bind fun c => if c then (takeS st).bind fun r => some ((r.1.text, []), r.2) else (isS st 3 []).bind fun c =>
    if c then (takeS st).bind fun r => (nameS r.2 1 0).bind fun q => some ((r.1.text, [q.1]), q.2) else patL f [] [] true st
def primT : List Nat := [112, 114, 105, 109, 105, 116, 105, 118, 101, 58]
def primS (st : PSt) : Option (Int × PSt) :=
  (isS st 3 [60]).bind fun c => if c then (takeS st).bind fun r => (needS r.2 2 primT).bind fun a => (needS a.2 4 []).bind fun b =>
    (needS (if 255 < b.1.num then failS b.2 b.1 2 else b.2) 3 [62]).bind fun d => some (b.1.num, d.2) else some (0, st)
def headS (f : Nat) : PF := fun st => (patternS f st).bind fun a => (primS a.2).bind fun b => some (.mk 11 a.1.1 b.1 a.1.2 [] [], b.2)
def doitS : PF := fun st => some (.mk 11 [100, 111, 73, 116] 0 [] [] [], st)
def Node.with (x : Node) (ts : List (List Nat)) (ks : List Node) : Node := match x with
  | .mk k t m ns _ _ => .mk k t m ns ts ks
def readM (H : PF) (f : Nat) (lx : List Tok × Int × Int) : Option (Node × Int × Int) :=
  if lx.2.2 = 0 then (H ⟨lx.1, 0, 0, 0⟩).bind fun a => (tempsS f a.2).bind fun b => (stmtsL (exprF f) f [] b.2).bind fun c => (needS c.2 0 []).bind fun d =>
    if d.2.err = 0 then some (a.1.with b.1 c.1, 0, 0) else some (zN, d.2.pos, d.2.err)
  else some (zN, lx.2.1, lx.2.2)

theorem enter39 (n : Nat) (x y : DV) (h : Hp) : shD (n + 1) 39 [x, y] h = s39 (shD n) n x y h := by kernel_rfl
theorem enter40 (n : Nat) (x : DV) (h : Hp) : shD (n + 1) 40 [x] h = s40 (shD n) n x h := by kernel_rfl
theorem enter24 (n : Nat) (x : DV) (h : Hp) : shD (n + 1) 24 [x] h = s24 (shD n) n x h := by kernel_rfl
theorem enter18 (n : Nat) (x : DV) (h : Hp) : shD (n + 1) 18 [x] h = s18 (shD n) n x h := by kernel_rfl
theorem enter17 (n : Nat) (x y : DV) (h : Hp) : shD (n + 1) 17 [x, y] h = s17 (shD n) n x y h := by kernel_rfl
theorem enter8 (n : Nat) (x : DV) (h : Hp) : shD (n + 1) 8 [x] h = s8 (shD n) n x h := by kernel_rfl
theorem enter15 (n : Nat) (x : DV) (h : Hp) : shD (n + 1) 15 [x] h = s15 (shD n) n x h := by kernel_rfl
theorem call18 (rec : FuncId → List DV → Hp → Res) (x : DV) (h : Hp) : pCall CF rec (.f 18 [] []) [x] h = rec 18 [x] h := by kernel_rfl
theorem call24 (rec : FuncId → List DV → Hp → Res) (x : DV) (h : Hp) : pCall CF rec (.f 24 [] []) [x] h = rec 24 [x] h := by kernel_rfl

theorem doit_ok : NOk 18 doitS := by
  intro I A L h p s st x st' S T hm
  cases hm
  refine Ev.enter (fun n => enter18 n _ h) ?_
  unfold s18
  refine wa fun _ _ _ => ?_; refine wd ?_; refine wt fun _ _ => ?_; refine ws ?_
  exact Ev.ret ⟨I, s, _, rfl, ILe.refl _, dp, T, NV.flat _ _ _⟩

theorem prim_ok {I : Im} {A L : Ls} {h : Hp} {p : Pos} {s : DV} {st : PSt} (S : Sy I A [PS p s st] L h) (T : TS' I s st.toks) {m : Int} {st' : PSt} (hm : primS st = some (m, st')) :
    Ev (fun n => shD n 40 [.p p 0] h) (fun v h' => v = .i .i64 m ∧ ∃ s', Sy I A [PS p s' st'] L h' ∧ TS' I s' st'.toks) := by
  unfold primS at hm
  obtain ⟨c, hc, hm⟩ := Option.bind_eq_some_iff.1 hm
  refine Ev.enter (fun n => enter40 n _ h) ?_
  unfold s40 s40a1
  refine Ev.call (is_ok S T hc) ?_
  rintro _ _ ⟨rfl, S1⟩
  cases c with
  | false =>
    simp only [Bool.false_eq_true, if_false, Option.some.injEq, Prod.mk.injEq] at hm
    obtain ⟨rfl, rfl⟩ := hm
    refine ao ?_; refine yt ?_
    exact Ev.ret ⟨rfl, s, S1, T⟩
  | true =>
    rw [if_pos rfl] at hm
    obtain ⟨⟨t1, st1⟩, h1, hm⟩ := Option.bind_eq_some_iff.1 hm
    obtain ⟨⟨t2, st2⟩, h2, hm⟩ := Option.bind_eq_some_iff.1 hm
    obtain ⟨⟨t3, st3⟩, h3, hm⟩ := Option.bind_eq_some_iff.1 hm
    obtain ⟨⟨t4, st4⟩, h4, hm⟩ := Option.bind_eq_some_iff.1 hm
    simp only [Option.some.injEq, Prod.mk.injEq] at hm
    obtain ⟨rfl, rfl⟩ := hm
    refine an ?_; refine yj ?_
    unfold s40a2
    refine Ev.call (take_ok S1 T h1) ?_
    rintro _ _ ⟨rfl, s2, S2, T2⟩
    unfold s40a3
    refine Ev.call (need_ok S2 T2 h2) ?_
    rintro _ _ ⟨rfl, s3, S3, T3⟩
    unfold s40a4
    refine Ev.call (need_ok S3 T3 h3) ?_
    rintro _ _ ⟨rfl, s4, S4, T4⟩
    refine wa fun _ _ _ => ?_; refine wt fun _ _ => ?_
    unfold s40a5 s40a6
    refine wf ?_; refine wl ?_
    refine Ev.igt (fun e1 => ?_) (fun e1 => ?_)
    · refine yt ?_; refine ws ?_
      simp only [if_pos (show 255 < t3.num from e1)] at h4
      refine Ev.call (fail_ok (by assumption) T4.2.one t3 _) ?_
      rintro _ _ ⟨rfl, S5⟩
      refine Ev.call (need_ok S5 (by rw [failS_toks]; exact T4) h4) ?_
      rintro _ _ ⟨rfl, s6, S6, T6⟩
      refine wf ?_; refine wl ?_
      exact Ev.ret ⟨rfl, s6, dp, T6⟩
    · refine yj ?_
      simp only [if_neg (show ¬ 255 < t3.num from e1)] at h4
      refine Ev.call (need_ok (by assumption) T4 h4) ?_
      rintro _ _ ⟨rfl, s6, S6, T6⟩
      refine wf ?_; refine wl ?_
      exact Ev.ret ⟨rfl, s6, dp, T6⟩

/-- What the pattern leaves in its node. -/
def PPost (I : Im) (A L : Ls) (p b : Pos) (r : List Nat × List (List Nat)) (st : PSt) (v : DV) (h : Hp) : Prop :=
  ∃ J s x, ILe I J ∧ Sy J A [PS p s st] ((b, some (.row .ex [.i .i64 (Int.ofNat 11), .s r.1, .i .i64 (Int.ofNat 0), x, .l0, .l0])) :: L) h ∧ TS' J s st.toks ∧ SS J x r.2

theorem pat_loop {A L : Ls} {p b : Pos} : ∀ (f j : Nat) (I : Im) (B : Ls) (h : Hp) (s x : DV) (st : PSt) (t : List Nat) (l : List (List Nat)) (first : Bool) (r : List Nat × List (List Nat)) (st' : PSt),
    Sy I (B ++ A) [PS p s st] ((b, some (.row .ex [.i .i64 (Int.ofNat 11), .s t, .i .i64 (Int.ofNat 0), x, .l0, .l0])) :: L) h → Gr I 1 B x l.length (l.map .s) → l.length + f ≤ lim → TS' I s st.toks → patL f t l first st = some (r, st') →
    Ev (fun n => s39a6l (shD n) n (n - j) (.p p 0) (.p b 0) (.b first) h) (PPost I A L p b r st') := by
  intro f
  induction f with
  | zero => intro j I B h s x st t l first r st' S G hl T hm; cases hm
  | succ f ih =>
    intro j I B h s x st t l first r st' S G hl T hm
    unfold patL at hm
    obtain ⟨c, hc, hm⟩ := Option.bind_eq_some_iff.1 hm
    refine Ev.loop j (ll := fun n m => s39a6l (shD n) n m (.p p 0) (.p b 0) (.b first) h) (bb := fun n m => s39a6b (shD n) n (s39a6l (shD n) n m) (.p p 0) (.p b 0) (.b first) h) (fun _ _ => rfl) ?_
    have hx := G.one
    unfold s39a6b
    have rest : c = true → ∀ h1, Sy I (B ++ A) [PS p s st] ((b, some (.row .ex [.i .i64 (Int.ofNat 11), .s t, .i .i64 (Int.ofNat 0), x, .l0, .l0])) :: L) h1 →
        Ev (fun n => bnd (pNil (.p b 0) h1) fun v26 h26 =>
          bnd (pField 1 v26 h26) fun v27 h27 =>
          bnd (pLoad1 v27 h27) fun v28 h28 =>
          bnd (shD n 32 [.p p 0, .i .i64 (Int.ofNat 2), .s []] h28) fun v29 h29 =>
          Dd.cnd (sameR (pLoad1 v27 h29) v28 && true) (
          bnd (pPart1 1 v29 h29) fun v30 h30 =>
          bnd (pStr .add v28 v30 h30) fun v31 h31 =>
          bnd (pNil (.p b 0) h31) fun v32 h32 =>
          bnd (pField 1 v32 h32) fun v33 h33 =>
          bnd (pStore 1 v33 v31 h33) fun v34 h34 =>
          bnd (pNil (.p b 0) (resv 1 h34)) fun v35 h35 =>
          bnd (pField 3 v35 h35) fun v36 h36 =>
          bnd (pLoad1 v36 h36) fun v37 h37 =>
          bnd (pNil (.p b 0) h37) fun v38 h38 =>
          bnd (pField 3 v38 h38) fun v39 h39 =>
          bnd (pLoad1 v39 h39) fun v40 h40 =>
          bnd (shD n 56 [.p p 0, .i .i64 (Int.ofNat 1), v40] h40) fun v41 h41 =>
          Dd.cnd (sameR (pLoad1 v36 h41) v37 && true) (
          bnd (pBuildSliceAt (nthPos 0 h34.next) [.s []] 1 [(0, 1, v41)] h41) fun v42 h42 =>
          bnd (pAppend 1 16 v37 v42 h42) fun v43 h43 =>
          bnd (pNil (.p b 0) h43) fun v44 h44 =>
          bnd (pField 3 v44 h44) fun v45 h45 =>
          bnd (pStore 1 v45 v43 h45) fun v46 h46 =>
          s39a6l (shD n) n (n - (j + 1)) (.p p 0) (.p b 0) (.b false) h46))) (PPost I A L p b r st') := by
      intro hc1 h1 S1
      subst hc1
      rw [if_pos rfl] at hm
      obtain ⟨⟨t1, st1⟩, ht1, hm⟩ := Option.bind_eq_some_iff.1 hm
      split at hm
      · rename_i hlen
        obtain ⟨⟨t2, st2⟩, ht2, hm⟩ := Option.bind_eq_some_iff.1 hm
        refine wn ?_; refine wf ?_; refine wl ?_
        refine Ev.call (need_ok S1 T ht1) ?_
        rintro _ _ ⟨rfl, s2, S2, T2⟩
        refine Ev.cnd ?_ ?_
        · rw [Bool.and_true]; exact same1S S2 (by first | exact List.Mem.head _ | exact (List.Mem.tail _ (List.Mem.head _)) | exact (List.Mem.tail _ (List.Mem.tail _ (List.Mem.head _))) | exact (List.Mem.tail _ (List.Mem.tail _ (List.Mem.tail _ (List.Mem.head _)))) | exact (List.Mem.tail _ (List.Mem.tail _ (List.Mem.tail _ (List.Mem.tail _ (List.Mem.head _))))) | exact (List.Mem.tail _ (List.Mem.tail _ (List.Mem.tail _ (List.Mem.tail _ (List.Mem.tail _ (List.Mem.head _)))))) | exact (List.Mem.tail _ (List.Mem.tail _ (List.Mem.tail _ (List.Mem.tail _ (List.Mem.tail _ (List.Mem.tail _ (List.Mem.head _))))))) | exact (List.Mem.tail _ (List.Mem.tail _ (List.Mem.tail _ (List.Mem.tail _ (List.Mem.tail _ (List.Mem.tail _ (List.Mem.tail _ (List.Mem.head _)))))))) | exact (List.Mem.tail _ (List.Mem.tail _ (List.Mem.tail _ (List.Mem.tail _ (List.Mem.tail _ (List.Mem.tail _ (List.Mem.tail _ (List.Mem.tail _ (List.Mem.head _)))))))))) rfl rfl (beq_s _)
        refine wp ?_
        refine Ev.sadd (by simp only [lim] at hlen; omega) ?_
        refine wn ?_; refine wf ?_; refine wu fun _ _ => ?_; refine wn ?_; refine wf ?_
        have Sr := Sy.res (by assumption)
        refine wl ?_; refine wn ?_; refine wf ?_; refine wl ?_
        refine Ev.call (name_ok Sr T2 G.len ht2) ?_
        rintro _ _ ⟨rfl, s3, S3, T3⟩
        refine Ev.cnd ?_ ?_
        · rw [Bool.and_true]; exact same1S S3 (by first | exact List.Mem.head _ | exact (List.Mem.tail _ (List.Mem.head _)) | exact (List.Mem.tail _ (List.Mem.tail _ (List.Mem.head _))) | exact (List.Mem.tail _ (List.Mem.tail _ (List.Mem.tail _ (List.Mem.head _)))) | exact (List.Mem.tail _ (List.Mem.tail _ (List.Mem.tail _ (List.Mem.tail _ (List.Mem.head _))))) | exact (List.Mem.tail _ (List.Mem.tail _ (List.Mem.tail _ (List.Mem.tail _ (List.Mem.tail _ (List.Mem.head _)))))) | exact (List.Mem.tail _ (List.Mem.tail _ (List.Mem.tail _ (List.Mem.tail _ (List.Mem.tail _ (List.Mem.tail _ (List.Mem.head _))))))) | exact (List.Mem.tail _ (List.Mem.tail _ (List.Mem.tail _ (List.Mem.tail _ (List.Mem.tail _ (List.Mem.tail _ (List.Mem.tail _ (List.Mem.head _)))))))) | exact (List.Mem.tail _ (List.Mem.tail _ (List.Mem.tail _ (List.Mem.tail _ (List.Mem.tail _ (List.Mem.tail _ (List.Mem.tail _ (List.Mem.tail _ (List.Mem.head _)))))))))) rfl hx G.beq
        refine Ev.bsAt0 S3 (cs := [.s t2]) (by first | exact Rpl.head _ | exact (Rpl.tail _ (Rpl.head _)) | exact (Rpl.tail _ (Rpl.tail _ (Rpl.head _))) | exact (Rpl.tail _ (Rpl.tail _ (Rpl.tail _ (Rpl.head _)))) | exact (Rpl.tail _ (Rpl.tail _ (Rpl.tail _ (Rpl.tail _ (Rpl.head _))))) | exact (Rpl.tail _ (Rpl.tail _ (Rpl.tail _ (Rpl.tail _ (Rpl.tail _ (Rpl.head _)))))) | exact (Rpl.tail _ (Rpl.tail _ (Rpl.tail _ (Rpl.tail _ (Rpl.tail _ (Rpl.tail _ (Rpl.head _))))))) | exact (Rpl.tail _ (Rpl.tail _ (Rpl.tail _ (Rpl.tail _ (Rpl.tail _ (Rpl.tail _ (Rpl.tail _ (Rpl.head _)))))))) | exact (Rpl.tail _ (Rpl.tail _ (Rpl.tail _ (Rpl.tail _ (Rpl.tail _ (Rpl.tail _ (Rpl.tail _ (Rpl.tail _ (Rpl.head _)))))))))) rfl ?_
        intro h4 S4
        obtain ⟨x5, h5, B5, e5, S5, G5⟩ := app_text G S4 (by first | exact List.Mem.head _ | exact (List.Mem.tail _ (List.Mem.head _)) | exact (List.Mem.tail _ (List.Mem.tail _ (List.Mem.head _))) | exact (List.Mem.tail _ (List.Mem.tail _ (List.Mem.tail _ (List.Mem.head _)))) | exact (List.Mem.tail _ (List.Mem.tail _ (List.Mem.tail _ (List.Mem.tail _ (List.Mem.head _))))) | exact (List.Mem.tail _ (List.Mem.tail _ (List.Mem.tail _ (List.Mem.tail _ (List.Mem.tail _ (List.Mem.head _)))))) | exact (List.Mem.tail _ (List.Mem.tail _ (List.Mem.tail _ (List.Mem.tail _ (List.Mem.tail _ (List.Mem.tail _ (List.Mem.head _))))))) | exact (List.Mem.tail _ (List.Mem.tail _ (List.Mem.tail _ (List.Mem.tail _ (List.Mem.tail _ (List.Mem.tail _ (List.Mem.tail _ (List.Mem.head _)))))))) | exact (List.Mem.tail _ (List.Mem.tail _ (List.Mem.tail _ (List.Mem.tail _ (List.Mem.tail _ (List.Mem.tail _ (List.Mem.tail _ (List.Mem.tail _ (List.Mem.head _)))))))))) (by omega)
        have hx5 := G5.one
        refine Ev.op e5 ?_
        refine wn ?_; refine wf ?_; refine wu fun _ _ => ?_
        exact ih (j + 1) I B5 _ s3 x5 st2 (t ++ t1.text) (l ++ [t2]) false r st' (dp) G5 (by simp; omega) T3 hm
      · cases hm
    cases first with
    | true =>
      simp only [if_true, Option.some.injEq] at hc
      have R := rest hc.symm _ S
      exact R
    | false =>
      simp only [Bool.false_eq_true, if_false] at hc
      refine zf ?_; refine wm ?_; refine zf ?_
      refine Ev.call (is_ok S T hc) ?_
      rintro _ _ ⟨rfl, S1⟩
      cases c with
      | true =>
        have R := rest rfl _ S1
        exact R
      | false =>
        simp only [Bool.false_eq_true, if_false, Option.some.injEq, Prod.mk.injEq] at hm
        obtain ⟨rfl, rfl⟩ := hm
        refine aq ?_; refine yj ?_
        obtain ⟨J, gJ, S5, F5⟩ := G.freeze S1
        exact Ev.ret ⟨J, s, x, gJ, S5, T.mono gJ, by simp; omega, F5⟩

theorem pattern_ok {I : Im} {A L : Ls} {h : Hp} {p b : Pos} {s : DV} {st : PSt} (f : Nat) (hf : f ≤ lim) (S : Sy I A [PS p s st] ((b, some (.row .ex [.i .i64 (Int.ofNat 11), .s [], .i .i64 (Int.ofNat 0), .l0, .l0, .l0])) :: L) h) (T : TS' I s st.toks) {r : List Nat × List (List Nat)} {st' : PSt} (hm : patternS f st = some (r, st')) :
    Ev (fun n => shD n 39 [.p p 0, .p b 0] h) (PPost I A L p b r st') := by
  unfold patternS at hm
  obtain ⟨c, hc, hm⟩ := Option.bind_eq_some_iff.1 hm
  refine Ev.enter (fun n => enter39 n _ _ h) ?_
  unfold s39
  refine Ev.call (is_ok S T hc) ?_
  rintro _ _ ⟨rfl, S1⟩
  unfold s39a1
  cases c with
  | true =>
    rw [if_pos rfl] at hm
    obtain ⟨⟨t1, st1⟩, ht1, hm⟩ := Option.bind_eq_some_iff.1 hm
    simp only [Option.some.injEq, Prod.mk.injEq] at hm
    obtain ⟨rfl, rfl⟩ := hm
    refine yt ?_
    refine Ev.call (take_ok S1 T ht1) ?_
    rintro _ _ ⟨rfl, s2, S2, T2⟩
    refine wp ?_; refine wn ?_; refine wf ?_; refine wu fun _ _ => ?_
    exact Ev.ret ⟨I, s2, .l0, ILe.refl _, by assumption, T2, SS.nil I⟩
  | false =>
    rw [if_neg (by simp)] at hm
    obtain ⟨c, hc, hm⟩ := Option.bind_eq_some_iff.1 hm
    refine yj ?_
    unfold s39a2
    refine Ev.call (is_ok S1 T hc) ?_
    rintro _ _ ⟨rfl, S2⟩
    unfold s39a3
    cases c with
    | true =>
      rw [if_pos rfl] at hm
      obtain ⟨⟨t1, st1⟩, ht1, hm⟩ := Option.bind_eq_some_iff.1 hm
      obtain ⟨⟨t2, st2⟩, ht2, hm⟩ := Option.bind_eq_some_iff.1 hm
      simp only [Option.some.injEq, Prod.mk.injEq] at hm
      obtain ⟨rfl, rfl⟩ := hm
      refine yt ?_
      refine Ev.call (take_ok S2 T ht1) ?_
      rintro _ _ ⟨rfl, s3, S3, T3⟩
      refine wp ?_; refine wn ?_; refine wf ?_; refine wu fun _ _ => ?_; refine wn ?_; refine wf ?_
      have Sr := Sy.res (by assumption)
      refine wl ?_; refine wn ?_; refine wf ?_; refine wl ?_
      have G := Gr.nil I 1
      refine Ev.call (name_ok Sr T3 G.len ht2) ?_
      rintro _ _ ⟨rfl, s4, S4, T4⟩
      refine Ev.cnd ?_ ?_
      · rw [Bool.and_true]; exact same1S S4 (by first | exact List.Mem.head _ | exact (List.Mem.tail _ (List.Mem.head _)) | exact (List.Mem.tail _ (List.Mem.tail _ (List.Mem.head _))) | exact (List.Mem.tail _ (List.Mem.tail _ (List.Mem.tail _ (List.Mem.head _)))) | exact (List.Mem.tail _ (List.Mem.tail _ (List.Mem.tail _ (List.Mem.tail _ (List.Mem.head _))))) | exact (List.Mem.tail _ (List.Mem.tail _ (List.Mem.tail _ (List.Mem.tail _ (List.Mem.tail _ (List.Mem.head _)))))) | exact (List.Mem.tail _ (List.Mem.tail _ (List.Mem.tail _ (List.Mem.tail _ (List.Mem.tail _ (List.Mem.tail _ (List.Mem.head _))))))) | exact (List.Mem.tail _ (List.Mem.tail _ (List.Mem.tail _ (List.Mem.tail _ (List.Mem.tail _ (List.Mem.tail _ (List.Mem.tail _ (List.Mem.head _)))))))) | exact (List.Mem.tail _ (List.Mem.tail _ (List.Mem.tail _ (List.Mem.tail _ (List.Mem.tail _ (List.Mem.tail _ (List.Mem.tail _ (List.Mem.tail _ (List.Mem.head _)))))))))) rfl rfl G.beq
      refine Ev.bsAt0 S4 (cs := [.s t2]) (by first | exact Rpl.head _ | exact (Rpl.tail _ (Rpl.head _)) | exact (Rpl.tail _ (Rpl.tail _ (Rpl.head _))) | exact (Rpl.tail _ (Rpl.tail _ (Rpl.tail _ (Rpl.head _)))) | exact (Rpl.tail _ (Rpl.tail _ (Rpl.tail _ (Rpl.tail _ (Rpl.head _))))) | exact (Rpl.tail _ (Rpl.tail _ (Rpl.tail _ (Rpl.tail _ (Rpl.tail _ (Rpl.head _)))))) | exact (Rpl.tail _ (Rpl.tail _ (Rpl.tail _ (Rpl.tail _ (Rpl.tail _ (Rpl.tail _ (Rpl.head _))))))) | exact (Rpl.tail _ (Rpl.tail _ (Rpl.tail _ (Rpl.tail _ (Rpl.tail _ (Rpl.tail _ (Rpl.tail _ (Rpl.head _)))))))) | exact (Rpl.tail _ (Rpl.tail _ (Rpl.tail _ (Rpl.tail _ (Rpl.tail _ (Rpl.tail _ (Rpl.tail _ (Rpl.tail _ (Rpl.head _)))))))))) rfl ?_
      intro h5 S5
      obtain ⟨x6, h6, B6, e6, S6, G6⟩ := app_text (l := []) (A := A) (B := []) G S5 (by first | exact List.Mem.head _ | exact (List.Mem.tail _ (List.Mem.head _)) | exact (List.Mem.tail _ (List.Mem.tail _ (List.Mem.head _))) | exact (List.Mem.tail _ (List.Mem.tail _ (List.Mem.tail _ (List.Mem.head _)))) | exact (List.Mem.tail _ (List.Mem.tail _ (List.Mem.tail _ (List.Mem.tail _ (List.Mem.head _))))) | exact (List.Mem.tail _ (List.Mem.tail _ (List.Mem.tail _ (List.Mem.tail _ (List.Mem.tail _ (List.Mem.head _)))))) | exact (List.Mem.tail _ (List.Mem.tail _ (List.Mem.tail _ (List.Mem.tail _ (List.Mem.tail _ (List.Mem.tail _ (List.Mem.head _))))))) | exact (List.Mem.tail _ (List.Mem.tail _ (List.Mem.tail _ (List.Mem.tail _ (List.Mem.tail _ (List.Mem.tail _ (List.Mem.tail _ (List.Mem.head _)))))))) | exact (List.Mem.tail _ (List.Mem.tail _ (List.Mem.tail _ (List.Mem.tail _ (List.Mem.tail _ (List.Mem.tail _ (List.Mem.tail _ (List.Mem.tail _ (List.Mem.head _)))))))))) (by simp [lim])
      have hx6 := G6.one
      refine Ev.op e6 ?_
      refine wn ?_; refine wf ?_; refine wu fun _ _ => ?_
      obtain ⟨J, gJ, S7, F7⟩ := G6.freeze (A0 := A) (by assumption)
      exact Ev.ret ⟨J, s4, x6, gJ, S7.dropL, T4.mono gJ, by simp [lim], F7⟩
    | false =>
      simp only [Bool.false_eq_true, if_false] at hm
      refine yj ?_
      unfold s39a4 s39a5 s39a6
      exact pat_loop f 0 I [] _ s .l0 st [] [] true r st' S2 (Gr.nil I 1) (by simpa using hf) T hm

theorem head_ok (f : Nat) (hf : f ≤ lim) : NOk 24 (headS f) := by
  intro I A L h p s st x st' S T hm
  unfold headS at hm
  obtain ⟨⟨⟨t, l⟩, st1⟩, h1, hm⟩ := Option.bind_eq_some_iff.1 hm
  obtain ⟨⟨m, st2⟩, h2, hm⟩ := Option.bind_eq_some_iff.1 hm
  simp only [Option.some.injEq, Prod.mk.injEq] at hm
  obtain ⟨rfl, rfl⟩ := hm
  refine Ev.enter (fun n => enter24 n _ h) ?_
  unfold s24
  refine wa fun _ _ _ => ?_; refine wd ?_; refine wa fun _ _ _ => ?_; refine wt fun _ _ => ?_
  refine Ev.call (pattern_ok f hf (by assumption) T h1) ?_
  rintro _ _ ⟨J, s3, x3, g3, S3, T3, N3⟩
  have o3 := N3.2.one
  refine Ev.call (prim_ok S3 T3 h2) ?_
  rintro _ _ ⟨rfl, s4, S4, T4⟩
  refine wf ?_; refine wu fun _ _ => ?_; refine ws ?_; refine wt fun _ _ => ?_; refine ws ?_
  exact Ev.ret ⟨J, s4, _, rfl, g3, dp, T4, NV.of N3 (SS.nil J) (NS.nil J)⟩

/-- What a call that answers a node, a place and an error leaves. -/
def RPost (I : Im) (A L : Ls) (res : Node × Int × Int) (v : DV) (h : Hp) : Prop :=
  ∃ J cs, v = .t [.a cs, .i .i64 res.2.1, .i .i64 res.2.2] ∧ ILe I J ∧ Sy J A [] L h ∧ NV J res.1 cs

theorem read_ok {I : Im} {A L : Ls} {h : Hp} {gh : FuncId} {H : PF} (hg : ∀ (rec : FuncId → List DV → Hp → Res) (x : DV) (h : Hp), pCall CF rec (.f gh [] []) [x] h = rec gh [x] h) (HH : NOk gh H) (S : Sy I A [] L h) {s : List Nat} (hs : s.length ≤ lim) (hb : ∀ c ∈ s, c < 256) (g fl f : Nat) (hfl : fl ≤ lim) (hf : f + 2 ≤ lim)
    (lx : List Tok × Int × Int) (hl : lexM g fl s = some lx) (res : Node × Int × Int) (hm : readM H f lx = some res) :
    Ev (fun n => shD n 17 [.s s, .f gh [] []] h) (RPost I A L res) := by
  refine Ev.enter (fun n => enter17 n _ _ h) ?_
  unfold s17
  simp only [hg]
  unfold readM at hm
  refine wa fun _ _ _ => ?_
  refine Ev.call (lex_ok (by assumption) hs hb g fl hfl lx hl) ?_
  rintro _ h1 ⟨J, x1, rfl, g1, S1, T1⟩
  have o1 := T1.2.one
  refine wx ?_; refine wx ?_; refine wx ?_
  refine Ev.ine (fun e1 => ?_) (fun e1 => ?_)
  · rw [if_neg (show ¬ lx.2.2 = 0 from e1)] at hm
    cases hm
    refine yt ?_; refine wd ?_; refine wt fun _ _ => ?_; refine ws ?_
    exact Ev.ret ⟨J, _, rfl, g1, dp, NV.flat _ _ _⟩
  · rw [if_pos (show lx.2.2 = 0 from e1)] at hm
    obtain ⟨⟨y, st1⟩, hy, hm⟩ := Option.bind_eq_some_iff.1 hm
    obtain ⟨⟨ts, st2⟩, h2, hm⟩ := Option.bind_eq_some_iff.1 hm
    obtain ⟨⟨ks, st3⟩, h3, hm⟩ := Option.bind_eq_some_iff.1 hm
    obtain ⟨⟨t, st4⟩, h4, hm⟩ := Option.bind_eq_some_iff.1 hm
    refine yj ?_; refine wd ?_; refine wb fun _ _ _ => ?_
    rename_i p hp Sp
    refine Ev.call (HH _ _ _ _ p x1 ⟨lx.1, 0, 0, 0⟩ _ _ (Sy.qL Sp) T1 hy) ?_
    rintro _ _ ⟨K, s2, cs, rfl, g2, S2, T2, N2⟩
    obtain ⟨k, tt, mm, ns, ts0, ks0⟩ := y
    obtain ⟨d1, d2, d3, rfl, a1, a2, a3, cells, F, NL⟩ := N2
    have q1 := a1.2.one
    have q2 := a2.2.one
    have q3 := F.one
    refine wa fun _ _ _ => ?_; refine wt fun _ _ => ?_
    refine Ev.call (temps_ok f (by omega) (by assumption) T2 h2) ?_
    rintro v3 _ ⟨M, s3, g3, S3, T3, N3⟩
    have q4 := N3.2.one
    refine wf ?_; refine wu fun _ _ => ?_
    refine Ev.call (stmts_ok (exprF_ok f hf) f (by omega) (by assumption) T3 h3) ?_
    rintro v4 _ ⟨O, s4, g4, S4, T4, N4⟩
    have q5 := N4.one
    refine wf ?_; refine wu fun _ _ => ?_
    refine Ev.call (need_ok (by assumption) T4 h4) ?_
    rintro _ _ ⟨rfl, s5, S5, T5⟩
    have q6 := T5.2.one
    have hdrop : ∀ {K : Im} {e : Pos × Option Ob} {M : Ls} {h'' : Hp}, Sy K A [e] M h'' → Sy K A [] M h'' := fun S => Sy.dropL (Sy.lQ (Q := []) S)
    refine wn ?_; refine wf ?_; refine wq ?_
    refine Ev.ine (fun e2 => ?_) (fun e2 => ?_)
    · rw [if_neg (show ¬ st4.err = 0 from e2)] at hm
      cases hm
      refine yt ?_; refine wd ?_; refine wn ?_; refine wf ?_; refine wq ?_; refine wn ?_; refine wf ?_; refine wq ?_; refine wt fun _ _ => ?_
      refine Ev.cnd ?_ ?_
      · rename_i hq Sq
        rw [ld1 (Sq.memQ (List.Mem.head _)) rfl rfl, ld1 (Sq.memQ (List.Mem.head _)) rfl rfl]
        simp [sameR, DV.beq]
      refine ws ?_
      exact Ev.ret ⟨O, _, rfl, ((g1.trans g2).trans g3).trans g4, hdrop (dp), NV.flat _ _ _⟩
    · rw [if_pos (show st4.err = 0 from e2)] at hm
      cases hm
      refine yj ?_; refine ws ?_; refine wt fun _ _ => ?_; refine ws ?_
      refine Ev.ret ⟨O, _, rfl, ((g1.trans g2).trans g3).trans g4, hdrop (dp), ?_⟩
      exact NV.of ((a1.mono g3).mono g4) (N3.mono g4) N4

/-- The node of statements. -/
theorem Doit_ok {I : Im} {A L : Ls} {h : Hp} (S : Sy I A [] L h) {s : List Nat} (hs : s.length ≤ lim) (hb : ∀ c ∈ s, c < 256) (g fl f : Nat) (hfl : fl ≤ lim) (hf : f + 2 ≤ lim)
    (lx : List Tok × Int × Int) (hl : lexM g fl s = some lx) (res : Node × Int × Int) (hm : readM doitS f lx = some res) :
    Ev (fun n => shD n 8 [.s s] h) (RPost I A L res) := by
  refine Ev.enter (fun n => enter8 n _ h) ?_
  unfold s8
  refine wa fun _ _ _ => ?_
  refine Ev.call (read_ok call18 doit_ok (by assumption) hs hb g fl f hfl hf lx hl res hm) ?_
  rintro _ h1 ⟨J, cs, rfl, g1, S1, N1⟩
  obtain ⟨l1, o1, b1⟩ := N1.shape
  refine wx ?_; refine wx ?_; refine wx ?_; refine wt fun _ _ => ?_; refine ws ?_
  exact Ev.ret ⟨J, cs, rfl, g1, dp, N1⟩

theorem Method_ok {I : Im} {A L : Ls} {h : Hp} (S : Sy I A [] L h) {s : List Nat} (hs : s.length ≤ lim) (hb : ∀ c ∈ s, c < 256) (g fl f fh : Nat) (hfl : fl ≤ lim) (hf : f + 2 ≤ lim) (hfh : fh ≤ lim)
    (lx : List Tok × Int × Int) (hl : lexM g fl s = some lx) (res : Node × Int × Int) (hm : readM (headS fh) f lx = some res) :
    Ev (fun n => shD n 15 [.s s] h) (RPost I A L res) := by
  refine Ev.enter (fun n => enter15 n _ h) ?_
  unfold s15
  refine wa fun _ _ _ => ?_
  refine Ev.call (read_ok call24 (head_ok fh hfh) (by assumption) hs hb g fl f hfl hf lx hl res hm) ?_
  rintro _ h1 ⟨J, cs, rfl, g1, S1, N1⟩
  obtain ⟨l1, o1, b1⟩ := N1.shape
  refine wx ?_; refine wx ?_; refine wx ?_; refine wt fun _ _ => ?_; refine ws ?_
  exact Ev.ret ⟨J, cs, rfl, g1, dp, N1⟩

end Go.Dd

/- Dd, part B1: plain: what the program's parser says does not depend on where its tokens stand, but for a number right behind a sign. -/
set_option linter.unusedVariables false
set_option linter.unusedSimpArgs false
set_option maxRecDepth 100000
namespace Go.Dd

def TE (t u : Tok) : Prop := t.kind = u.kind ∧ t.text = u.text ∧ t.num = u.num

def Sim (l l' : List Tok) : Prop := l.length = l'.length ∧ ∀ (i : Nat) (t : Tok), l[i]? = some t → ∃ t', l'[i]? = some t' ∧ TE t t' ∧
  (t.kind = 3 → ∀ u u', l[i + 1]? = some u → u.kind = 4 → l'[i + 1]? = some u' → (u.pos = w64 (t.pos + 1) ↔ u'.pos = w64 (t'.pos + 1)))

def Rs (a b : PSt) : Prop := Sim a.toks b.toks ∧ a.deep = b.deep ∧ a.err = b.err

def RO {α : Type} (V : α → α → Prop) (o o' : Option (α × PSt)) : Prop := ∀ x s, o = some (x, s) → ∃ y s', o' = some (y, s') ∧ V x y ∧ Rs s s'

section
variable {α β : Type} {V : α → α → Prop} {W : β → β → Prop}
theorem RO.bind {o o' : Option (α × PSt)} {k k' : α × PSt → Option (β × PSt)} (H : RO V o o') (K : ∀ x y s s', V x y → Rs s s' → RO W (k (x, s)) (k' (y, s'))) : RO W (o.bind k) (o'.bind k') := by
  intro y t e
  obtain ⟨⟨x, s⟩, e1, e2⟩ := Option.bind_eq_some_iff.1 e
  obtain ⟨x', s', a, b, c⟩ := H x s e1
  obtain ⟨y', t', d⟩ := K x x' s s' b c y t e2
  exact ⟨y', t', by rw [a]; exact d.1, d.2⟩
theorem RO.bindB {γ : Type} {o o' : Option γ} {k k' : γ → Option (β × PSt)} (H : ∀ b, o = some b → o' = some b) (K : ∀ b, o = some b → RO W (k b) (k' b)) : RO W (o.bind k) (o'.bind k') := by
  intro y t e
  obtain ⟨x, e1, e2⟩ := Option.bind_eq_some_iff.1 e
  obtain ⟨y', t', d⟩ := K x e1 y t e2
  exact ⟨y', t', by rw [H x e1]; exact d.1, d.2⟩
theorem RO.bindT {o o' : Option Tok} {k k' : Tok → Option (β × PSt)} (H : ∀ b, o = some b → ∃ b', o' = some b' ∧ TE b b') (K : ∀ b b', TE b b' → RO W (k b) (k' b')) : RO W (o.bind k) (o'.bind k') := by
  intro y t e
  obtain ⟨x, e1, e2⟩ := Option.bind_eq_some_iff.1 e
  obtain ⟨x', a, b⟩ := H x e1
  obtain ⟨y', t', d⟩ := K x x' b y t e2
  exact ⟨y', t', by rw [a]; exact d.1, d.2⟩
theorem RO.bindS {o o' : Option PSt} {k k' : PSt → Option (β × PSt)} (H : ∀ s, o = some s → ∃ s', o' = some s' ∧ Rs s s') (K : ∀ s s', Rs s s' → RO W (k s) (k' s')) : RO W (o.bind k) (o'.bind k') := by
  intro y t e
  obtain ⟨x, e1, e2⟩ := Option.bind_eq_some_iff.1 e
  obtain ⟨x', a, b⟩ := H x e1
  obtain ⟨y', t', d⟩ := K x x' b y t e2
  exact ⟨y', t', by rw [a]; exact d.1, d.2⟩
theorem RO.some {x y : α} {s s' : PSt} (h : V x y) (r : Rs s s') : RO V (some (x, s)) (some (y, s')) := fun _ _ e => by
  cases e; exact ⟨_, _, rfl, h, r⟩
theorem RO.none {o : Option (α × PSt)} : RO V none o := fun _ _ e => by cases e
end

variable {s s' : PSt}

theorem look_R (R : Rs s s') (k : Nat) : ∀ t, lookS s k = some t → ∃ t', lookS s' k = some t' ∧ TE t t' := by
  intro t h
  unfold lookS at h ⊢
  obtain ⟨t', a, b, _⟩ := R.1.2 _ t h
  exact ⟨t', by rw [← R.1.1]; exact a, b⟩

theorem is_R (R : Rs s s') (k : Int) (t : List Nat) : ∀ b, isS s k t = some b → isS s' k t = some b := by
  intro b h
  unfold isS at h ⊢
  obtain ⟨x, e1, e2⟩ := Option.bind_eq_some_iff.1 h
  obtain ⟨x', a, b1, b2, b3⟩ := look_R R 0 x e1
  rw [a, Option.bind_some, ← R.2.2, ← b1, ← b2]
  exact e2

theorem fail_R (R : Rs s s') (t t' : Tok) (e : Int) : Rs (failS s t e) (failS s' t' e) := by
  unfold failS
  rw [← R.2.2]
  split
  · exact ⟨R.1, R.2.1, rfl⟩
  · exact R

theorem Sim.drop {l l' : List Tok} (h : Sim l l') (n : Nat) : Sim (l.drop n) (l'.drop n) := by
  refine ⟨by simp [h.1], fun i t ht => ?_⟩
  rw [List.getElem?_drop] at ht
  obtain ⟨t', a, b, c⟩ := h.2 _ t ht
  refine ⟨t', by rw [List.getElem?_drop]; exact a, b, fun k u u' hu k2 hu' => ?_⟩
  rw [List.getElem?_drop] at hu hu'
  exact c k u u' hu k2 hu'

theorem take_R (R : Rs s s') : RO TE (takeS s) (takeS s') := by
  unfold takeS
  refine RO.bindT (look_R R 0) fun t t' h => ?_
  rw [← h.1]
  by_cases h0 : t.kind = 0
  · rw [if_pos h0, if_pos h0]; exact RO.some h R
  · rw [if_neg h0, if_neg h0, ← R.1.1]
    split
    · exact RO.some h ⟨R.1.drop 1, R.2⟩
    · exact RO.none

theorem TE.refl (t : Tok) : TE t t := ⟨rfl, rfl, rfl⟩

theorem need_R (R : Rs s s') (k : Int) (t : List Nat) : RO TE (needS s k t) (needS s' k t) := by
  unfold needS
  refine RO.bindB (is_R R k t) fun b _ => ?_
  cases b with
  | true => exact take_R R
  | false =>
    simp only [Bool.false_eq_true, if_false]
    exact RO.bindT (look_R R 0) fun t t' h => RO.some (TE.refl _) (fail_R R _ _ _)

theorem name_R (R : Rs s s') (k : Int) (n : Nat) : RO Eq (nameS s k n) (nameS s' k n) := by
  unfold nameS
  refine RO.bind (need_R R k []) fun x y a b h R2 => ?_
  refine RO.some h.2.1 ?_
  show Rs (if n = 4 then failS a x 18 else a) (if n = 4 then failS b y 18 else b)
  split
  · exact fail_R R2 _ _ _
  · exact R2

theorem neg_R (R : Rs s s') : ∀ c, negS s = some c → negS s' = some c := by
  intro c h
  unfold negS at h ⊢
  obtain ⟨t, e1, h⟩ := Option.bind_eq_some_iff.1 h
  obtain ⟨d, e2, h⟩ := Option.bind_eq_some_iff.1 h
  obtain ⟨u, e3, h⟩ := Option.bind_eq_some_iff.1 h
  simp only [Option.some.injEq] at h
  obtain ⟨t', f1, g1⟩ := look_R R 1 t e1
  obtain ⟨u', f3, g3⟩ := look_R R 0 u e3
  have f2 := is_R R 3 [45] d e2
  rw [f1, Option.bind_some, f2, Option.bind_some, f3, Option.bind_some]
  rw [← h]
  congr 1
  rw [← g1.1]
  cases d with
  | false => simp
  | true =>
    by_cases k4 : t.kind = 4
    · simp only [k4, decide_true, Bool.true_and]
      unfold isS at e2
      rw [e3, Option.bind_some] at e2
      simp only [Option.some.injEq, Bool.and_eq_true, decide_eq_true_eq] at e2
      obtain ⟨⟨z1, z2⟩, z3⟩ := e2
      unfold lookS at e1 e3 f1 f3
      have hl := R.1.1
      have h0 : 0 < s.toks.length := by have := (List.getElem?_eq_some_iff.1 e3).1; omega
      by_cases h1 : s.toks.length = 1
      · exfalso
        rw [h1] at e1 e3
        simp at e1 e3
        rw [e1] at e3
        cases e3
        omega
      · rw [show min 1 (s.toks.length - 1) = 1 by omega] at e1
        rw [show min 0 (s.toks.length - 1) = 0 by omega] at e3
        rw [show min 1 (s'.toks.length - 1) = 1 by omega] at f1
        rw [show min 0 (s'.toks.length - 1) = 0 by omega] at f3
        obtain ⟨u2, p1, p2, p3⟩ := R.1.2 0 u e3
        rw [f3] at p1
        cases p1
        have := p3 z2 t t' e1 k4 f1
        simp only [this]
    · simp [k4]

theorem plain_R (R : Rs s s') : RO Eq (plainS s) (plainS s') := by
  unfold plainS
  refine RO.bindT (look_R R 0) fun t t' h => ?_
  rw [← R.2.2, ← h.1, ← h.2.1, ← h.2.2]
  by_cases he : s.err = 0
  · rw [if_pos he, if_pos he]
    refine RO.bindB (neg_R R) fun c _ => ?_
    cases c with
    | true =>
      simp only [if_true]
      exact RO.bind (take_R R) fun x y a b _ R2 => RO.bind (take_R R2) fun x y a b h R3 => RO.some (by rw [h.2.2]) R3
    | false =>
      simp only [Bool.false_eq_true, if_false]
      split
      · exact RO.bind (take_R R) fun x y a b _ R2 => RO.some rfl R2
      · split
        · exact RO.bind (take_R R) fun x y a b _ R2 => RO.some rfl R2
        · split
          · exact RO.bind (take_R R) fun x y a b _ R2 => RO.some rfl R2
          · exact RO.some rfl R
  · rw [if_neg he, if_neg he]
    exact RO.some rfl R

def PR (f : PF) : Prop := ∀ s s', Rs s s' → RO Eq (f s) (f s')

theorem within_R {f : PF} (F : PR f) : PR (withinS f) := by
  intro s s' R
  unfold withinS
  refine RO.bind (take_R R) fun x y a b h R2 => ?_
  show RO Eq (if a.deep = 20 then _ else _) (if b.deep = 20 then _ else _)
  rw [← R2.2.1]
  split
  · exact RO.some rfl (fail_R R2 _ _ _)
  · refine RO.bind (F _ _ ⟨R2.1, rfl, R2.2.2⟩) fun x y c d h R3 => ?_
    subst h
    exact RO.some rfl ⟨R3.1, by show w64 (c.deep - 1) = w64 (d.deep - 1); rw [R3.2.1], R3.2.2⟩

theorem unary_R : ∀ (f : Nat) (x : Node), PR (unaryS f x)
  | 0, x => fun s s' R => RO.none
  | f + 1, x => fun s s' R => by
    unfold unaryS
    refine RO.bindB (is_R R _ _) fun c _ => ?_
    cases c with
    | true =>
      refine RO.bind (take_R R) fun t u a b h R2 => ?_
      show RO Eq (unaryS f (sendN t.text [x]) a) (unaryS f (sendN u.text [x]) b)
      rw [h.2.1]
      exact unary_R f _ _ _ R2
    | false => exact RO.some rfl R

theorem tempsL_R : ∀ (f : Nat) (l : List (List Nat)) (s s' : PSt), Rs s s' → RO Eq (tempsL f l s) (tempsL f l s')
  | 0, l, s, s', R => RO.none
  | f + 1, l, s, s', R => by
    unfold tempsL
    refine RO.bindB (is_R R _ _) fun c _ => ?_
    cases c with
    | true =>
      refine RO.bind (take_R R) fun t u a b h R2 => ?_
      show RO Eq (tempsL f (l ++ [t.text]) a) (tempsL f (l ++ [u.text]) b)
      rw [h.2.1]
      exact tempsL_R f _ _ _ R2
    | false => exact RO.bind (need_R R _ _) fun x y a b _ R2 => RO.some rfl R2

theorem temps_R (f : Nat) (R : Rs s s') : RO Eq (tempsS f s) (tempsS f s') := by
  unfold tempsS
  refine RO.bindB (is_R R _ _) fun c _ => ?_
  cases c with
  | true => exact RO.bind (take_R R) fun t u a b h R2 => tempsL_R f [] _ _ R2
  | false => exact RO.some rfl R

theorem inner_R {E : PF} (F : PR E) : PR (innerS E) := by
  intro s s' R
  unfold innerS
  refine RO.bind (F _ _ R) fun x y a b h R2 => ?_
  subst h
  exact RO.bind (need_R R2 _ _) fun _ _ _ _ _ R3 => RO.some rfl R3

theorem litsL_R {LI : PF} (F : PR LI) : ∀ (f : Nat) (xs : List Node) (s s' : PSt), Rs s s' → RO Eq (litsL LI f xs s) (litsL LI f xs s')
  | 0, xs, s, s', R => RO.none
  | f + 1, xs, s, s', R => by
    unfold litsL
    rw [← R.2.2]
    split
    · refine RO.bindB (is_R R _ _) fun c _ => ?_
      cases c with
      | true => exact RO.some rfl R
      | false =>
        refine RO.bind (plain_R R) fun x y a b h R2 => ?_
        subst h
        show RO Eq (if x.2 = true then litsL LI f (xs ++ [x.1]) a else _) (if x.2 = true then litsL LI f (xs ++ [x.1]) b else _)
        split
        · exact litsL_R F f _ _ _ R2
        · refine RO.bindB (is_R R2 _ _) fun c1 _ => ?_
          have step : ∀ c2, RO Eq (if c2 = true then (withinS LI a).bind fun q => litsL LI f (xs ++ [q.1]) q.2 else (lookS a 0).bind fun t => litsL LI f (xs ++ [x.1]) (failS a t 13))
              (if c2 = true then (withinS LI b).bind fun q => litsL LI f (xs ++ [q.1]) q.2 else (lookS b 0).bind fun t => litsL LI f (xs ++ [x.1]) (failS b t 13)) := by
            intro c2
            cases c2 with
            | true =>
              refine RO.bind (within_R F _ _ R2) fun x y a b h R3 => ?_
              subst h
              exact litsL_R F f _ _ _ R3
            | false => exact RO.bindT (look_R R2 0) fun t t' h => litsL_R F f _ _ _ (fail_R R2 _ _ _)
          cases c1 with
          | true => exact step true
          | false => exact RO.bindB (is_R R2 _ _) fun c2 _ => step c2
    · exact RO.some rfl R

theorem literals_R {LI : PF} (F : PR LI) (f : Nat) : PR (literalsS LI f) := by
  intro s s' R
  unfold literalsS
  refine RO.bind (litsL_R F f [] _ _ R) fun x y a b h R2 => ?_
  subst h
  exact RO.bind (take_R R2) fun _ _ _ _ _ R3 => RO.some rfl R3

theorem paramsL_R : ∀ (f : Nat) (l : List (List Nat)) (s s' : PSt), Rs s s' → RO Eq (paramsL f l s) (paramsL f l s')
  | 0, l, s, s', R => RO.none
  | f + 1, l, s, s', R => by
    unfold paramsL
    refine RO.bindB (is_R R _ _) fun c _ => ?_
    cases c with
    | true =>
      refine RO.bind (name_R R _ _) fun x y a b h R2 => ?_
      subst h
      exact paramsL_R f _ _ _ R2
    | false => exact RO.some rfl R

theorem stmtsL_R {E : PF} (F : PR E) : ∀ (f : Nat) (xs : List Node) (s s' : PSt), Rs s s' → RO Eq (stmtsL E f xs s) (stmtsL E f xs s')
  | 0, xs, s, s', R => RO.none
  | f + 1, xs, s, s', R => by
    unfold stmtsL
    rw [← R.2.2]
    split
    · refine RO.bindB (is_R R _ _) fun c _ => ?_
      cases c with
      | true => exact RO.some rfl R
      | false =>
        refine RO.bindB (is_R R _ _) fun c _ => ?_
        cases c with
        | true => exact RO.some rfl R
        | false =>
          refine RO.bindB (is_R R _ _) fun c _ => ?_
          cases c with
          | true =>
            refine RO.bind (take_R R) fun _ _ a b _ R2 => ?_
            refine RO.bind (F _ _ R2) fun x y a b h R3 => ?_
            subst h
            refine RO.bindB (is_R R3 _ _) fun c _ => ?_
            cases c with
            | true => exact RO.bind (take_R R3) fun _ _ _ _ _ R4 => RO.some rfl R4
            | false => exact RO.some rfl R3
          | false =>
            refine RO.bind (F _ _ R) fun x y a b h R3 => ?_
            subst h
            refine RO.bindB (is_R R3 _ _) fun c _ => ?_
            cases c with
            | true => exact RO.bind (take_R R3) fun _ _ _ _ _ R4 => stmtsL_R F f _ _ _ R4
            | false => exact RO.some rfl R3
    · exact RO.some rfl R

theorem bar_R (l : List (List Nat)) (R : Rs s s') : ∀ t, bar l s = some t → ∃ t', bar l s' = some t' ∧ Rs t t' := by
  intro t h
  unfold bar at h ⊢
  split at h
  · rename_i hl
    rw [if_pos hl]
    obtain ⟨c, e, h⟩ := Option.bind_eq_some_iff.1 h
    rw [is_R R _ _ c e, Option.bind_some]
    cases c with
    | true => cases h; exact ⟨_, rfl, R⟩
    | false =>
      simp only [Bool.false_eq_true, if_false] at h ⊢
      obtain ⟨⟨x, a⟩, e2, h⟩ := Option.bind_eq_some_iff.1 h
      cases h
      obtain ⟨y, b, e3, _, R2⟩ := need_R R 10 [124] x a e2
      exact ⟨b, by rw [e3]; rfl, R2⟩
  · rename_i hl
    rw [if_neg hl]
    cases h; exact ⟨_, rfl, R⟩

theorem block_R {E : PF} (F : PR E) (f : Nat) : PR (blockS E f) := by
  intro s s' R
  unfold blockS
  refine RO.bind (paramsL_R f [] _ _ R) fun x y a b h R2 => ?_
  subst h
  refine RO.bindS (bar_R x R2) fun a b R3 => ?_
  refine RO.bind (temps_R f R3) fun y y' a b h R4 => ?_
  subst h
  refine RO.bind (stmtsL_R F f [] _ _ R4) fun z z' a b h R5 => ?_
  subst h
  exact RO.bind (need_R R5 _ _) fun _ _ _ _ _ R6 => RO.some rfl R6

theorem primary_R {LI E : PF} (FL : PR LI) (FE : PR E) (f : Nat) : PR (primaryS LI E f) := by
  intro s s' R
  unfold primaryS
  refine RO.bind (plain_R R) fun x y a b h R2 => ?_
  subst h
  show RO Eq (if x.2 = true then _ else _) (if x.2 = true then _ else _)
  split
  · exact RO.some rfl R2
  · refine RO.bindT (look_R R2 0) fun t t' h => ?_
    show RO Eq (if a.err = 0 then _ else _) (if b.err = 0 then _ else _)
    rw [← R2.2.2, ← h.1]
    split
    · split
      · refine RO.bind (take_R R2) fun u u' a b h R3 => ?_
        show RO Eq (some (Node.mk 5 u.text 0 [] [] [], a)) (some (Node.mk 5 u'.text 0 [] [] [], b))
        rw [h.2.1]
        exact RO.some rfl R3
      · split
        · exact within_R FL _ _ R2
        · refine RO.bindB (is_R R2 _ _) fun c _ => ?_
          cases c with
          | true => exact within_R (inner_R FE) _ _ R2
          | false =>
            refine RO.bindB (is_R R2 _ _) fun c _ => ?_
            cases c with
            | true => exact within_R (block_R FE f) _ _ R2
            | false => exact RO.some rfl (fail_R R2 _ _ _)
    · exact RO.some rfl R2

theorem binaryL_R {P : PF} (F : PR P) (g : Nat) : ∀ (f : Nat) (x : Node), PR (binaryL P g f x)
  | 0, x => fun s s' R => RO.none
  | f + 1, x => fun s s' R => by
    unfold binaryL
    refine RO.bindB (is_R R _ _) fun c _ => ?_
    cases c with
    | true =>
      refine RO.bind (take_R R) fun t u a b h R2 => ?_
      refine RO.bind (F _ _ R2) fun y y' a b h2 R3 => ?_
      subst h2
      refine RO.bind (unary_R g y _ _ R3) fun z z' a b h2 R4 => ?_
      subst h2
      show RO Eq (binaryL P g f (sendN t.text [x, z]) a) (binaryL P g f (sendN u.text [x, z]) b)
      rw [h.2.1]
      exact binaryL_R F g f _ _ _ R4
    | false => exact RO.some rfl R

theorem keysL_R {P : PF} (F : PR P) (g : Nat) : ∀ (f : Nat) (t : List Nat) (ks : List Node), PR (keysL P g f t ks)
  | 0, t, ks => fun s s' R => RO.none
  | f + 1, t, ks => fun s s' R => by
    unfold keysL
    refine RO.bindB (is_R R _ _) fun c _ => ?_
    cases c with
    | true =>
      refine RO.bind (take_R R) fun x u a b h R2 => ?_
      show RO Eq (if t.length + x.text.length ≤ lim then _ else _) (if t.length + u.text.length ≤ lim then _ else _)
      rw [← h.2.1]
      split
      · refine RO.bind (F _ _ R2) fun y y' a b h2 R3 => ?_
        subst h2
        refine RO.bind (unary_R g y _ _ R3) fun z z' a b h2 R4 => ?_
        subst h2
        refine RO.bind (binaryL_R F g g z _ _ R4) fun w w' a b h2 R5 => ?_
        subst h2
        exact keysL_R F g f _ _ _ _ R5
      · exact RO.none
    | false => exact RO.some rfl R

theorem keys_R {P : PF} (F : PR P) (g : Nat) (x : Node) : PR (keysS P g x) := by
  intro s s' R
  unfold keysS
  refine RO.bindB (is_R R _ _) fun c _ => ?_
  cases c with
  | true => exact keysL_R F g g [] [x] _ _ R
  | false => exact RO.some rfl R

theorem msg_R {P : PF} (F : PR P) (g : Nat) : PR (msgS P g) := by
  intro s s' R
  unfold msgS
  refine RO.bindT (look_R R 0) fun t t' h => ?_
  rw [← h.1, ← h.2.1]
  split
  · exact RO.bind (take_R R) fun _ _ _ _ _ R2 => RO.some rfl R2
  · split
    · refine RO.bind (take_R R) fun _ _ _ _ _ R2 => ?_
      refine RO.bind (F _ _ R2) fun y y' a b h2 R3 => ?_
      subst h2
      refine RO.bind (unary_R g y _ _ R3) fun z z' a b h2 R4 => ?_
      subst h2
      exact RO.some rfl R4
    · split
      · exact keys_R F g zN _ _ R
      · exact RO.some rfl (fail_R R _ _ _)

theorem casL_R {P : PF} (F : PR P) (g : Nat) : ∀ (f : Nat) (ks : List Node), PR (casL P g f ks)
  | 0, ks => fun s s' R => RO.none
  | f + 1, ks => fun s s' R => by
    unfold casL
    refine RO.bindB (is_R R _ _) fun c _ => ?_
    cases c with
    | true =>
      refine RO.bind (take_R R) fun _ _ _ _ _ R2 => ?_
      refine RO.bind (msg_R F g _ _ R2) fun y y' a b h2 R3 => ?_
      subst h2
      exact casL_R F g f _ _ _ R3
    | false => exact RO.some rfl R

theorem cascade_R {P : PF} (F : PR P) (g : Nat) : PR (cascadeS P g) := by
  intro s s' R
  unfold cascadeS
  refine RO.bind (F _ _ R) fun y y' a b h2 R2 => ?_
  subst h2
  refine RO.bind (unary_R g y _ _ R2) fun z z' a b h2 R3 => ?_
  subst h2
  refine RO.bind (binaryL_R F g g z _ _ R3) fun w w' a b h2 R4 => ?_
  subst h2
  refine RO.bind (keys_R F g w _ _ R4) fun n n' a b h2 R5 => ?_
  subst h2
  refine RO.bindB (is_R R5 _ _) fun c _ => ?_
  cases c with
  | true =>
    show RO Eq (if n.kind = 7 then _ else _) (if n.kind = 7 then _ else _)
    split
    · refine RO.bindB (fun b e => e) fun k0 _ => ?_
      exact casL_R F g g _ _ _ R5
    · exact RO.bindT (look_R R5 0) fun t t' h => RO.some rfl (fail_R R5 _ _ _)
  | false => exact RO.some rfl R5

theorem expr_R {P E : PF} (F : PR P) (FE : PR E) (g : Nat) : PR (exprS P E g) := by
  intro s s' R
  unfold exprS
  refine RO.bindB (is_R R _ _) fun c _ => ?_
  have step : ∀ d, RO Eq (if d = true then (takeS s).bind fun r => (takeS r.2).bind fun q => (E q.2).bind fun u => some (Node.mk 6 r.1.text 0 [] [] [u.1], u.2) else cascadeS P g s)
      (if d = true then (takeS s').bind fun r => (takeS r.2).bind fun q => (E q.2).bind fun u => some (Node.mk 6 r.1.text 0 [] [] [u.1], u.2) else cascadeS P g s') := by
    intro d
    cases d with
    | true =>
      refine RO.bind (take_R R) fun t u _ _ h R2 => ?_
      refine RO.bind (take_R R2) fun _ _ _ _ _ R3 => ?_
      refine RO.bind (FE _ _ R3) fun y y' a b h2 R4 => ?_
      subst h2
      show RO Eq (some (Node.mk 6 t.text 0 [] [] [y], a)) (some (Node.mk 6 u.text 0 [] [] [y], b))
      rw [h.2.1]
      exact RO.some rfl R4
    | false => exact cascade_R F g _ _ R
  refine RO.bindB ?_ fun d _ => step d
  intro d hd
  cases c with
  | true =>
    simp only [if_true] at hd ⊢
    obtain ⟨t, e1, e2⟩ := Option.bind_eq_some_iff.1 hd
    obtain ⟨t', a, b⟩ := look_R R 1 t e1
    rw [a, Option.bind_some, ← b.1]
    exact e2
  | false => exact hd

theorem litF_R : ∀ f, PR (litF f)
  | 0 => fun s s' R => RO.none
  | f + 1 => literals_R (litF_R f) f
theorem exprF_R : ∀ f, PR (exprF f)
  | 0 => fun s s' R => RO.none
  | f + 1 => expr_R (primary_R (litF_R f) (exprF_R f) f) (exprF_R f) f

/-- What is behind a head: temporaries and statements, and no more. -/
def tailM (f : Nat) (x : Node) (st : PSt) : Option (Node × PSt) := (tempsS f st).bind fun b => (stmtsL (exprF f) f [] b.2).bind fun c => (needS c.2 0 []).bind fun d => some (x.with b.1 c.1, d.2)

theorem tail_R (f : Nat) (x : Node) : PR (tailM f x) := by
  intro s s' R
  unfold tailM
  refine RO.bind (temps_R f R) fun y y' a b h2 R2 => ?_
  subst h2
  refine RO.bind (stmtsL_R (exprF_R f) f [] _ _ R2) fun z z' a b h2 R3 => ?_
  subst h2
  exact RO.bind (need_R R3 _ _) fun _ _ _ _ _ R4 => RO.some rfl R4

theorem readM_tail (H : PF) (f : Nat) (l : List Tok) : readM H f (l, 0, 0) = (H ⟨l, 0, 0, 0⟩).bind fun a => (tailM f a.1 a.2).bind fun d => if d.2.err = 0 then some (d.1, 0, 0) else some (zN, d.2.pos, d.2.err) := by
  unfold readM tailM
  rw [if_pos rfl]
  cases H ⟨l, 0, 0, 0⟩ with
  | none => rfl
  | some a =>
    simp only [Option.bind_some]
    cases tempsS f a.2 with
    | none => rfl
    | some b =>
      simp only [Option.bind_some]
      cases stmtsL (exprF f) f [] b.2 with
      | none => rfl
      | some c =>
        simp only [Option.bind_some]
        cases needS c.2 0 [] with
        | none => rfl
        | some d => rfl

end Go.Dd

