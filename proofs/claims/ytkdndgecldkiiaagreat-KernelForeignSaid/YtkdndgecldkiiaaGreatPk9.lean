/- A part of the proof: FG7 FG8: each text has a comment of its own. -/
import Derived.Test.YtkdndgecldkiiaaGreatPk8
import Derived.ChangeSlices
set_option linter.unusedVariables false
set_option linter.unusedSimpArgs false
set_option linter.constructorNameAsVariable false
set_option maxRecDepth 100000
namespace Go.Dd
open Go.Proofs
section
variable {m rb : Pos} {M : MemV} {R : List Int} {h : Hp} {kd : Kind} {cap : Nat}
theorem vN {x1 : DV} {len : Nat} (hl : ∀ k, bQ x1 k = some (.i .i64 (Int.ofNat len), k)) (h18 : len ≠ 18) (m : Pos) (h : Hp) (n : Nat) :
  ∃ h', fW (n + 1) 32 [.p m 0, x1] h = some (.t [.p0, .i .i64 (Int.ofNat 7)], h') := by
 rw [shS 32 rfl, cJh]
 unfold s32
 obtain ⟨h1, e1⟩ : ∃ h1 : Hp, h1 = ⟨h.next.succ, Tr.set (.row .ex [.p m 0]) h.next h.bl⟩ := ⟨_, rfl⟩
 have bx : bS (.p m 0) h = some (.p h.next 0, h1) := by rw [e1]; rfl
 have r1 : h1.bl.get h.next = some (.row .ex [.p m 0]) := by rw [e1]; exact dIa _ _ _
 have eq : yU (.pointer 135) true (.p m 0) .p0 h1 = some (.b false, h1) := rfl
 have ne : ((Int.ofNat len : Int) != Int.ofNat 18) = true := by
  simp only [bne_iff_ne, ne_eq]
  exact fun e => h18 (Int.ofNat.inj e)
 simp only [g0, g1, bx, aZ]
 unfold wB
 simp only [jS (i := 0) r1 rfl rfl, aZ, eq, iG, hl, iF, ne, cP, eV, aIi, cN, cI]
 exact ⟨_, rfl⟩
theorem cQm {g : FuncId} (h1 : Nat.beq g 25 = false) (h2 : Nat.beq g 7 = false) (args : List DV) (h : Hp) : lD g args h = fW 900 g args h := by
 unfold lD
 rw [h1, cond_false, aSf, h2, cond_false]
theorem bXm (h : Hp) : lD 25 [] h = some (.b true, h) := rfl
theorem tI {x1 : DV} {m : Pos} {h : Hp} (ht : ∃ h', fW 900 32 [.p m 0, x1] h = some (.t [.p0, .i .i64 (Int.ofNat 7)], h')) : ∃ k, bAx lD 900 x1 (.p m 0) h = some (.b true, k) := by
 obtain ⟨h', e⟩ := ht
 unfold bAx
 have eq : yU (.pointer 77) true .p0 .p0 h' = some (.b true, h') := rfl
 simp only [cQm (g := 32) rfl rfl, e, aZ, px0, px1, eq, bQc, gS, show ((Int.ofNat 7 : Int) == Int.ofNat 7) = true from rfl, cN, bXm]
 exact ⟨_, rfl⟩
theorem yZ (a b : Int) (h : Hp) (hb : b ≠ 0) : aD .rem (.i .i64 a) (.i .i64 b) h = some (.i .i64 (a.tmod b), h) := by
 simp only [aD, if_true, fQ, if_neg hb]
theorem bZn {N : Int} (hN : 0 ≤ N) {x1 : DV} : ∀ (j i fuel : Nat) (M : MemV) (h : Hp), i + j = N.toNat % 30 → j < fuel → gQ m h = some M → Zr M → M.fin ≤ 3 + 10 * i → M.made ≤ i →
  ∃ h' M', uO lD 900 fuel (.i .i64 N) x1 (.p m 0) (.i .i64 (Int.ofNat i)) h = jB lD 900 x1 (.p m 0) h' ∧ gQ m h' = some M' ∧ Zr M' ∧ M'.wb = M.wb ∧ M'.pb = M.pb ∧ h'.next = h.next ∧ ∀ p, p ≠ m → p ≠ M.wb → p ≠ M.pb → h'.bl.get p = h.bl.get p := by
 have rm : ∀ k, aD .rem (.i .i64 N) (.i .i64 (Int.ofNat 30)) k = some (.i .i64 (Int.ofNat (N.toNat % 30)), k) := fun k => by
  rw [yZ N (Int.ofNat 30) k (by decide)]
  obtain ⟨a, rfl⟩ := Int.eq_ofNat_of_zero_le hN
  rfl
 have k30 : N.toNat % 30 < 30 := Nat.mod_lt _ (by decide)
 intro j
 induction j with
 | zero =>
  intro i fuel M h h1 h2 hm Z hf hd
  obtain ⟨fuel, rfl⟩ : ∃ k, fuel = k + 1 := ⟨fuel - 1, by omega⟩
  refine ⟨h, M, ?_, hm, Z, rfl, rfl, rfl, fun _ _ _ _ => rfl⟩
  show xT lD 900 (uO lD 900 fuel) _ _ _ _ h = _
  unfold xT
  have lt : decide (Int.ofNat i < Int.ofNat (N.toNat % 30)) = false := decide_eq_false (by show ¬ (i : Int) < ((N.toNat % 30 : Nat) : Int); omega)
  simp only [rm, aZ, dR, lt, cX]
 | succ j ih =>
  intro i fuel M h h1 h2 hm Z hf hd
  obtain ⟨fuel, rfl⟩ : ∃ k, fuel = k + 1 := ⟨fuel - 1, by omega⟩
  have lt : decide (Int.ofNat i < Int.ofNat (N.toNat % 30)) = true := decide_eq_true (by show (i : Int) < ((N.toNat % 30 : Nat) : Int); omega)
  obtain ⟨g, M1, e1, m1, Z1, f1, d1, w1, p1, x1', o1⟩ := cFz Z hm (f := i % 3) (c := i % 8) (by omega) (by omega) (by omega) (by omega)
  obtain ⟨h', M', e2, m2, Z2, w2, p2, x2, o2⟩ := ih (i + 1) fuel M1 g (by omega) (by omega) m1 Z1 (by omega) (by omega)
  refine ⟨h', M', ?_, m2, Z2, w2.trans w1, p2.trans p1, x2.trans x1', fun p a b c => (o2 p a (by rw [w1]; exact b) (by rw [p1]; exact c)).trans (o1 p a b c)⟩
  rw [← e2]
  show xT lD 900 (uO lD 900 fuel) _ _ _ _ h = _
  unfold xT
  have r3 : ∀ k, aD .rem (.i .i64 (Int.ofNat i)) (.i .i64 (Int.ofNat 3)) k = some (.i .i64 (Int.ofNat (i % 3)), k) := fun k => by rw [yZ _ _ k (by decide)]; rfl
  have r8 : ∀ k, aD .rem (.i .i64 (Int.ofNat i)) (.i .i64 (Int.ofNat 8)) k = some (.i .i64 (Int.ofNat (i % 8)), k) := fun k => by rw [yZ _ _ k (by decide)]; rfl
  simp only [rm, aZ, dR, lt, cI, r3, r8, e1, jN (Int.ofNat i) (Int.ofNat 1) g (show -9223372036854775808 ≤ (i : Int) + 1 ∧ (i : Int) + 1 ≤ 9223372036854775807 by omega)]
  rfl
def RtS (h : Hp) (x : DV) : Prop := x = .l0 ∨ ∃ (rb : Pos) (len cap : Nat) (R : List Int), x = .l rb 0 len cap ∧ len ≤ cap ∧ R.length = len ∧ h.bl.get rb = some (.row .ro (R.map iD)) ∧ rb.toNat < h.next.toNat
theorem aMl {N : Int} (hN : -9223372036854775808 ≤ N ∧ N ≤ 9223372036854775807) {h0 : Hp} {x1 : DV} (hx : RtS h0 x1) : ∃ k, aF CF lD 900 6 [iD N, x1] h0 = some (.b true, k) := by
 rw [dHr]
 simp only [g0, g1]
 show ∃ k, bOb lD 900 (iD N) x1 h0 = some (.b true, k)
 unfold bOb
 obtain ⟨h1, e1⟩ : ∃ h1 : Hp, h1 = ⟨aY 3 h0.next, Tr.set (.row .ex [.l h0.next 0 2000 2000, .i .i64 (.ofNat 3), .i .i64 (.ofNat 0), .m (aY 1 h0.next)]) (aY 2 h0.next)
    (Tr.set (.mi .e) (aY 1 h0.next) (Tr.set (.big 2000 .e) h0.next h0.bl))⟩ := ⟨_, rfl⟩
 have nw : aEz [.i .i64 (Int.ofNat 2000)] h0 = some (.p (aY 2 h0.next) 0, h1) := by rw [e1]; rfl
 have p1 : (aY 1 h0.next).toNat = h0.next.toNat + 1 := dIb _
 have p2 : (aY 2 h0.next).toNat = h0.next.toNat + 2 := by show h0.next.succ.succ.toNat = _; rw [dIb, dIb]
 have p3 : (aY 3 h0.next).toNat = h0.next.toNat + 3 := by show h0.next.succ.succ.succ.toNat = _; rw [dIb, dIb, dIb]
 have d01 : h0.next ≠ aY 1 h0.next := fun e => by have := congrArg Pos.toNat e; omega
 have d02 : h0.next ≠ aY 2 h0.next := fun e => by have := congrArg Pos.toNat e; omega
 have d12 : aY 1 h0.next ≠ aY 2 h0.next := fun e => by have := congrArg Pos.toNat e; omega
 have hm : gQ (aY 2 h0.next) h1 = some ⟨h0.next, 2000, 3, 0, aY 1 h0.next, .e, .e⟩ := by
  rw [e1]
  exact oW (M := ⟨h0.next, 2000, 3, 0, aY 1 h0.next, .e, .e⟩) (dIa _ _ _) ((dHz _ _ _ _ d02).trans ((dHz _ _ _ _ d01).trans (dIa _ _ _))) ((dHz _ _ _ _ d12).trans (dIa _ _ _)) (by show 2000 < 1000000; decide) (by show 3 ≤ 2000; decide) (by show 0 < 1000000; decide)
 have old : ∀ p : Pos, p.toNat < h0.next.toNat → h1.bl.get p = h0.bl.get p := fun p hp => by
  rw [e1]
  show (Tr.set _ _ (Tr.set _ _ (Tr.set _ _ h0.bl))).get p = _
  rw [dHz _ _ _ _ (fun e => by subst e; omega), dHz _ _ _ _ (fun e => by subst e; omega), dHz _ _ _ _ (fun e => by subst e; omega)]
 have n1 : h1.next.toNat = h0.next.toNat + 3 := by rw [e1]; exact p3
 have eq : yU (.pointer 135) true (.p (aY 2 h0.next) 0) .p0 h1 = some (.b false, h1) := rfl
 simp only [nw, aZ]
 unfold bZa
 simp only [eq, aZ, cX]
 have key : ∀ N : Int, 0 ≤ N → ∃ k, aXr lD 900 (.i .i64 N) x1 (.p (aY 2 h0.next) 0) h1 = some (.b true, k) := by
  intro N hN
  have k30 : N.toNat % 30 < 30 := Nat.mod_lt _ (by decide)
  obtain ⟨h2, M2, q1, m2, Z2, w2, b2, x2, o2⟩ := bZn hN (x1 := x1) (N.toNat % 30) 0 900 _ h1 (by omega) (by omega) hm (cOj _ _) (by show 3 ≤ 3 + 10 * 0; omega) (by show 0 ≤ 0; omega)
  have q1' : aXr lD 900 (.i .i64 N) x1 (.p (aY 2 h0.next) 0) h1 = jB lD 900 x1 (.p (aY 2 h0.next) 0) h2 := q1
  rw [q1']
  unfold jB
  rcases hx with rfl | ⟨rb, len, cap, R, rfl, hlc, hR, hr, hb⟩
  ·simp only [bEy, aZ, kV, show decide (Int.ofNat 0 > Int.ofNat 40) = false from rfl, cX]
   exact tI (vN (len := 0) (fun k => rfl) (by decide) _ _ 899)
  ·have hr2 : h2.bl.get rb = some (.row .ro (R.map iD)) := by
    rw [o2 rb (fun e => by subst e; omega) (fun e => by rw [e] at hb; exact absurd hb (Nat.lt_irrefl _)) (fun e => by have := congrArg Pos.toNat (show rb = aY 1 h0.next from e); omega), old rb hb]
    exact hr
   by_cases c : len > 40
   ·have dc : decide (Int.ofNat len > Int.ofNat 40) = true := decide_eq_true (by show (40 : Int) < (len : Int); omega)
    obtain ⟨o, sl⟩ : ∃ o, cG 1 (.l rb 0 len cap) none (some (.i .i64 (Int.ofNat 40))) h2 = some (.l rb o 40 (cap - 0), h2) := by
     refine ⟨if cap = 0 then 0 else 0 + 0 * 1, ?_⟩
     have hh : hiD (some (.i .i64 (Int.ofNat 40))) len cap = some 40 := by
      simp only [hiD, gJ]
      rw [if_pos (by show (0 : Int) ≤ 40 ∧ (40 : Int) ≤ (cap : Int); omega)]
      rfl
     have hl : loD none 40 = some 0 := rfl
     simp only [cG, hh, hl, hr2]
    simp only [yA, aZ, kV, dc, cI, sl]
    exact tI (vN (len := 40) (fun k => rfl) (by decide) _ _ 899)
   ·have dc : decide (Int.ofNat len > Int.ofNat 40) = false := decide_eq_false (by show ¬ (40 : Int) < (len : Int); omega)
    simp only [yA, aZ, kV, dc, cX]
    by_cases c18 : len = 18
    ·subst c18
     have x2' : h2.next.toNat = h0.next.toNat + 3 := by rw [x2]; exact n1
     exact tI (cGy Z2 m2 hr2 hR (by omega) (by omega) (by rw [w2]; show h0.next.toNat < _; omega) (by rw [b2]; show (aY 1 h0.next).toNat < _; omega) 860)
    ·exact tI (vN (len := len) (fun k => rfl) c18 _ _ 899)
 unfold bXa
 by_cases c : N < 0
 ·have d : decide (N < Int.ofNat 0) = true := decide_eq_true c
  have ng : ∀ k, fL .neg (.i .i64 (N + Int.ofNat 1)) k = some (.i .i64 (-(N + 1)), k) := fun k => by
   show some (DV.i .i64 (IntKind.i64.wrap (0 - (N + Int.ofNat 1))), k) = _
   rw [jJ _ (show -9223372036854775808 ≤ 0 - (N + Int.ofNat 1) ∧ 0 - (N + Int.ofNat 1) ≤ 9223372036854775807 by rw [show (Int.ofNat 1 : Int) = 1 from rfl]; omega)]
   rw [show (0 - (N + Int.ofNat 1) : Int) = -(N + 1) by simp]
  simp only [iD, dR, d, aZ, cI, jN N _ _ (show -9223372036854775808 ≤ N + Int.ofNat 1 ∧ N + Int.ofNat 1 ≤ 9223372036854775807 by rw [show (Int.ofNat 1 : Int) = 1 from rfl]; omega), ng]
  exact key _ (by omega)
 ·have d : decide (N < Int.ofNat 0) = false := decide_eq_false c
  simp only [iD, dR, d, aZ, cX]
  exact key _ (by omega)
end
end Go.Dd

namespace Go.Dd
open Go.Proofs
section
variable {H : Type} {enc : TypeId × Value → H} {w : World}
theorem aLx {n : Nat} {v : Value} {x : DataW H × List MemPlace} (hx : DataW.trod enc Tryz.prog w 0 (fun _ => true) true n 41 [v] = some x) :
  ∃ ρ h0 L, Ro w ρ h0 ∧ VR ρ L v ∧ RtS h0 L := by
 rcases Go.ChangeShapes.open_ints Tryz.underlying41 Tryz.underlying3 (by kernel_rfl) hx with ⟨h1, _⟩ | ⟨a, len, cap, zs, h1, _, hlc, _, hz, _, hc, _⟩
 ·cases h1
  exact ⟨fun _ => none, ⟨.h, .e⟩, .l0, Ro.none w _, .l0, .inl rfl⟩
 ·cases h1
  simp only [if_true] at hz
  let L : Loc := ⟨a.block, a.off, 0, a.spot⟩
  have ha : a = eQ L 0 := rfl
  have R0 := Ro.none w .h
  obtain ⟨R', ext⟩ := R0.add L ((zs.take len).map iD) rfl (fun j v hv => by
   rw [List.getElem?_map, Option.map_eq_some_iff] at hv
   obtain ⟨y, hy, rfl⟩ := hv
   rw [List.getElem?_take] at hy
   split at hy
   ·rename_i hj
    have e := hc j (by omega)
    rw [ha, fC, Nat.zero_add] at e
    have : zs.getD j 0 = y := by simp [List.getD, hy]
    rw [this] at e
    exact ⟨_, e, .i _ _⟩
   ·cases hy)
  refine ⟨_, _, .l .h 0 len cap, R', .l .h 0 len cap L (bN _ _ _), .inr ⟨.h, len, cap, zs.take len, rfl, hlc, by simp; omega, (dIa (Ob.row .ro ((zs.take len).map iD)) Pos.h Tr.e), by show (Pos.h).toNat < (Pos.h).succ.toNat; rw [dIb]; omega⟩⟩
end
end Go.Dd

