/- A part of the proof: GN WR WM WA WC OW OX OY OZ WX FH1 XL3 FH: each text has a comment of its own. -/
import Derived.Test.YtkdndgecldkiiaaGreatPh8
set_option linter.unusedVariables false
set_option linter.unusedSimpArgs false
set_option linter.constructorNameAsVariable false
set_option maxRecDepth 100000
namespace Go.Dd
open Go.Proofs
theorem bMo (x : Int) : fS x x = true := by
 cases x with
 | ofNat n => exact Nat.beq_refl n
 | negSucc n => exact Nat.beq_refl n
theorem cX (x y : Int) : fS x y = true ↔ x = y := ⟨oA x y, fun e => by rw [e]; exact bMo y⟩
noncomputable def bSe (p : Nat → Bool) (n : Nat) : Bool := Nat.rec (motive := fun _ => Bool) true (fun i ih => p i && ih) n
theorem vK {p : Nat → Bool} : ∀ {n : Nat}, bSe p n = true → ∀ i, i < n → p i = true
 | 0, _, i, h => by omega
 | n + 1, hl, i, h => by
  change (p n && bSe p n) = true at hl
  simp only [Bool.and_eq_true] at hl
  by_cases e : i = n
  ·rw [e]; exact hl.1
  ·exact vK hl.2 i (by omega)
noncomputable def cRq (a : Nat) (l : List Nat) : Bool := List.rec (motive := fun _ => Bool) false (fun x _ ih => Nat.beq a x || ih) l
theorem xY {a : Nat} : ∀ {l : List Nat}, cRq a l = true → a ∈ l
 | [], h => by cases h
 | x :: l, h => by
  change (Nat.beq a x || cRq a l) = true at h
  simp only [Bool.or_eq_true] at h
  rcases h with h | h
  ·rw [Nat.eq_of_beq_eq_true h]; exact List.mem_cons_self
  ·exact List.mem_cons_of_mem _ (xY h)
noncomputable def byB (v : Int) : Bool := match v with
 | .ofNat c => Nat.blt c 256
 | .negSucc _ => false
noncomputable def bBc (a b : Bool) : Bool := bif a then b else true
theorem lM {a b : Bool} (h : bBc a b = true) (ha : a = true) : b = true := by rw [ha] at h; exact h
noncomputable def obB (M : MemV) (R : List Int) (CL : List Nat) (a hd : Nat) : Bool :=
 Nat.ble (Nat.div hd 4) 256 && (Nat.ble (Nat.mod hd 4) 2 && (bBc (fS (M.t.get (Nat.add a 1)) (R.getD 11 0)) (Nat.beq (Nat.mod hd 4) 0) &&
  (bBc (fS (M.t.get (Nat.add a 1)) (R.getD 12 0)) (Nat.beq (Nat.mod hd 4) 2) && (bBc (fS (M.t.get (Nat.add a 1)) (R.getD 13 0)) (Nat.beq (Nat.mod hd 4) 2) &&
  (bBc (Nat.beq (Nat.mod hd 4) 2) (bSe (fun i => byB (M.t.get (Nat.add (Nat.add a 3) i))) (Nat.div hd 4)) && (bBc (fS (M.t.get (Nat.add a 1)) (R.getD 3 0)) (cRq a CL) &&
  aSb (fun c => bBc (fS (M.t.get (Nat.add c 8)) 1) (!(fS (M.t.get (Nat.add a 1)) (.ofNat (Nat.mul 2 c))))) CL))))))
theorem dLu {M : MemV} {R : List Int} {CL : List Nat} {a hd : Nat} (h : obB M R CL a hd = true) : ObI M R CL a hd := by
 unfold obB at h
 simp only [Bool.and_eq_true, jY, decide_eq_true_eq] at h
 obtain ⟨h1, h2, h3, h4, h5, h6, h7, h8⟩ := h
 refine ⟨h1, h2, fun q => ?_, fun q => ?_, fun q i hi => ?_, fun q => ?_, fun _ c hc q1 q2 => ?_⟩
 ·exact Nat.eq_of_beq_eq_true (lM h3 ((cX _ _).2 q))
 ·rcases q with q | q
  ·exact Nat.eq_of_beq_eq_true (lM h4 ((cX _ _).2 q))
  ·exact Nat.eq_of_beq_eq_true (lM h5 ((cX _ _).2 q))
 ·have hb := vK (lM h6 (show Nat.beq (Nat.mod hd 4) 2 = true by rw [show Nat.mod hd 4 = 2 from q]; rfl)) i hi
  change byB (M.t.get (a + 3 + i)) = true at hb
  cases hv : M.t.get (a + 3 + i) with
  | ofNat c => rw [hv] at hb; exact ⟨c, by simpa [byB, jF] using hb, rfl⟩
  | negSucc c => rw [hv] at hb; cases hb
 ·exact xY (lM h7 ((cX _ _).2 q))
 ·exfalso
  have q3 := lM (jV h8 c hc) ((cX _ _).2 q1)
  rw [(cX _ _).2 (show M.t.get (Nat.add a 1) = .ofNat (Nat.mul 2 c) from q2)] at q3
  cases q3
noncomputable def aCo (M : MemV) (a : Nat) (p : Nat → Bool) : Bool := match M.t.get a with
 | .ofNat hd => p hd
 | .negSucc _ => true
noncomputable def clB (M : MemV) (R : List Int) (c : Nat) : Bool :=
 Nat.ble 3 c && (Nat.ble c 131072 && (!(fS (M.pl.get c) 0) && (fS (M.t.get c) (.ofNat 24) && (fS (M.t.get (Nat.add c 1)) (R.getD 3 0) &&
  (aCo M (Nat.add c 5) (fun s => Nat.ble s 33 && Nat.beq (Nat.mod s 2) 1) && (aCo M (Nat.add c 8) (fun s => Nat.ble s 7 && Nat.beq (Nat.mod s 2) 1) && (byB (M.t.get (Nat.add c 5)) && byB (M.t.get (Nat.add c 8)))))))))
noncomputable def nmB (M : MemV) (R : List Int) (sy : List (List Nat × Nat)) (c : Nat) : Bool :=
 List.rec (motive := fun _ => Bool) false (fun e _ ih => (fS (M.t.get (Nat.add c 3)) (.ofNat e.2) && (cAt M (R.getD 13 0) e && (Nat.ble 1 e.1.length && Nat.ble e.1.length 60))) || ih) sy
theorem cEa {M : MemV} {R : List Int} {c : Nat} : ∀ {sy : List (List Nat × Nat)}, nmB M R sy c = true → ∃ s, TxO M (R.getD 13 0) (M.t.get (c + 3)) s ∧ 1 ≤ s.length ∧ s.length ≤ 60
 | [], h => by cases h
 | e :: sy, h => by
  change ((fS (M.t.get (c + 3)) (.ofNat e.2) && (cAt M (R.getD 13 0) e && (Nat.ble 1 e.1.length && Nat.ble e.1.length 60))) || nmB M R sy c) = true at h
  simp only [Bool.or_eq_true] at h
  rcases h with h | h
  ·simp only [Bool.and_eq_true, jY, decide_eq_true_eq] at h
   obtain ⟨q1, q2, q3, q4⟩ := h
   exact ⟨e.1, by rw [(cX _ _).1 q1]; exact bHn q2, q3, q4⟩
  ·exact cEa h
theorem dQv {M : MemV} {R : List Int} {c : Nat} {sy : List (List Nat × Nat)} (h : clB M R c = true) (hn : nmB M R sy c = true) : ClI M R c := by
 unfold clB at h
 simp only [Bool.and_eq_true, jY, decide_eq_true_eq] at h
 obtain ⟨h1, h2, h3, h4, h5, h6, h7, h8, h9⟩ := h
 have num : ∀ (j m : Nat), aCo M (c + j) (fun s => decide (s ≤ 2 * m + 1) && Nat.beq (Nat.mod s 2) 1) = true → byB (M.t.get (c + j)) = true → ∃ z : Nat, z ≤ m ∧ M.t.get (c + j) = .ofNat (2 * z + 1) := fun j m q1 q2 => by
  cases hv : M.t.get (c + j) with
  | negSucc x => rw [hv] at q2; cases q2
  | ofNat x =>
   unfold aCo at q1
   rw [hv] at q1
   simp only [Bool.and_eq_true, decide_eq_true_eq] at q1
   have e : x % 2 = 1 := Nat.eq_of_beq_eq_true q1.2
   exact ⟨x / 2, by omega, by rw [show 2 * (x / 2) + 1 = x by omega]⟩
 refine ⟨⟨h1, h2⟩, fun e => ?_, (cX _ _).1 h4, (cX _ _).1 h5, cEa hn, num 5 16 h6 h8, num 8 3 h7 h9⟩
 rw [e] at h3
 cases h3
noncomputable def djB (M : MemV) (l : List Nat) : Nat → Bool := List.rec (motive := fun _ => Nat → Bool) (fun _ => true) (fun a _ ih lo => Nat.ble lo a && (match M.t.get a with
 | .ofNat hd => ih (Nat.add (Nat.add a 3) (Nat.div hd 4))
 | .negSucc _ => false)) l
theorem cDh {M : MemV} : ∀ {l : List Nat} {lo : Nat}, djB M l lo = true → (∀ a ∈ l, lo ≤ a) ∧ ∀ a ∈ l, ∀ b ∈ l, a < b → ∀ hd : Nat, M.t.get a = .ofNat hd → a + 3 + hd / 4 ≤ b
 | [], lo, h => ⟨fun a ha => (by cases ha), fun a ha => (by cases ha)⟩
 | x :: l, lo, h => by
  change (Nat.ble lo x && (match M.t.get x with
   | .ofNat hd => djB M l (x + 3 + hd / 4)
   | .negSucc _ => false)) = true at h
  simp only [Bool.and_eq_true, jY, decide_eq_true_eq] at h
  obtain ⟨h1, h2⟩ := h
  cases hx : M.t.get x with
  | negSucc k => rw [hx] at h2; cases h2
  | ofNat k =>
   rw [hx] at h2
   obtain ⟨i1, i2⟩ := cDh (l := l) h2
   refine ⟨fun a ha => ?_, fun a ha b hb hab hd hh => ?_⟩
   ·rcases List.mem_cons.1 ha with rfl | ka
    ·exact h1
    ·have := i1 a ka
     omega
   ·rcases List.mem_cons.1 ha with rfl | ka
    ·rcases List.mem_cons.1 hb with rfl | kb
     ·omega
     ·rw [hx] at hh
      cases hh
      exact i1 b kb
    ·rcases List.mem_cons.1 hb with rfl | kb
     ·have := i1 a ka
      omega
     ·exact i2 a ka b kb hab hd hh
noncomputable def giB (M : MemV) (R : List Int) (CL : List Nat) (pls : List Nat) (sy : List (List Nat × Nat)) : Bool :=
 djB M pls 0 && (fS (M.t.get 0) 0 && (fS (M.t.get 1) 0 && (aSb (fun a => aCo M a (obB M R CL a)) pls && (aSb (fun c => clB M R c && nmB M R sy c) CL &&
  (bSe (fun i => fS (R.getD (Nat.add 2 i) 0) (.ofNat (Nat.add 6 (Nat.mul 18 i)))) 16 && (bSe (fun i => cRq (Nat.add 3 (Nat.mul 9 i)) CL) 16 &&
  (fS (M.t.get 92) 3 && (fS (M.t.get 101) 5 && (fS (M.t.get 110) 5 && (fS (M.t.get 83) 7 && fS (M.t.get 20) 7))))))))))
theorem dKf {M : MemV} {R : List Int} {CL : List Nat} {pls : List Nat} {sy : List (List Nat × Nat)} (hp : M.pl = mkP pls .e) (hb : ∀ x ∈ pls, x < 16000000) (h : giB M R CL pls sy = true) : GI M R CL := by
 unfold giB at h
 simp only [Bool.and_eq_true] at h
 obtain ⟨h0, h1, h2, h3, h4, h5, h6, h7, h8, h9, h10, h11⟩ := h
 have mem : ∀ a, M.pl.get a ≠ 0 → a ∈ pls := fun a ha => by
  rw [hp] at ha
  rcases vN pls .e a hb ha with q | q
  ·exact q
  ·exact absurd rfl q
 refine ⟨(cX _ _).1 h1, (cX _ _).1 h2, fun a ha hd hh => ?_, fun a b ha hb' => (cDh h0).2 a (mem a ha) b (mem b hb'), fun c hc => ?_, fun i hi => (cX _ _).1 (vK h5 i hi), fun i hi => xY (vK h6 i hi), (cX _ _).1 h7, (cX _ _).1 h8, (cX _ _).1 h9, (cX _ _).1 h10, (cX _ _).1 h11⟩
 ·have hm : a ∈ pls := by
   rw [hp] at ha
   rcases vN pls .e a hb ha with q | q
   ·exact q
   ·exact absurd rfl q
  have q := jV h3 a hm
  unfold aCo at q
  rw [hh] at q
  exact dLu q
 ·have q := jV h4 c hc
  simp only [Bool.and_eq_true] at q
  exact dQv q.1 q.2
def CL0 : List Nat := [3, 12, 21, 30, 39, 48, 57, 66, 75, 84, 93, 102, 111, 120, 129, 138]
theorem cWe : giB MN RN CL0 (zO plF 583) (bJl syF 80) = true := by kernel_rfl
theorem dMq : aSb (fun x => Nat.blt x 16000000) (zO plF 583) = true := by kernel_rfl
theorem GIN : GI MN RN CL0 := dKf rfl (fun x hx => by have := jV dMq x hx; simpa [jF] using this) cWe
end Go.Dd

namespace Go.Dd
open Go.Proofs
noncomputable def gQ (M : MemV) (o : Int) : Nat := match M.t.get (cE o M.pl) with
 | .ofNat hd => hd
 | .negSucc _ => 0
noncomputable def gP (M : MemV) (o : Int) (i : Nat) : Int := if cE o M.pl ≠ 0 ∧ i < gQ M o / 4 then M.t.get (cE o M.pl + 3 + i) else 0
noncomputable def aEe (M : MemV) (o : Int) : Int := M.t.get (cE o M.pl + 1)
noncomputable def isC (M : MemV) (R : List Int) (c : Int) : Bool := decide (cE c M.pl ≠ 0 ∧ aEe M c = R.getD 3 0)
noncomputable def mA (M : MemV) (R : List Int) (c : Int) : Int := if isC M R c = true then gP M c 1 else 0
section
variable {h : Hp} {M : MemV} {R : List Int} {es : List (DV × DV)} {CL : List Nat} {z : Prop}
theorem cBx {M : MemV} {o : Int} (h : cE o M.pl ≠ 0) : M.pl.get (cE o M.pl) ≠ 0 := by
 rcases mG o M.pl with e | ⟨e, _⟩
 ·exact absurd e h
 ·have := (atN_pos (o := o) (pl := M.pl)).1 h
  rw [e]
  exact this.2
theorem GI.head (I : GI M R CL z) (G : Good M) (o : Int) (k : Nat → aK) : jJ M o k = k (gQ M o) := by
 by_cases e : cE o M.pl = 0
 ·have b1 : Nat.blt (Nat.add (cE o M.pl) 1) M.n = true := by
   rw [jF, e]
   have := G.lo; have := G.le
   exact decide_eq_true (show 0 + 1 < M.n by omega)
  unfold jJ gQ
  rw [b1, e, I.z0]
  rfl
 ·obtain ⟨h3, hd, h1, h2, h4, _⟩ := G.ob _ (cBx e)
  have hl := G.le
  have b1 : Nat.blt (Nat.add (cE o M.pl) 1) M.n = true := by
   rw [jF]; exact decide_eq_true (show cE o M.pl + 1 < M.n by omega)
  have b2 : Nat.blt hd 1000000000000 = true := by rw [jF]; exact decide_eq_true h2
  unfold jJ gQ
  rw [b1, h1]
  simp only [cond_true, b2]
theorem GI.headOb (I : GI M R CL z) (G : Good M) {o : Int} (e : cE o M.pl ≠ 0) : M.t.get (cE o M.pl) = .ofNat (gQ M o) ∧ ObI M R CL (cE o M.pl) (gQ M o) z ∧ cE o M.pl + 3 + gQ M o / 4 ≤ M.fin ∧ 3 ≤ cE o M.pl := by
 obtain ⟨h3, hd, h1, h2, h4, _⟩ := G.ob _ (cBx e)
 have eh : gQ M o = hd := by unfold gQ; rw [h1]
 rw [eh]
 exact ⟨h1, I.ob _ (cBx e) _ h1, h4, h3⟩
theorem Wd.clsA (W : Wd h M R es) (G : Good M) (I : GI M R CL z) (o : Int) : kV [.p (bD 3) 0, .i .i64 o] h = some (iD (aEe M o), h) := by
 simp only [kV, kE, W.mem, I.head G, Nat.add_eq, aEe]
theorem Wd.fieldsA (W : Wd h M R es) (G : Good M) (I : GI M R CL z) (o : Int) : jO [.p (bD 3) 0, .i .i64 o] h = some (.i .i64 (.ofNat (gQ M o / 4)), h) := by
 simp only [jO, kE, W.mem, I.head G]
 rfl
theorem Wd.getA (W : Wd h M R es) (G : Good M) (I : GI M R CL z) (o : Int) (i : Nat) : ∃ e, aPt [.p (bD 3) 0, .i .i64 o, .i .i64 (.ofNat i)] h = some (.t [iD (gP M o i), iD e], h) ∧ (e = 0 ↔ (cE o M.pl ≠ 0 ∧ i < gQ M o / 4)) := by
 unfold gP
 by_cases e : cE o M.pl = 0
 ·refine ⟨1, ?_, by simp [e]⟩
  rw [if_neg (by simp [e])]
  simp only [aPt, kE, W.mem, iG, e, err]
  rfl
 ·obtain ⟨h1, _, h4, h3⟩ := I.headOb G e
  have hl := G.le
  by_cases hi : i < gQ M o / 4
  ·refine ⟨0, ?_, by simp [e, hi]⟩
   rw [if_pos ⟨e, hi⟩]
   have b1 : Nat.ble (Nat.div (gQ M o) 4) i = false := by
    rw [jY]; exact decide_eq_false (show ¬ (gQ M o / 4 ≤ i) by omega)
   have b2 : Nat.blt (Nat.add (Nat.add (cE o M.pl) 3) i) M.n = true := by
    rw [jF]; exact decide_eq_true (show cE o M.pl + 3 + i < M.n by omega)
   simp only [aPt, kE, W.mem, iG, bPh e, cond_false, I.head G, b1, b2, cond_true]
   rfl
  ·refine ⟨5, ?_, by simp [hi]⟩
   rw [if_neg (by simp [hi])]
   have b1 : Nat.ble (Nat.div (gQ M o) 4) i = true := by
    rw [jY]; exact decide_eq_true (show gQ M o / 4 ≤ i by omega)
   simp only [aPt, kE, W.mem, iG, bPh e, cond_false, I.head G, b1, cond_true, err]
   rfl
theorem Wd.getG (W : Wd h M R es) (G : Good M) (I : GI M R CL z) (o : Int) (i n : Nat) : fW (n + 1) 111 [.p (bD 7) 0, .i .i64 o, .i .i64 (.ofNat i)] h = some (iD (gP M o i), h) := by
 rw [shS 111 rfl, bZi]
 unfold s111
 obtain ⟨e, h1, _⟩ := W.getA G I o i
 have g2 : ∀ (a b c : DV) (l : List DV), (a :: b :: c :: l).getD 2 aT = c := fun _ _ _ _ => rfl
 simp only [g0, g1, g2, gM, xJ, bC, W.l00, h1, px0, px1]
theorem Wd.isClass (W : Wd h M R es) (G : Good M) (I : GI M R CL z) (c : Int) (n : Nat) : fW (n + 2) 110 [.p (bD 7) 0, .i .i64 c] h = some (.b (isC M R c), h) := by
 rw [shS 110 rfl, cCz]
 unfold s110
 by_cases e : cE c M.pl = 0
 ·have b : (!(Nat.beq (cE c M.pl) 0)) = false := by rw [e]; rfl
  have d : isC M R c = false := decide_eq_false (fun q => q.1 e)
  simp only [g0, g1, gM, xJ, bC, W.l00, W.is, b, mN, sQ, cM, d]
 ·have b : (!(Nat.beq (cE c M.pl) 0)) = true := by rw [bPh e]; rfl
  have k : fW (n + 1) 34 [.p (bD 7) 0, .i .i64 (Int.ofNat 1)] h = some (iD (R.getD 3 0), h) := W.known (show 1 < 16 by omega) n
  by_cases e2 : aEe M c = R.getD 3 0
  ·have d : isC M R c = true := decide_eq_true ⟨e, e2⟩
   obtain ⟨h1, O, _, _⟩ := I.headOb G e
   have hm := O.cls e2
   have h6 : gQ M c / 4 = 6 := by
    have := (I.cl _ hm).hd
    rw [h1] at this
    have := Int.ofNat.inj this
    omega
   have z : (Int.ofNat 6 == Int.ofNat 6) = true := rfl
   have zz : (aEe M c == R.getD 3 0) = true := by rw [e2]; exact beq_self_eq_true _
   simp only [g0, g1, gM, xJ, bC, W.l00, W.is, b, mV, W.clsA G I, k, fJ, zz, cI, W.fieldsA G I, h6, z, d]
  ·have d : isC M R c = false := decide_eq_false (fun q => e2 q.2)
   have zz : (aEe M c == R.getD 3 0) = false := by simpa using e2
   simp only [g0, g1, gM, xJ, bC, W.l00, W.is, b, mV, W.clsA G I, k, fJ, zz, cI, cM, mN, sQ, d]
theorem Wd.super (W : Wd h M R es) (G : Good M) (I : GI M R CL z) (c : Int) (n : Nat) : fW (n + 3) 96 [.p (bD 7) 0, .i .i64 c] h = some (iD (mA M R c), h) := by
 rw [shS 96 rfl, dIa]
 unfold s96 mA
 cases hc : isC M R c with
 | false => simp only [g0, g1, W.isClass G I c n, hc, bC, mO, Bool.not_false, dD]; rfl
 | true => simp only [g0, g1, W.isClass G I c n, hc, bC, mO, Bool.not_true, cU, W.getG G I c 1 (n + 1), if_true]
end
end Go.Dd

namespace Go.Dd
open Go.Proofs
section
variable {h : Hp} {M : MemV} {R : List Int} {es : List (DV × DV)}
end
end Go.Dd

namespace Go.Dd
open Go.Proofs
section
variable {h : Hp} {M : MemV} {R : List Int} {es : List (DV × DV)}
end
end Go.Dd

namespace Go.Dd
open Go.Proofs
def Wc (h : Hp) (cs : List (DV × DV)) : Prop := h.bl.get (bD 6) = some (.mp cs)
noncomputable def qH (cs : List (DV × DV)) (s : List Nat) : Int := match dR .string (.s s) cs with
 | some (some (.i .i64 v)) => v
 | _ => 0
section
variable {h : Hp} {M : MemV} {R : List Int} {es cs : List (DV × DV)} {CL : List Nat} {z : Prop}
theorem Wc.up {h' : Hp} (c : Wc h cs) (W : Wd h M R es) (u : Up h h') : Wc h' cs := by
 unfold Wc
 rw [u.get (bD 6) (.inr (by rw [pn6]; exact Nat.le_refl _)) (by have := W.nx; rw [pn6]; omega)]
 exact c
theorem Wd.classOfName (W : Wd h M R es) (c : Wc h cs) (hcs : ∀ e ∈ cs, ∃ (k : List Nat) (x : Int), e = (.s k, iD x)) (s : List Nat) (n : Nat) : fW (n + 1) 11 [.p (bD 7) 0, .s s] h = some (iD (qH cs s), h) := by
 rw [shS 11 rfl, dIk]
 unfold s11
 have l3 : aA (.p (bD 7) (0 + 3)) h = some (.m (bD 6), h) := by
  simp only [aA, cellD, rowOf, W.w, Nat.zero_add, List.getElem?_cons_succ, List.getElem?_cons_zero, DV.one, if_true]
 have lk : dV .string (.i .i64 (Int.ofNat 0)) false (.m (bD 6)) (.s s) h = some (iD (qH cs s), h) := by
  have hc : h.bl.get (bD 6) = some (.mp cs) := c
  unfold qH
  rcases aHl s hcs with ⟨x, f1, f2⟩ | ⟨f1, f2⟩
  ·simp only [dV, gG, hc, f1, cond_false]
  ·simp only [dV, gG, hc, f1, cond_false]
   rfl
 simp only [g0, g1, gM, xJ, bC, l3, lk]
end
end Go.Dd

namespace Go.Dd
open Go.Proofs
noncomputable def uA (rec : RT) (n : Nat) (p : Pos) (w5 s5 r6 : DV) (kk : DV → DV → DV → DV → Hp → aK) (x0 x1 x2 x4 : DV) (h0 : Hp) : aK :=
  bnd (aF .gtr x4 (.i .i64 (Int.ofNat 0)) h0) fun v1 h1 =>
  bnd (gD v1 true (aA x1 h1) h1) fun v2 h2 =>
  bnd (gD v1 true (aQ v2 h2) h2) fun v3 h3 =>
  bnd (gD v1 true (aB 0 v3 h3) h3) fun v4 h4 =>
  bnd (gD v1 true (aA v4 h4) h4) fun v5 h5 =>
  bnd (gD v1 true (aA x2 h5) h5) fun v6 h6 =>
  bnd (gD v1 true (isF [v5, v6] h6) h6) fun v7 h7 =>
  bnd (aP v1 v7 (.b false) h7) fun v8 h8 =>
  aU v8 (
   bnd (aA x1 h8) fun v9 h9 =>
   bnd (aA x2 h9) fun v10 h10 =>
   bnd (rec 111 [v9, v10, (.i .i64 (Int.ofNat 0))] h10) fun v11 h11 =>
   cnd (ylB x0 p) (
   bnd (aA w5 h11) fun u1 g1 =>
   bnd (rec 111 [u1, v11, (.i .i64 (Int.ofNat 0))] g1) fun u2 g2 =>
   bnd (aA s5 g2) fun u3 g3 =>
   cnd (aX (aA s5 h11) u3 && true) (
   bnd (aF .eql u2 u3 g3) fun u4 g4 =>
   aU u4 (
    bnd (aC 1 r6 v11 g4) fun _ g5 =>
    bnd (aA r6 g5) fun u6 _ =>
    some (u6, g5)) (
    bnd (aA x1 g4) fun v14 h14 =>
    bnd (aA x2 h14) fun v15 h15 =>
    bnd (rec 111 [v14, v15, (.i .i64 (Int.ofNat 1))] h15) fun v16 h16 =>
    bnd (aC 1 x2 v16 h16) fun _ h17 =>
    bnd (aF .sub x4 (.i .i64 (Int.ofNat 1)) h17) fun v18 h18 =>
    kk x0 x1 x2 v18 h18)))) (
   bnd (aC 1 r6 (.i .i64 (Int.ofNat 0)) h8) fun _ h21 =>
   bnd (aA r6 h21) fun v22 _ =>
   some (v22, h21))
noncomputable def aFm (rec : RT) (n : Nat) (p : Pos) (w5 s5 r6 : DV) (m : Nat) : DV → DV → DV → DV → Hp → aK :=
 Nat.rec (motive := fun _ => DV → DV → DV → DV → Hp → aK) (fun _ _ _ _ _ => none) (fun _ ih => uA rec n p w5 s5 r6 ih) m
noncomputable def cO : Code := cf Tryz.f95
noncomputable def cO0 : Code := cL cO
noncomputable def cO1 : Code := cL (cR cO)
noncomputable def cO2 : Code := cR (cR cO)
noncomputable def cO3 : Code := cL (cL cO2)
noncomputable def cO7 : Code := cR cO2
noncomputable def rgX : Code → Code | .rangeFunc _ _ x _ => x | .block _ x => rgX x | c => c
noncomputable def rgY : Code → Code | .rangeFunc _ _ _ y => y | .block _ x => rgY x | c => c
noncomputable def cOx : Code := rgX (cR (cL cO2))
noncomputable def cOy : Code := rgY (cR (cL cO2))
noncomputable def krO : K := aR CF Tryz.f95
noncomputable def kO7 (rec : RT) (n : Nat) : K := aM CF rec 33 n cO7 gF krO krO
noncomputable def XO (rec : RT) (n : Nat) : Nat → K := fun j => bif Nat.beq j 0 then kO7 rec n else bZ
theorem bOq (rec : RT) (n : Nat) (p : Pos) (env : bB) (kk : DV → DV → DV → DV → Hp → aK) :
  aM CF rec itm.nt n itm.test (fun j => bif Nat.beq j itm.b0 then (fun _ h => kO7 rec n env h) else bZ) bZ
    (gU CF rec itm.nt itm.ops itm.front (fun e1 h1 => cnd (ylB (e1 itm.yt) p) (sE CF rec n itm 33 26 cOx cOy env (XO rec n) krO (fun e h => kk (e 0) (e 1) (e 2) (e 4) h) e1 h1)))
   = fun e h => uA rec n p (env 3) (env 5) (env 6) kk (e 0) (e 1) (e 2) (e 4) h := by kernel_rfl
noncomputable def aIf (rec : RT) (n : Nat) (p : Pos) (env : bB) (kk : K) : K :=
 aM CF rec itm.nt n itm.test (fun j => bif Nat.beq j itm.b0 then (fun _ h => kO7 rec n env h) else bZ) bZ
    (gU CF rec itm.nt itm.ops itm.front (fun e1 h1 => cnd (ylB (e1 itm.yt) p) (sE CF rec n itm 33 26 cOx cOy env (XO rec n) krO kk e1 h1)))
theorem aRz (rec : RT) (n : Nat) (p : Pos) (env : bB) : ∀ m : Nat, aL (aIf rec n p env) m = fun e h => aFm rec n p (env 3) (env 5) (env 6) m (e 0) (e 1) (e 2) (e 4) h
 | 0 => rfl
 | m + 1 => by
  show aIf rec n p env (aL (aIf rec n p env) m) = _
  rw [aRz rec n p env m]
  exact bOq rec n p env (aFm rec n p (env 3) (env 5) (env 6) m)
noncomputable def cLe (rec : RT) (n : Nat) (w5 s5 r6 v25 : DV) (h : Hp) : aK :=
 match v25 with
 | .f gf [] cap => cnd (Nat.beq gf 162) (
  bnd (aA (cap.getD 0 aT) (resv 2 h)) fun v37 h37 =>
  bnd (aQ v37 h37) fun v38 h38 =>
  bnd (aB 0 v38 h38) fun v39 h39 =>
  bnd (aA v39 h39) fun v40 h40 =>
  bnd (kG [v40] h40) fun v41 h41 =>
  aFm rec n h.next w5 s5 r6 n (.yl h.next) (cap.getD 0 aT) (cap.getD 1 aT) v41 h41)
 | _ => none
theorem dEg (rec : RT) (n : Nat) (G : DV → DV → DV → DV → Hp → aK) : aM CF rec itm.nt n itm.pre gF bZ (fun e h => G (e 0) (e 1) (e 2) (e 4) h) = fun e h =>
  bnd (aA (e 1) h) fun v37 h37 =>
  bnd (aQ v37 h37) fun v38 h38 =>
  bnd (aB 0 v38 h38) fun v39 h39 =>
  bnd (aA v39 h39) fun v40 h40 =>
  bnd (kG [v40] h40) fun v41 h41 => G (e 0) (e 1) (e 2) v41 h41 := by kernel_rfl
theorem bPc (rec : RT) (n : Nat) : kT CF rec n itm 33 (.tmp 25) 26 cOx cOy (XO rec n) krO (kO7 rec n) = fun env h => cLe rec n (env 3) (env 5) (env 6) (env 25) h := by
 funext env h
 show (match env 25 with
 | .f gf [] cap => cnd (Nat.beq gf itm.gf) (aM CF rec itm.nt n itm.pre gF bZ (aL (aIf rec n h.next env) n) (aI (.yl h.next :: cap)) (resv 2 h))
 | _ => none) = _
 unfold cLe
 cases env 25 with
 | f gf l cap =>
  cases l with
  | cons a l => rfl
  | nil =>
   simp only []
   rw [aRz, dEg]
   rfl
 | _ => rfl
theorem bMx (rec : RT) (n : Nat) (args : List DV) (h : Hp) : iP CF rec n itm 95 args h =
  aM CF rec 33 n cO0 gF krO (aM CF rec 33 n cO1 gF krO (aM CF rec 33 n cO3 gF krO (kT CF rec n itm 33 (.tmp 25) 26 cOx cOy (XO rec n) krO (kO7 rec n)))) (aI args) h := by kernel_rfl
noncomputable def cYp (rec : RT) (n : Nat) (x0 x1 x2 : DV) (h0 : Hp) : aK :=
 bnd (bJ x0 h0) fun v1 h1 =>
 bnd (bJ x2 h1) fun v2 h2 =>
 bnd (aZ [(.i .i64 (Int.ofNat 0))] h2) fun v3 h3 =>
 bnd (aA v1 h3) fun v4 h4 =>
 bnd (rec 110 [v4, x1] h4) fun v5 h5 =>
 bnd (fR .not v5 h5) fun v6 h6 =>
 bnd (gD v6 false (aA v1 h6) h6) fun v7 h7 =>
 bnd (gD v6 false (aQ v7 h7) h7) fun v8 h8 =>
 bnd (gD v6 false (aB 0 v8 h8) h8) fun v9 h9 =>
 bnd (gD v6 false (aA v9 h9) h9) fun v10 h10 =>
 bnd (gD v6 false (aA v2 h10) h10) fun v11 h11 =>
 bnd (gD v6 false (isF [v10, v11] h11) h11) fun v12 h12 =>
 bnd (gD v6 false (fR .not v12 h12) h12) fun v13 h13 =>
 bnd (aP v6 (.b true) v13 h13) fun v14 h14 =>
 aU v14 (
  bnd (aC 1 v3 (.i .i64 (Int.ofNat 0)) h14) fun _ h15 =>
  bnd (aA v3 h15) fun v16 _ =>
  some (v16, h15)) (
  bnd (aA v1 h14) fun v17 h17 =>
  bnd (aA v1 h17) fun v18 h18 =>
  bnd (rec 111 [v18, x1, (.i .i64 (Int.ofNat 4))] h18) fun v19 h19 =>
  cnd (aX (aA v1 h19) v17 && true) (
  bnd (rec 138 [v17, v19] h19) fun v20 h20 =>
  cLe rec n v1 v2 v3 v20 h20))
theorem cEd (rec : RT) (n : Nat) (args : List DV) (h : Hp) :
  aM CF rec 33 n cO0 gF krO (aM CF rec 33 n cO1 gF krO (aM CF rec 33 n cO3 gF krO (fun env h => cLe rec n (env 3) (env 5) (env 6) (env 25) h))) (aI args) h = cYp rec n (args.getD 0 aT) (args.getD 1 aT) (args.getD 2 aT) h := by kernel_rfl
theorem cLt (rec : RT) (n : Nat) (args : List DV) (h : Hp) : iP CF rec n itm 95 args h = cYp rec n (args.getD 0 aT) (args.getD 1 aT) (args.getD 2 aT) h := by
 rw [bMx, bPc, cEd]
end Go.Dd

namespace Go.Dd
open Go.Proofs
theorem shR (n : Nat) (args : List DV) (h : Hp) : fW (n + 1) 95 args h = cYp (fW n) n (args.getD 0 aT) (args.getD 1 aT) (args.getD 2 aT) h := cLt (fW n) n args h
theorem qM {b : Pos} {kd : Kind} {l : List DV} {h : Hp} (hb : h.bl.get b = some (.row kd l)) {i : Nat} {v : DV} (hi : l[i]? = some v) (hv : v.one = true) : aA (.p b i) h = some (v, h) := by
 simp only [aA, cellD, rowOf, hb, hi, hv, if_true]
theorem st1 {b : Pos} {y : Int} {h : Hp} (hb : h.bl.get b = some (.row .ex [iD y])) (v : Int) : aC 1 (.p b 0) (iD v) h = some (aT, ⟨h.next, Tr.set (.row .ex [iD v]) b h.bl⟩) := by
 simp only [aC, dE, cQ, hb]
 rfl
theorem smI (n : Int) (h : Hp) : aX (some (iD n, h)) (iD n) = true := by
 unfold aX
 simp [DV.beq]
theorem smP (b : Pos) (o : Nat) (h : Hp) : aX (some (.p b o, h)) (.p b o) = true := by
 unfold aX
 simp [DV.beq]
def ChN (M : MemV) : Nat → Int → Prop
 | 0, l => l = 0
 | k + 1, l => l = 0 ∨ (cE l M.pl ≠ 0 ∧ ChN M k (gP M l 1))
theorem cVe (pl : WT) : cE 0 pl = 0 := rfl
theorem ylb (p : Pos) : ylB (.yl p) p = true := by
 unfold ylB
 simp
structure OwS (h0 : Hp) (s l : Int) (b1 b2 b3 b4 b5 : Pos) (h : Hp) : Prop where
 g1 : h.bl.get b1 = some (.row .ex [.p (bD 7) 0])
 g2 : h.bl.get b2 = some (.row .ex [iD s])
 g3 : h.bl.get b3 = some (.row .ex [iD 0])
 g4 : h.bl.get b4 = some (.row .ex [.p (bD 7) 0])
 g5 : h.bl.get b5 = some (.row .ex [iD l])
 lo : Lo h0.next.toNat h0 h
 d1 : b1 ≠ b5
 d2 : b2 ≠ b5
 d3 : b3 ≠ b5
 d4 : b4 ≠ b5
 l3 : h0.next.toNat ≤ b3.toNat
 l5 : h0.next.toNat ≤ b5.toNat
section
variable {h0 h h' : Hp} {M : MemV} {R : List Int} {es : List (DV × DV)} {CL : List Nat} {z : Prop} {s l : Int} {b1 b2 b3 b4 b5 : Pos}
theorem OwS.wd (S : OwS h0 s l b1 b2 b3 b4 b5 h) (W : Wd h0 M R es) : Wd h M R es := W.lo S.lo
theorem OwS.set (S : OwS h0 s l b1 b2 b3 b4 b5 h) (l' : Int) : OwS h0 s l' b1 b2 b3 b4 b5 ⟨h.next, Tr.set (.row .ex [iD l']) b5 h.bl⟩ :=
 ⟨(eMh _ _ _ _ S.d1).trans S.g1, (eMh _ _ _ _ S.d2).trans S.g2, (eMh _ _ _ _ S.d3).trans S.g3, (eMh _ _ _ _ S.d4).trans S.g4, eMi _ _ _,
   S.lo.trans ⟨Nat.le_refl _, fun b hb => eMh _ _ _ _ fun e => by rw [e] at hb; have := S.l5; omega⟩, S.d1, S.d2, S.d3, S.d4, S.l3, S.l5⟩
theorem OwS.out (S : OwS h0 s l b1 b2 b3 b4 b5 h) (v : Int) : ∃ h', (bnd (aC 1 (.p b3 0) (iD v) h) fun _ g5 => bnd (aA (.p b3 0) g5) fun u6 _ => some (u6, g5)) = some (iD v, h') ∧ Lo h0.next.toNat h0 h' := by
 refine ⟨⟨h.next, Tr.set (.row .ex [iD v]) b3 h.bl⟩, ?_, S.lo.trans ⟨Nat.le_refl _, fun b hb => eMh _ _ _ _ fun e => by rw [e] at hb; have := S.l3; omega⟩⟩
 have ld : aA (.p b3 0) ⟨h.next, Tr.set (.row .ex [iD v]) b3 h.bl⟩ = some (iD v, ⟨h.next, Tr.set (.row .ex [iD v]) b3 h.bl⟩) := qM (eMi _ _ _) rfl rfl
 rw [st1 S.g3]
 simp only [bC, ld]
theorem cBl (W : Wd h0 M R es) (G : Good M) (I : GI M R CL z) (p : Pos) {m : Nat} : ∀ (k : Nat) (l : Int) (x : Int) (mm : Nat) (h : Hp), ChN M k l → k < mm → -1000000 ≤ x - k → x ≤ 1000000 → OwS h0 s l b1 b2 b3 b4 b5 h →
  ∃ v h', aFm (fW (m + 1)) (m + 1) p (.p b1 0) (.p b2 0) (.p b3 0) mm (.yl p) (.p b4 0) (.p b5 0) (iD x) h = some (iD v, h') ∧ Lo h0.next.toNat h0 h' := by
 intro k
 induction k with
 | zero =>
  intro l x mm h hl hm hx1 hx2 S
  obtain ⟨mm, rfl⟩ : ∃ m', mm = m' + 1 := ⟨mm - 1, by omega⟩
  have hl : l = 0 := hl
  subst hl
  obtain ⟨h', e, L⟩ := S.out 0
  refine ⟨0, h', ?_, L⟩
  show uA (fW (m + 1)) (m + 1) p _ _ _ (aFm (fW (m + 1)) (m + 1) p _ _ _ mm) _ _ _ _ h = _
  unfold uA
  have W' := S.wd W
  have l4 : aA (.p b4 0) h = some (.p (bD 7) 0, h) := qM S.g4 rfl rfl
  have l5 : aA (.p b5 0) h = some (iD 0, h) := qM S.g5 rfl rfl
  have is := W'.is 0
  have hb : (!(Nat.beq (cE 0 M.pl) 0)) = false := rfl
  rw [hb] at is
  simp only [iD] at l5 is e ⊢
  by_cases c : x > Int.ofNat 0
  ·simp only [eY, decide_eq_true c, bC, mV, l4, gM, xJ, W'.l00, l5, is, cI, cU]
   exact e
  ·simp only [eY, decide_eq_false c, bC, mN, sQ, cM, cU]
   exact e
 | succ k ih =>
  intro l x mm h hl hm hx1 hx2 S
  obtain ⟨mm, rfl⟩ : ∃ m', mm = m' + 1 := ⟨mm - 1, by omega⟩
  have W' := S.wd W
  have l1 : aA (.p b1 0) h = some (.p (bD 7) 0, h) := qM S.g1 rfl rfl
  have l2 : aA (.p b2 0) h = some (iD s, h) := qM S.g2 rfl rfl
  have l4 : aA (.p b4 0) h = some (.p (bD 7) 0, h) := qM S.g4 rfl rfl
  have l5 : aA (.p b5 0) h = some (iD l, h) := qM S.g5 rfl rfl
  have is := W'.is l
  by_cases c : x > Int.ofNat 0
  ·by_cases a0 : cE l M.pl = 0
   ·obtain ⟨h', e, L⟩ := S.out 0
    refine ⟨0, h', ?_, L⟩
    show uA (fW (m + 1)) (m + 1) p _ _ _ (aFm (fW (m + 1)) (m + 1) p _ _ _ mm) _ _ _ _ h = _
    unfold uA
    have hb : (!(Nat.beq (cE l M.pl) 0)) = false := by rw [a0]; rfl
    rw [hb] at is
    simp only [iD] at l5 is e ⊢
    simp only [eY, decide_eq_true c, bC, mV, l4, gM, xJ, W'.l00, l5, is, cI, cU]
    exact e
   ·have hl2 : ChN M k (gP M l 1) := by
     rcases hl with hl | hl
     ·rw [hl] at a0; exact absurd (cVe _) a0
     ·exact hl.2
    have hb : (!(Nat.beq (cE l M.pl) 0)) = true := by rw [bPh a0]; rfl
    rw [hb] at is
    have ga := W'.getG G I l 0 m
    have gb := W'.getG G I (gP M l 0) 0 m
    have gc := W'.getG G I l 1 m
    have sm := smI s h
    by_cases q : gP M (gP M l 0) 0 = s
    ·obtain ⟨h', e, L⟩ := S.out (gP M l 0)
     refine ⟨gP M l 0, h', ?_, L⟩
     show uA (fW (m + 1)) (m + 1) p _ _ _ (aFm (fW (m + 1)) (m + 1) p _ _ _ mm) _ _ _ _ h = _
     unfold uA
     have d : (gP M (gP M l 0) 0 == s) = true := by rw [q]; exact beq_self_eq_true s
     simp only [iD] at l2 l5 is e ga gb gc sm ⊢
     simp only [eY, decide_eq_true c, bC, mV, l4, gM, xJ, W'.l00, l5, is, cI, dD, ga, ylb, cnd, cond_true, l1, gb, l2, sm, Bool.and_self, fJ, d]
     exact e
    ·have S2 := S.set (gP M l 1)
     obtain ⟨v, h', e, L⟩ := ih (gP M l 1) (x - 1) mm _ hl2 (by omega) (by omega) (by omega) S2
     refine ⟨v, h', ?_, L⟩
     show uA (fW (m + 1)) (m + 1) p _ _ _ (aFm (fW (m + 1)) (m + 1) p _ _ _ mm) _ _ _ _ h = _
     unfold uA
     have d : (gP M (gP M l 0) 0 == s) = false := by simpa using q
     have st := st1 S.g5 (gP M l 1)
     have ps : ∀ h, aF .sub (.i .i64 x) (.i .i64 (Int.ofNat 1)) h = some (.i .i64 (x - 1), h) := fun h => aXz x 1 h (by omega)
     simp only [iD] at l2 l5 is e ga gb gc sm st ⊢
     simp only [eY, decide_eq_true c, bC, mV, l4, gM, xJ, W'.l00, l5, is, cI, dD, ga, ylb, cnd, cond_true, l1, gb, l2, sm, Bool.and_self, fJ, d, cU, gc, st, ps]
     exact e
  ·obtain ⟨h', e, L⟩ := S.out 0
   refine ⟨0, h', ?_, L⟩
   show uA (fW (m + 1)) (m + 1) p _ _ _ (aFm (fW (m + 1)) (m + 1) p _ _ _ mm) _ _ _ _ h = _
   unfold uA
   simp only [iD] at e ⊢
   simp only [eY, decide_eq_false c, bC, mN, sQ, cM, cU]
   exact e
theorem Lo.mono {a b : Nat} {h h' : Hp} (L : Lo b h h') (hab : a ≤ b) : Lo a h h' := ⟨L.next, fun p hp => L.get p (Nat.lt_of_lt_of_le hp hab)⟩
theorem mU (h : Hp) (o : Ob) : Lo h.next.toNat h ⟨h.next.succ, Tr.set o h.next h.bl⟩ :=
 ⟨by show _ ≤ h.next.succ.toNat; rw [eMj]; omega, fun b hb => eMh _ _ _ _ fun e => by rw [e] at hb; omega⟩
theorem dDz (W : Wd h0 M R es) (G : Good M) (I : GI M R CL z) (hn : M.n ≤ 131072) (c s : Int) {k : Nat} (ch : ChN M k (gP M c 4)) {m : Nat} (hm : 100 < m) (hk : k ≤ 100) :
  ∃ v h', fW (m + 3) 95 [.p (bD 7) 0, iD c, iD s] h0 = some (iD v, h') ∧ Lo h0.next.toNat h0 h' := by
 have n1 := eMj h0.next
 have n2 := eMj h0.next.succ
 have n3 := eMj h0.next.succ.succ
 have n4 := eMj h0.next.succ.succ.succ
 obtain ⟨q1, hq1⟩ : ∃ q1 : Hp, (⟨h0.next.succ, Tr.set (.row .ex [.p (bD 7) 0]) h0.next h0.bl⟩ : Hp) = q1 := ⟨_, rfl⟩
 obtain ⟨q2, hq2⟩ : ∃ q2 : Hp, (⟨q1.next.succ, Tr.set (.row .ex [iD s]) q1.next q1.bl⟩ : Hp) = q2 := ⟨_, rfl⟩
 obtain ⟨q3, hq3⟩ : ∃ q3 : Hp, (⟨q2.next.succ, Tr.set (.row .ex [iD 0]) q2.next q2.bl⟩ : Hp) = q3 := ⟨_, rfl⟩
 have x1 : q1.next = h0.next.succ := by rw [← hq1]
 have x2 : q2.next = h0.next.succ.succ := by rw [← hq2, ← x1]
 have x3 : q3.next = h0.next.succ.succ.succ := by rw [← hq3, ← x2]
 have e1 : bJ (.p (bD 7) 0) h0 = some (.p h0.next 0, q1) := by rw [← hq1]; rfl
 have e2 : bJ (iD s) q1 = some (.p q1.next 0, q2) := by rw [← hq2]; rfl
 have e3 : aZ [(.i .i64 (Int.ofNat 0))] q2 = some (.p q2.next 0, q3) := by rw [← hq3]; rfl
 have L1 : Lo h0.next.toNat h0 q1 := by rw [← hq1]; exact mU _ _
 have L2 : Lo h0.next.toNat q1 q2 := by rw [← hq2]; exact (mU _ _).mono (by rw [x1]; omega)
 have L3 : Lo h0.next.toNat q2 q3 := by rw [← hq3]; exact (mU _ _).mono (by rw [x2]; omega)
 have L := (L1.trans L2).trans L3
 have W3 := W.lo L
 have y3 : q3.bl.get q2.next = some (.row .ex [iD 0]) := by rw [← hq3]; exact eMi _ _ _
 have y2 : q3.bl.get q1.next = some (.row .ex [iD s]) := by
  rw [← hq3]
  refine (eMh _ _ _ _ fun e => ?_).trans ?_
  ·have := congrArg Pos.toNat e; rw [x1, x2] at this; omega
  ·rw [← hq2]; exact eMi _ _ _
 have y1 : q3.bl.get h0.next = some (.row .ex [.p (bD 7) 0]) := by
  rw [← hq3]
  refine (eMh _ _ _ _ fun e => ?_).trans ?_
  ·have := congrArg Pos.toNat e; rw [x2] at this; omega
  ·rw [← hq2]
   refine (eMh _ _ _ _ fun e => ?_).trans ?_
   ·have := congrArg Pos.toNat e; rw [x1] at this; omega
   ·rw [← hq1]; exact eMi _ _ _
 have l1 : aA (.p h0.next 0) q3 = some (.p (bD 7) 0, q3) := qM y1 rfl rfl
 have l2 : aA (.p q1.next 0) q3 = some (iD s, q3) := qM y2 rfl rfl
 have l3 : aA (.p q2.next 0) q3 = some (iD 0, q3) := qM y3 rfl rfl
 have ic := W3.isClass G I c m
 have is := W3.is s
 have gl := W3.getG G I c 4 (m + 1)
 have out : ∀ v : Int, ∃ h', (bnd (aC 1 (.p q2.next 0) (iD v) q3) fun _ h15 => bnd (aA (.p q2.next 0) h15) fun v16 _ => some (v16, h15)) = some (iD v, h') ∧ Lo h0.next.toNat h0 h' := fun v => by
  refine ⟨⟨q3.next, Tr.set (.row .ex [iD v]) q2.next q3.bl⟩, ?_, L.trans ⟨Nat.le_refl _, fun b hb => eMh _ _ _ _ fun e => by rw [e, x2] at hb; omega⟩⟩
  have ld : aA (.p q2.next 0) ⟨q3.next, Tr.set (.row .ex [iD v]) q2.next q3.bl⟩ = some (iD v, ⟨q3.next, Tr.set (.row .ex [iD v]) q2.next q3.bl⟩) := qM (eMi _ _ _) rfl rfl
  rw [st1 y3]
  simp only [bC, ld]
 obtain ⟨ho, eo, Lo'⟩ := out 0
 rw [shR]
 unfold cYp
 simp only [iD] at e2 l2 l3 ic is gl eo ⊢
 simp only [g0, g1, show ∀ (a b c : DV) (l : List DV), (a :: b :: c :: l).getD 2 aT = c from fun _ _ _ _ => rfl, e1, bC, e2, e3, l1, ic, mO]
 cases hc : isC M R c with
 | false =>
  simp only [Bool.not_false, hC, sQ, cI, bC, dD]
  exact ⟨0, ho, eo, Lo'⟩
 | true =>
  simp only [Bool.not_true, jU, l1, gM, xJ, W3.l00, bC, l2, is, mO, cM]
  by_cases a0 : cE s M.pl = 0
  ·have hb : (!(!(Nat.beq (cE s M.pl) 0))) = true := by rw [a0]; rfl
   simp only [hb, dD]
   exact ⟨0, ho, eo, Lo'⟩
  ·have hb : (!(!(Nat.beq (cE s M.pl) 0))) = false := by rw [bPh a0]; rfl
   have sm := smP (bD 7) 0 q3
   simp only [hb, cU, l1, bC, gl, sm, Bool.and_self, cnd, cond_true]
   obtain ⟨q4, hq4⟩ : ∃ q4 : Hp, (⟨q3.next.succ, Tr.set (.row .ex [.p (bD 7) 0]) q3.next q3.bl⟩ : Hp) = q4 := ⟨_, rfl⟩
   obtain ⟨q5, hq5⟩ : ∃ q5 : Hp, (⟨q4.next.succ, Tr.set (.row .ex [iD (gP M c 4)]) q4.next q4.bl⟩ : Hp) = q5 := ⟨_, rfl⟩
   have x4 : q4.next = h0.next.succ.succ.succ.succ := by rw [← hq4, ← x3]
   have x5 : q5.next = q4.next.succ := by rw [← hq5]
   have e4 : bJ (.p (bD 7) 0) q3 = some (.p q3.next 0, q4) := by rw [← hq4]; rfl
   have e5 : bJ (iD (gP M c 4)) q4 = some (.p q4.next 0, q5) := by rw [← hq5]; rfl
   have e138 : fW (m + 2) 138 [.p (bD 7) 0, iD (gP M c 4)] q3 = some (.f 162 [] [.p q3.next 0, .p q4.next 0], q5) := by
    rw [shS 138 rfl, cJi]
    unfold s138
    simp only [g0, g1, e4, bC, e5]
   have n5 := eMj q4.next
   have n6 := eMj q5.next
   have n7 := eMj q5.next.succ
   have L4 : Lo h0.next.toNat q3 q4 := by rw [← hq4]; exact (mU _ _).mono (by rw [x3]; omega)
   have L5 : Lo h0.next.toNat q4 q5 := by rw [← hq5]; exact (mU _ _).mono (by rw [x4]; omega)
   obtain ⟨q6, hq6⟩ : ∃ q6 : Hp, resv 2 q5 = q6 := ⟨_, rfl⟩
   have b6 : q6.bl = q5.bl := by rw [← hq6]; rfl
   have x6 : q6.next = q5.next.succ.succ := by rw [← hq6]; rfl
   have keep : ∀ b : Pos, b ≠ q3.next → b ≠ q4.next → q6.bl.get b = q3.bl.get b := fun b h1 h2 => by
    rw [b6, ← hq5]
    refine (eMh _ _ _ _ h2).trans ?_
    rw [← hq4]
    exact eMh _ _ _ _ h1
   have pn : ∀ {a b : Pos}, a.toNat ≠ b.toNat → a ≠ b := fun h e => h (by rw [e])
   have S : OwS h0 s (gP M c 4) h0.next q1.next q2.next q3.next q4.next q6 := by
    refine ⟨?_, ?_, ?_, ?_, ?_, ((L.trans L4).trans L5).trans ⟨by rw [x6]; omega, fun b _ => by rw [b6]⟩, pn (by rw [x4]; omega), pn (by rw [x1, x4]; omega), pn (by rw [x2, x4]; omega), pn (by rw [x3, x4]; omega), by rw [x2]; omega, by rw [x4]; omega⟩
    ·rw [keep _ (pn (by rw [x3]; omega)) (pn (by rw [x4]; omega))]; exact y1
    ·rw [keep _ (pn (by rw [x1, x3]; omega)) (pn (by rw [x1, x4]; omega))]; exact y2
    ·rw [keep _ (pn (by rw [x2, x3]; omega)) (pn (by rw [x2, x4]; omega))]; exact y3
    ·rw [b6, ← hq5]
     refine (eMh _ _ _ _ (pn (by rw [x3, x4]; omega))).trans ?_
     rw [← hq4]
     exact eMi _ _ _
    ·rw [b6, ← hq5]
     exact eMi _ _ _
   obtain ⟨v, h', e, Lf⟩ := cBl W G I q5.next (m := m + 1) k (gP M c 4) (M.n : Int) (m + 2) q6 ch (by omega) (by omega) (by omega) S
   refine ⟨v, h', ?_, Lf⟩
   have W6 := S.wd W
   have l6 : aA (.p q3.next 0) q6 = some (.p (bD 7) 0, q6) := qM S.g4 rfl rfl
   have sz : kG [.p (bD 3) 0] q6 = some (iD (M.n : Int), q6) := by
    simp only [kG, kE, W6.mem]
    rfl
   simp only [iD] at e138 e sz
   rw [e138]
   simp only [bC]
   unfold cLe
   simp only [show Nat.beq 162 162 = true from rfl, hq6, g0, g1, l6, bC, gM, xJ, W6.l00, sz, cnd]
   exact e
end
end Go.Dd

namespace Go.Dd
open Go.Proofs
def SupN (M : MemV) (R : List Int) : Nat → Int → Prop
 | 0, c => c = 0
 | k + 1, c => c = 0 ∨ (cE c M.pl ≠ 0 ∧ (∃ j, j ≤ 100 ∧ ChN M j (gP M c 4)) ∧ SupN M R k (mA M R c))
section
variable {h0 h h' : Hp} {M : MemV} {R : List Int} {es : List (DV × DV)} {CL : List Nat} {z : Prop} {s c : Int} {b : Pos}
theorem st2 {x y : Int} (hb : h.bl.get b = some (.row .ex [iD x, iD y])) (u v : Int) : aC 2 (.p b 0) (.a [iD u, iD v]) h = some (aT, ⟨h.next, Tr.set (.row .ex [iD u, iD v]) b h.bl⟩) := by
 simp only [aC, dE, cQ, hb]
 rfl
theorem ld2 {x y : Int} (hb : h.bl.get b = some (.row .ex [iD x, iD y])) : aG 2 (.p b 0) h = some (.a [iD x, iD y], h) := by
 simp [aG, cellsAt, rowOf, hb, jN, DV.one]
theorem bu2 (u v : Int) (h : Hp) : aS [(.i .i64 (Int.ofNat 0)), (.i .i64 (Int.ofNat 0))] [(0, 1, iD u), (1, 1, iD v)] h = some (.a [iD u, iD v], h) := by
 simp [aS, jK, dE, iD]
theorem dEa (h : Hp) : aS [(.i .i64 (Int.ofNat 0)), (.i .i64 (Int.ofNat 0))] [] h = some (.a [iD 0, iD 0], h) := rfl
theorem rH {x y : Int} {lo : Nat} (hlo : lo ≤ b.toNat) (hb : h.bl.get b = some (.row .ex [iD x, iD y])) (L : Lo lo h0 h) (u v : Int) :
  ∃ h', (bnd (aC 2 (.p b 0) (.a [iD u, iD v]) h) fun _ g2 => bnd (aG 2 (.p b 0) g2) fun v3 _ => some (v3, g2)) = some (.a [iD u, iD v], h') ∧ Lo lo h0 h' := by
 refine ⟨⟨h.next, Tr.set (.row .ex [iD u, iD v]) b h.bl⟩, ?_, L.trans ⟨Nat.le_refl _, fun p hp => eMh _ _ _ _ fun e => by rw [e] at hp; omega⟩⟩
 have ld : aG 2 (.p b 0) ⟨h.next, Tr.set (.row .ex [iD u, iD v]) b h.bl⟩ = some (.a [iD u, iD v], ⟨h.next, Tr.set (.row .ex [iD u, iD v]) b h.bl⟩) := ld2 (eMi _ _ _)
 rw [st2 hb]
 simp only [bC, ld]
theorem bNi (G : Good M) (I : GI M R CL z) (hn : M.n ≤ 131072) (s : Int) {m : Nat} (hm : 100 < m) : ∀ (k : Nat) (c x : Int) (mm : Nat) (h : Hp), Wd h M R es → SupN M R k c → k < mm → -1000000 ≤ x - k → x ≤ 1000000 →
  h.bl.get b = some (.row .ex [iD 0, iD 0]) → b.toNat < h.next.toNat → ∀ lo, lo ≤ b.toNat → Lo lo h0 h →
  ∃ u v h', kW (fW (m + 3)) (m + 3) mm (.p (bD 7) 0) (iD c) (iD s) (.p b 0) (iD x) h = some (.a [iD u, iD v], h') ∧ Lo lo h0 h' := by
 intro k
 induction k with
 | zero =>
  intro c x mm h W hc hmm hx1 hx2 hb hbn lo hlo L
  obtain ⟨mm, rfl⟩ : ∃ m', mm = m' + 1 := ⟨mm - 1, by omega⟩
  have hc : c = 0 := hc
  subst hc
  obtain ⟨h', e, L'⟩ := rH hlo hb L 0 0
  refine ⟨0, 0, h', ?_, L'⟩
  show iR (fW (m + 3)) (m + 3) (kW (fW (m + 3)) (m + 3) mm) _ _ _ _ _ h = _
  unfold iR fY
  have n0 : ((0 : Int) != Int.ofNat 0) = false := rfl
  by_cases q : x > Int.ofNat 0
  ·simp only [iD, eY, decide_eq_true q, bC, mV, gZ, n0, cI, cU, dEa]
   exact e
  ·simp only [iD, eY, decide_eq_false q, bC, mN, sQ, cM, cU, dEa]
   exact e
 | succ k ih =>
  intro c x mm h W hc hmm hx1 hx2 hb hbn lo hlo L
  obtain ⟨mm, rfl⟩ : ∃ m', mm = m' + 1 := ⟨mm - 1, by omega⟩
  by_cases q : x > Int.ofNat 0
  ·by_cases c0 : c = 0
   ·subst c0
    obtain ⟨h', e, L'⟩ := rH hlo hb L 0 0
    refine ⟨0, 0, h', ?_, L'⟩
    show iR (fW (m + 3)) (m + 3) (kW (fW (m + 3)) (m + 3) mm) _ _ _ _ _ h = _
    unfold iR fY
    have n0 : ((0 : Int) != Int.ofNat 0) = false := rfl
    simp only [iD, eY, decide_eq_true q, bC, mV, gZ, n0, cI, cU, dEa]
    exact e
   ·obtain ⟨_, ⟨j, hj, ch⟩, sp⟩ := hc.resolve_left c0
    obtain ⟨v, h1, e1, L1⟩ := dDz W G I hn c s ch hm hj
    have W1 := W.lo L1
    have hb1 : h1.bl.get b = some (.row .ex [iD 0, iD 0]) := (L1.get b hbn).trans hb
    have LL : Lo lo h0 h1 := L.trans (L1.mono (by omega))
    have nc : (c != Int.ofNat 0) = true := by simpa using c0
    by_cases v0 : v = 0
    ·have su := W1.super G I c m
     have ps : ∀ h, aF .sub (.i .i64 x) (.i .i64 (Int.ofNat 1)) h = some (.i .i64 (x - 1), h) := fun h => aXz x 1 h (by omega)
     obtain ⟨u, w, h', e, L'⟩ := ih (mA M R c) (x - 1) mm h1 W1 sp (by omega) (by omega) (by omega) hb1 (Nat.lt_of_lt_of_le hbn L1.next) lo hlo LL
     refine ⟨u, w, h', ?_, L'⟩
     show iR (fW (m + 3)) (m + 3) (kW (fW (m + 3)) (m + 3) mm) _ _ _ _ _ h = _
     unfold iR
     have n0 : (v != Int.ofNat 0) = false := by rw [v0]; rfl
     simp only [iD] at e1 su e ⊢
     simp only [eY, decide_eq_true q, bC, mV, gZ, nc, cI, dD, e1, n0, cU, su, ps]
     exact e
    ·obtain ⟨h', e, L'⟩ := rH hlo hb1 LL v c
     refine ⟨v, c, h', ?_, L'⟩
     show iR (fW (m + 3)) (m + 3) (kW (fW (m + 3)) (m + 3) mm) _ _ _ _ _ h = _
     unfold iR
     have n0 : (v != Int.ofNat 0) = true := by simpa using v0
     have bb := bu2 v c h1
     simp only [iD] at e1 e bb ⊢
     simp only [eY, decide_eq_true q, bC, mV, gZ, nc, cI, dD, e1, n0, bb]
     exact e
  ·obtain ⟨h', e, L'⟩ := rH hlo hb L 0 0
   refine ⟨0, 0, h', ?_, L'⟩
   show iR (fW (m + 3)) (m + 3) (kW (fW (m + 3)) (m + 3) mm) _ _ _ _ _ h = _
   unfold iR fY
   simp only [iD, eY, decide_eq_false q, bC, mN, sQ, cM, cU, dEa]
   exact e
theorem cDe (W : Wd h M R es) (G : Good M) (I : GI M R CL z) (hn : M.n ≤ 131072) (c s : Int) {k : Nat} (sp : SupN M R k c) (hk : k ≤ 100) {m : Nat} (hm : 100 < m) :
  ∃ u v h', fW (m + 4) 42 [.p (bD 7) 0, iD c, iD s] h = some (.a [iD u, iD v], h') ∧ Lo h.next.toNat h h' := by
 obtain ⟨h1, hh1⟩ : ∃ h1 : Hp, (⟨h.next.succ, Tr.set (.row .ex [iD 0, iD 0]) h.next h.bl⟩ : Hp) = h1 := ⟨_, rfl⟩
 have L1 : Lo h.next.toNat h h1 := by rw [← hh1]; exact mU _ _
 have W1 := W.lo L1
 have hb : h1.bl.get h.next = some (.row .ex [iD 0, iD 0]) := by rw [← hh1]; exact eMi _ _ _
 have e1 : aZ [(.i .i64 (Int.ofNat 0)), (.i .i64 (Int.ofNat 0))] h = some (.p h.next 0, h1) := by rw [← hh1]; rfl
 have em := W1.memory (m + 2)
 have sz : kG [.p (bD 3) 0] h1 = some (iD (M.n : Int), h1) := by
  simp only [kG, kE, W1.mem]
  rfl
 obtain ⟨u, v, h', e, L⟩ := bNi (h0 := h) G I hn s hm k c (M.n : Int) (m + 3) h1 W1 sp (by omega) (by omega) (by omega) hb (by rw [← hh1]; show h.next.toNat < h.next.succ.toNat; rw [eMj]; omega) h.next.toNat (Nat.le_refl _) L1
 refine ⟨u, v, h', ?_, L⟩
 rw [shS 42 rfl, dIw]
 unfold s42 aCp bEr cNv
 simp only [iD] at sz e ⊢
 simp only [g0, g1, show ∀ (a b c : DV) (l : List DV), (a :: b :: c :: l).getD 2 aT = c from fun _ _ _ _ => rfl, e1, bC, em, sz]
 exact e
end
structure Ent where
 b : Bool
 c : Int
 s : Int
 m : Int
 k : Int
def oE (e : Ent) (l : List DV) : List DV := .b e.b :: iD e.c :: iD e.s :: iD e.m :: iD e.k :: l
def dB (C : Nat → Ent) (hi ak : Int) : List DV :=
 oE (C 0) (oE (C 1) (oE (C 2) (oE (C 3) (oE (C 4) (oE (C 5) (oE (C 6) (oE (C 7) (oE (C 8) (oE (C 9) (oE (C 10) (oE (C 11) (oE (C 12) (oE (C 13) (oE (C 14) (oE (C 15) [iD hi, iD ak])))))))))))))))
def aCh (C : Nat → Ent) (i : Nat) (e : Ent) : Nat → Ent := fun j => if j = i then e else C j
def aMy : Ent := ⟨false, 0, 0, 0, 0⟩
def CaR (h : Hp) (b : Pos) (C : Nat → Ent) (hi ak : Int) : Prop := h.bl.get b = some (.row .ex (dB C hi ak))
section
variable {h : Hp} {b : Pos} {C : Nat → Ent} {hi ak : Int}
theorem six {P : Nat → Prop} (h : P 0 ∧ P 1 ∧ P 2 ∧ P 3 ∧ P 4 ∧ P 5 ∧ P 6 ∧ P 7 ∧ P 8 ∧ P 9 ∧ P 10 ∧ P 11 ∧ P 12 ∧ P 13 ∧ P 14 ∧ P 15) {i : Nat} (hl : i < 16) : P i := by
 obtain ⟨h0, h1, h2, h3, h4, h5, h6, h7, h8, h9, h10, h11, h12, h13, h14, h15⟩ := h
 match i, hl with
 | 0, _ => exact h0
 | 1, _ => exact h1
 | 2, _ => exact h2
 | 3, _ => exact h3
 | 4, _ => exact h4
 | 5, _ => exact h5
 | 6, _ => exact h6
 | 7, _ => exact h7
 | 8, _ => exact h8
 | 9, _ => exact h9
 | 10, _ => exact h10
 | 11, _ => exact h11
 | 12, _ => exact h12
 | 13, _ => exact h13
 | 14, _ => exact h14
 | 15, _ => exact h15
 | n + 16, q => exact absurd q (by omega)
theorem cYh (T : CaR h b C hi ak) {i : Nat} (hl : i < 16) : aA (.p b (i * 5)) h = some (.b (C i).b, h) := by
 have e : ∀ o, aA (.p b o) h = (match (dB C hi ak)[o]? with | some v => if v.one then some (v, h) else none | none => none) := fun o => by
  simp only [aA, cellD, rowOf, show h.bl.get b = some (.row .ex (dB C hi ak)) from T]
  cases (dB C hi ak)[o]? with
  | none => rfl
  | some v => cases hv : v.one <;> simp [hv]
 refine six (P := fun i => aA (.p b (i * 5)) h = some (.b (C i).b, h)) ⟨?_, ?_, ?_, ?_, ?_, ?_, ?_, ?_, ?_, ?_, ?_, ?_, ?_, ?_, ?_, ?_⟩ hl <;> (rw [e]; rfl)
theorem dXd (T : CaR h b C hi ak) {i : Nat} (hl : i < 16) : aG 2 (.p b (i * 5 + 1)) h = some (.a [iD (C i).c, iD (C i).s], h) := by
 have e : ∀ o, aG 2 (.p b o) h = (match jN 2 ((dB C hi ak).drop o) with | some cs => some (.a cs, h) | none => none) := fun o => by
  simp only [aG, cellsAt, rowOf, show h.bl.get b = some (.row .ex (dB C hi ak)) from T]
  cases jN 2 ((dB C hi ak).drop o) <;> rfl
 refine six (P := fun i => aG 2 (.p b (i * 5 + 1)) h = some (.a [iD (C i).c, iD (C i).s], h)) ⟨?_, ?_, ?_, ?_, ?_, ?_, ?_, ?_, ?_, ?_, ?_, ?_, ?_, ?_, ?_, ?_⟩ hl <;> (rw [e]; rfl)
theorem cKc (T : CaR h b C hi ak) {i : Nat} (hl : i < 16) : aG 2 (.p b (i * 5 + 3)) h = some (.a [iD (C i).m, iD (C i).k], h) := by
 have e : ∀ o, aG 2 (.p b o) h = (match jN 2 ((dB C hi ak).drop o) with | some cs => some (.a cs, h) | none => none) := fun o => by
  simp only [aG, cellsAt, rowOf, show h.bl.get b = some (.row .ex (dB C hi ak)) from T]
  cases jN 2 ((dB C hi ak).drop o) <;> rfl
 refine six (P := fun i => aG 2 (.p b (i * 5 + 3)) h = some (.a [iD (C i).m, iD (C i).k], h)) ⟨?_, ?_, ?_, ?_, ?_, ?_, ?_, ?_, ?_, ?_, ?_, ?_, ?_, ?_, ?_, ?_⟩ hl <;> (rw [e]; rfl)
theorem bGf (T : CaR h b C hi ak) : aA (.p b (0 + 80)) h = some (iD hi, h) := qM (i := 0 + 80) T rfl rfl
theorem aRy (T : CaR h b C hi ak) : aA (.p b (0 + 81)) h = some (iD ak, h) := qM (i := 0 + 81) T rfl rfl
theorem dKa (T : CaR h b C hi ak) {i : Nat} (hl : i < 16) (c s m k : Int) : aC 5 (.p b (i * 5)) (.a [.b true, iD c, iD s, iD m, iD k]) h = some (aT, ⟨h.next, Tr.set (.row .ex (dB (aCh C i ⟨true, c, s, m, k⟩) hi ak)) b h.bl⟩) := by
 have e : ∀ o cs, gL o (dB C hi ak) [.b true, iD c, iD s, iD m, iD k] = some cs → aC 5 (.p b o) (.a [.b true, iD c, iD s, iD m, iD k]) h = some (aT, ⟨h.next, Tr.set (.row .ex cs) b h.bl⟩) := fun o cs hc => by
  simp only [aC, dE, cQ, show h.bl.get b = some (.row .ex (dB C hi ak)) from T, hc]
  rfl
 refine six (P := fun i => aC 5 (.p b (i * 5)) (.a [.b true, iD c, iD s, iD m, iD k]) h = some (aT, ⟨h.next, Tr.set (.row .ex (dB (aCh C i ⟨true, c, s, m, k⟩) hi ak)) b h.bl⟩)) ⟨?_, ?_, ?_, ?_, ?_, ?_, ?_, ?_, ?_, ?_, ?_, ?_, ?_, ?_, ?_, ?_⟩ hl <;> (apply e; rfl)
theorem cOw (T : CaR h b C hi ak) (v : Int) : aC 1 (.p b (0 + 80)) (iD v) h = some (aT, ⟨h.next, Tr.set (.row .ex (dB C v ak)) b h.bl⟩) := by
 simp only [aC, dE, cQ, show h.bl.get b = some (.row .ex (dB C hi ak)) from T]
 rfl
theorem dAn (T : CaR h b C hi ak) (v : Int) : aC 1 (.p b (0 + 81)) (iD v) h = some (aT, ⟨h.next, Tr.set (.row .ex (dB C hi v)) b h.bl⟩) := by
 simp only [aC, dE, cQ, show h.bl.get b = some (.row .ex (dB C hi ak)) from T]
 rfl
end
end Go.Dd

namespace Go.Dd
open Go.Proofs
section
variable {h h' : Hp} {M : MemV} {R : List Int} {es : List (DV × DV)} {CL : List Nat} {z : Prop} {s c : Int} {b : Pos} {C : Nat → Ent} {hi ak : Int}
theorem Wd.lo31 (W : Wd h M R es) (u : Lo 1031 h h') : Wd h' M R es := by
 obtain ⟨m1, m2, m3, m4, m5, m6⟩ := lK W.mem
 have g : ∀ i q, (bD i).toNat = q → q < 1031 → h'.bl.get (bD i) = h.bl.get (bD i) := fun i q e hq => u.get _ (by rw [e]; exact hq)
 refine ⟨by rw [g 7 _ pn7 (by omega)]; exact W.w, by rw [g 4 _ pn4 (by omega)]; exact W.r, W.rl, by rw [g 5 _ pn5 (by omega)]; exact W.sy, ?_, Nat.le_trans W.nx u.next, W.wb, W.pb⟩
 exact nV (by rw [g 3 _ pn3 (by omega)]; exact m1) (by rw [W.wb, g 1 _ pn1 (by omega), ← W.wb]; exact m2) (by rw [W.pb, g 2 _ pn2 (by omega), ← W.pb]; exact m3) m4 m5 m6
def cP (c s : Int) : Nat := ((c + 5 * s) / 2 % 16).toNat
theorem CaR.keep (T : CaR h b C hi ak) (L : Lo h.next.toNat h h') (hb : b.toNat < h.next.toNat) : CaR h' b C hi ak := (L.get b hb).trans T
inductive CaA (C C' : Nat → Ent) (hi hi' : Int) (c s : Int) : Prop
 | hit : ((C (cP c s)).b = true ∧ (C (cP c s)).c = c ∧ (C (cP c s)).s = s) → C' = C → hi' = hi + 1 → CaA C C' hi hi' c s
 | miss (m k : Int) : ¬ ((C (cP c s)).b = true ∧ (C (cP c s)).c = c ∧ (C (cP c s)).s = s) → C' = aCh C (cP c s) ⟨true, c, s, m, k⟩ → hi' = hi → CaA C C' hi hi' c s
theorem vY (W : Wd h M R es) (G : Good M) (I : GI M R CL z) (hn : M.n ≤ 131072) {k : Nat} (sp : SupN M R k c) (hk : k ≤ 100) (T : CaR h b C hi ak) (hb : 1031 ≤ b.toNat) (hb2 : b.toNat < h.next.toNat)
  (hc : 0 ≤ c ∧ c ≤ 1000000) (hs : 0 ≤ s ∧ s ≤ 1000000) (hh : 0 ≤ hi ∧ hi ≤ 1000) (hk2 : 0 ≤ ak ∧ ak ≤ 1000) {m : Nat} (hm : 100 < m) :
  ∃ v h' C' hi', fW (m + 5) 12 [.p b 0, .p (bD 7) 0, iD c, iD s] h = some (v, h') ∧ Wd h' M R es ∧ CaR h' b C' hi' (ak + 1) ∧ CaA C C' hi hi' c s ∧ h.next.toNat ≤ h'.next.toNat := by
 have hl : cP c s < 16 := by unfold cP; omega
 have n1 := eMj h.next
 obtain ⟨k1, hk1⟩ : ∃ k1 : Hp, (⟨h.next.succ, Tr.set (.row .ex [iD 0, iD 0]) h.next h.bl⟩ : Hp) = k1 := ⟨_, rfl⟩
 have x1 : k1.next = h.next.succ := by rw [← hk1]
 have L1 : Lo h.next.toNat h k1 := by rw [← hk1]; exact mU _ _
 have T1 := T.keep L1 hb2
 have r1 : k1.bl.get h.next = some (.row .ex [iD 0, iD 0]) := by rw [← hk1]; exact eMi _ _ _
 have e1 : aZ [(.i .i64 (Int.ofNat 0)), (.i .i64 (Int.ofNat 0))] h = some (.p h.next 0, k1) := by rw [← hk1]; rfl
 have bn : b ≠ h.next := fun e => by rw [e] at hb2; omega
 obtain ⟨k2, hk2'⟩ : ∃ k2 : Hp, (⟨k1.next, Tr.set (.row .ex (dB C hi (ak + 1))) b k1.bl⟩ : Hp) = k2 := ⟨_, rfl⟩
 have x2 : k2.next = k1.next := by rw [← hk2']
 have T2 : CaR k2 b C hi (ak + 1) := by unfold CaR; rw [← hk2']; exact eMi _ _ _
 have e2 := dAn T1 (ak + 1)
 rw [hk2'] at e2
 have L2 : Lo 1031 k1 k2 := by
  rw [← hk2']
  exact ⟨Nat.le_refl _, fun p hp => eMh _ _ _ _ fun e => by rw [e] at hp; omega⟩
 have r2 : k2.bl.get h.next = some (.row .ex [iD 0, iD 0]) := by rw [← hk2']; exact (eMh _ _ _ _ bn.symm).trans r1
 have la := aRy T1
 have n2 := eMj k2.next
 obtain ⟨k3, hk3⟩ : ∃ k3 : Hp, (⟨k2.next.succ, Tr.set (.row .ex [iD 0, iD 0]) k2.next k2.bl⟩ : Hp) = k3 := ⟨_, rfl⟩
 obtain ⟨k4, hk4⟩ : ∃ k4 : Hp, (⟨k3.next, Tr.set (.row .ex [iD c, iD s]) k2.next k3.bl⟩ : Hp) = k4 := ⟨_, rfl⟩
 have x4 : k4.next = k2.next.succ := by rw [← hk4, ← hk3]
 have e3 : aZ [(.i .i64 (Int.ofNat 0)), (.i .i64 (Int.ofNat 0))] k2 = some (.p k2.next 0, k3) := by rw [← hk3]; rfl
 have r3 : k3.bl.get k2.next = some (.row .ex [iD 0, iD 0]) := by rw [← hk3]; exact eMi _ _ _
 have e4 := st2 r3 c s
 rw [hk4] at e4
 have r4 : k4.bl.get k2.next = some (.row .ex [iD c, iD s]) := by rw [← hk4]; exact eMi _ _ _
 have keep4 : ∀ p : Pos, p ≠ k2.next → k4.bl.get p = k2.bl.get p := fun p hp => by
  rw [← hk4, ← hk3]
  exact (eMh _ _ _ _ hp).trans (eMh _ _ _ _ hp)
 have bn4 : b ≠ k2.next := fun e => by have := congrArg Pos.toNat e; rw [x2, x1] at this; omega
 have hn4 : h.next ≠ k2.next := fun e => by have := congrArg Pos.toNat e; rw [x2, x1] at this; omega
 have T4 : CaR k4 b C hi (ak + 1) := (keep4 b bn4).trans T2
 have L4 : Lo 1031 k2 k4 := ⟨by rw [x4]; omega, fun p hp => keep4 p fun e => by rw [e, x2, x1] at hp; omega⟩
 have LL : Lo 1031 h k4 := ((L1.mono (by omega)).trans L2).trans L4
 have W4 := W.lo31 LL
 have a4 : k4.bl.get h.next = some (.row .ex [iD 0, iD 0]) := (keep4 h.next hn4).trans r2
 have bu := bu2 c s k2
 have pm : ∀ h, aF .mul (.i .i64 (Int.ofNat 5)) (.i .i64 s) h = some (.i .i64 (5 * s), h) := fun h => by
  simp only [aF, if_true, eZ]
  rw [iL _ (by simp; omega)]
  rfl
 have pa : ∀ h, aF .add (.i .i64 c) (.i .i64 (5 * s)) h = some (.i .i64 (c + 5 * s), h) := fun h => iT _ _ _ (by omega)
 have pc : ∀ h, dS .u64 (.i .i64 (c + 5 * s)) h = some (.i .u64 (c + 5 * s), h) := fun h => by
  simp only [dS]
  rw [show IntKind.u64.wrap (c + 5 * s) = c + 5 * s by simp [IntKind.wrap, IntKind.signed, IntKind.bits]; omega]
 have pq : ∀ h, aF .quo (.i .u64 (c + 5 * s)) (.i .u64 (Int.ofNat 2)) h = some (.i .u64 ((c + 5 * s) / 2), h) := fun h => by
  simp only [aF, if_true, eZ]
  rw [if_neg (by decide), show (c + 5 * s).tdiv (Int.ofNat 2) = (c + 5 * s) / 2 from Int.tdiv_eq_ediv_of_nonneg (by omega)]
  rw [show IntKind.u64.wrap ((c + 5 * s) / 2) = (c + 5 * s) / 2 by simp [IntKind.wrap, IntKind.signed, IntKind.bits]; omega]
 have pr : ∀ h, aF .rem (.i .u64 ((c + 5 * s) / 2)) (.i .u64 (Int.ofNat 16)) h = some (.i .u64 ((c + 5 * s) / 2 % 16), h) := fun h => by
  simp only [aF, if_true, eZ]
  rw [if_neg (by decide), show ((c + 5 * s) / 2).tmod (Int.ofNat 16) = (c + 5 * s) / 2 % 16 from Int.tmod_eq_emod_of_nonneg (by omega)]
 have px : ∀ h, hU 16 5 (.p b (0 + 0)) (.i .u64 ((c + 5 * s) / 2 % 16)) h = some (.p b (cP c s * 5), h) := fun h => by
  simp only [hU]
  rw [if_pos (by omega)]
  simp [cP]
 have lf := cYh T4 hl
 have lk := dXd T4 hl
 have lkey := ld2 r4
 have cUt : ∀ (o : Nat) (h : Hp), aB 0 (.p b o) h = some (.p b o, h) := fun o h => xJ b o 0 h
 have eq2 : ∀ x y : Int, aLi true .eql (.a [iD x, iD y]) (.a [iD c, iD s]) k4 = some (.b (x == c && y == s), k4) := fun x y => by
  simp [aLi]
 have k2n : k2.next.toNat = h.next.toNat + 1 := by rw [x2, x1]; exact n1
 have k4n : k4.next.toNat = h.next.toNat + 2 := by rw [x4, n2, k2n]
 have W31 : ∀ {x y : Hp}, Lo 1031 x y → Wd x M R es → Wd y M R es := fun L W => W.lo31 L
 have told : ∀ (g : Hp) (C' : Nat → Ent) (hi' : Int), CaR g b C' hi' (ak + 1) → Lo 1031 h g → g.bl.get h.next = some (.row .ex [iD 0, iD 0]) →
   ∃ v h', (bnd (aG 2 (.p b (cP c s * 5 + 3)) g) fun v39 h39 => bnd (aC 2 (.p h.next 0) v39 h39) fun x h40 => bnd (aG 2 (.p h.next 0) h40) fun v41 x => some (v41, h40)) = some (v, h') ∧ Wd h' M R es ∧ CaR h' b C' hi' (ak + 1) ∧ h.next.toNat ≤ h'.next.toNat := by
  intro g C' hi' Tg Lg rg
  have l1 := cKc Tg hl
  have l2 := st2 rg (C' (cP c s)).m (C' (cP c s)).k
  have l3 : aG 2 (.p h.next 0) ⟨g.next, Tr.set (.row .ex [iD (C' (cP c s)).m, iD (C' (cP c s)).k]) h.next g.bl⟩ = some (.a [iD (C' (cP c s)).m, iD (C' (cP c s)).k], ⟨g.next, Tr.set (.row .ex [iD (C' (cP c s)).m, iD (C' (cP c s)).k]) h.next g.bl⟩) := ld2 (eMi _ _ _)
  refine ⟨.a [iD (C' (cP c s)).m, iD (C' (cP c s)).k], ⟨g.next, Tr.set (.row .ex [iD (C' (cP c s)).m, iD (C' (cP c s)).k]) h.next g.bl⟩, by simp only [l1, bC, l2, l3], W31 (Lg.trans ⟨Nat.le_refl _, fun p hp => eMh _ _ _ _ fun e => by rw [e] at hp; omega⟩) W, (eMh _ _ _ _ bn).trans Tg, Lg.next⟩
 have smA : ∀ (x y : Int) (h : Hp), aX (some (.a [iD x, iD y], h)) (.a [iD x, iD y]) = true := fun x y h => by
  unfold aX
  simp [DV.beq, eNb]
 have miss : ¬ ((C (cP c s)).b = true ∧ (C (cP c s)).c = c ∧ (C (cP c s)).s = s) → ∃ v h' C' hi',
   (bnd (aG 2 (DV.p k2.next 0) k4) fun v42 h42 =>
    bnd (fW (m + 4) 42 [DV.p (bD 7) 0, iD c, iD s] h42) fun v43 h43 =>
    cnd (aX (aG 2 (DV.p k2.next 0) h43) v42 && true)
    (bnd (aS [DV.b false, DV.i IntKind.i64 (Int.ofNat 0), DV.i IntKind.i64 (Int.ofNat 0), DV.i IntKind.i64 (Int.ofNat 0), DV.i IntKind.i64 (Int.ofNat 0)] [(0, 1, DV.b true), (1, 2, v42), (3, 2, v43)] h43) fun v44 h44 =>
     bnd (aC 5 (DV.p b (cP c s * 5)) v44 h44) fun x h36 =>
     bnd (aG 2 (DV.p b (cP c s * 5 + 3)) h36) fun v39 h39 =>
     bnd (aC 2 (DV.p h.next 0) v39 h39) fun x h40 =>
     bnd (aG 2 (DV.p h.next 0) h40) fun v41 x => some (v41, h40))) = some (v, h') ∧ Wd h' M R es ∧ CaR h' b C' hi' (ak + 1) ∧ CaA C C' hi hi' c s ∧ h.next.toNat ≤ h'.next.toNat := by
  intro hq
  obtain ⟨u, v, k5, e5, L5⟩ := cDe W4 G I hn c s sp hk hm
  have T5 := T4.keep L5 (by omega)
  have r5 : k5.bl.get k2.next = some (.row .ex [iD c, iD s]) := (L5.get _ (by omega)).trans r4
  have a5 : k5.bl.get h.next = some (.row .ex [iD 0, iD 0]) := (L5.get _ (by omega)).trans a4
  have l5 := ld2 r5
  have e6 := dKa T5 hl c s u v
  have T6 : CaR ⟨k5.next, Tr.set (.row .ex (dB (aCh C (cP c s) ⟨true, c, s, u, v⟩) hi (ak + 1))) b k5.bl⟩ b (aCh C (cP c s) ⟨true, c, s, u, v⟩) hi (ak + 1) := eMi _ _ _
  have L6 : Lo 1031 h ⟨k5.next, Tr.set (.row .ex (dB (aCh C (cP c s) ⟨true, c, s, u, v⟩) hi (ak + 1))) b k5.bl⟩ := (LL.trans (L5.mono (by omega))).trans ⟨Nat.le_refl _, fun p hp => eMh _ _ _ _ fun e => by rw [e] at hp; omega⟩
  obtain ⟨w, h', e7, W7, T7, n7⟩ := told _ _ _ T6 L6 ((eMh _ _ _ _ bn.symm).trans a5)
  refine ⟨w, h', _, hi, ?_, W7, T7, .miss u v hq rfl rfl, n7⟩
  have bb : aS [DV.b false, DV.i IntKind.i64 (Int.ofNat 0), DV.i IntKind.i64 (Int.ofNat 0), DV.i IntKind.i64 (Int.ofNat 0), DV.i IntKind.i64 (Int.ofNat 0)] [(0, 1, DV.b true), (1, 2, .a [iD c, iD s]), (3, 2, .a [iD u, iD v])] k5 = some (.a [.b true, iD c, iD s, iD u, iD v], k5) := by
   simp [aS, jK, dE, iD]
  have sm := smA c s k5
  simp only [lkey, bC, e5, l5, sm, Bool.and_self, cnd, cond_true, bb, e6]
  exact e7
 rw [shS 12 rfl, dIr]
 unfold s12
 simp only [iD] at la e2 e4 bu lk lkey eq2 ⊢
 simp only [g0, g1, show ∀ (a b c : DV) (l : List DV), (a :: b :: c :: l).getD 2 aT = c from fun _ _ _ _ => rfl, show ∀ (a b c d : DV) (l : List DV), (a :: b :: c :: d :: l).getD 3 aT = d from fun _ _ _ _ _ => rfl, e1, bC, gM, xJ, la, iT ak 1 _ (show -9223372036854775808 ≤ ak + 1 ∧ ak + 1 ≤ 9223372036854775807 by omega), show (Int.ofNat 1 : Int) = 1 from rfl, e2, bu, e3, e4, pm, pa, pc, pq, pr, px, Nat.add_zero, lf]
 simp only [iD] at miss told
 cases hB : (C (cP c s)).b with
 | false =>
  simp only [mN, sQ, bC, cM, cU]
  exact miss (fun q => by rw [hB] at q; cases q.1)
 | true =>
  simp only [mV, gM, xJ, bC, lk, lkey, eq2, cI]
  by_cases q : (C (cP c s)).c = c ∧ (C (cP c s)).s = s
  ·have d : ((C (cP c s)).c == c && (C (cP c s)).s == s) = true := by rw [q.1, q.2]; simp
   have lh := bGf T4
   have e5 := cOw T4 (hi + 1)
   have T5 : CaR ⟨k4.next, Tr.set (.row .ex (dB C (hi + 1) (ak + 1))) b k4.bl⟩ b C (hi + 1) (ak + 1) := eMi _ _ _
   have L5 : Lo 1031 h ⟨k4.next, Tr.set (.row .ex (dB C (hi + 1) (ak + 1))) b k4.bl⟩ := LL.trans ⟨Nat.le_refl _, fun p hp => eMh _ _ _ _ fun e => by rw [e] at hp; omega⟩
   obtain ⟨w, h', e7, W7, T7, n7⟩ := told _ _ _ T5 L5 ((eMh _ _ _ _ bn.symm).trans a4)
   refine ⟨w, h', C, hi + 1, ?_, W7, T7, .hit ⟨hB, q⟩ rfl rfl, n7⟩
   simp only [iD] at lh e5
   simp only [d, dD, lh, bC, iT hi 1 _ (show -9223372036854775808 ≤ hi + 1 ∧ hi + 1 ≤ 9223372036854775807 by omega), e5]
   exact e7
  ·have d : ((C (cP c s)).c == c && (C (cP c s)).s == s) = false := by
    cases hd : ((C (cP c s)).c == c && (C (cP c s)).s == s) with
    | false => rfl
    | true =>
     simp only [Bool.and_eq_true, beq_iff_eq] at hd
     exact absurd hd q
   simp only [d, cU]
   obtain ⟨w, h', C', hi', e7, r7⟩ := miss (fun q' => q q'.2)
   refine ⟨w, h', C', hi', ?_, r7⟩
   simp only [lkey, bC] at e7
   exact e7
end
end Go.Dd

namespace Go.Dd
open Go.Proofs
theorem dRo {w : Int} {pl : WT} (h : cE w pl ≠ 0) : w = .ofNat (2 * cE w pl) := by
 rcases mG w pl with e | ⟨e, h0⟩
 ·exact absurd e h
 ·obtain ⟨h1, h2, _⟩ := nO w
  have h3 := h1.1 h0
  have h4 := h2 h0
  rw [e]
  show w = ((2 * jA w : Nat) : Int)
  omega
section
variable {h h' : Hp} {M M' : MemV} {R R' : List Int} {es es' : List (DV × DV)} {k : Nat} {z : Prop} {CL : List Nat}
theorem Stay.head (S : Stay k M M' R R' es es') (I : GI M R CL z) (G : Good M) {o : Int} (ho : cE o M.pl ≠ 0) : gQ M' o = gQ M o := by
 obtain ⟨h1, _, h4, h3⟩ := I.headOb G ho
 unfold gQ
 rw [S.at' o ho, S.old _ (by omega)]
theorem Stay.clo (S : Stay k M M' R R' es es') (I : GI M R CL z) (G : Good M) {o : Int} (ho : cE o M.pl ≠ 0) : aEe M' o = aEe M o := by
 obtain ⟨h1, _, h4, h3⟩ := I.headOb G ho
 unfold aEe
 rw [S.at' o ho, S.old _ (by omega)]
theorem Stay.get (S : Stay k M M' R R' es es') (I : GI M R CL z) (G : Good M) {o : Int} (ho : cE o M.pl ≠ 0) (i : Nat) : gP M' o i = gP M o i := by
 obtain ⟨h1, _, h4, h3⟩ := I.headOb G ho
 unfold gP
 rw [S.head I G ho, S.at' o ho]
 by_cases c : cE o M.pl ≠ 0 ∧ i < gQ M o / 4
 ·rw [if_pos c, if_pos c, S.old _ (by omega)]
 ·rw [if_neg c, if_neg c]
theorem Stay.isC (S : Stay k M M' R R' es es') (I : GI M R CL z) (G : Good M) {o : Int} (ho : cE o M.pl ≠ 0) : isC M' R' o = isC M R o := by
 unfold Go.Dd.isC
 rw [S.at' o ho, S.clo I G ho, S.r 2]
theorem Stay.super (S : Stay k M M' R R' es es') (I : GI M R CL z) (G : Good M) {o : Int} (ho : cE o M.pl ≠ 0) : mA M' R' o = mA M R o := by
 unfold mA
 rw [S.isC I G ho, S.get I G ho]
end
end Go.Dd

namespace Go.Dd
open Go.Proofs
noncomputable def chB (M : MemV) : Nat → Int → Bool := fun k => Nat.rec (motive := fun _ => Int → Bool) (fun l => fS l 0) (fun _ ih l => bif fS l 0 then true else (!(Nat.beq (cE l M.pl) 0) && ih (gP M l 1))) k
noncomputable def dOj (M : MemV) (R : List Int) : Nat → Int → Bool := fun k => Nat.rec (motive := fun _ => Int → Bool) (fun c => fS c 0) (fun _ ih c => bif fS c 0 then true else (!(Nat.beq (cE c M.pl) 0) && (chB M 40 (gP M c 4) && ih (mA M R c)))) k
theorem nb0 {a : Nat} (h : (!(Nat.beq a 0)) = true) : a ≠ 0 := fun e => by rw [e] at h; cases h
theorem cBj {M : MemV} : ∀ (k : Nat) (l : Int), chB M k l = true → ChN M k l
 | 0, l, h => (cX l 0).1 h
 | k + 1, l, h => by
  have h : (bif fS l 0 then true else (!(Nat.beq (cE l M.pl) 0) && chB M k (gP M l 1))) = true := h
  cases e : fS l 0 with
  | true => exact .inl ((cX l 0).1 e)
  | false =>
   rw [e, cond_false, Bool.and_eq_true] at h
   exact .inr ⟨nb0 h.1, cBj k _ h.2⟩
theorem bIa {M : MemV} {R : List Int} : ∀ (k : Nat) (c : Int), dOj M R k c = true → SupN M R k c
 | 0, l, h => (cX l 0).1 h
 | k + 1, c, h => by
  have h : (bif fS c 0 then true else (!(Nat.beq (cE c M.pl) 0) && (chB M 40 (gP M c 4) && dOj M R k (mA M R c)))) = true := h
  cases e : fS c 0 with
  | true => exact .inl ((cX c 0).1 e)
  | false =>
   rw [e, cond_false, Bool.and_eq_true, Bool.and_eq_true] at h
   exact .inr ⟨nb0 h.1, ⟨40, by omega, cBj 40 _ h.2.1⟩, bIa k _ h.2.2⟩
theorem cPe : cRr (fun e => dOj MN RN 6 (.ofNat e.2) && Nat.blt e.2 1000) clF = true := by kernel_rfl
noncomputable def csN : List (DV × DV) := bLp clF
theorem cN : Wc hN csN := by
 unfold Wc
 kernel_rfl
theorem aZc : ∀ e ∈ csN, ∃ (k : List Nat) (x : Int), e = (.s k, iD x) := fun e he => by
 obtain ⟨x, _, h2⟩ := rD clF e he
 exact ⟨x.1, _, h2⟩
theorem bIs (s : List Nat) : SupN MN RN 6 (qH csN s) ∧ 0 ≤ qH csN s ∧ qH csN s ≤ 1000 := by
 unfold qH
 rcases aHl (es := csN) s aZc with ⟨x, h1, h2⟩ | ⟨h1, _⟩
 ·rw [h1]
  obtain ⟨y, hy, e⟩ := rD clF _ h2
  have hx : x = .ofNat y.2 := by
   have := (Prod.mk.inj e).2
   cases this
   rfl
  have := zW cPe y hy
  rw [Bool.and_eq_true] at this
  show SupN MN RN 6 x ∧ 0 ≤ x ∧ x ≤ 1000
  rw [hx]
  have lt := this.2
  rw [jF] at lt
  have lt := of_decide_eq_true lt
  exact ⟨bIa 6 _ this.1, by simp, by simp; omega⟩
 ·rw [h1]
  exact ⟨.inl rfl, by decide, by decide⟩
section
variable {M M' : MemV} {R R' : List Int} {es es' : List (DV × DV)} {k : Nat} {z : Prop} {CL : List Nat}
theorem ChN.stay (S : Stay k M M' R R' es es') (I : GI M R CL z) (G : Good M) : ∀ (j : Nat) (l : Int), ChN M j l → ChN M' j l
 | 0, l, h => h
 | j + 1, l, h => by
  rcases h with h | ⟨h1, h2⟩
  ·exact .inl h
  ·refine .inr ⟨by rw [S.at' l h1]; exact h1, ?_⟩
   rw [S.get I G h1]
   exact ChN.stay S I G j _ h2
theorem SupN.stay (S : Stay k M M' R R' es es') (I : GI M R CL z) (G : Good M) : ∀ (j : Nat) (c : Int), SupN M R j c → SupN M' R' j c
 | 0, l, h => h
 | j + 1, c, h => by
  rcases h with h | ⟨h1, ⟨i, hi, h2⟩, h3⟩
  ·exact .inl h
  ·refine .inr ⟨by rw [S.at' c h1]; exact h1, ⟨i, hi, ?_⟩, ?_⟩
   ·rw [S.get I G h1]
    exact ChN.stay S I G i _ h2
   ·rw [S.super I G h1]
    exact SupN.stay S I G j _ h3
end
theorem pT {g : FuncId} (h9 : Nat.beq g 9 = false) (h7 : Nat.beq g 7 = false) (args : List DV) (h : Hp) : kA g args h = fW 900 g args h := by
 unfold kA
 rw [h9, cond_false, bDw, h7, cond_false]
theorem dXb (h : Hp) : kA 9 [] h = some (.b true, h) := rfl
theorem dJj : kA 7 [.i .i64 (.ofNat 20000)] hS = some (.t [.p (bD 7) 0, .i .i64 (.ofNat 0)], hN) := by kernel_rfl
theorem dKx (args : List DV) (h : Hp) : kA 8 args h = fW (899 + 1) 8 args h := pT rfl rfl args h
theorem cYz (args : List DV) (h : Hp) : kA 10 args h = fW (897 + 3) 10 args h := pT rfl rfl args h
theorem dGv (args : List DV) (h : Hp) : kA 11 args h = fW (899 + 1) 11 args h := pT rfl rfl args h
theorem bFg (args : List DV) (h : Hp) : kA 12 args h = fW (895 + 5) 12 args h := pT rfl rfl args h
theorem bEf (args : List DV) (h : Hp) : kA 13 args h = fW (899 + 1) 13 args h := pT rfl rfl args h
theorem dCj (args : List DV) (h : Hp) : kA 14 args h = fW (899 + 1) 14 args h := pT rfl rfl args h
theorem dAx (args : List DV) (h : Hp) : kA 15 args h = fW (899 + 1) 15 args h := pT rfl rfl args h
section
variable {h : Hp} {b : Pos} {C : Nat → Ent} {hi ak : Int}
theorem eLb (h : Hp) (m : Nat) : fW (m + 1) 8 [] h = some (.p h.next 0, ⟨h.next.succ, Tr.set (.row .ex (dB (fun _ => aMy) 0 0)) h.next h.bl⟩) := by
 rw [shS 8 rfl, eCm]
 rfl
theorem aJl (T : CaR h b C hi ak) (m : Nat) : fW (m + 1) 13 [.p b 0] h = some (iD hi, h) := by
 rw [shS 13 rfl, dIb]
 unfold s13
 simp only [g0, gM, xJ, bC, bGf T]
theorem dHg (T : CaR h b C hi ak) (m : Nat) : fW (m + 1) 15 [.p b 0] h = some (iD ak, h) := by
 rw [shS 15 rfl, dIf]
 unfold s15
 simp only [g0, gM, xJ, bC, aRy T]
theorem dGf (T : CaR h b C hi ak) (m : Nat) : fW (m + 1) 14 [.p b 0] h = some (.t [], ⟨h.next, Tr.set (.row .ex (dB (fun _ => aMy) hi ak)) b h.bl⟩) := by
 rw [shS 14 rfl, dIz]
 unfold s14
 have st : ∀ cs l, dE (.a cs) = some cs → cs.length = 80 → gL 0 (dB C hi ak) cs = some l → aC 80 (.p b (0 + 0)) (.a cs) h = some (aT, ⟨h.next, Tr.set (.row .ex l) b h.bl⟩) := fun cs l h1 h2 h3 => by
  simp only [aC, h1, h2, if_true, cQ, show h.bl.get b = some (.row .ex (dB C hi ak)) from T, Nat.add_zero, h3]
  rfl
 simp only [g0, gM, xJ]
 show bnd (aS _ [] h) _ = _
 simp only [aS, jK, bC, xJ]
 rw [st _ (dB (fun _ => aMy) hi ak) rfl rfl rfl]
 rfl
end
end Go.Dd

namespace Go.Dd
open Go.Proofs
noncomputable def s3 (rec : FuncId → List DV → Hp → aK) (n : Nat) (x0 x1 x2 x3 : DV) (h0 : Hp) : aK :=
 bnd (rec 7 [(.i .i64 (Int.ofNat 20000))] h0) fun v1 h1 =>
 bnd (aH 0 v1 h1) fun v2 h2 =>
 bnd (aH 1 v1 h2) fun v3 h3 =>
 bnd (rec 8 [] h3) fun v4 h4 =>
 bnd (pEq (.pointer 77) true v2 .p0 h4) fun v5 h5 =>
 bnd (gD v5 false (some (v4, h5)) h5) fun v6 h6 =>
 bnd (gD v5 false (pEq (.pointer 98) true v6 .p0 h6) h6) fun v7 h7 =>
 bnd (aP v5 (.b true) v7 h7) fun v8 h8 =>
 bnd (gD v8 false (some (v3, h8)) h8) fun v9 h9 =>
 bnd (gD v8 false (aF .neq v9 (.i .i64 (Int.ofNat 0)) h9) h9) fun v10 h10 =>
 bnd (aP v8 (.b true) v10 h10) fun v11 h11 =>
 aU v11 (
  some ((.b false), h11)) (
  bnd (eC x1 h11) fun v12 h12 =>
  bnd (aF .gtr v12 (.i .i64 (Int.ofNat 60)) h12) fun v13 h13 =>
  bnd (gD v13 false (some (x3, h13)) h13) fun v14 h14 =>
  bnd (gD v13 false (eC v14 h14) h14) fun v15 h15 =>
  bnd (gD v13 false (aF .gtr v15 (.i .i64 (Int.ofNat 60)) h15) h15) fun v16 h16 =>
  bnd (aP v13 (.b true) v16 h16) fun v17 h17 =>
  aU v17 (
   bnd (rec 9 [] h17) fun v18 h18 =>
   some (v18, h18)) (
   bnd (rec 10 [v2, x1] h17) fun v19 h19 =>
   bnd (aH 0 v19 h19) fun v20 h20 =>
   bnd (aH 1 v19 h20) fun v21 h21 =>
   bnd (rec 10 [v2, x3] h21) fun v22 h22 =>
   bnd (aH 0 v22 h22) fun v23 h23 =>
   bnd (aH 1 v22 h23) fun v24 h24 =>
   bnd (aF .neq v21 (.i .i64 (Int.ofNat 0)) h24) fun v25 h25 =>
   bnd (gD v25 false (some (v24, h25)) h25) fun v26 h26 =>
   bnd (gD v25 false (aF .neq v26 (.i .i64 (Int.ofNat 0)) h26) h26) fun v27 h27 =>
   bnd (aP v25 (.b true) v27 h27) fun v28 h28 =>
   aU v28 (
    bnd (rec 9 [] h28) fun v29 h29 =>
    some (v29, h29)) (
    bnd (rec 11 [v2, x0] h28) fun v30 h30 =>
    bnd (rec 11 [v2, x2] h30) fun v31 h31 =>
    bnd (rec 12 [v4, v2, v30, v20] h31) fun v32 h32 =>
    bnd (rec 12 [v4, v2, v31, v23] h32) fun v33 h33 =>
    bnd (rec 13 [v4] h33) fun v34 h34 =>
    bnd (rec 12 [v4, v2, v30, v20] h34) fun v35 h35 =>
    bnd (aF .mul (.i .i64 (Int.ofNat 5)) v20 h35) fun v36 h36 =>
    bnd (aF .add v30 v36 h36) fun v37 h37 =>
    bnd (aF .quo v37 (.i .i64 (Int.ofNat 2)) h37) fun v38 h38 =>
    bnd (aF .rem v38 (.i .i64 (Int.ofNat 16)) h38) fun v39 h39 =>
    bnd (aF .mul (.i .i64 (Int.ofNat 5)) v23 h39) fun v40 h40 =>
    bnd (aF .add v31 v40 h40) fun v41 h41 =>
    bnd (aF .quo v41 (.i .i64 (Int.ofNat 2)) h41) fun v42 h42 =>
    bnd (aF .rem v42 (.i .i64 (Int.ofNat 16)) h42) fun v43 h43 =>
    bnd (aF .neq v39 v43 h43) fun v44 h44 =>
    bnd (gD v44 false (some (v30, h44)) h44) fun v45 h45 =>
    bnd (gD v44 false (some (v31, h45)) h45) fun v46 h46 =>
    bnd (gD v44 false (aF .eql v45 v46 h46) h46) fun v47 h47 =>
    bnd (gD v44 false (some (v47, h47)) h47) fun v48 h48 =>
    bnd (gD v48 true (some (v20, h48)) h48) fun v49 h49 =>
    bnd (gD v48 true (some (v23, h49)) h49) fun v50 h50 =>
    bnd (gD v48 true (aF .eql v49 v50 h50) h50) fun v51 h51 =>
    bnd (gD v44 false (aP v48 v51 (.b false) h51) h51) fun v52 h52 =>
    bnd (aP v44 (.b true) v52 h52) fun v53 h53 =>
    bnd (rec 13 [v4] h53) fun v54 h54 =>
    bnd (aF .add v34 (.i .i64 (Int.ofNat 1)) h54) fun v55 h55 =>
    bnd (aF .eql v54 v55 h55) fun v56 h56 =>
    bnd (pEq .bool false v56 v53 h56) fun v57 h57 =>
    aU v57 (
     some ((.b false), h57)) (
     bnd (rec 14 [v4] h57) fun v58 h58 =>
     bnd (rec 13 [v4] h58) fun v59 h59 =>
     bnd (rec 12 [v4, v2, v30, v20] h59) fun v60 h60 =>
     bnd (rec 13 [v4] h60) fun v61 h61 =>
     bnd (aF .eql v61 v59 h61) fun v62 h62 =>
     bnd (gD v62 true (some (v4, h62)) h62) fun v63 h63 =>
     bnd (gD v62 true (rec 15 [v63] h63) h63) fun v64 h64 =>
     bnd (gD v62 true (aF .eql v64 (.i .i64 (Int.ofNat 4)) h64) h64) fun v65 h65 =>
     bnd (aP v62 v65 (.b false) h65) fun v66 h66 =>
     bnd (gD v66 true (rec 9 [] h66) h66) fun v67 h67 =>
     bnd (aP v66 v67 (.b false) h67) fun v68 h68 =>
     some (v68, h68)))))
noncomputable def D3 (rec : FuncId → List DV → Hp → aK) (n : Nat) (c : Code) (X : Nat → K) (k : K) : K := aM CF rec 141 n c X (aR CF Tryz.f3) k
theorem s3m (rec : FuncId → List DV → Hp → aK) (n : Nat) : D3 rec n (cf Tryz.f3) x0 (aR CF Tryz.f3) = (fun (env : bB) (h : Hp) => s3 rec n (env 0) (env 1) (env 2) (env 3) h) :=
 (by kernel_rfl)
theorem eHt (rec : FuncId → List DV → Hp → aK) (n : Nat) (args : List DV) (h : Hp) : aE CF rec n 3 args h = s3 rec n (args.getD 0 aT) (args.getD 1 aT) (args.getD 2 aT) (args.getD 3 aT) h :=
 (by kernel_rfl : aE CF rec n 3 args h = D3 rec n (cf Tryz.f3) x0 (aR CF Tryz.f3) (aI args) h).trans ((congrFun (congrFun (s3m rec n) (aI args)) h).trans (by kernel_rfl))
end Go.Dd

namespace Go.Dd
open Go.Proofs
theorem bnn (b : Bool) : (b != b) = false := by cases b <;> rfl
theorem bAn {C1 C2 C3 : Nat → Ent} {h1 h2 h3 a s b t : Int} (A1 : CaA (fun _ => aMy) C1 0 h1 a s) (A2 : CaA C1 C2 h1 h2 b t) (A3 : CaA C2 C3 h2 h3 a s) :
  (h3 = h2 + 1 ↔ (cP a s ≠ cP b t ∨ (a = b ∧ s = t))) ∧ 0 ≤ h1 ∧ h1 ≤ 1 ∧ 0 ≤ h2 ∧ h2 ≤ 2 ∧ 0 ≤ h3 ∧ h3 ≤ 3 := by
 have same : ∀ (C : Nat → Ent) (i : Nat) (e : Ent), aCh C i e i = e := fun C i e => by unfold aCh; rw [if_pos rfl]
 have oth : ∀ (C : Nat → Ent) (i j : Nat) (e : Ent), j ≠ i → aCh C i e j = C j := fun C i j e h => by unfold aCh; rw [if_neg h]
 cases A1 with
 | hit q _ _ => cases q.1
 | miss m k _ c1 e1 =>
  subst c1; subst e1
  cases A2 with
  | hit q c2 e2 =>
   subst c2; subst e2
   have ij : cP b t = cP a s := by
    rcases Nat.lt_or_ge (cP b t) (cP a s) with w | w
    ·rw [oth _ _ _ _ (by omega)] at q; cases q.1
    ·rcases Nat.lt_or_ge (cP a s) (cP b t) with w2 | w2
     ·rw [oth _ _ _ _ (by omega)] at q; cases q.1
     ·omega
   rw [ij, same] at q
   have q2 : a = b := q.2.1
   have q3 : s = t := q.2.2
   cases A3 with
   | hit _ _ e3 => exact ⟨⟨fun _ => .inr ⟨q2, q3⟩, fun _ => e3⟩, by omega, by omega, by omega, by omega, by omega, by omega⟩
   | miss _ _ n3 _ _ => rw [same] at n3; exact absurd ⟨rfl, rfl, rfl⟩ n3
  | miss m2 k2 n2 c2 e2 =>
   subst c2; subst e2
   by_cases ij : cP a s = cP b t
   ·have nk : ¬ (a = b ∧ s = t) := fun q => by
     rw [← ij, same] at n2
     exact n2 ⟨rfl, q.1, q.2⟩
    cases A3 with
    | hit q _ _ =>
     rw [ij, same] at q
     have q1 : b = a := q.2.1
     have q2 : t = s := q.2.2
     exact absurd ⟨q1.symm, q2.symm⟩ nk
    | miss _ _ _ _ e3 => exact ⟨⟨fun q => by omega, fun q => q.elim (fun w => absurd ij w) (fun w => absurd w nk)⟩, by omega, by omega, by omega, by omega, by omega, by omega⟩
   ·cases A3 with
    | hit _ _ e3 => exact ⟨⟨fun _ => .inl ij, fun _ => e3⟩, by omega, by omega, by omega, by omega, by omega, by omega⟩
    | miss _ _ n3 _ _ =>
     rw [oth _ _ _ _ ij, same] at n3
     exact absurd ⟨rfl, rfl, rfl⟩ n3
theorem aSe {M : MemV} {cls o : Int} {s : List Nat} (T : TxO M cls o s) : 0 ≤ o ∧ o ≤ 262144 := by
 have h := dRo T.at0
 have hl : cE o M.pl ≤ 131072 := by
  rcases mG o M.pl with e | ⟨e, _⟩
  ·rw [e]; omega
  ·rw [e]; exact (nO o).2.2
 rw [h]
 simp
 omega
theorem bBw (p : Pos) (o : Ob) (T : Tr Ob) (nx : Pos) : (⟨nx, Tr.set o p T⟩ : Hp).bl.get p = some o := eMi _ _ _
theorem Wk.up {h : Hp} {M : MemV} {R : List Int} {es : List (DV × DV)} (K : Wk h M R es) {h' : Hp} (W' : Wd h' M R es) : Wk h' M R es := ⟨W', K.G, K.sy, K.r0, K.rk⟩
theorem cVk {name sel oth sec : List Nat} (b1 : ∀ c ∈ sel, c < 256) (b2 : ∀ c ∈ sec, c < 256) : ∃ k, aE CF kA 900 3 [.s name, .s sel, .s oth, .s sec] hS = some (.b true, k) := by
 have lv := dXb
 obtain ⟨k1, hk1⟩ : ∃ k1 : Hp, (⟨hN.next.succ, Tr.set (.row .ex (dB (fun _ => aMy) 0 0)) hN.next hN.bl⟩ : Hp) = k1 := ⟨_, rfl⟩
 have e8 := eLb hN 899
 rw [hk1] at e8
 have L1 : Lo hN.next.toNat hN k1 := by rw [← hk1]; exact mU _ _
 have T1 : CaR k1 hN.next (fun _ => aMy) 0 0 := by unfold CaR; rw [← hk1]; exact bBw _ _ _ _
 have nb : 1031 ≤ hN.next.toNat := WN.nx
 have nx1 : hN.next.toNat < k1.next.toNat := by rw [← hk1]; show _ < hN.next.succ.toNat; rw [eMj]; omega
 generalize hb : hN.next = b at *
 have K1 : Wk k1 MN RN esN := KN.up (KN.W.lo (by rw [hb]; exact L1))
 have C1 : Wc k1 csN := cN.up KN.W (Lo.up (by rw [hb]; exact L1))
 have pw : pEq (.pointer 77) true (.p (bD 7) 0) .p0 k1 = some (.b false, k1) := rfl
 have pb : pEq (.pointer 98) true (.p b 0) .p0 k1 = some (.b false, k1) := rfl
 have n0 : (Int.ofNat 0 != Int.ofNat 0) = false := rfl
 rw [eHt]
 unfold s3
 simp only [g0, g1, show ∀ (a b c : DV) (l : List DV), (a :: b :: c :: l).getD 2 aT = c from fun _ _ _ _ => rfl, show ∀ (a b c d : DV) (l : List DV), (a :: b :: c :: d :: l).getD 3 aT = d from fun _ _ _ _ _ => rfl, dJj, bC, px0, px1, dKx, e8, pw, jU, pb, cM, gZ, n0, cU, eDt, eY]
 by_cases l1 : (sel.length : Int) > Int.ofNat 60
 ·simp only [decide_eq_true l1, hC, sQ, cI, bC, dD, lv]
  exact ⟨_, rfl⟩
 ·simp only [decide_eq_false l1, jU, eDt, bC, eY, cM]
  by_cases l2 : (sec.length : Int) > Int.ofNat 60
  ·simp only [decide_eq_true l2, dD, bC, lv]
   exact ⟨_, rfl⟩
  ·simp only [decide_eq_false l2, cU]
   obtain ⟨s, e, k2, M2, R2, es2, e2, K2, U2, S2, A2⟩ := K1.symbol b1 (by show 4321 + 70 ≤ 20000; omega) (by show 583 < 800000; omega) (n := 897) (by omega)
   have f2 := S2.fin
   have m2 := S2.made
   have g2 := S2.n
   have f0 : MN.fin = 4321 := rfl
   have N0 : MN.n = 20000 := rfl
   have d0 : MN.made = 583 := rfl
   obtain ⟨t, f, k3, M3, R3, es3, e3, K3, U3, S3, A3⟩ := K2.symbol b2 (by omega) (by omega) (n := 897) (by omega)
   simp only [cYz, e2, bC, px0, px1, e3, gZ]
   rcases A2 with ⟨_, rfl, _⟩ | ⟨_, rfl, _, Ts⟩
   ·simp only [show ((1 : Int) != Int.ofNat 0) = true from rfl, hC, sQ, cI, bC, dD, lv]
    exact ⟨_, rfl⟩
   ·simp only [show ((0 : Int) != Int.ofNat 0) = false from rfl, jU, gZ, bC, cM]
    rcases A3 with ⟨_, rfl, _⟩ | ⟨_, rfl, _, Tt⟩
    ·simp only [show ((1 : Int) != Int.ofNat 0) = true from rfl, dD, bC, lv]
     exact ⟨_, rfl⟩
    ·simp only [show ((0 : Int) != Int.ofNat 0) = false from rfl, cU]
     have rs := aSe Ts
     have rt := aSe Tt
     have U := U2.trans U3
     have I1 : GI MN RN CL0 := GIN
     have I2 := S2.gi _ I1
     have I3 := S3.gi _ I2
     have C3 : Wc k3 csN := (C1.up K1.W U2).up K2.W U3
     have T3 : CaR k3 b (fun _ => aMy) 0 0 := by unfold CaR; rw [U.get b (.inr (by omega)) nx1]; exact T1
     have nx3 : b.toNat < k3.next.toNat := Nat.lt_of_lt_of_le nx1 U.next
     obtain ⟨sa, a0, a1⟩ := bIs name
     obtain ⟨sb, c0, c1⟩ := bIs oth
     have ca := K3.W.classOfName C3 aZc name 899
     have cb := K3.W.classOfName C3 aZc oth 899
     generalize qH csN name = a at *
     generalize qH csN oth = c at *
     have sa3 := (sa.stay S2 I1 K1.G).stay S3 I2 K2.G
     have sb3 := (sb.stay S2 I1 K1.G).stay S3 I2 K2.G
     have hn : M3.n ≤ 131072 := by have := S3.n; omega
     obtain ⟨v1, k4, D1, x1, q1, W4, T4, A4, n4⟩ := vY K3.W K3.G I3 hn sa3 (by omega) T3 nb nx3 (c := a) (s := s) (by omega) (by omega) (by omega) (by omega) (m := 895) (by omega)
     have hx1 : 0 ≤ x1 ∧ x1 ≤ 1 := by cases A4 <;> omega
     obtain ⟨v2, k5, D2, x2, q2, W5, T5, A5, n5⟩ := vY W4 K3.G I3 hn sb3 (by omega) T4 nb (by omega) (c := c) (s := t) (by omega) (by omega) (by omega) (by omega) (m := 895) (by omega)
     have hx2 : 0 ≤ x2 ∧ x2 ≤ 2 := by cases A5 <;> omega
     obtain ⟨v3, k6, D3, x3, q3, W6, T6, A6, n6⟩ := vY W5 K3.G I3 hn sa3 (by omega) T5 nb (by omega) (c := a) (s := s) (by omega) (by omega) (by omega) (by omega) (m := 895) (by omega)
     obtain ⟨kept, _, _, _, _, y1, y2⟩ := bAn A4 A5 A6
     have h5 := aJl T5 899
     have h6 := aJl T6 899
     have pm : ∀ (w : Int) (h : Hp), 0 ≤ w → w ≤ 262144 → aF .mul (.i .i64 (Int.ofNat 5)) (.i .i64 w) h = some (.i .i64 (5 * w), h) := fun w h w0 w1 => by
      simp only [aF, if_true, eZ]
      rw [iL _ (by simp; omega)]
      rfl
     have pa : ∀ (u w : Int) (h : Hp), 0 ≤ u → u ≤ 1000 → 0 ≤ w → w ≤ 262144 → aF .add (.i .i64 u) (.i .i64 (5 * w)) h = some (.i .i64 (u + 5 * w), h) := fun u w h _ _ _ _ => iT _ _ _ (by omega)
     have pq : ∀ (u w : Int) (h : Hp), 0 ≤ u → u ≤ 1000 → 0 ≤ w → w ≤ 262144 → aF .quo (.i .i64 (u + 5 * w)) (.i .i64 (Int.ofNat 2)) h = some (.i .i64 ((u + 5 * w) / 2), h) := fun u w h _ _ _ _ => by
      simp only [aF, if_true, eZ]
      rw [if_neg (by decide), show (u + 5 * w).tdiv (Int.ofNat 2) = (u + 5 * w) / 2 from Int.tdiv_eq_ediv_of_nonneg (by omega), iL _ (by omega)]
     have pr : ∀ (u w : Int) (h : Hp), 0 ≤ u → u ≤ 1000 → 0 ≤ w → w ≤ 262144 → aF .rem (.i .i64 ((u + 5 * w) / 2)) (.i .i64 (Int.ofNat 16)) h = some (.i .i64 (cP u w : Int), h) := fun u w h _ _ _ _ => by
      simp only [aF, if_true, eZ]
      rw [if_neg (by decide), show ((u + 5 * w) / 2).tmod (Int.ofNat 16) = (u + 5 * w) / 2 % 16 from Int.tmod_eq_emod_of_nonneg (by omega)]
      unfold cP
      rw [Int.toNat_of_nonneg (by omega)]
     obtain ⟨k7, hk7⟩ : ∃ k7 : Hp, (⟨k6.next, Tr.set (.row .ex (dB (fun _ => aMy) x3 (0 + 1 + 1 + 1))) b k6.bl⟩ : Hp) = k7 := ⟨_, rfl⟩
     have e7 := dGf T6 899
     rw [hk7] at e7
     have T7 : CaR k7 b (fun _ => aMy) x3 (0 + 1 + 1 + 1) := by unfold CaR; rw [← hk7]; exact bBw _ _ _ _
     have W7 : Wd k7 M3 R3 es3 := W6.lo31 ⟨by rw [← hk7]; exact Nat.le_refl _, fun p hp => by
      rw [← hk7]
      exact eMh _ _ _ _ fun e => by rw [e] at hp; omega⟩
     have n7 : k7.next = k6.next := by rw [← hk7]
     obtain ⟨v4, k8, D4, x4, q4, W8, T8, A8, n8⟩ := vY W7 K3.G I3 hn sa3 (by omega) T7 nb (by rw [n7]; omega) (c := a) (s := s) (by omega) (by omega) (by omega) (by omega) (m := 895) (by omega)
     have hx4 : x4 = x3 := by
      cases A8 with
      | hit q _ _ => cases q.1
      | miss _ _ _ _ e => exact e
     have h7 := aJl T7 899
     have h8 := aJl T8 899
     have a8 := dHg T8 899
     have fin : ∃ k, (bnd (kA 13 [.p b 0] k6) fun v54 h54 =>
       bnd (aF .add (iD x2) (.i .i64 (Int.ofNat 1)) h54) fun v55 h55 =>
       bnd (aF .eql v54 v55 h55) fun v56 h56 =>
       bnd (pEq .bool false v56 (.b (decide (cP a s ≠ cP c t ∨ (a = c ∧ s = t)))) h56) fun v57 h57 =>
       aU v57 (some ((.b false), h57)) (
        bnd (kA 14 [.p b 0] h57) fun v58 h58 =>
        bnd (kA 13 [.p b 0] h58) fun v59 h59 =>
        bnd (kA 12 [.p b 0, .p (bD 7) 0, iD a, iD s] h59) fun v60 h60 =>
        bnd (kA 13 [.p b 0] h60) fun v61 h61 =>
        bnd (aF .eql v61 v59 h61) fun v62 h62 =>
        bnd (gD v62 true (some (.p b 0, h62)) h62) fun v63 h63 =>
        bnd (gD v62 true (kA 15 [v63] h63) h63) fun v64 h64 =>
        bnd (gD v62 true (aF .eql v64 (.i .i64 (Int.ofNat 4)) h64) h64) fun v65 h65 =>
        bnd (aP v62 v65 (.b false) h65) fun v66 h66 =>
        bnd (gD v66 true (kA 9 [] h66) h66) fun v67 h67 =>
        bnd (aP v66 v67 (.b false) h67) fun v68 h68 =>
        some (v68, h68))) = some (.b true, k) := by
      have d : (x3 == x2 + 1) = decide (cP a s ≠ cP c t ∨ (a = c ∧ s = t)) := by
       rw [Bool.eq_iff_iff]
       simp only [beq_iff_eq, decide_eq_true_eq]
       exact kept
      have d4 : ((0 + 1 + 1 + 1 + 1 : Int) == Int.ofNat 4) = true := rfl
      have gg : ∀ a : Int, (a == a) = true := fun a => by simp
      subst hx4
      simp only [iD] at h6 e7 h7 q4 h8 a8 ⊢
      refine ⟨k8, ?_⟩
      simp only [bEf, h6, bC, show (Int.ofNat 1 : Int) = 1 from rfl, iT x2 1 _ (show -9223372036854775808 ≤ x2 + 1 ∧ x2 + 1 ≤ 9223372036854775807 by omega), fJ, d, eJl, bnn, cU, dCj, e7, h7, bFg, q4, h8, gg, mV, dAx, a8, d4, cI, lv]
     obtain ⟨kf, fin⟩ := fin
     refine ⟨kf, ?_⟩
     rw [← fin]
     simp only [iD] at ca cb q1 q2 q3 h5 ⊢
     simp only [dGv, ca, cb, bC, bFg, q1, q2, q3, bEf, h5, pm s _ rs.1 rs.2, pm t _ rt.1 rt.2, pa a s _ a0 a1 rs.1 rs.2, pa c t _ c0 c1 rt.1 rt.2, pq a s _ a0 a1 rs.1 rs.2, pq c t _ c0 c1 rt.1 rt.2, pr a s _ a0 a1 rs.1 rs.2, pr c t _ c0 c1 rt.1 rt.2, gZ]
     by_cases ij : cP a s = cP c t
     ·have z : ((cP a s : Int) != (cP c t : Int)) = false := by rw [ij]; simp
      simp only [z, jU, bC, fJ, cM]
      by_cases ac : a = c
      ·have z2 : (a == c) = true := by rw [ac]; simp
       simp only [z2, mV, bC, fJ, cI]
       have z3 : (s == t) = decide (cP a s ≠ cP c t ∨ (a = c ∧ s = t)) := by
        rw [Bool.eq_iff_iff]
        simp only [beq_iff_eq, decide_eq_true_eq]
        exact ⟨fun e => .inr ⟨ac, e⟩, fun q => q.elim (fun w => absurd ij w) (fun w => w.2)⟩
       rw [z3]
      ·have z2 : (a == c) = false := by simpa using ac
       have z3 : decide (cP a s ≠ cP c t ∨ (a = c ∧ s = t)) = false := decide_eq_false (fun q => q.elim (fun w => w ij) (fun w => ac w.1))
       simp only [z2, mN, sQ, bC, cM, z3]
     ·have z : ((cP a s : Int) != (cP c t : Int)) = true := by
       simp only [bne_iff_ne, ne_eq]
       omega
      have z3 : decide (cP a s ≠ cP c t ∨ (a = c ∧ s = t)) = true := decide_eq_true (.inl ij)
      simp only [z, hC, sQ, bC, cI, z3]
end Go.Dd

