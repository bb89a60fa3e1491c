/- A part of the proof: Q7 Q8 Q9 Qt HK HE: each text has a comment of its own. -/
import Derived.Test.YtdpdcbdfgfeoeaaGreatRm2
set_option linter.unusedVariables false
set_option linter.unusedSimpArgs false
set_option linter.constructorNameAsVariable false
set_option maxRecDepth 100000
namespace Go.Dd
open Go.Proofs
variable (r : RT) (n : Nat) (args : List DV) (h : Hp)
noncomputable def fT (r : RT) (n : Nat) (x5 : DV) (h0 : Hp) : aH :=
 some (.t [x5, (aF 0)], h0)
noncomputable def bGe (r : RT) (n : Nat) (kk8 : eM) (x0 x5 : DV) (h0 : Hp) : aH :=
 bnd (r 230 [x0, (aF 0)] h0) fun v1 h1 =>
 bnd (r 231 [v1] h1) fun v2 h2 =>
 aT v2 (
 bnd (aU x0 h2) fun v3 h3 =>
 bnd (aB 1 v3 h3) fun v4 h4 =>
 bnd (aA v4 h4) fun v5 h5 =>
 bnd (r 232 [x0] h5) fun v6 h6 =>
 bnd (aD 0 v6 h6) fun v7 h7 =>
 bnd (aD 1 v6 h7) fun v8 h8 =>
 bnd (r 233 [x0] h8) fun v9 h9 =>
 bnd (fV .not v9 h9) fun v10 h10 =>
 aT v10 (
 bnd (aU x0 h10) fun v11 h11 =>
 bnd (aB 1 v11 h11) fun v12 h12 =>
 bnd (aC 1 v12 v5 h12) fun _ h13 =>
 some (.t [x5, (aF 0)], h13)) (
 bnd (aE .neq v8 (aF 0) h10) fun v14 h14 =>
 aT v14 (
 some (.t [(.s []), v8], h14)) (
 bnd (dR .add v7 (.s [58]) h14) fun v15 h15 =>
 bnd (dR .add x5 v15 h15) fun v16 h16 =>
     kk8 x0 v16 h16))) (
      fT r n x5 h2)
noncomputable def tN (r : RT) (n : Nat) (m : Nat) : eM :=
 Nat.rec (motive := fun _ => eM) (fun _ _ _ => none) (fun _ ih => bGe r n ih) m
noncomputable def bZo (r : RT) (n : Nat) : eM := tN r n n
noncomputable def aUo (r : RT) (n : Nat) (x0 x5 : DV) (h0 : Hp) : aH :=
 bZo r n x0 x5 h0
noncomputable def aVa (r : RT) (n : Nat) (x0 x5 : DV) (h0 : Hp) : aH :=
 bnd (dR .add x5 (.s [58]) h0) fun v1 h1 =>
  aUo r n x0 v1 h1
noncomputable def aXn (r : RT) (n : Nat) (x0 x5 x6 : DV) (h0 : Hp) : aH :=
 bnd (aE .neq x6 (aF 0) h0) fun v1 h1 =>
 bnd (gD v1 false (some (x0, h1)) h1) fun v2 h2 =>
 bnd (gD v1 false (r 233 [v2] h2) h2) fun v3 h3 =>
 bnd (gD v1 false (fV .not v3 h3) h3) fun v4 h4 =>
 bnd (aP v1 (.b true) v4 h4) fun v5 h5 =>
 aT v5 (
 some (.t [x5, x6], h5)) (
  aVa r n x0 x5 h5)
noncomputable def aXm (r : RT) (n : Nat) (x0 : DV) (h0 : Hp) : aH :=
 bnd (r 232 [x0] h0) fun v1 h1 =>
 bnd (aD 0 v1 h1) fun v2 h2 =>
 bnd (aD 1 v1 h2) fun v3 h3 =>
  aXn r n x0 v2 v3 h3
noncomputable def aXb (r : RT) (n : Nat) (x0 : DV) (h0 : Hp) : aH :=
 bnd (r 230 [x0, (aF 0)] h0) fun v1 h1 =>
 bnd (r 231 [v1] h1) fun v2 h2 =>
 bnd (fV .not v2 h2) fun v3 h3 =>
 aT v3 (
 some (.t [(.s []), (aF 10)], h3)) (
  aXm r n x0 h3)
noncomputable def aTn (r : RT) (n : Nat) (x0 : DV) (h0 : Hp) : aH :=
 bnd (r 198 [(.s [43, 45, 42, 47, 60, 62, 61, 126, 44, 64, 38, 37])] h0) fun v1 h1 =>
 bnd (r 197 [x0, v1, (aF 2)] h1) fun v2 h2 =>
 bnd (dR .neq v2 (.s []) h2) fun v3 h3 =>
 aT v3 (
 some (.t [v2, (aF 0)], h3)) (
  aXb r n x0 h3)
noncomputable def s237 (r : RT) (n : Nat) (x0 : DV) (h0 : Hp) : aH :=
 aTn r n x0 h0
noncomputable abbrev c237 : Code := cf Tryz.f237
noncomputable abbrev aHx : Code := cR c237
noncomputable abbrev aEl : Code := cR aHx
noncomputable abbrev aMq : Code := cR aEl
noncomputable abbrev aFx : Code := cR aMq
noncomputable abbrev aNr : Code := cR aFx
noncomputable abbrev aOs : Code := cR aNr
noncomputable abbrev dOo : Code := cR aOs
noncomputable abbrev aNi : Code := cL aOs
noncomputable abbrev aEt : Code := cL aNi
noncomputable abbrev lO : Code := cL aEt
noncomputable abbrev bCf : Code := cL aNr
noncomputable abbrev bFw : Code := cL aFx
noncomputable abbrev bHg : Code := cL aMq
noncomputable abbrev bDb : Code := cL aEl
noncomputable abbrev bBh : Code := cL aHx
noncomputable abbrev bHv : Code := cL c237
noncomputable abbrev r237 : K := aQ CF Tryz.f237
noncomputable def D237 (r : RT) (n : Nat) (c : Code) (X : Nat → K) (k : K) : K := aM CF r 64 n c X r237 k
theorem cOt : D237 r n dOo x0 r237 = (K1 (fT r n) 5) :=
 (by kernel_rfl)
theorem bTn (kk8 : eM) : D237 r n lO (xs x0 0 (K1 (fT r n) 5)) (K2 kk8 0 5) = (K2 (bGe r n kk8) 0 5) :=
 (by kernel_rfl)
theorem cAj (m : Nat) : aL (fun kk => D237 r n lO (xs x0 0 (K1 (fT r n) 5)) kk) m = (K2 (tN r n m) 0 5) := by
 induction m with
 | zero => exact (by kernel_rfl : aL (fun kk => D237 r n lO (xs x0 0 (K1 (fT r n) 5)) kk) 0 = (K2 (tN r n 0) 0 5))
 | succ m ih =>
  refine (by kernel_rfl : aL (fun kk => D237 r n lO (xs x0 0 (K1 (fT r n) 5)) kk) (m + 1) = D237 r n lO (xs x0 0 (K1 (fT r n) 5)) (aL (fun kk => D237 r n lO (xs x0 0 (K1 (fT r n) 5)) kk) m)).trans ?_
  rw [ih]
  exact (bTn r n (tN r n m)).trans (by kernel_rfl)
theorem cNn : D237 r n aEt (xs x0 0 (K1 (fT r n) 5)) (K1 (fT r n) 5) = (K2 (bZo r n) 0 5) :=
 (by kernel_rfl : D237 r n aEt (xs x0 0 (K1 (fT r n) 5)) (K1 (fT r n) 5) = aL (fun kk => D237 r n lO (xs x0 0 (K1 (fT r n) 5)) kk) n).trans ((cAj r n n).trans (by kernel_rfl))
theorem bPe : D237 r n aOs x0 r237 = D237 r n aNi x0 (K1 (fT r n) 5) :=
 congrArg (fun k => D237 r n aNi x0 k) (cOt r n)
theorem cUb : D237 r n aOs x0 r237 = (K2 (aUo r n) 0 5) :=
 (bPe r n).trans
 ((by kernel_rfl : D237 r n aNi x0 (K1 (fT r n) 5) = D237 r n aEt (xs x0 0 (K1 (fT r n) 5)) (K1 (fT r n) 5)).trans
 ((cNn r n).trans (by kernel_rfl)))
theorem cIe : D237 r n aNr x0 r237 = D237 r n bCf x0 (K2 (aUo r n) 0 5) :=
 congrArg (fun k => D237 r n bCf x0 k) (cUb r n)
theorem dAr : D237 r n aNr x0 r237 = (K2 (aVa r n) 0 5) :=
 (cIe r n).trans
 ((by kernel_rfl))
theorem cFo : D237 r n aFx x0 r237 = D237 r n bFw x0 (K2 (aVa r n) 0 5) :=
 congrArg (fun k => D237 r n bFw x0 k) (dAr r n)
theorem cNr : D237 r n aFx x0 r237 = (K3 (aXn r n) 0 5 6) :=
 (cFo r n).trans
 ((by kernel_rfl))
theorem cGq : D237 r n aMq x0 r237 = D237 r n bHg x0 (K3 (aXn r n) 0 5 6) :=
 congrArg (fun k => D237 r n bHg x0 k) (cNr r n)
theorem cQs : D237 r n aMq x0 r237 = (K1 (aXm r n) 0) :=
 (cGq r n).trans
 ((by kernel_rfl))
theorem cJs : D237 r n aEl x0 r237 = D237 r n bDb x0 (K1 (aXm r n) 0) :=
 congrArg (fun k => D237 r n bDb x0 k) (cQs r n)
theorem cUd : D237 r n aEl x0 r237 = (K1 (aXb r n) 0) :=
 (cJs r n).trans
 ((by kernel_rfl))
theorem bXp : D237 r n aHx x0 r237 = D237 r n bBh x0 (K1 (aXb r n) 0) :=
 congrArg (fun k => D237 r n bBh x0 k) (cUd r n)
theorem dAh : D237 r n aHx x0 r237 = (K1 (aTn r n) 0) :=
 (bXp r n).trans
 ((by kernel_rfl))
theorem dIv : D237 r n c237 x0 r237 = D237 r n bHv x0 (K1 (aTn r n) 0) :=
 congrArg (fun k => D237 r n bHv x0 k) (dAh r n)
theorem dWm : D237 r n c237 x0 r237 = (K1 (s237 r n) 0) :=
 (dIv r n).trans
 ((by kernel_rfl))
theorem dFq : aG CF r n 237 args h = s237 r n (aR args 0) h :=
 (by kernel_rfl : aG CF r n 237 args h = D237 r n c237 x0 r237 (aK args) h).trans ((congrFun (congrFun (dWm r n) (aK args)) h).trans (by kernel_rfl))
noncomputable def eZ (r : RT) (n : Nat) (x2 x4 : DV) (h0 : Hp) : aH :=
 bnd (aI 6 x4 h0) fun v1 h1 =>
 bnd (aC 6 x2 v1 h1) fun _ h2 =>
 bnd (aI 6 x2 h2) fun v3 _ =>
 some (v3, h2)
noncomputable def aJn (r : RT) (n : Nat) (kk7 : eO) (x0 x2 x4 : DV) (h0 : Hp) : aH :=
 bnd (r 201 [x0, (aF 10), (.s [59])] h0) fun v1 h1 =>
 aT v1 (
 bnd (r 202 [x0] h1) fun v2 h2 =>
 bnd (aB 5 x4 (resv 1 h2)) fun v3 h3 =>
 bnd (aA v3 h3) fun v4 h4 =>
 bnd (r 274 [x0] h4) fun v5 h5 =>
 cnd (aZ (aA v3 h5) v4 && true) (
 bnd (r 273 [v5] h5) fun v6 h6 =>
 cnd (aZ (aA v3 h6) v4 && true) (
 bnd (aS (bB 0 h2.next) cV 1 [(0, 6, v6)] h6) fun v7 h7 =>
 bnd (aW 6 104 v4 v7 h7) fun v8 h8 =>
 bnd (aB 5 x4 h8) fun v9 h9 =>
 bnd (aC 1 v9 v8 h9) fun v10 h10 =>
      kk7 x0 x2 x4 h10))) (
      eZ r n x2 x4 h1)
noncomputable def vV (r : RT) (n : Nat) (m : Nat) : eO :=
 Nat.rec (motive := fun _ => eO) (fun _ _ _ _ => none) (fun _ ih => aJn r n ih) m
noncomputable def bZk (r : RT) (n : Nat) : eO := vV r n n
noncomputable def yL (r : RT) (n : Nat) (x0 x2 x4 : DV) (h0 : Hp) : aH :=
 bZk r n x0 x2 x4 h0
noncomputable def aGx (r : RT) (n : Nat) (x0 x2 x3 : DV) (h0 : Hp) : aH :=
 bnd (aB 5 x3 (resv 2 h0)) fun v1 h1 =>
 bnd (aA v1 h1) fun v2 h2 =>
 bnd (aJ 6 v2 (aF 0) h2) fun v3 h3 =>
 bnd (aI 6 v3 h3) fun v4 h4 =>
 bnd (aI 6 x3 h4) fun v5 h5 =>
 bnd (r 273 [v5] h5) fun v6 h6 =>
 cnd (aZ (aI 6 v3 h6) v4 && (aZ (aA v1 h6) v2 && true)) (
 bnd (aS (bB 0 h0.next) [(aF 0), (.s []), (aF 0), .l0, .l0, .l0, (aF 0), (.s []), (aF 0), .l0, .l0, .l0] 2 [(0, 6, v4), (6, 6, v6)] h6) fun v7 h7 =>
 bnd (bA cV [(0, 1, (aF 8)), (5, 1, v7)] h7) fun v8 h8 =>
 bnd (iZ (bB 1 h0.next) cV h8) fun v9 h9 =>
 bnd (aC 6 v9 v8 h9) fun v10 h10 =>
  yL r n x0 x2 v9 h10)
noncomputable def bAk (r : RT) (n : Nat) (x0 x2 x3 : DV) (h0 : Hp) : aH :=
 bnd (aB 0 x3 h0) fun v1 h1 =>
 bnd (aA v1 h1) fun v2 h2 =>
 bnd (aE .neq v2 (aF 7) h2) fun v3 h3 =>
 aT v3 (
 bnd (r 205 [x0, (aF 0)] h3) fun v4 h4 =>
 bnd (r 204 [x0, v4, (aF 13)] h4) fun v5 h5 =>
 bnd (aI 6 x3 h5) fun v6 h6 =>
 bnd (aC 6 x2 v6 h6) fun _ h7 =>
 bnd (aI 6 x2 h7) fun v8 _ =>
 some (v8, h7)) (
  aGx r n x0 x2 x3 h3)
noncomputable def xN (r : RT) (n : Nat) (x0 x2 x3 : DV) (h0 : Hp) : aH :=
 bnd (r 201 [x0, (aF 10), (.s [59])] h0) fun v1 h1 =>
 bnd (fV .not v1 h1) fun v2 h2 =>
 aT v2 (
 bnd (aI 6 x3 h2) fun v3 h3 =>
 bnd (aC 6 x2 v3 h3) fun _ h4 =>
 bnd (aI 6 x2 h4) fun v5 _ =>
 some (v5, h4)) (
  bAk r n x0 x2 x3 h2)
noncomputable def qW (r : RT) (n : Nat) (x0 x2 : DV) (h0 : Hp) : aH :=
 bnd (r 272 [x0] h0) fun v1 h1 =>
 bnd (r 271 [x0, v1] h1) fun v2 h2 =>
 bnd (r 270 [x0, v2] h2) fun v3 h3 =>
 bnd (r 269 [x0, v3] h3) fun v4 h4 =>
 bnd (bD cV h4) fun v5 h5 =>
 bnd (aC 6 v5 v4 h5) fun _ h6 =>
  xN r n x0 x2 v5 h6
noncomputable def s238 (r : RT) (n : Nat) (x0 : DV) (h0 : Hp) : aH :=
 bnd (bD cV h0) fun v1 h1 =>
  qW r n x0 v1 h1
noncomputable abbrev c238 : Code := cf Tryz.f238
noncomputable abbrev aNh : Code := cR c238
noncomputable abbrev aHy : Code := cR aNh
noncomputable abbrev aHn : Code := cR aHy
noncomputable abbrev aLl : Code := cR aHn
noncomputable abbrev aIj : Code := cR aLl
noncomputable abbrev dGx : Code := cR aIj
noncomputable abbrev aEo : Code := cL aIj
noncomputable abbrev aEq : Code := cL aEo
noncomputable abbrev mR : Code := cL aEq
noncomputable abbrev aMk : Code := cL aLl
noncomputable abbrev bEx : Code := cL aHn
noncomputable abbrev bEs : Code := cL aHy
noncomputable abbrev aGv : Code := cL aNh
noncomputable abbrev aCw : Code := cL c238
noncomputable abbrev r238 : K := aQ CF Tryz.f238
noncomputable def D238 (r : RT) (n : Nat) (c : Code) (X : Nat → K) (k : K) : K := aM CF r 46 n c X r238 k
theorem cVu : D238 r n dGx x0 r238 = (K2 (eZ r n) 2 4) :=
 (by kernel_rfl)
theorem bYa (kk7 : eO) (q0 : eM) : D238 r n mR (xs x0 0 (K2 q0 2 4)) (K3 kk7 0 2 4) = fun (env : aO) (h : Hp) =>
 bnd (r 201 [(env 0), (aF 10), (.s [59])] h) fun v1 h1 =>
 aT v1 (
 bnd (r 202 [(env 0)] h1) fun v2 h2 =>
 bnd (aB 5 (env 4) (resv 1 h2)) fun v3 h3 =>
 bnd (aA v3 h3) fun v4 h4 =>
 bnd (r 274 [(env 0)] h4) fun v5 h5 =>
 cnd (aZ (aA v3 h5) v4 && true) (
 bnd (r 273 [v5] h5) fun v6 h6 =>
 cnd (aZ (aA v3 h6) v4 && true) (
 bnd (aS (bB 0 h2.next) cV 1 [(0, 6, v6)] h6) fun v7 h7 =>
 bnd (aW 6 104 v4 v7 h7) fun v8 h8 =>
 bnd (aB 5 (env 4) h8) fun v9 h9 =>
 bnd (aC 1 v9 v8 h9) fun v10 h10 =>
      kk7 (env 0) (env 2) (env 4) h10))) (
      q0 (env 2) (env 4) h1) := by kernel_rfl
theorem bJi (kk7 : eO) : (fun (env : aO) (h : Hp) =>
 bnd (r 201 [(env 0), (aF 10), (.s [59])] h) fun v1 h1 =>
 aT v1 (
 bnd (r 202 [(env 0)] h1) fun v2 h2 =>
 bnd (aB 5 (env 4) (resv 1 h2)) fun v3 h3 =>
 bnd (aA v3 h3) fun v4 h4 =>
 bnd (r 274 [(env 0)] h4) fun v5 h5 =>
 cnd (aZ (aA v3 h5) v4 && true) (
 bnd (r 273 [v5] h5) fun v6 h6 =>
 cnd (aZ (aA v3 h6) v4 && true) (
 bnd (aS (bB 0 h2.next) cV 1 [(0, 6, v6)] h6) fun v7 h7 =>
 bnd (aW 6 104 v4 v7 h7) fun v8 h8 =>
 bnd (aB 5 (env 4) h8) fun v9 h9 =>
 bnd (aC 1 v9 v8 h9) fun v10 h10 =>
      kk7 (env 0) (env 2) (env 4) h10))) (
      eZ r n (env 2) (env 4) h1)) = (K3 (aJn r n kk7) 0 2 4) := by kernel_rfl
theorem cFt (kk7 : eO) : D238 r n mR (xs x0 0 (K2 (eZ r n) 2 4)) (K3 kk7 0 2 4) = (K3 (aJn r n kk7) 0 2 4) :=
 (bYa r n kk7 (eZ r n)).trans (bJi r n kk7)
theorem cDi (m : Nat) : aL (fun kk => D238 r n mR (xs x0 0 (K2 (eZ r n) 2 4)) kk) m = (K3 (vV r n m) 0 2 4) := by
 induction m with
 | zero => exact (by kernel_rfl : aL (fun kk => D238 r n mR (xs x0 0 (K2 (eZ r n) 2 4)) kk) 0 = (K3 (vV r n 0) 0 2 4))
 | succ m ih =>
  refine (by kernel_rfl : aL (fun kk => D238 r n mR (xs x0 0 (K2 (eZ r n) 2 4)) kk) (m + 1) = D238 r n mR (xs x0 0 (K2 (eZ r n) 2 4)) (aL (fun kk => D238 r n mR (xs x0 0 (K2 (eZ r n) 2 4)) kk) m)).trans ?_
  rw [ih]
  exact (cFt r n (vV r n m)).trans (by kernel_rfl)
theorem cTg : D238 r n aEq (xs x0 0 (K2 (eZ r n) 2 4)) (K2 (eZ r n) 2 4) = (K3 (bZk r n) 0 2 4) :=
 (by kernel_rfl : D238 r n aEq (xs x0 0 (K2 (eZ r n) 2 4)) (K2 (eZ r n) 2 4) = aL (fun kk => D238 r n mR (xs x0 0 (K2 (eZ r n) 2 4)) kk) n).trans ((cDi r n n).trans (by kernel_rfl))
theorem cHs : D238 r n aIj x0 r238 = D238 r n aEo x0 (K2 (eZ r n) 2 4) :=
 congrArg (fun k => D238 r n aEo x0 k) (cVu r n)
theorem cMu : D238 r n aIj x0 r238 = (K3 (yL r n) 0 2 4) :=
 (cHs r n).trans
 ((by kernel_rfl : D238 r n aEo x0 (K2 (eZ r n) 2 4) = D238 r n aEq (xs x0 0 (K2 (eZ r n) 2 4)) (K2 (eZ r n) 2 4)).trans
 ((cTg r n).trans (by kernel_rfl)))
theorem bRr : D238 r n aLl x0 r238 = D238 r n aMk x0 (K3 (yL r n) 0 2 4) :=
 congrArg (fun k => D238 r n aMk x0 k) (cMu r n)
theorem bXy (q0 : eO) : D238 r n aMk x0 (K3 q0 0 2 4) = fun (env : aO) (h : Hp) =>
 bnd (aB 5 (env 3) (resv 2 h)) fun v1 h1 =>
 bnd (aA v1 h1) fun v2 h2 =>
 bnd (aJ 6 v2 (aF 0) h2) fun v3 h3 =>
 bnd (aI 6 v3 h3) fun v4 h4 =>
 bnd (aI 6 (env 3) h4) fun v5 h5 =>
 bnd (r 273 [v5] h5) fun v6 h6 =>
 cnd (aZ (aI 6 v3 h6) v4 && (aZ (aA v1 h6) v2 && true)) (
 bnd (aS (bB 0 h.next) [(aF 0), (.s []), (aF 0), .l0, .l0, .l0, (aF 0), (.s []), (aF 0), .l0, .l0, .l0] 2 [(0, 6, v4), (6, 6, v6)] h6) fun v7 h7 =>
 bnd (bA cV [(0, 1, (aF 8)), (5, 1, v7)] h7) fun v8 h8 =>
 bnd (iZ (bB 1 h.next) cV h8) fun v9 h9 =>
 bnd (aC 6 v9 v8 h9) fun v10 h10 =>
  q0 (env 0) (env 2) v9 h10) := by kernel_rfl
theorem bLf : (fun (env : aO) (h : Hp) =>
 bnd (aB 5 (env 3) (resv 2 h)) fun v1 h1 =>
 bnd (aA v1 h1) fun v2 h2 =>
 bnd (aJ 6 v2 (aF 0) h2) fun v3 h3 =>
 bnd (aI 6 v3 h3) fun v4 h4 =>
 bnd (aI 6 (env 3) h4) fun v5 h5 =>
 bnd (r 273 [v5] h5) fun v6 h6 =>
 cnd (aZ (aI 6 v3 h6) v4 && (aZ (aA v1 h6) v2 && true)) (
 bnd (aS (bB 0 h.next) [(aF 0), (.s []), (aF 0), .l0, .l0, .l0, (aF 0), (.s []), (aF 0), .l0, .l0, .l0] 2 [(0, 6, v4), (6, 6, v6)] h6) fun v7 h7 =>
 bnd (bA cV [(0, 1, (aF 8)), (5, 1, v7)] h7) fun v8 h8 =>
 bnd (iZ (bB 1 h.next) cV h8) fun v9 h9 =>
 bnd (aC 6 v9 v8 h9) fun v10 h10 =>
  yL r n (env 0) (env 2) v9 h10)) = (K3 (aGx r n) 0 2 3) := by kernel_rfl
theorem cLy : D238 r n aLl x0 r238 = (K3 (aGx r n) 0 2 3) :=
 (bRr r n).trans
 ((bXy r n (yL r n)).trans (bLf r n))
theorem cCm : D238 r n aHn x0 r238 = D238 r n bEx x0 (K3 (aGx r n) 0 2 3) :=
 congrArg (fun k => D238 r n bEx x0 k) (cLy r n)
theorem cSv : D238 r n aHn x0 r238 = (K3 (bAk r n) 0 2 3) :=
 (cCm r n).trans
 ((by kernel_rfl))
theorem bSz : D238 r n aHy x0 r238 = D238 r n bEs x0 (K3 (bAk r n) 0 2 3) :=
 congrArg (fun k => D238 r n bEs x0 k) (cSv r n)
theorem cSq : D238 r n aHy x0 r238 = (K3 (xN r n) 0 2 3) :=
 (bSz r n).trans
 ((by kernel_rfl))
theorem bZs : D238 r n aNh x0 r238 = D238 r n aGv x0 (K3 (xN r n) 0 2 3) :=
 congrArg (fun k => D238 r n aGv x0 k) (cSq r n)
theorem bWn (q0 : eO) : D238 r n aGv x0 (K3 q0 0 2 3) = fun (env : aO) (h : Hp) =>
 bnd (r 272 [(env 0)] h) fun v1 h1 =>
 bnd (r 271 [(env 0), v1] h1) fun v2 h2 =>
 bnd (r 270 [(env 0), v2] h2) fun v3 h3 =>
 bnd (r 269 [(env 0), v3] h3) fun v4 h4 =>
 bnd (bD cV h4) fun v5 h5 =>
 bnd (aC 6 v5 v4 h5) fun _ h6 =>
  q0 (env 0) (env 2) v5 h6 := by kernel_rfl
theorem bNl : (fun (env : aO) (h : Hp) =>
 bnd (r 272 [(env 0)] h) fun v1 h1 =>
 bnd (r 271 [(env 0), v1] h1) fun v2 h2 =>
 bnd (r 270 [(env 0), v2] h2) fun v3 h3 =>
 bnd (r 269 [(env 0), v3] h3) fun v4 h4 =>
 bnd (bD cV h4) fun v5 h5 =>
 bnd (aC 6 v5 v4 h5) fun _ h6 =>
  xN r n (env 0) (env 2) v5 h6) = (K2 (qW r n) 0 2) := by kernel_rfl
theorem cSj : D238 r n aNh x0 r238 = (K2 (qW r n) 0 2) :=
 (bZs r n).trans
 ((bWn r n (xN r n)).trans (bNl r n))
theorem dNz : D238 r n c238 x0 r238 = D238 r n aCw x0 (K2 (qW r n) 0 2) :=
 congrArg (fun k => D238 r n aCw x0 k) (cSj r n)
theorem cRw (q0 : eM) : D238 r n aCw x0 (K2 q0 0 2) = fun (env : aO) (h : Hp) =>
 bnd (bD cV h) fun v1 h1 =>
  q0 (env 0) v1 h1 := by kernel_rfl
theorem cIc : (fun (env : aO) (h : Hp) =>
 bnd (bD cV h) fun v1 h1 =>
  qW r n (env 0) v1 h1) = (K1 (s238 r n) 0) := by kernel_rfl
theorem dYa : D238 r n c238 x0 r238 = (K1 (s238 r n) 0) :=
 (dNz r n).trans
 ((cRw r n (qW r n)).trans (cIc r n))
theorem dIn : aG CF r n 238 args h = s238 r n (aR args 0) h :=
 (by kernel_rfl : aG CF r n 238 args h = D238 r n c238 x0 r238 (aK args) h).trans ((congrFun (congrFun (dYa r n) (aK args)) h).trans (by kernel_rfl))
noncomputable def s239 (r : RT) (n : Nat) (x0 x1 : DV) (h0 : Hp) : aH :=
 bnd (bN x1 h0) fun v1 h1 =>
 bnd (bD [(.s []), (.b false), (.b false), (aF 0)] h1) fun v2 h2 =>
 bnd (aU x0 h2) fun v3 h3 =>
 bnd (aB 6 v3 h3) fun v4 h4 =>
 bnd (aA v4 h4) fun v5 h5 =>
 bnd (r 275 [v5, (.f 276 [] [v1])] h5) fun v6 h6 =>
 bnd (aE .lss v6 (aF 0) h6) fun v7 h7 =>
 aT v7 (
 bnd (bA [(.s []), (.b false), (.b false), (aF 0)] [] h7) fun v8 h8 =>
 bnd (aC 4 v2 v8 h8) fun _ h9 =>
 bnd (aI 4 v2 h9) fun v10 _ =>
 some (.t [v10, (.b false)], h9)) (
 bnd (aU x0 h7) fun v11 h11 =>
 bnd (aB 6 v11 h11) fun v12 h12 =>
 bnd (aA v12 h12) fun v13 h13 =>
 bnd (aJ 4 v13 v6 h13) fun v14 h14 =>
 bnd (aI 4 v14 h14) fun v15 h15 =>
 bnd (aC 4 v2 v15 h15) fun _ h16 =>
 bnd (aI 4 v2 h16) fun v17 _ =>
 some (.t [v17, (.b true)], h16))
noncomputable abbrev c239 : Code := cf Tryz.f239
noncomputable abbrev r239 : K := aQ CF Tryz.f239
noncomputable def D239 (r : RT) (n : Nat) (c : Code) (X : Nat → K) (k : K) : K := aM CF r 23 n c X r239 k
theorem dVg : D239 r n c239 x0 r239 = (K2 (s239 r n) 0 1) :=
 (by kernel_rfl)
theorem dNk : aG CF r n 239 args h = s239 r n (aR args 0) (aR args 1) h :=
 (by kernel_rfl : aG CF r n 239 args h = D239 r n c239 x0 r239 (aK args) h).trans ((congrFun (congrFun (dVg r n) (aK args)) h).trans (by kernel_rfl))
noncomputable def gZ (r : RT) (n : Nat) (h0 : Hp) : aH :=
 some ((.b false), h0)
noncomputable def lZ (r : RT) (n : Nat) (x4 : DV) (h0 : Hp) : aH :=
 aT x4 (
 some ((.b true), h0)) (
  gZ r n h0)
noncomputable def aUy (r : RT) (n : Nat) (x3 : DV) (h0 : Hp) : aH :=
 bnd (dR .eql x3 (.s [115, 101, 108, 102]) h0) fun v1 h1 =>
 aT v1 (
  lZ r n v1 h1) (
 bnd (dR .eql x3 (.s [115, 117, 112, 101, 114]) h1) fun v2 h2 =>
 aT v2 (
   lZ r n v2 h2) (
 bnd (dR .eql x3 (.s [110, 105, 108]) h2) fun v3 h3 =>
 aT v3 (
    lZ r n v3 h3) (
 bnd (dR .eql x3 (.s [116, 114, 117, 101]) h3) fun v4 h4 =>
 aT v4 (
     lZ r n v4 h4) (
 bnd (dR .eql x3 (.s [102, 97, 108, 115, 101]) h4) fun v5 h5 =>
 aT v5 (
      lZ r n v5 h5) (
 bnd (dR .eql x3 (.s [116, 104, 105, 115, 67, 111, 110, 116, 101, 120, 116]) h5) fun v6 h6 =>
      lZ r n v6 h6)))))
noncomputable def bAc (r : RT) (n : Nat) (x0 : DV) (h0 : Hp) : aH :=
 aUy r n x0 h0
noncomputable def s240 (r : RT) (n : Nat) (x0 : DV) (h0 : Hp) : aH :=
 bAc r n x0 h0
noncomputable abbrev c240 : Code := cf Tryz.f240
noncomputable abbrev aNe : Code := cR c240
noncomputable abbrev dPb : Code := cR aNe
noncomputable abbrev xW : Code := cL aNe
noncomputable abbrev aWq : Code := cR xW
noncomputable abbrev aCz : Code := cL aWq
noncomputable abbrev dFz : Code := cR aCz
noncomputable abbrev bZn : Code := cL aCz
noncomputable abbrev bXh : Code := cL xW
noncomputable abbrev cCp : Code := cL c240
noncomputable abbrev r240 : K := aQ CF Tryz.f240
noncomputable def D240 (r : RT) (n : Nat) (c : Code) (X : Nat → K) (k : K) : K := aM CF r 11 n c X r240 k
theorem cRh : D240 r n dPb x0 r240 = (K0 (gZ r n)) :=
 (by kernel_rfl)
theorem dCb : D240 r n dFz (xs x0 0 (K0 (gZ r n))) (K0 (gZ r n)) = (K1 (lZ r n) 4) :=
 (by kernel_rfl)
theorem bWs : D240 r n aCz (xs x0 0 (K0 (gZ r n))) (K0 (gZ r n)) = D240 r n bZn (xs x0 0 (K0 (gZ r n))) (K1 (lZ r n) 4) :=
 congrArg (fun k => D240 r n bZn (xs x0 0 (K0 (gZ r n))) k) (dCb r n)
theorem cRe : D240 r n aWq x0 (K0 (gZ r n)) = (K1 (aUy r n) 3) :=
 (by kernel_rfl : D240 r n aWq x0 (K0 (gZ r n)) = D240 r n aCz (xs x0 0 (K0 (gZ r n))) (K0 (gZ r n))).trans
 ((bWs r n).trans
 ((by kernel_rfl)))
theorem cHi : D240 r n aNe x0 r240 = D240 r n xW x0 (K0 (gZ r n)) :=
 congrArg (fun k => D240 r n xW x0 k) (cRh r n)
theorem cIb : D240 r n xW x0 (K0 (gZ r n)) = D240 r n bXh x0 (K1 (aUy r n) 3) :=
 congrArg (fun k => D240 r n bXh x0 k) (cRe r n)
theorem cUj : D240 r n aNe x0 r240 = (K1 (bAc r n) 0) :=
 (cHi r n).trans
 ((cIb r n).trans
 ((by kernel_rfl)))
theorem dLc : D240 r n c240 x0 r240 = D240 r n cCp x0 (K1 (bAc r n) 0) :=
 congrArg (fun k => D240 r n cCp x0 k) (cUj r n)
theorem dUx : D240 r n c240 x0 r240 = (K1 (s240 r n) 0) :=
 (dLc r n).trans
 ((by kernel_rfl))
theorem dIt : aG CF r n 240 args h = s240 r n (aR args 0) h :=
 (by kernel_rfl : aG CF r n 240 args h = D240 r n c240 x0 r240 (aK args) h).trans ((congrFun (congrFun (dUx r n) (aK args)) h).trans (by kernel_rfl))
noncomputable def aY (r : RT) (n : Nat) (x0 x4 : DV) (h0 : Hp) : aH :=
 bnd (r 241 [x0, (.s []), (aF 1)] h0) fun v1 h1 =>
 bnd (bA [(aF 0), (.s []), (aF 0), .l0] [] h1) fun v2 h2 =>
 bnd (aC 4 x4 v2 h2) fun _ h3 =>
 bnd (aI 4 x4 h3) fun v4 _ =>
 some (v4, h3)
noncomputable def cZ (r : RT) (n : Nat) (x4 x5 : DV) (h0 : Hp) : aH :=
 bnd (aI 4 x5 h0) fun v1 h1 =>
 bnd (aC 4 x4 v1 h1) fun _ h2 =>
 bnd (aI 4 x4 h2) fun v3 _ =>
 some (v3, h2)
noncomputable def aAi (r : RT) (n : Nat) (kk15 : dC) (x0 x4 x5 x29 x30 x31 : DV) (h0 : Hp) : aH :=
 bnd (aE .lss x31 x30 h0) fun v1 h1 =>
 aT v1 (
 bnd (aJ 6 x29 x31 h1) fun v2 h2 =>
 bnd (aI 6 v2 h2) fun v3 h3 =>
 bnd (bD cV h3) fun v4 h4 =>
 bnd (aC 6 v4 v3 h4) fun _ h5 =>
 bnd (aB 3 x5 (resv 1 h5)) fun v6 h6 =>
 bnd (aA v6 h6) fun v7 h7 =>
 bnd (aI 6 v4 h7) fun v8 h8 =>
 bnd (r 243 [x0, v8] h8) fun v9 h9 =>
 cnd (aZ (aA v6 h9) v7 && true) (
 bnd (aS (bB 0 h5.next) [(aF 0), (.s []), (aF 0), .l0] 1 [(0, 4, v9)] h9) fun v10 h10 =>
 bnd (aW 4 56 v7 v10 h10) fun v11 h11 =>
 bnd (aB 3 x5 h11) fun v12 h12 =>
 bnd (aC 1 v12 v11 h12) fun v13 h13 =>
 bnd (aE .add x31 (aF 1) h13) fun v14 h14 =>
      kk15 x0 x4 x5 x29 x30 v14 h14)) (
      cZ r n x4 x5 h1)
noncomputable def pF (r : RT) (n : Nat) (m : Nat) : dC :=
 Nat.rec (motive := fun _ => dC) (fun _ _ _ _ _ _ _ => none) (fun _ ih => aAi r n ih) m
noncomputable def bFd (r : RT) (n : Nat) : dC := pF r n n
noncomputable def aGn (r : RT) (n : Nat) (x0 x4 x5 x29 x30 x31 : DV) (h0 : Hp) : aH :=
 bFd r n x0 x4 x5 x29 x30 x31 h0
noncomputable def qD (r : RT) (n : Nat) (x0 x3 x4 x5 : DV) (h0 : Hp) : aH :=
 bnd (aB 5 x3 h0) fun v1 h1 =>
 bnd (aA v1 h1) fun v2 h2 =>
 bnd (bT v2 h2) fun v3 h3 =>
  aGn r n x0 x4 x5 v2 v3 (aF 0) h3
noncomputable def aNs (r : RT) (n : Nat) (x0 x3 x4 : DV) (h0 : Hp) : aH :=
 bnd (bA [(aF 0), (.s []), (aF 0), .l0] [(0, 1, (aF 4))] h0) fun v1 h1 =>
 bnd (bD [(aF 0), (.s []), (aF 0), .l0] h1) fun v2 h2 =>
 bnd (aC 4 v2 v1 h2) fun _ h3 =>
  qD r n x0 x3 x4 v2 h3
noncomputable def aOj (r : RT) (n : Nat) (x0 x3 x4 x25 : DV) (h0 : Hp) : aH :=
 aT x25 (
  aNs r n x0 x3 x4 h0) (
  aY r n x0 x4 h0)
noncomputable def bPj (r : RT) (n : Nat) (x0 x3 x4 x9 : DV) (h0 : Hp) : aH :=
 bnd (aE .eql x9 (aF 4) h0) fun v1 h1 =>
  aOj r n x0 x3 x4 v1 h1
noncomputable def aXt (r : RT) (n : Nat) (x0 x3 x4 x9 x20 : DV) (h0 : Hp) : aH :=
 aT x20 (
 bnd (aB 1 x3 h0) fun v1 h1 =>
 bnd (aA v1 h1) fun v2 h2 =>
 bnd (bA [(aF 0), (.s []), (aF 0), .l0] [(0, 1, (aF 3)), (1, 1, v2)] h2) fun v3 h3 =>
 bnd (aC 4 x4 v3 h3) fun _ h4 =>
 bnd (aI 4 x4 h4) fun v5 _ =>
 some (v5, h4)) (
  bPj r n x0 x3 x4 x9 h0)
noncomputable def cGi (r : RT) (n : Nat) (x0 x3 x4 x9 : DV) (h0 : Hp) : aH :=
 bnd (aE .eql x9 (aF 3) h0) fun v1 h1 =>
  aXt r n x0 x3 x4 x9 v1 h1
noncomputable def aXf (r : RT) (n : Nat) (x0 x3 x4 x9 x15 : DV) (h0 : Hp) : aH :=
 aT x15 (
 bnd (aB 1 x3 h0) fun v1 h1 =>
 bnd (aA v1 h1) fun v2 h2 =>
 bnd (bA [(aF 0), (.s []), (aF 0), .l0] [(0, 1, (aF 2)), (1, 1, v2)] h2) fun v3 h3 =>
 bnd (aC 4 x4 v3 h3) fun _ h4 =>
 bnd (aI 4 x4 h4) fun v5 _ =>
 some (v5, h4)) (
  cGi r n x0 x3 x4 x9 h0)
noncomputable def cEi (r : RT) (n : Nat) (x0 x3 x4 x9 : DV) (h0 : Hp) : aH :=
 bnd (aE .eql x9 (aF 2) h0) fun v1 h1 =>
  aXf r n x0 x3 x4 x9 v1 h1
noncomputable def aXl (r : RT) (n : Nat) (x0 x3 x4 x9 x10 : DV) (h0 : Hp) : aH :=
 aT x10 (
 bnd (aB 2 x3 h0) fun v1 h1 =>
 bnd (aA v1 h1) fun v2 h2 =>
 bnd (bA [(aF 0), (.s []), (aF 0), .l0] [(0, 1, (aF 1)), (2, 1, v2)] h2) fun v3 h3 =>
 bnd (aC 4 x4 v3 h3) fun _ h4 =>
 bnd (aI 4 x4 h4) fun v5 _ =>
 some (v5, h4)) (
  cEi r n x0 x3 x4 x9 h0)
noncomputable def aSf (r : RT) (n : Nat) (x0 x3 x4 x9 : DV) (h0 : Hp) : aH :=
 bnd (aE .eql x9 (aF 1) h0) fun v1 h1 =>
  aXl r n x0 x3 x4 x9 v1 h1
noncomputable def yQ (r : RT) (n : Nat) (x0 x3 x4 : DV) (h0 : Hp) : aH :=
 bnd (aB 0 x3 h0) fun v1 h1 =>
 bnd (aA v1 h1) fun v2 h2 =>
  aSf r n x0 x3 x4 v2 h2
noncomputable def s243 (r : RT) (n : Nat) (x0 x1 : DV) (h0 : Hp) : aH :=
 bnd (bN x1 h0) fun v1 h1 =>
 bnd (bD [(aF 0), (.s []), (aF 0), .l0] h1) fun v2 h2 =>
  yQ r n x0 v1 v2 h2
noncomputable abbrev c243 : Code := cf Tryz.f243
noncomputable abbrev aFb : Code := cR c243
noncomputable abbrev dKl : Code := cR aFb
noncomputable abbrev xO : Code := cL aFb
noncomputable abbrev aYi : Code := cR xO
noncomputable abbrev aGb : Code := cL aYi
noncomputable abbrev xJ : Code := cR aGb
noncomputable abbrev aAs : Code := cR xJ
noncomputable abbrev aAf : Code := cR aAs
noncomputable abbrev wU : Code := cR aAf
noncomputable abbrev pB : Code := cR wU
noncomputable abbrev qC : Code := cR pB
noncomputable abbrev pN : Code := cR qC
noncomputable abbrev oZ : Code := cL pN
noncomputable abbrev uV : Code := cR oZ
noncomputable abbrev cZi : Code := cR uV
noncomputable abbrev pJ : Code := cL uV
noncomputable abbrev aIh : Code := cR pJ
noncomputable abbrev tQ : Code := cL aIh
noncomputable abbrev jZ : Code := cL tQ
noncomputable abbrev bFs : Code := cL pJ
noncomputable abbrev aDy : Code := cL oZ
noncomputable abbrev cOq : Code := cR pN
noncomputable abbrev bGr : Code := cL qC
noncomputable abbrev cQf : Code := cL pB
noncomputable abbrev bBv : Code := cL wU
noncomputable abbrev cSo : Code := cL aAf
noncomputable abbrev bCe : Code := cL aAs
noncomputable abbrev dAd : Code := cL xJ
noncomputable abbrev bFp : Code := cL aGb
noncomputable abbrev bGd : Code := cL xO
noncomputable abbrev aGr : Code := cL c243
noncomputable abbrev r243 : K := aQ CF Tryz.f243
noncomputable def D243 (r : RT) (n : Nat) (c : Code) (X : Nat → K) (k : K) : K := aM CF r 48 n c X r243 k
theorem cWg : D243 r n dKl x0 r243 = (K2 (aY r n) 0 4) :=
 (by kernel_rfl)
theorem bWr : D243 r n cZi (xs x0 0 (K2 (aY r n) 0 4)) (K2 (aY r n) 0 4) = (K2 (cZ r n) 4 5) :=
 (by kernel_rfl)
theorem bLb (kk15 : dC) (q0 : eM) (q1 : eM) : D243 r n jZ (xs (xs x0 0 (K2 q0 0 4)) 1 (K2 q1 4 5)) (K6 kk15 0 4 5 29 30 31) = fun (env : aO) (h : Hp) =>
 bnd (aE .lss (env 31) (env 30) h) fun v1 h1 =>
 aT v1 (
 bnd (aJ 6 (env 29) (env 31) h1) fun v2 h2 =>
 bnd (aI 6 v2 h2) fun v3 h3 =>
 bnd (bD cV h3) fun v4 h4 =>
 bnd (aC 6 v4 v3 h4) fun _ h5 =>
 bnd (aB 3 (env 5) (resv 1 h5)) fun v6 h6 =>
 bnd (aA v6 h6) fun v7 h7 =>
 bnd (aI 6 v4 h7) fun v8 h8 =>
 bnd (r 243 [(env 0), v8] h8) fun v9 h9 =>
 cnd (aZ (aA v6 h9) v7 && true) (
 bnd (aS (bB 0 h5.next) [(aF 0), (.s []), (aF 0), .l0] 1 [(0, 4, v9)] h9) fun v10 h10 =>
 bnd (aW 4 56 v7 v10 h10) fun v11 h11 =>
 bnd (aB 3 (env 5) h11) fun v12 h12 =>
 bnd (aC 1 v12 v11 h12) fun v13 h13 =>
 bnd (aE .add (env 31) (aF 1) h13) fun v14 h14 =>
      kk15 (env 0) (env 4) (env 5) (env 29) (env 30) v14 h14)) (
      q1 (env 4) (env 5) h1) := by kernel_rfl
theorem aUq (kk15 : dC) : (fun (env : aO) (h : Hp) =>
 bnd (aE .lss (env 31) (env 30) h) fun v1 h1 =>
 aT v1 (
 bnd (aJ 6 (env 29) (env 31) h1) fun v2 h2 =>
 bnd (aI 6 v2 h2) fun v3 h3 =>
 bnd (bD cV h3) fun v4 h4 =>
 bnd (aC 6 v4 v3 h4) fun _ h5 =>
 bnd (aB 3 (env 5) (resv 1 h5)) fun v6 h6 =>
 bnd (aA v6 h6) fun v7 h7 =>
 bnd (aI 6 v4 h7) fun v8 h8 =>
 bnd (r 243 [(env 0), v8] h8) fun v9 h9 =>
 cnd (aZ (aA v6 h9) v7 && true) (
 bnd (aS (bB 0 h5.next) [(aF 0), (.s []), (aF 0), .l0] 1 [(0, 4, v9)] h9) fun v10 h10 =>
 bnd (aW 4 56 v7 v10 h10) fun v11 h11 =>
 bnd (aB 3 (env 5) h11) fun v12 h12 =>
 bnd (aC 1 v12 v11 h12) fun v13 h13 =>
 bnd (aE .add (env 31) (aF 1) h13) fun v14 h14 =>
      kk15 (env 0) (env 4) (env 5) (env 29) (env 30) v14 h14)) (
      cZ r n (env 4) (env 5) h1)) = (K6 (aAi r n kk15) 0 4 5 29 30 31) := by kernel_rfl
theorem bOc (kk15 : dC) : D243 r n jZ (xs (xs x0 0 (K2 (aY r n) 0 4)) 1 (K2 (cZ r n) 4 5)) (K6 kk15 0 4 5 29 30 31) = (K6 (aAi r n kk15) 0 4 5 29 30 31) :=
 (bLb r n kk15 (aY r n) (cZ r n)).trans (aUq r n kk15)
theorem bNs (m : Nat) : aL (fun kk => D243 r n jZ (xs (xs x0 0 (K2 (aY r n) 0 4)) 1 (K2 (cZ r n) 4 5)) kk) m = (K6 (pF r n m) 0 4 5 29 30 31) := by
 induction m with
 | zero => exact (by kernel_rfl : aL (fun kk => D243 r n jZ (xs (xs x0 0 (K2 (aY r n) 0 4)) 1 (K2 (cZ r n) 4 5)) kk) 0 = (K6 (pF r n 0) 0 4 5 29 30 31))
 | succ m ih =>
  refine (by kernel_rfl : aL (fun kk => D243 r n jZ (xs (xs x0 0 (K2 (aY r n) 0 4)) 1 (K2 (cZ r n) 4 5)) kk) (m + 1) = D243 r n jZ (xs (xs x0 0 (K2 (aY r n) 0 4)) 1 (K2 (cZ r n) 4 5)) (aL (fun kk => D243 r n jZ (xs (xs x0 0 (K2 (aY r n) 0 4)) 1 (K2 (cZ r n) 4 5)) kk) m)).trans ?_
  rw [ih]
  exact (bOc r n (pF r n m)).trans (by kernel_rfl)
theorem bPp : D243 r n tQ (xs (xs x0 0 (K2 (aY r n) 0 4)) 1 (K2 (cZ r n) 4 5)) (K2 (cZ r n) 4 5) = (K6 (bFd r n) 0 4 5 29 30 31) :=
 (by kernel_rfl : D243 r n tQ (xs (xs x0 0 (K2 (aY r n) 0 4)) 1 (K2 (cZ r n) 4 5)) (K2 (cZ r n) 4 5) = aL (fun kk => D243 r n jZ (xs (xs x0 0 (K2 (aY r n) 0 4)) 1 (K2 (cZ r n) 4 5)) kk) n).trans ((bNs r n n).trans (by kernel_rfl))
theorem cCq : D243 r n aIh (xs x0 0 (K2 (aY r n) 0 4)) (K2 (cZ r n) 4 5) = (K6 (aGn r n) 0 4 5 29 30 31) :=
 (by kernel_rfl : D243 r n aIh (xs x0 0 (K2 (aY r n) 0 4)) (K2 (cZ r n) 4 5) = D243 r n tQ (xs (xs x0 0 (K2 (aY r n) 0 4)) 1 (K2 (cZ r n) 4 5)) (K2 (cZ r n) 4 5)).trans
 ((bPp r n).trans (by kernel_rfl))
theorem bNe : D243 r n uV (xs x0 0 (K2 (aY r n) 0 4)) (K2 (aY r n) 0 4) = D243 r n pJ (xs x0 0 (K2 (aY r n) 0 4)) (K2 (cZ r n) 4 5) :=
 congrArg (fun k => D243 r n pJ (xs x0 0 (K2 (aY r n) 0 4)) k) (bWr r n)
theorem bKa : D243 r n pJ (xs x0 0 (K2 (aY r n) 0 4)) (K2 (cZ r n) 4 5) = D243 r n bFs (xs x0 0 (K2 (aY r n) 0 4)) (K6 (aGn r n) 0 4 5 29 30 31) :=
 congrArg (fun k => D243 r n bFs (xs x0 0 (K2 (aY r n) 0 4)) k) (cCq r n)
theorem bRe : D243 r n uV (xs x0 0 (K2 (aY r n) 0 4)) (K2 (aY r n) 0 4) = (K4 (qD r n) 0 3 4 5) :=
 (bNe r n).trans
 ((bKa r n).trans
 ((by kernel_rfl)))
theorem bLd : D243 r n oZ (xs x0 0 (K2 (aY r n) 0 4)) (K2 (aY r n) 0 4) = D243 r n aDy (xs x0 0 (K2 (aY r n) 0 4)) (K4 (qD r n) 0 3 4 5) :=
 congrArg (fun k => D243 r n aDy (xs x0 0 (K2 (aY r n) 0 4)) k) (bRe r n)
theorem bLn (q0 : dI) (q1 : eM) : D243 r n aDy (xs x0 0 (K2 q1 0 4)) (K4 q0 0 3 4 5) = fun (env : aO) (h : Hp) =>
 bnd (bA [(aF 0), (.s []), (aF 0), .l0] [(0, 1, (aF 4))] h) fun v1 h1 =>
 bnd (bD [(aF 0), (.s []), (aF 0), .l0] h1) fun v2 h2 =>
 bnd (aC 4 v2 v1 h2) fun _ h3 =>
  q0 (env 0) (env 3) (env 4) v2 h3 := by kernel_rfl
theorem aYr : (fun (env : aO) (h : Hp) =>
 bnd (bA [(aF 0), (.s []), (aF 0), .l0] [(0, 1, (aF 4))] h) fun v1 h1 =>
 bnd (bD [(aF 0), (.s []), (aF 0), .l0] h1) fun v2 h2 =>
 bnd (aC 4 v2 v1 h2) fun _ h3 =>
  qD r n (env 0) (env 3) (env 4) v2 h3) = (K3 (aNs r n) 0 3 4) := by kernel_rfl
theorem bZa : D243 r n oZ (xs x0 0 (K2 (aY r n) 0 4)) (K2 (aY r n) 0 4) = (K3 (aNs r n) 0 3 4) :=
 (bLd r n).trans
 ((bLn r n (qD r n) (aY r n)).trans (aYr r n))
theorem cFs : D243 r n pN (xs x0 0 (K2 (aY r n) 0 4)) (K2 (aY r n) 0 4) = (K4 (aOj r n) 0 3 4 25) :=
 (by kernel_rfl : D243 r n pN (xs x0 0 (K2 (aY r n) 0 4)) (K2 (aY r n) 0 4) = (fun (env : aO) (h : Hp) => aT (opr env (cC pN)) (D243 r n oZ (xs x0 0 (K2 (aY r n) 0 4)) (K2 (aY r n) 0 4) env h) (D243 r n cOq (xs x0 0 (K2 (aY r n) 0 4)) (K2 (aY r n) 0 4) env h))).trans (by rw [bZa r n]; kernel_rfl)
theorem cJv : D243 r n qC (xs x0 0 (K2 (aY r n) 0 4)) (K2 (aY r n) 0 4) = D243 r n bGr (xs x0 0 (K2 (aY r n) 0 4)) (K4 (aOj r n) 0 3 4 25) :=
 congrArg (fun k => D243 r n bGr (xs x0 0 (K2 (aY r n) 0 4)) k) (cFs r n)
theorem cSe : D243 r n qC (xs x0 0 (K2 (aY r n) 0 4)) (K2 (aY r n) 0 4) = (K4 (bPj r n) 0 3 4 9) :=
 (cJv r n).trans
 ((by kernel_rfl))
theorem cSc : D243 r n pB (xs x0 0 (K2 (aY r n) 0 4)) (K2 (aY r n) 0 4) = (K5 (aXt r n) 0 3 4 9 20) :=
 (by kernel_rfl : D243 r n pB (xs x0 0 (K2 (aY r n) 0 4)) (K2 (aY r n) 0 4) = (fun (env : aO) (h : Hp) => aT (opr env (cC pB)) (D243 r n cQf (xs x0 0 (K2 (aY r n) 0 4)) (K2 (aY r n) 0 4) env h) (D243 r n qC (xs x0 0 (K2 (aY r n) 0 4)) (K2 (aY r n) 0 4) env h))).trans (by rw [cSe r n]; kernel_rfl)
theorem bPg : D243 r n wU (xs x0 0 (K2 (aY r n) 0 4)) (K2 (aY r n) 0 4) = D243 r n bBv (xs x0 0 (K2 (aY r n) 0 4)) (K5 (aXt r n) 0 3 4 9 20) :=
 congrArg (fun k => D243 r n bBv (xs x0 0 (K2 (aY r n) 0 4)) k) (cSc r n)
theorem cRj : D243 r n wU (xs x0 0 (K2 (aY r n) 0 4)) (K2 (aY r n) 0 4) = (K4 (cGi r n) 0 3 4 9) :=
 (bPg r n).trans
 ((by kernel_rfl))
theorem cRs : D243 r n aAf (xs x0 0 (K2 (aY r n) 0 4)) (K2 (aY r n) 0 4) = (K5 (aXf r n) 0 3 4 9 15) :=
 (by kernel_rfl : D243 r n aAf (xs x0 0 (K2 (aY r n) 0 4)) (K2 (aY r n) 0 4) = (fun (env : aO) (h : Hp) => aT (opr env (cC aAf)) (D243 r n cSo (xs x0 0 (K2 (aY r n) 0 4)) (K2 (aY r n) 0 4) env h) (D243 r n wU (xs x0 0 (K2 (aY r n) 0 4)) (K2 (aY r n) 0 4) env h))).trans (by rw [cRj r n]; kernel_rfl)
theorem bYw : D243 r n aAs (xs x0 0 (K2 (aY r n) 0 4)) (K2 (aY r n) 0 4) = D243 r n bCe (xs x0 0 (K2 (aY r n) 0 4)) (K5 (aXf r n) 0 3 4 9 15) :=
 congrArg (fun k => D243 r n bCe (xs x0 0 (K2 (aY r n) 0 4)) k) (cRs r n)
theorem cPj : D243 r n aAs (xs x0 0 (K2 (aY r n) 0 4)) (K2 (aY r n) 0 4) = (K4 (cEi r n) 0 3 4 9) :=
 (bYw r n).trans
 ((by kernel_rfl))
theorem cYw : D243 r n xJ (xs x0 0 (K2 (aY r n) 0 4)) (K2 (aY r n) 0 4) = (K5 (aXl r n) 0 3 4 9 10) :=
 (by kernel_rfl : D243 r n xJ (xs x0 0 (K2 (aY r n) 0 4)) (K2 (aY r n) 0 4) = (fun (env : aO) (h : Hp) => aT (opr env (cC xJ)) (D243 r n dAd (xs x0 0 (K2 (aY r n) 0 4)) (K2 (aY r n) 0 4) env h) (D243 r n aAs (xs x0 0 (K2 (aY r n) 0 4)) (K2 (aY r n) 0 4) env h))).trans (by rw [cPj r n]; kernel_rfl)
theorem cCx : D243 r n aGb (xs x0 0 (K2 (aY r n) 0 4)) (K2 (aY r n) 0 4) = D243 r n bFp (xs x0 0 (K2 (aY r n) 0 4)) (K5 (aXl r n) 0 3 4 9 10) :=
 congrArg (fun k => D243 r n bFp (xs x0 0 (K2 (aY r n) 0 4)) k) (cYw r n)
theorem cUl : D243 r n aYi x0 (K2 (aY r n) 0 4) = (K4 (aSf r n) 0 3 4 9) :=
 (by kernel_rfl : D243 r n aYi x0 (K2 (aY r n) 0 4) = D243 r n aGb (xs x0 0 (K2 (aY r n) 0 4)) (K2 (aY r n) 0 4)).trans
 ((cCx r n).trans
 ((by kernel_rfl)))
theorem bMn : D243 r n aFb x0 r243 = D243 r n xO x0 (K2 (aY r n) 0 4) :=
 congrArg (fun k => D243 r n xO x0 k) (cWg r n)
theorem bKn : D243 r n xO x0 (K2 (aY r n) 0 4) = D243 r n bGd x0 (K4 (aSf r n) 0 3 4 9) :=
 congrArg (fun k => D243 r n bGd x0 k) (cUl r n)
theorem cVk : D243 r n aFb x0 r243 = (K3 (yQ r n) 0 3 4) :=
 (bMn r n).trans
 ((bKn r n).trans
 ((by kernel_rfl)))
theorem cLo : D243 r n c243 x0 r243 = D243 r n aGr x0 (K3 (yQ r n) 0 3 4) :=
 congrArg (fun k => D243 r n aGr x0 k) (cVk r n)
theorem cUk (q0 : eO) : D243 r n aGr x0 (K3 q0 0 3 4) = fun (env : aO) (h : Hp) =>
 bnd (bN (env 1) h) fun v1 h1 =>
 bnd (bD [(aF 0), (.s []), (aF 0), .l0] h1) fun v2 h2 =>
  q0 (env 0) v1 v2 h2 := by kernel_rfl
theorem cHy : (fun (env : aO) (h : Hp) =>
 bnd (bN (env 1) h) fun v1 h1 =>
 bnd (bD [(aF 0), (.s []), (aF 0), .l0] h1) fun v2 h2 =>
  yQ r n (env 0) v1 v2 h2) = (K2 (s243 r n) 0 1) := by kernel_rfl
theorem dTw : D243 r n c243 x0 r243 = (K2 (s243 r n) 0 1) :=
 (cLo r n).trans
 ((cUk r n (yQ r n)).trans (cHy r n))
theorem dOr : aG CF r n 243 args h = s243 r n (aR args 0) (aR args 1) h :=
 (by kernel_rfl : aG CF r n 243 args h = D243 r n c243 x0 r243 (aK args) h).trans ((congrFun (congrFun (dTw r n) (aK args)) h).trans (by kernel_rfl))
noncomputable def aEi (r : RT) (n : Nat) (x0 x1 : DV) (h0 : Hp) : aH :=
 bnd (r 239 [x0, x1] h0) fun v1 h1 =>
 bnd (aD 0 v1 h1) fun v2 h2 =>
 bnd (aD 1 v1 h2) fun v3 h3 =>
 bnd (bD [(.s []), (.b false), (.b false), (aF 0)] h3) fun v4 h4 =>
 bnd (aC 4 v4 v2 h4) fun _ h5 =>
 bnd (gD v3 true (aB 1 v4 h5) h5) fun v6 h6 =>
 bnd (gD v3 true (aA v6 h6) h6) fun v7 h7 =>
 bnd (aP v3 v7 (.b false) h7) fun v8 h8 =>
 aT v8 (
 bnd (aB 3 v4 h8) fun v9 h9 =>
 bnd (aA v9 h9) fun v10 h10 =>
 bnd (r 209 [x0, (aF 8), v10, (aF 0)] h10) fun v11 h11 =>
 some (.t [], h11)) (
 aT v3 (
 bnd (aB 3 v4 h8) fun v12 h12 =>
 bnd (aA v12 h12) fun v13 h13 =>
 bnd (r 209 [x0, (aF 7), v13, (aF 0)] h13) fun v14 h14 =>
 some (.t [], h14)) (
 bnd (r 279 [x1] h8) fun v15 h15 =>
 aT v15 (
 bnd (r 280 [x0, x1] h15) fun v16 h16 =>
 bnd (r 209 [x0, (aF 9), v16, (aF 0)] h16) fun v17 h17 =>
 some (.t [], h17)) (
 bnd (r 241 [x0, x1, (aF 15)] h15) fun v18 h18 =>
 some (.t [], h18))))
noncomputable def s244 (r : RT) (n : Nat) (x0 x1 : DV) (h0 : Hp) : aH :=
 bnd (dR .eql x1 (.s [115, 101, 108, 102]) h0) fun v1 h1 =>
 aT v1 (
 bnd (r 209 [x0, (aF 1), (aF 0), (aF 0)] h1) fun v2 h2 =>
 some (.t [], h2)) (
 bnd (dR .eql x1 (.s [110, 105, 108]) h1) fun v3 h3 =>
 aT v3 (
 bnd (r 209 [x0, (aF 2), (aF 0), (aF 0)] h3) fun v4 h4 =>
 some (.t [], h4)) (
 bnd (dR .eql x1 (.s [116, 114, 117, 101]) h3) fun v5 h5 =>
 aT v5 (
 bnd (r 209 [x0, (aF 3), (aF 0), (aF 0)] h5) fun v6 h6 =>
 some (.t [], h6)) (
 bnd (dR .eql x1 (.s [102, 97, 108, 115, 101]) h5) fun v7 h7 =>
 aT v7 (
 bnd (r 209 [x0, (aF 4), (aF 0), (aF 0)] h7) fun v8 h8 =>
 some (.t [], h8)) (
 bnd (dR .eql x1 (.s [116, 104, 105, 115, 67, 111, 110, 116, 101, 120, 116]) h7) fun v9 h9 =>
 aT v9 (
 bnd (r 209 [x0, (aF 5), (aF 0), (aF 0)] h9) fun v10 h10 =>
 some (.t [], h10)) (
 bnd (dR .eql x1 (.s [115, 117, 112, 101, 114]) h9) fun v11 h11 =>
 aT v11 (
 bnd (r 241 [x0, x1, (aF 15)] h11) fun v12 h12 =>
       aEi r n x0 x1 h12) (
       aEi r n x0 x1 h11))))))
noncomputable abbrev c244 : Code := cf Tryz.f244
noncomputable abbrev dFl : Code := cR c244
noncomputable abbrev bWg : Code := cL c244
noncomputable abbrev r244 : K := aQ CF Tryz.f244
noncomputable def D244 (r : RT) (n : Nat) (c : Code) (X : Nat → K) (k : K) : K := aM CF r 65 n c X r244 k
theorem dBc : D244 r n dFl x0 r244 = (K2 (aEi r n) 0 1) :=
 (by kernel_rfl)
theorem dOc : D244 r n c244 x0 r244 = D244 r n bWg x0 (K2 (aEi r n) 0 1) :=
 congrArg (fun k => D244 r n bWg x0 k) (dBc r n)
theorem dTx : D244 r n c244 x0 r244 = (K2 (s244 r n) 0 1) :=
 (dOc r n).trans
 ((by kernel_rfl))
theorem dJl : aG CF r n 244 args h = s244 r n (aR args 0) (aR args 1) h :=
 (by kernel_rfl : aG CF r n 244 args h = D244 r n c244 x0 r244 (aK args) h).trans ((congrFun (congrFun (dTx r n) (aK args)) h).trans (by kernel_rfl))
noncomputable def s245 (r : RT) (n : Nat) (x0 x1 : DV) (h0 : Hp) : aH :=
 bnd (bN x1 h0) fun v1 h1 =>
 bnd (aI 6 v1 h1) fun v2 h2 =>
 bnd (r 250 [x0, v2] h2) fun v3 h3 =>
 bnd (fV .not v3 h3) fun v4 h4 =>
 aT v4 (
 some (.t [], h4)) (
 bnd (aB 1 v1 h4) fun v5 h5 =>
 bnd (aA v5 h5) fun v6 h6 =>
 bnd (r 239 [x0, v6] h6) fun v7 h7 =>
 bnd (aD 0 v7 h7) fun v8 h8 =>
 bnd (aD 1 v7 h8) fun v9 h9 =>
 bnd (bD [(.s []), (.b false), (.b false), (aF 0)] h9) fun v10 h10 =>
 bnd (aC 4 v10 v8 h10) fun _ h11 =>
 bnd (aB 5 v1 h11) fun v12 h12 =>
 bnd (aA v12 h12) fun v13 h13 =>
 bnd (aJ 6 v13 (aF 0) h13) fun v14 h14 =>
 bnd (aI 6 v14 h14) fun v15 h15 =>
 bnd (r 208 [x0, v15] h15) fun v16 h16 =>
 bnd (fV .not v9 h16) fun v17 h17 =>
 bnd (gD v17 true (aB 1 v1 h17) h17) fun v18 h18 =>
 bnd (gD v17 true (aA v18 h18) h18) fun v19 h19 =>
 bnd (gD v17 true (r 240 [v19] h19) h19) fun v20 h20 =>
 bnd (gD v17 true (fV .not v20 h20) h20) fun v21 h21 =>
 bnd (aP v17 v21 (.b false) h21) fun v22 h22 =>
 bnd (gD v22 true (aB 1 v1 h22) h22) fun v23 h23 =>
 bnd (gD v22 true (aA v23 h23) h23) fun v24 h24 =>
 bnd (gD v22 true (r 279 [v24] h24) h24) fun v25 h25 =>
 bnd (gD v22 true (fV .not v25 h25) h25) fun v26 h26 =>
 bnd (aP v22 v26 (.b false) h26) fun v27 h27 =>
 aT v27 (
 bnd (aB 1 v1 h27) fun v28 h28 =>
 bnd (aA v28 h28) fun v29 h29 =>
 bnd (r 241 [x0, v29, (aF 15)] h29) fun v30 h30 =>
 some (.t [], h30)) (
 bnd (fV .not v9 h27) fun v31 h31 =>
 bnd (gD v31 false (aB 2 v10 h31) h31) fun v32 h32 =>
 bnd (gD v31 false (aA v32 h32) h32) fun v33 h33 =>
 bnd (aP v31 (.b true) v33 h33) fun v34 h34 =>
 bnd (gD v34 false (aB 1 v1 h34) h34) fun v35 h35 =>
 bnd (gD v34 false (aA v35 h35) h35) fun v36 h36 =>
 bnd (gD v34 false (r 240 [v36] h36) h36) fun v37 h37 =>
 bnd (aP v34 (.b true) v37 h37) fun v38 h38 =>
 aT v38 (
 bnd (aB 1 v1 h38) fun v39 h39 =>
 bnd (aA v39 h39) fun v40 h40 =>
 bnd (r 241 [x0, v40, (aF 17)] h40) fun v41 h41 =>
 some (.t [], h41)) (
 bnd (aB 1 v10 h38) fun v42 h42 =>
 bnd (aA v42 h42) fun v43 h43 =>
 aT v43 (
 bnd (aB 3 v10 h43) fun v44 h44 =>
 bnd (aA v44 h44) fun v45 h45 =>
 bnd (r 209 [x0, (aF 11), v45, (aF 0)] h45) fun v46 h46 =>
 some (.t [], h46)) (
 bnd (aB 3 v10 h43) fun v47 h47 =>
 bnd (aA v47 h47) fun v48 h48 =>
 bnd (r 209 [x0, (aF 10), v48, (aF 0)] h48) fun v49 h49 =>
 some (.t [], h49)))))
noncomputable abbrev c245 : Code := cf Tryz.f245
noncomputable abbrev r245 : K := aQ CF Tryz.f245
noncomputable def D245 (r : RT) (n : Nat) (c : Code) (X : Nat → K) (k : K) : K := aM CF r 69 n c X r245 k
theorem dTu : D245 r n c245 x0 r245 = (K2 (s245 r n) 0 1) :=
 (by kernel_rfl)
theorem dJp : aG CF r n 245 args h = s245 r n (aR args 0) (aR args 1) h :=
 (by kernel_rfl : aG CF r n 245 args h = D245 r n c245 x0 r245 (aK args) h).trans ((congrFun (congrFun (dTu r n) (aK args)) h).trans (by kernel_rfl))
noncomputable def s246 (r : RT) (n : Nat) (x0 x1 : DV) (h0 : Hp) : aH :=
 bnd (bN x1 h0) fun v1 h1 =>
 bnd (aB 5 v1 h1) fun v2 h2 =>
 bnd (aA v2 h2) fun v3 h3 =>
 bnd (bT v3 h3) fun v4 h4 =>
 bnd (aE .eql v4 (aF 0) h4) fun v5 h5 =>
 aT v5 (
 bnd (r 241 [x0, (.s []), (aF 1)] h5) fun v6 h6 =>
 some (.t [], h6)) (
 bnd (aI 6 v1 h5) fun v7 h7 =>
 bnd (r 281 [x0, v7] h7) fun v8 h8 =>
 bnd (gD v8 false (some (x0, h8)) h8) fun v9 h9 =>
 bnd (gD v8 false (aI 6 v1 h9) h9) fun v10 h10 =>
 bnd (gD v8 false (r 282 [v9, v10] h10) h10) fun v11 h11 =>
 bnd (aP v8 (.b true) v11 h11) fun v12 h12 =>
 aT v12 (
 some (.t [], h12)) (
 bnd (aB 5 v1 h12) fun v13 h13 =>
 bnd (aA v13 h13) fun v14 h14 =>
 bnd (aJ 6 v14 (aF 0) h14) fun v15 h15 =>
 bnd (aI 6 v15 h15) fun v16 h16 =>
 bnd (r 284 [x0, v16] h16) fun v17 h17 =>
 bnd (aB 1 v1 h17) fun v18 h18 =>
 bnd (aA v18 h18) fun v19 h19 =>
 cnd (aZ (aA v18 h12) v19 && true) (
 bnd (aB 5 v1 h19) fun v20 h20 =>
 bnd (aA v20 h20) fun v21 h21 =>
 cnd (aZ (aA v20 h12) v21 && true) (
 bnd (cS 6 v21 (some (aF 1)) none h21) fun v22 h22 =>
 cnd (aZ (cS 6 v21 (some (aF 1)) none h12) v22 && true) (
 bnd (r 283 [x0, v17, v19, v22] h22) fun v23 h23 =>
 some (.t [], h23))))))
noncomputable abbrev c246 : Code := cf Tryz.f246
noncomputable abbrev r246 : K := aQ CF Tryz.f246
noncomputable def D246 (r : RT) (n : Nat) (c : Code) (X : Nat → K) (k : K) : K := aM CF r 31 n c X r246 k
theorem dYu : D246 r n c246 x0 r246 = (K2 (s246 r n) 0 1) :=
 (by kernel_rfl)
theorem dNt : aG CF r n 246 args h = s246 r n (aR args 0) (aR args 1) h :=
 (by kernel_rfl : aG CF r n 246 args h = D246 r n c246 x0 r246 (aK args) h).trans ((congrFun (congrFun (dYu r n) (aK args)) h).trans (by kernel_rfl))
noncomputable def s248 (r : RT) (n : Nat) (x0 x1 : DV) (h0 : Hp) : aH :=
 bnd (bN x0 h0) fun v1 h1 =>
 bnd (bN x1 h1) fun v2 h2 =>
 bnd (aA v1 h2) fun v3 h3 =>
 bnd (r 285 [v3] h3) fun v4 h4 =>
 bnd (bD [(aF 0)] h4) fun v5 h5 =>
 bnd (aC 1 v5 v4 h5) fun _ h6 =>
 bnd (aA v1 h6) fun v7 h7 =>
 bnd (aA v2 h7) fun v8 h8 =>
 bnd (r 209 [v7, v8, (aF 0), (aF 0)] h8) fun v9 h9 =>
 some ((.f 286 [] [v1, v5, v2]), h9)
noncomputable abbrev c248 : Code := cf Tryz.f248
noncomputable abbrev r248 : K := aQ CF Tryz.f248
noncomputable def D248 (r : RT) (n : Nat) (c : Code) (X : Nat → K) (k : K) : K := aM CF r 12 n c X r248 k
theorem dWa : D248 r n c248 x0 r248 = (K2 (s248 r n) 0 1) :=
 (by kernel_rfl)
theorem dJv : aG CF r n 248 args h = s248 r n (aR args 0) (aR args 1) h :=
 (by kernel_rfl : aG CF r n 248 args h = D248 r n c248 x0 r248 (aK args) h).trans ((congrFun (congrFun (dWa r n) (aK args)) h).trans (by kernel_rfl))
noncomputable def aEa (r : RT) (n : Nat) (x0 x4 : DV) (h0 : Hp) : aH :=
 bnd (aU x0 h0) fun v1 h1 =>
 bnd (aB 6 v1 h1) fun v2 h2 =>
 bnd (aC 1 v2 x4 h2) fun _ h3 =>
 some (.t [], h3)
noncomputable def bZ (r : RT) (n : Nat) (x0 x3 x4 : DV) (h0 : Hp) : aH :=
 bnd (aB 5 x3 h0) fun v1 h1 =>
 bnd (aA v1 h1) fun v2 h2 =>
 bnd (bT v2 h2) fun v3 h3 =>
 bnd (aE .eql v3 (aF 0) h3) fun v4 h4 =>
 aT v4 (
 bnd (r 209 [x0, (aF 2), (aF 0), (aF 0)] h4) fun v5 h5 =>
  aEa r n x0 x4 h5) (
  aEa r n x0 x4 h4)
noncomputable def dB (r : RT) (n : Nat) (kk9 : dC) (x0 x3 x4 x35 x36 x37 : DV) (h0 : Hp) : aH :=
 bnd (aE .add x37 (aF 1) h0) fun v1 h1 =>
  kk9 x0 x3 x4 x35 x36 v1 h1
noncomputable def tO (r : RT) (n : Nat) (kk9 : dC) (x0 x3 x4 x6 x35 x36 x37 : DV) (h0 : Hp) : aH :=
 bnd (aI 6 x6 h0) fun v1 h1 =>
 bnd (r 208 [x0, v1] h1) fun v2 h2 =>
 bnd (aB 0 x6 h2) fun v3 h3 =>
 bnd (aA v3 h3) fun v4 h4 =>
 bnd (aE .eql v4 (aF 10) h4) fun v5 h5 =>
 aT v5 (
 bnd (r 209 [x0, (aF 2), (aF 0), (aF 0)] h5) fun v6 h6 =>
  dB r n kk9 x0 x3 x4 x35 x36 x37 h6) (
  dB r n kk9 x0 x3 x4 x35 x36 x37 h5)
noncomputable def pD (r : RT) (n : Nat) (kk9 : dC) (x0 x3 x4 x5 x6 x35 x36 x37 : DV) (h0 : Hp) : aH :=
 bnd (aE .gtr x5 (aF 0) h0) fun v1 h1 =>
 aT v1 (
 bnd (r 209 [x0, (aF 12), (aF 0), (aF 0)] h1) fun v2 h2 =>
  tO r n kk9 x0 x3 x4 x6 x35 x36 x37 h2) (
  tO r n kk9 x0 x3 x4 x6 x35 x36 x37 h1)
noncomputable def wH (r : RT) (n : Nat) (kk9 : dC) (x0 x3 x4 x35 x36 x37 : DV) (h0 : Hp) : aH :=
 bnd (aJ 6 x35 x37 h0) fun v1 h1 =>
 bnd (aI 6 v1 h1) fun v2 h2 =>
 bnd (bD cV h2) fun v3 h3 =>
 bnd (aC 6 v3 v2 h3) fun _ h4 =>
  pD r n kk9 x0 x3 x4 x37 v3 x35 x36 x37 h4
noncomputable def aCy (r : RT) (n : Nat) (kk9 : dC) (x0 x3 x4 x35 x36 x37 x38 : DV) (h0 : Hp) : aH :=
 aT x38 (
  wH r n kk9 x0 x3 x4 x35 x36 x37 h0) (
  bZ r n x0 x3 x4 h0)
noncomputable def bBd (r : RT) (n : Nat) (kk9 : dC) (x0 x3 x4 x35 x36 x37 : DV) (h0 : Hp) : aH :=
 bnd (aE .lss x37 x36 h0) fun v1 h1 =>
  aCy r n kk9 x0 x3 x4 x35 x36 x37 v1 h1
noncomputable def vG (r : RT) (n : Nat) (m : Nat) : dC :=
 Nat.rec (motive := fun _ => dC) (fun _ _ _ _ _ _ _ => none) (fun _ ih => bBd r n ih) m
noncomputable def bVa (r : RT) (n : Nat) : dC := vG r n n
noncomputable def aTf (r : RT) (n : Nat) (x0 x3 x4 x35 x36 x37 : DV) (h0 : Hp) : aH :=
 bVa r n x0 x3 x4 x35 x36 x37 h0
noncomputable def aXd (r : RT) (n : Nat) (x0 x3 x4 : DV) (h0 : Hp) : aH :=
 bnd (aB 5 x3 h0) fun v1 h1 =>
 bnd (aA v1 h1) fun v2 h2 =>
 bnd (bT v2 h2) fun v3 h3 =>
  aTf r n x0 x3 x4 v2 v3 (aF 0) h3
noncomputable def aUm (r : RT) (n : Nat) (x0 x3 x4 : DV) (h0 : Hp) : aH :=
 bnd (aB 4 x3 h0) fun v1 h1 =>
 bnd (aA v1 h1) fun v2 h2 =>
 bnd (r 207 [x0, v2, (.b false)] h2) fun v3 h3 =>
  aXd r n x0 x3 x4 h3
noncomputable def aUn (r : RT) (n : Nat) (x0 x3 x4 : DV) (h0 : Hp) : aH :=
 bnd (aB 3 x3 h0) fun v1 h1 =>
 bnd (aA v1 h1) fun v2 h2 =>
 bnd (r 207 [x0, v2, (.b true)] h2) fun v3 h3 =>
  aUm r n x0 x3 x4 h3
noncomputable def aYl (r : RT) (n : Nat) (x0 x3 x4 : DV) (h0 : Hp) : aH :=
 bnd (aU x0 h0) fun v1 h1 =>
 bnd (aB 6 v1 h1) fun v2 h2 =>
 bnd (aC 1 v2 x4 h2) fun _ h3 =>
  aUn r n x0 x3 x4 h3
noncomputable def wZ (r : RT) (n : Nat) (x0 x3 : DV) (h0 : Hp) : aH :=
 bnd (aU x0 h0) fun v1 h1 =>
 bnd (aB 6 v1 h1) fun v2 h2 =>
 bnd (aA v2 h2) fun v3 h3 =>
 bnd (aU x0 h3) fun v4 h4 =>
 bnd (aB 6 v4 h4) fun v5 h5 =>
 bnd (aA v5 h5) fun v6 h6 =>
 bnd (bT v6 h6) fun v7 h7 =>
 bnd (aU x0 h7) fun v8 h8 =>
 bnd (aB 6 v8 h8) fun v9 h9 =>
 bnd (aA v9 h9) fun v10 h10 =>
 bnd (bT v10 h10) fun v11 h11 =>
 bnd (lQ v3 none v7 v11 h11) fun v12 h12 =>
  aYl r n x0 x3 v12 h12
noncomputable def s249 (r : RT) (n : Nat) (x0 x1 : DV) (h0 : Hp) : aH :=
 bnd (bN x1 h0) fun v1 h1 =>
  wZ r n x0 v1 h1
noncomputable abbrev c249 : Code := cf Tryz.f249
noncomputable abbrev aKw : Code := cR c249
noncomputable abbrev aLi : Code := cR aKw
noncomputable abbrev aPg : Code := cR aLi
noncomputable abbrev aHu : Code := cR aPg
noncomputable abbrev aNv : Code := cR aHu
noncomputable abbrev aHr : Code := cR aNv
noncomputable abbrev dEg : Code := cR aHr
noncomputable abbrev bQp : Code := cL aHr
noncomputable abbrev wV : Code := cL aNv
noncomputable abbrev aPa : Code := cR wV
noncomputable abbrev vH : Code := cL aPa
noncomputable abbrev iQ : Code := cL vH
noncomputable abbrev vW : Code := cR iQ
noncomputable abbrev uO : Code := cR vW
noncomputable abbrev cWj : Code := cR uO
noncomputable abbrev vL : Code := cL uO
noncomputable abbrev vM : Code := cL vL
noncomputable abbrev uQ : Code := cR vM
noncomputable abbrev cSs : Code := cR uQ
noncomputable abbrev bJa : Code := cL uQ
noncomputable abbrev aIu : Code := cL vM
noncomputable abbrev bEb : Code := cL vW
noncomputable abbrev bHd : Code := cL iQ
noncomputable abbrev bFc : Code := cL wV
noncomputable abbrev bCa : Code := cL aHu
noncomputable abbrev bJc : Code := cL aPg
noncomputable abbrev bIw : Code := cL aLi
noncomputable abbrev bAr : Code := cL aKw
noncomputable abbrev aFp : Code := cL c249
noncomputable abbrev r249 : K := aQ CF Tryz.f249
noncomputable def D249 (r : RT) (n : Nat) (c : Code) (X : Nat → K) (k : K) : K := aM CF r 65 n c X r249 k
theorem dBf : D249 r n dEg x0 r249 = (K2 (aEa r n) 0 4) :=
 (by kernel_rfl)
theorem cJo : D249 r n aHr x0 r249 = D249 r n bQp x0 (K2 (aEa r n) 0 4) :=
 congrArg (fun k => D249 r n bQp x0 k) (dBf r n)
theorem cXg : D249 r n aHr x0 r249 = (K3 (bZ r n) 0 3 4) :=
 (cJo r n).trans
 ((by kernel_rfl))
theorem bXr (kk9 : dC) : D249 r n cWj (xs x0 0 (K3 (bZ r n) 0 3 4)) (K6 kk9 0 3 4 35 36 37) = (K6 (dB r n kk9) 0 3 4 35 36 37) :=
 (by kernel_rfl)
theorem bQx (kk9 : dC) : D249 r n cSs (xs (xs x0 0 (K3 (bZ r n) 0 3 4)) 1 (K6 (dB r n kk9) 0 3 4 35 36 37)) (K6 (dB r n kk9) 0 3 4 35 36 37) = (K7 (tO r n kk9) 0 3 4 6 35 36 37) :=
 (by kernel_rfl)
theorem bLu (kk9 : dC) : D249 r n uQ (xs (xs x0 0 (K3 (bZ r n) 0 3 4)) 1 (K6 (dB r n kk9) 0 3 4 35 36 37)) (K6 (dB r n kk9) 0 3 4 35 36 37) = D249 r n bJa (xs (xs x0 0 (K3 (bZ r n) 0 3 4)) 1 (K6 (dB r n kk9) 0 3 4 35 36 37)) (K7 (tO r n kk9) 0 3 4 6 35 36 37) :=
 congrArg (fun k => D249 r n bJa (xs (xs x0 0 (K3 (bZ r n) 0 3 4)) 1 (K6 (dB r n kk9) 0 3 4 35 36 37)) k) (bQx r n kk9)
theorem cAa (kk9 : dC) : D249 r n uQ (xs (xs x0 0 (K3 (bZ r n) 0 3 4)) 1 (K6 (dB r n kk9) 0 3 4 35 36 37)) (K6 (dB r n kk9) 0 3 4 35 36 37) = (K8 (pD r n kk9) 0 3 4 5 6 35 36 37) :=
 (bLu r n kk9).trans
 ((by kernel_rfl))
theorem bJu (kk9 : dC) : D249 r n uO (xs x0 0 (K3 (bZ r n) 0 3 4)) (K6 kk9 0 3 4 35 36 37) = D249 r n vL (xs x0 0 (K3 (bZ r n) 0 3 4)) (K6 (dB r n kk9) 0 3 4 35 36 37) :=
 congrArg (fun k => D249 r n vL (xs x0 0 (K3 (bZ r n) 0 3 4)) k) (bXr r n kk9)
theorem bNw (kk9 : dC) : D249 r n vM (xs (xs x0 0 (K3 (bZ r n) 0 3 4)) 1 (K6 (dB r n kk9) 0 3 4 35 36 37)) (K6 (dB r n kk9) 0 3 4 35 36 37) = D249 r n aIu (xs (xs x0 0 (K3 (bZ r n) 0 3 4)) 1 (K6 (dB r n kk9) 0 3 4 35 36 37)) (K8 (pD r n kk9) 0 3 4 5 6 35 36 37) :=
 congrArg (fun k => D249 r n aIu (xs (xs x0 0 (K3 (bZ r n) 0 3 4)) 1 (K6 (dB r n kk9) 0 3 4 35 36 37)) k) (cAa r n kk9)
theorem bMg (kk9 : dC) (q0 : TT8) (q1 : eO) (q2 : dC) : D249 r n aIu (xs (xs x0 0 (K3 q1 0 3 4)) 1 (K6 q2 0 3 4 35 36 37)) (K8 q0 0 3 4 5 6 35 36 37) = fun (env : aO) (h : Hp) =>
 bnd (aJ 6 (env 35) (env 37) h) fun v1 h1 =>
 bnd (aI 6 v1 h1) fun v2 h2 =>
 bnd (bD cV h2) fun v3 h3 =>
 bnd (aC 6 v3 v2 h3) fun _ h4 =>
  q0 (env 0) (env 3) (env 4) (env 37) v3 (env 35) (env 36) (env 37) h4 := by kernel_rfl
theorem aSw (kk9 : dC) : (fun (env : aO) (h : Hp) =>
 bnd (aJ 6 (env 35) (env 37) h) fun v1 h1 =>
 bnd (aI 6 v1 h1) fun v2 h2 =>
 bnd (bD cV h2) fun v3 h3 =>
 bnd (aC 6 v3 v2 h3) fun _ h4 =>
  pD r n kk9 (env 0) (env 3) (env 4) (env 37) v3 (env 35) (env 36) (env 37) h4) = (K6 (wH r n kk9) 0 3 4 35 36 37) := by kernel_rfl
theorem bVb (kk9 : dC) : D249 r n uO (xs x0 0 (K3 (bZ r n) 0 3 4)) (K6 kk9 0 3 4 35 36 37) = (K6 (wH r n kk9) 0 3 4 35 36 37) :=
 (bJu r n kk9).trans
 ((by kernel_rfl : D249 r n vL (xs x0 0 (K3 (bZ r n) 0 3 4)) (K6 (dB r n kk9) 0 3 4 35 36 37) = D249 r n vM (xs (xs x0 0 (K3 (bZ r n) 0 3 4)) 1 (K6 (dB r n kk9) 0 3 4 35 36 37)) (K6 (dB r n kk9) 0 3 4 35 36 37)).trans
 ((bNw r n kk9).trans
 ((bMg r n kk9 (pD r n kk9) (bZ r n) (dB r n kk9)).trans (aSw r n kk9))))
theorem bKo (kk9 : dC) : D249 r n vW (xs x0 0 (K3 (bZ r n) 0 3 4)) (K6 kk9 0 3 4 35 36 37) = D249 r n bEb (xs x0 0 (K3 (bZ r n) 0 3 4)) (K6 (wH r n kk9) 0 3 4 35 36 37) :=
 congrArg (fun k => D249 r n bEb (xs x0 0 (K3 (bZ r n) 0 3 4)) k) (bVb r n kk9)
theorem cFm (kk9 : dC) : D249 r n vW (xs x0 0 (K3 (bZ r n) 0 3 4)) (K6 kk9 0 3 4 35 36 37) = (K7 (aCy r n kk9) 0 3 4 35 36 37 38) :=
 (bKo r n kk9).trans
 ((by kernel_rfl))
theorem bUb (kk9 : dC) : D249 r n iQ (xs x0 0 (K3 (bZ r n) 0 3 4)) (K6 kk9 0 3 4 35 36 37) = D249 r n bHd (xs x0 0 (K3 (bZ r n) 0 3 4)) (K7 (aCy r n kk9) 0 3 4 35 36 37 38) :=
 congrArg (fun k => D249 r n bHd (xs x0 0 (K3 (bZ r n) 0 3 4)) k) (cFm r n kk9)
theorem bPv (kk9 : dC) : D249 r n iQ (xs x0 0 (K3 (bZ r n) 0 3 4)) (K6 kk9 0 3 4 35 36 37) = (K6 (bBd r n kk9) 0 3 4 35 36 37) :=
 (bUb r n kk9).trans
 ((by kernel_rfl))
theorem bTl (m : Nat) : aL (fun kk => D249 r n iQ (xs x0 0 (K3 (bZ r n) 0 3 4)) kk) m = (K6 (vG r n m) 0 3 4 35 36 37) := by
 induction m with
 | zero => exact (by kernel_rfl : aL (fun kk => D249 r n iQ (xs x0 0 (K3 (bZ r n) 0 3 4)) kk) 0 = (K6 (vG r n 0) 0 3 4 35 36 37))
 | succ m ih =>
  refine (by kernel_rfl : aL (fun kk => D249 r n iQ (xs x0 0 (K3 (bZ r n) 0 3 4)) kk) (m + 1) = D249 r n iQ (xs x0 0 (K3 (bZ r n) 0 3 4)) (aL (fun kk => D249 r n iQ (xs x0 0 (K3 (bZ r n) 0 3 4)) kk) m)).trans ?_
  rw [ih]
  exact (bPv r n (vG r n m)).trans (by kernel_rfl)
theorem cSy : D249 r n vH (xs x0 0 (K3 (bZ r n) 0 3 4)) (K3 (bZ r n) 0 3 4) = (K6 (bVa r n) 0 3 4 35 36 37) :=
 (by kernel_rfl : D249 r n vH (xs x0 0 (K3 (bZ r n) 0 3 4)) (K3 (bZ r n) 0 3 4) = aL (fun kk => D249 r n iQ (xs x0 0 (K3 (bZ r n) 0 3 4)) kk) n).trans ((bTl r n n).trans (by kernel_rfl))
theorem cNo : D249 r n aPa x0 (K3 (bZ r n) 0 3 4) = (K6 (aTf r n) 0 3 4 35 36 37) :=
 (by kernel_rfl : D249 r n aPa x0 (K3 (bZ r n) 0 3 4) = D249 r n vH (xs x0 0 (K3 (bZ r n) 0 3 4)) (K3 (bZ r n) 0 3 4)).trans
 ((cSy r n).trans (by kernel_rfl))
theorem cKi : D249 r n aNv x0 r249 = D249 r n wV x0 (K3 (bZ r n) 0 3 4) :=
 congrArg (fun k => D249 r n wV x0 k) (cXg r n)
theorem cFb : D249 r n wV x0 (K3 (bZ r n) 0 3 4) = D249 r n bFc x0 (K6 (aTf r n) 0 3 4 35 36 37) :=
 congrArg (fun k => D249 r n bFc x0 k) (cNo r n)
theorem cQd : D249 r n aNv x0 r249 = (K3 (aXd r n) 0 3 4) :=
 (cKi r n).trans
 ((cFb r n).trans
 ((by kernel_rfl)))
theorem bLs : D249 r n aHu x0 r249 = D249 r n bCa x0 (K3 (aXd r n) 0 3 4) :=
 congrArg (fun k => D249 r n bCa x0 k) (cQd r n)
theorem cNa : D249 r n aHu x0 r249 = (K3 (aUm r n) 0 3 4) :=
 (bLs r n).trans
 ((by kernel_rfl))
theorem bOe : D249 r n aPg x0 r249 = D249 r n bJc x0 (K3 (aUm r n) 0 3 4) :=
 congrArg (fun k => D249 r n bJc x0 k) (cNa r n)
theorem dCk : D249 r n aPg x0 r249 = (K3 (aUn r n) 0 3 4) :=
 (bOe r n).trans
 ((by kernel_rfl))
theorem bKk : D249 r n aLi x0 r249 = D249 r n bIw x0 (K3 (aUn r n) 0 3 4) :=
 congrArg (fun k => D249 r n bIw x0 k) (dCk r n)
theorem cZe : D249 r n aLi x0 r249 = (K3 (aYl r n) 0 3 4) :=
 (bKk r n).trans
 ((by kernel_rfl))
theorem bLj : D249 r n aKw x0 r249 = D249 r n bAr x0 (K3 (aYl r n) 0 3 4) :=
 congrArg (fun k => D249 r n bAr x0 k) (cZe r n)
theorem cSa : D249 r n aKw x0 r249 = (K2 (wZ r n) 0 3) :=
 (bLj r n).trans
 ((by kernel_rfl))
theorem dCn : D249 r n c249 x0 r249 = D249 r n aFp x0 (K2 (wZ r n) 0 3) :=
 congrArg (fun k => D249 r n aFp x0 k) (cSa r n)
theorem cQz (q0 : eM) : D249 r n aFp x0 (K2 q0 0 3) = fun (env : aO) (h : Hp) =>
 bnd (bN (env 1) h) fun v1 h1 =>
  q0 (env 0) v1 h1 := by kernel_rfl
theorem cJw : (fun (env : aO) (h : Hp) =>
 bnd (bN (env 1) h) fun v1 h1 =>
  wZ r n (env 0) v1 h1) = (K2 (s249 r n) 0 1) := by kernel_rfl
theorem dSu : D249 r n c249 x0 r249 = (K2 (s249 r n) 0 1) :=
 (dCn r n).trans
 ((cQz r n (wZ r n)).trans (cJw r n))
theorem dOd : aG CF r n 249 args h = s249 r n (aR args 0) (aR args 1) h :=
 (by kernel_rfl : aG CF r n 249 args h = D249 r n c249 x0 r249 (aK args) h).trans ((congrFun (congrFun (dSu r n) (aK args)) h).trans (by kernel_rfl))
noncomputable def aCn (r : RT) (n : Nat) (x3 : DV) (h0 : Hp) : aH :=
 bnd (aB 5 x3 h0) fun v1 h1 =>
 bnd (aA v1 h1) fun v2 h2 =>
 bnd (bT v2 h2) fun v3 h3 =>
 bnd (aE .eql v3 (aF 1) h3) fun v4 h4 =>
 some (v4, h4)
noncomputable def yK (r : RT) (n : Nat) (x0 x3 : DV) (h0 : Hp) : aH :=
 bnd (aB 5 x3 h0) fun v1 h1 =>
 bnd (aA v1 h1) fun v2 h2 =>
 bnd (bT v2 h2) fun v3 h3 =>
 bnd (aE .neq v3 (aF 1) h3) fun v4 h4 =>
 aT v4 (
 bnd (r 241 [x0, (.s []), (aF 1)] h4) fun v5 h5 =>
  aCn r n x3 h5) (
  aCn r n x3 h4)
noncomputable def s250 (r : RT) (n : Nat) (x0 x1 : DV) (h0 : Hp) : aH :=
 bnd (bN x1 h0) fun v1 h1 =>
  yK r n x0 v1 h1
noncomputable abbrev c250 : Code := cf Tryz.f250
noncomputable abbrev aDg : Code := cR c250
noncomputable abbrev dFv : Code := cR aDg
noncomputable abbrev bWy : Code := cL aDg
noncomputable abbrev aZx : Code := cL c250
noncomputable abbrev r250 : K := aQ CF Tryz.f250
noncomputable def D250 (r : RT) (n : Nat) (c : Code) (X : Nat → K) (k : K) : K := aM CF r 15 n c X r250 k
theorem cSd : D250 r n dFv x0 r250 = (K1 (aCn r n) 3) :=
 (by kernel_rfl)
theorem bXv : D250 r n aDg x0 r250 = D250 r n bWy x0 (K1 (aCn r n) 3) :=
 congrArg (fun k => D250 r n bWy x0 k) (cSd r n)
theorem dAl : D250 r n aDg x0 r250 = (K2 (yK r n) 0 3) :=
 (bXv r n).trans
 ((by kernel_rfl))
theorem dJw : D250 r n c250 x0 r250 = D250 r n aZx x0 (K2 (yK r n) 0 3) :=
 congrArg (fun k => D250 r n aZx x0 k) (dAl r n)
theorem dHw (q0 : eM) : D250 r n aZx x0 (K2 q0 0 3) = fun (env : aO) (h : Hp) =>
 bnd (bN (env 1) h) fun v1 h1 =>
  q0 (env 0) v1 h1 := by kernel_rfl
theorem cRx : (fun (env : aO) (h : Hp) =>
 bnd (bN (env 1) h) fun v1 h1 =>
  yK r n (env 0) v1 h1) = (K2 (s250 r n) 0 1) := by kernel_rfl
theorem dTe : D250 r n c250 x0 r250 = (K2 (s250 r n) 0 1) :=
 (dJw r n).trans
 ((dHw r n (yK r n)).trans (cRx r n))
theorem dGq : aG CF r n 250 args h = s250 r n (aR args 0) (aR args 1) h :=
 (by kernel_rfl : aG CF r n 250 args h = D250 r n c250 x0 r250 (aK args) h).trans ((congrFun (congrFun (dTe r n) (aK args)) h).trans (by kernel_rfl))
noncomputable def s267 (r : RT) (n : Nat) (x0 : DV) (h0 : Hp) : aH :=
 bnd (r 231 [x0] h0) fun v1 h1 =>
 bnd (gD v1 false (some (x0, h1)) h1) fun v2 h2 =>
 bnd (gD v1 false (r 234 [v2] h2) h2) fun v3 h3 =>
 bnd (aP v1 (.b true) v3 h3) fun v4 h4 =>
 some (v4, h4)
noncomputable abbrev c267 : Code := cf Tryz.f267
noncomputable abbrev r267 : K := aQ CF Tryz.f267
noncomputable def D267 (r : RT) (n : Nat) (c : Code) (X : Nat → K) (k : K) : K := aM CF r 9 n c X r267 k
theorem dXv : D267 r n c267 x0 r267 = (K1 (s267 r n) 0) :=
 (by kernel_rfl)
theorem dIz : aG CF r n 267 args h = s267 r n (aR args 0) h :=
 (by kernel_rfl : aG CF r n 267 args h = D267 r n c267 x0 r267 (aK args) h).trans ((congrFun (congrFun (dXv r n) (aK args)) h).trans (by kernel_rfl))
end Go.Dd

namespace Go.Dd
open Go.Proofs
variable (r : RT) (n : Nat) (args : List DV) (h : Hp)
noncomputable def eQ (r : RT) (n : Nat) (x4 x5 : DV) (h0 : Hp) : aH :=
 bnd (aI 6 x5 h0) fun v1 h1 =>
 bnd (aC 6 x4 v1 h1) fun _ h2 =>
 bnd (aI 6 x4 h2) fun v3 _ =>
 some (v3, h2)
noncomputable def aHf (r : RT) (n : Nat) (kk5 : eO) (x0 x4 x5 : DV) (h0 : Hp) : aH :=
 bnd (r 201 [x0, (aF 2), (.s [])] h0) fun v1 h1 =>
 aT v1 (
 bnd (aB 1 x5 h1) fun v2 h2 =>
 bnd (aA v2 h2) fun v3 h3 =>
 bnd (r 202 [x0] h3) fun v4 h4 =>
 cnd (aZ (aA v2 h4) v3 && true) (
 bnd (dA 1 v4 h4) fun v5 h5 =>
 bnd (dR .add v3 v5 h5) fun v6 h6 =>
 bnd (aB 1 x5 h6) fun v7 h7 =>
 bnd (aC 1 v7 v6 h7) fun v8 h8 =>
 bnd (aB 5 x5 (resv 1 h8)) fun v9 h9 =>
 bnd (aA v9 h9) fun v10 h10 =>
 bnd (r 272 [x0] h10) fun v11 h11 =>
 cnd (aZ (aA v9 h11) v10 && true) (
 bnd (r 271 [x0, v11] h11) fun v12 h12 =>
 cnd (aZ (aA v9 h12) v10 && true) (
 bnd (r 270 [x0, v12] h12) fun v13 h13 =>
 cnd (aZ (aA v9 h13) v10 && true) (
 bnd (aS (bB 0 h8.next) cV 1 [(0, 6, v13)] h13) fun v14 h14 =>
 bnd (aW 6 104 v10 v14 h14) fun v15 h15 =>
 bnd (aB 5 x5 h15) fun v16 h16 =>
 bnd (aC 1 v16 v15 h16) fun v17 h17 =>
      kk5 x0 x4 x5 h17))))) (
      eQ r n x4 x5 h1)
noncomputable def vQ (r : RT) (n : Nat) (m : Nat) : eO :=
 Nat.rec (motive := fun _ => eO) (fun _ _ _ _ => none) (fun _ ih => aHf r n ih) m
noncomputable def bSs (r : RT) (n : Nat) : eO := vQ r n n
noncomputable def zD (r : RT) (n : Nat) (x0 x4 x5 : DV) (h0 : Hp) : aH :=
 bSs r n x0 x4 x5 h0
noncomputable def aLp (r : RT) (n : Nat) (x0 x3 x4 : DV) (h0 : Hp) : aH :=
 bnd (aI 6 x3 h0) fun v1 h1 =>
 bnd (aN cV 1 [(0, 6, v1)] h1) fun v2 h2 =>
 bnd (r 294 [(.s []), v2] h2) fun v3 h3 =>
 bnd (bD cV h3) fun v4 h4 =>
 bnd (aC 6 v4 v3 h4) fun _ h5 =>
  zD r n x0 x4 v4 h5
noncomputable def yE (r : RT) (n : Nat) (x0 x3 x4 : DV) (h0 : Hp) : aH :=
 bnd (r 201 [x0, (aF 2), (.s [])] h0) fun v1 h1 =>
 bnd (fV .not v1 h1) fun v2 h2 =>
 aT v2 (
 bnd (aI 6 x3 h2) fun v3 h3 =>
 bnd (aC 6 x4 v3 h3) fun _ h4 =>
 bnd (aI 6 x4 h4) fun v5 _ =>
 some (v5, h4)) (
  aLp r n x0 x3 x4 h2)
noncomputable def s269 (r : RT) (n : Nat) (x0 x1 : DV) (h0 : Hp) : aH :=
 bnd (bN x1 h0) fun v1 h1 =>
 bnd (bD cV h1) fun v2 h2 =>
  yE r n x0 v1 v2 h2
noncomputable abbrev c269 : Code := cf Tryz.f269
noncomputable abbrev aFa : Code := cR c269
noncomputable abbrev aNq : Code := cR aFa
noncomputable abbrev aKn : Code := cR aNq
noncomputable abbrev dPr : Code := cR aKn
noncomputable abbrev aOo : Code := cL aKn
noncomputable abbrev aCj : Code := cL aOo
noncomputable abbrev mG : Code := cL aCj
noncomputable abbrev aVu : Code := cL aNq
noncomputable abbrev cEf : Code := cL aFa
noncomputable abbrev aCo : Code := cL c269
noncomputable abbrev r269 : K := aQ CF Tryz.f269
noncomputable def D269 (r : RT) (n : Nat) (c : Code) (X : Nat → K) (k : K) : K := aM CF r 34 n c X r269 k
theorem cRg : D269 r n dPr x0 r269 = (K2 (eQ r n) 4 5) :=
 (by kernel_rfl)
theorem bYu (kk5 : eO) (q0 : eM) : D269 r n mG (xs x0 0 (K2 q0 4 5)) (K3 kk5 0 4 5) = fun (env : aO) (h : Hp) =>
 bnd (r 201 [(env 0), (aF 2), (.s [])] h) fun v1 h1 =>
 aT v1 (
 bnd (aB 1 (env 5) h1) fun v2 h2 =>
 bnd (aA v2 h2) fun v3 h3 =>
 bnd (r 202 [(env 0)] h3) fun v4 h4 =>
 cnd (aZ (aA v2 h4) v3 && true) (
 bnd (dA 1 v4 h4) fun v5 h5 =>
 bnd (dR .add v3 v5 h5) fun v6 h6 =>
 bnd (aB 1 (env 5) h6) fun v7 h7 =>
 bnd (aC 1 v7 v6 h7) fun v8 h8 =>
 bnd (aB 5 (env 5) (resv 1 h8)) fun v9 h9 =>
 bnd (aA v9 h9) fun v10 h10 =>
 bnd (r 272 [(env 0)] h10) fun v11 h11 =>
 cnd (aZ (aA v9 h11) v10 && true) (
 bnd (r 271 [(env 0), v11] h11) fun v12 h12 =>
 cnd (aZ (aA v9 h12) v10 && true) (
 bnd (r 270 [(env 0), v12] h12) fun v13 h13 =>
 cnd (aZ (aA v9 h13) v10 && true) (
 bnd (aS (bB 0 h8.next) cV 1 [(0, 6, v13)] h13) fun v14 h14 =>
 bnd (aW 6 104 v10 v14 h14) fun v15 h15 =>
 bnd (aB 5 (env 5) h15) fun v16 h16 =>
 bnd (aC 1 v16 v15 h16) fun v17 h17 =>
      kk5 (env 0) (env 4) (env 5) h17))))) (
      q0 (env 4) (env 5) h1) := by kernel_rfl
theorem bNz (kk5 : eO) : (fun (env : aO) (h : Hp) =>
 bnd (r 201 [(env 0), (aF 2), (.s [])] h) fun v1 h1 =>
 aT v1 (
 bnd (aB 1 (env 5) h1) fun v2 h2 =>
 bnd (aA v2 h2) fun v3 h3 =>
 bnd (r 202 [(env 0)] h3) fun v4 h4 =>
 cnd (aZ (aA v2 h4) v3 && true) (
 bnd (dA 1 v4 h4) fun v5 h5 =>
 bnd (dR .add v3 v5 h5) fun v6 h6 =>
 bnd (aB 1 (env 5) h6) fun v7 h7 =>
 bnd (aC 1 v7 v6 h7) fun v8 h8 =>
 bnd (aB 5 (env 5) (resv 1 h8)) fun v9 h9 =>
 bnd (aA v9 h9) fun v10 h10 =>
 bnd (r 272 [(env 0)] h10) fun v11 h11 =>
 cnd (aZ (aA v9 h11) v10 && true) (
 bnd (r 271 [(env 0), v11] h11) fun v12 h12 =>
 cnd (aZ (aA v9 h12) v10 && true) (
 bnd (r 270 [(env 0), v12] h12) fun v13 h13 =>
 cnd (aZ (aA v9 h13) v10 && true) (
 bnd (aS (bB 0 h8.next) cV 1 [(0, 6, v13)] h13) fun v14 h14 =>
 bnd (aW 6 104 v10 v14 h14) fun v15 h15 =>
 bnd (aB 5 (env 5) h15) fun v16 h16 =>
 bnd (aC 1 v16 v15 h16) fun v17 h17 =>
      kk5 (env 0) (env 4) (env 5) h17))))) (
      eQ r n (env 4) (env 5) h1)) = (K3 (aHf r n kk5) 0 4 5) := by kernel_rfl
theorem cHu (kk5 : eO) : D269 r n mG (xs x0 0 (K2 (eQ r n) 4 5)) (K3 kk5 0 4 5) = (K3 (aHf r n kk5) 0 4 5) :=
 (bYu r n kk5 (eQ r n)).trans (bNz r n kk5)
theorem cBt (m : Nat) : aL (fun kk => D269 r n mG (xs x0 0 (K2 (eQ r n) 4 5)) kk) m = (K3 (vQ r n m) 0 4 5) := by
 induction m with
 | zero => exact (by kernel_rfl : aL (fun kk => D269 r n mG (xs x0 0 (K2 (eQ r n) 4 5)) kk) 0 = (K3 (vQ r n 0) 0 4 5))
 | succ m ih =>
  refine (by kernel_rfl : aL (fun kk => D269 r n mG (xs x0 0 (K2 (eQ r n) 4 5)) kk) (m + 1) = D269 r n mG (xs x0 0 (K2 (eQ r n) 4 5)) (aL (fun kk => D269 r n mG (xs x0 0 (K2 (eQ r n) 4 5)) kk) m)).trans ?_
  rw [ih]
  exact (cHu r n (vQ r n m)).trans (by kernel_rfl)
theorem cMg : D269 r n aCj (xs x0 0 (K2 (eQ r n) 4 5)) (K2 (eQ r n) 4 5) = (K3 (bSs r n) 0 4 5) :=
 (by kernel_rfl : D269 r n aCj (xs x0 0 (K2 (eQ r n) 4 5)) (K2 (eQ r n) 4 5) = aL (fun kk => D269 r n mG (xs x0 0 (K2 (eQ r n) 4 5)) kk) n).trans ((cBt r n n).trans (by kernel_rfl))
theorem cIp : D269 r n aKn x0 r269 = D269 r n aOo x0 (K2 (eQ r n) 4 5) :=
 congrArg (fun k => D269 r n aOo x0 k) (cRg r n)
theorem cWx : D269 r n aKn x0 r269 = (K3 (zD r n) 0 4 5) :=
 (cIp r n).trans
 ((by kernel_rfl : D269 r n aOo x0 (K2 (eQ r n) 4 5) = D269 r n aCj (xs x0 0 (K2 (eQ r n) 4 5)) (K2 (eQ r n) 4 5)).trans
 ((cMg r n).trans (by kernel_rfl)))
theorem bUl : D269 r n aNq x0 r269 = D269 r n aVu x0 (K3 (zD r n) 0 4 5) :=
 congrArg (fun k => D269 r n aVu x0 k) (cWx r n)
theorem bSr (q0 : eO) : D269 r n aVu x0 (K3 q0 0 4 5) = fun (env : aO) (h : Hp) =>
 bnd (aI 6 (env 3) h) fun v1 h1 =>
 bnd (aN cV 1 [(0, 6, v1)] h1) fun v2 h2 =>
 bnd (r 294 [(.s []), v2] h2) fun v3 h3 =>
 bnd (bD cV h3) fun v4 h4 =>
 bnd (aC 6 v4 v3 h4) fun _ h5 =>
  q0 (env 0) (env 4) v4 h5 := by kernel_rfl
theorem bMd : (fun (env : aO) (h : Hp) =>
 bnd (aI 6 (env 3) h) fun v1 h1 =>
 bnd (aN cV 1 [(0, 6, v1)] h1) fun v2 h2 =>
 bnd (r 294 [(.s []), v2] h2) fun v3 h3 =>
 bnd (bD cV h3) fun v4 h4 =>
 bnd (aC 6 v4 v3 h4) fun _ h5 =>
  zD r n (env 0) (env 4) v4 h5) = (K3 (aLp r n) 0 3 4) := by kernel_rfl
theorem cSn : D269 r n aNq x0 r269 = (K3 (aLp r n) 0 3 4) :=
 (bUl r n).trans
 ((bSr r n (zD r n)).trans (bMd r n))
theorem cGx : D269 r n aFa x0 r269 = D269 r n cEf x0 (K3 (aLp r n) 0 3 4) :=
 congrArg (fun k => D269 r n cEf x0 k) (cSn r n)
theorem cRb : D269 r n aFa x0 r269 = (K3 (yE r n) 0 3 4) :=
 (cGx r n).trans
 ((by kernel_rfl))
theorem dKw : D269 r n c269 x0 r269 = D269 r n aCo x0 (K3 (yE r n) 0 3 4) :=
 congrArg (fun k => D269 r n aCo x0 k) (cRb r n)
theorem dIo (q0 : eO) : D269 r n aCo x0 (K3 q0 0 3 4) = fun (env : aO) (h : Hp) =>
 bnd (bN (env 1) h) fun v1 h1 =>
 bnd (bD cV h1) fun v2 h2 =>
  q0 (env 0) v1 v2 h2 := by kernel_rfl
theorem cXx : (fun (env : aO) (h : Hp) =>
 bnd (bN (env 1) h) fun v1 h1 =>
 bnd (bD cV h1) fun v2 h2 =>
  yE r n (env 0) v1 v2 h2) = (K2 (s269 r n) 0 1) := by kernel_rfl
theorem dWr : D269 r n c269 x0 r269 = (K2 (s269 r n) 0 1) :=
 (dKw r n).trans
 ((dIo r n (yE r n)).trans (cXx r n))
theorem dFb : aG CF r n 269 args h = s269 r n (aR args 0) (aR args 1) h :=
 (by kernel_rfl : aG CF r n 269 args h = D269 r n c269 x0 r269 (aK args) h).trans ((congrFun (congrFun (dWr r n) (aK args)) h).trans (by kernel_rfl))
noncomputable def fE (r : RT) (n : Nat) (x3 x4 : DV) (h0 : Hp) : aH :=
 bnd (aI 6 x3 h0) fun v1 h1 =>
 bnd (aC 6 x4 v1 h1) fun _ h2 =>
 bnd (aI 6 x4 h2) fun v3 _ =>
 some (v3, h2)
noncomputable def aKs (r : RT) (n : Nat) (kk3 : eO) (x0 x3 x4 : DV) (h0 : Hp) : aH :=
 bnd (r 201 [x0, (aF 3), (.s [])] h0) fun v1 h1 =>
 aT v1 (
 bnd (r 202 [x0] h1) fun v2 h2 =>
 bnd (bD [(aF 0), (.s []), (aF 0), (aF 0)] h2) fun v3 h3 =>
 bnd (aC 4 v3 v2 h3) fun _ h4 =>
 bnd (aB 1 v3 (resv 1 h4)) fun v5 h5 =>
 bnd (aA v5 h5) fun v6 h6 =>
 bnd (aI 6 x3 h6) fun v7 h7 =>
 bnd (r 272 [x0] h7) fun v8 h8 =>
 cnd (aZ (aI 6 x3 h8) v7 && (aZ (aA v5 h8) v6 && true)) (
 bnd (r 271 [x0, v8] h8) fun v9 h9 =>
 cnd (aZ (aI 6 x3 h9) v7 && (aZ (aA v5 h9) v6 && true)) (
 bnd (aS (bB 0 h4.next) [(aF 0), (.s []), (aF 0), .l0, .l0, .l0, (aF 0), (.s []), (aF 0), .l0, .l0, .l0] 2 [(0, 6, v7), (6, 6, v9)] h9) fun v10 h10 =>
 bnd (r 294 [v6, v10] h10) fun v11 h11 =>
 bnd (aC 6 x3 v11 h11) fun v12 h12 =>
      kk3 x0 x3 x4 h12))) (
      fE r n x3 x4 h1)
noncomputable def uT (r : RT) (n : Nat) (m : Nat) : eO :=
 Nat.rec (motive := fun _ => eO) (fun _ _ _ _ => none) (fun _ ih => aKs r n ih) m
noncomputable def cHq (r : RT) (n : Nat) : eO := uT r n n
noncomputable def aAo (r : RT) (n : Nat) (x0 x3 x4 : DV) (h0 : Hp) : aH :=
 cHq r n x0 x3 x4 h0
noncomputable def s270 (r : RT) (n : Nat) (x0 x1 : DV) (h0 : Hp) : aH :=
 bnd (bN x1 h0) fun v1 h1 =>
 bnd (bD cV h1) fun v2 h2 =>
  aAo r n x0 v1 v2 h2
noncomputable abbrev c270 : Code := cf Tryz.f270
noncomputable abbrev aJl : Code := cR c270
noncomputable abbrev dIf : Code := cR aJl
noncomputable abbrev aKz : Code := cL aJl
noncomputable abbrev aMf : Code := cL aKz
noncomputable abbrev mK : Code := cL aMf
noncomputable abbrev aZp : Code := cL c270
noncomputable abbrev r270 : K := aQ CF Tryz.f270
noncomputable def D270 (r : RT) (n : Nat) (c : Code) (X : Nat → K) (k : K) : K := aM CF r 20 n c X r270 k
theorem dCi : D270 r n dIf x0 r270 = (K2 (fE r n) 3 4) :=
 (by kernel_rfl)
theorem bYq (kk3 : eO) (q0 : eM) : D270 r n mK (xs x0 0 (K2 q0 3 4)) (K3 kk3 0 3 4) = fun (env : aO) (h : Hp) =>
 bnd (r 201 [(env 0), (aF 3), (.s [])] h) fun v1 h1 =>
 aT v1 (
 bnd (r 202 [(env 0)] h1) fun v2 h2 =>
 bnd (bD [(aF 0), (.s []), (aF 0), (aF 0)] h2) fun v3 h3 =>
 bnd (aC 4 v3 v2 h3) fun _ h4 =>
 bnd (aB 1 v3 (resv 1 h4)) fun v5 h5 =>
 bnd (aA v5 h5) fun v6 h6 =>
 bnd (aI 6 (env 3) h6) fun v7 h7 =>
 bnd (r 272 [(env 0)] h7) fun v8 h8 =>
 cnd (aZ (aI 6 (env 3) h8) v7 && (aZ (aA v5 h8) v6 && true)) (
 bnd (r 271 [(env 0), v8] h8) fun v9 h9 =>
 cnd (aZ (aI 6 (env 3) h9) v7 && (aZ (aA v5 h9) v6 && true)) (
 bnd (aS (bB 0 h4.next) [(aF 0), (.s []), (aF 0), .l0, .l0, .l0, (aF 0), (.s []), (aF 0), .l0, .l0, .l0] 2 [(0, 6, v7), (6, 6, v9)] h9) fun v10 h10 =>
 bnd (r 294 [v6, v10] h10) fun v11 h11 =>
 bnd (aC 6 (env 3) v11 h11) fun v12 h12 =>
      kk3 (env 0) (env 3) (env 4) h12))) (
      q0 (env 3) (env 4) h1) := by kernel_rfl
theorem bLq (kk3 : eO) : (fun (env : aO) (h : Hp) =>
 bnd (r 201 [(env 0), (aF 3), (.s [])] h) fun v1 h1 =>
 aT v1 (
 bnd (r 202 [(env 0)] h1) fun v2 h2 =>
 bnd (bD [(aF 0), (.s []), (aF 0), (aF 0)] h2) fun v3 h3 =>
 bnd (aC 4 v3 v2 h3) fun _ h4 =>
 bnd (aB 1 v3 (resv 1 h4)) fun v5 h5 =>
 bnd (aA v5 h5) fun v6 h6 =>
 bnd (aI 6 (env 3) h6) fun v7 h7 =>
 bnd (r 272 [(env 0)] h7) fun v8 h8 =>
 cnd (aZ (aI 6 (env 3) h8) v7 && (aZ (aA v5 h8) v6 && true)) (
 bnd (r 271 [(env 0), v8] h8) fun v9 h9 =>
 cnd (aZ (aI 6 (env 3) h9) v7 && (aZ (aA v5 h9) v6 && true)) (
 bnd (aS (bB 0 h4.next) [(aF 0), (.s []), (aF 0), .l0, .l0, .l0, (aF 0), (.s []), (aF 0), .l0, .l0, .l0] 2 [(0, 6, v7), (6, 6, v9)] h9) fun v10 h10 =>
 bnd (r 294 [v6, v10] h10) fun v11 h11 =>
 bnd (aC 6 (env 3) v11 h11) fun v12 h12 =>
      kk3 (env 0) (env 3) (env 4) h12))) (
      fE r n (env 3) (env 4) h1)) = (K3 (aKs r n kk3) 0 3 4) := by kernel_rfl
theorem bYj (kk3 : eO) : D270 r n mK (xs x0 0 (K2 (fE r n) 3 4)) (K3 kk3 0 3 4) = (K3 (aKs r n kk3) 0 3 4) :=
 (bYq r n kk3 (fE r n)).trans (bLq r n kk3)
theorem bXw (m : Nat) : aL (fun kk => D270 r n mK (xs x0 0 (K2 (fE r n) 3 4)) kk) m = (K3 (uT r n m) 0 3 4) := by
 induction m with
 | zero => exact (by kernel_rfl : aL (fun kk => D270 r n mK (xs x0 0 (K2 (fE r n) 3 4)) kk) 0 = (K3 (uT r n 0) 0 3 4))
 | succ m ih =>
  refine (by kernel_rfl : aL (fun kk => D270 r n mK (xs x0 0 (K2 (fE r n) 3 4)) kk) (m + 1) = D270 r n mK (xs x0 0 (K2 (fE r n) 3 4)) (aL (fun kk => D270 r n mK (xs x0 0 (K2 (fE r n) 3 4)) kk) m)).trans ?_
  rw [ih]
  exact (bYj r n (uT r n m)).trans (by kernel_rfl)
theorem cZt : D270 r n aMf (xs x0 0 (K2 (fE r n) 3 4)) (K2 (fE r n) 3 4) = (K3 (cHq r n) 0 3 4) :=
 (by kernel_rfl : D270 r n aMf (xs x0 0 (K2 (fE r n) 3 4)) (K2 (fE r n) 3 4) = aL (fun kk => D270 r n mK (xs x0 0 (K2 (fE r n) 3 4)) kk) n).trans ((bXw r n n).trans (by kernel_rfl))
theorem bYe : D270 r n aJl x0 r270 = D270 r n aKz x0 (K2 (fE r n) 3 4) :=
 congrArg (fun k => D270 r n aKz x0 k) (dCi r n)
theorem cTa : D270 r n aJl x0 r270 = (K3 (aAo r n) 0 3 4) :=
 (bYe r n).trans
 ((by kernel_rfl : D270 r n aKz x0 (K2 (fE r n) 3 4) = D270 r n aMf (xs x0 0 (K2 (fE r n) 3 4)) (K2 (fE r n) 3 4)).trans
 ((cZt r n).trans (by kernel_rfl)))
theorem dPt : D270 r n c270 x0 r270 = D270 r n aZp x0 (K3 (aAo r n) 0 3 4) :=
 congrArg (fun k => D270 r n aZp x0 k) (cTa r n)
theorem dMp (q0 : eO) : D270 r n aZp x0 (K3 q0 0 3 4) = fun (env : aO) (h : Hp) =>
 bnd (bN (env 1) h) fun v1 h1 =>
 bnd (bD cV h1) fun v2 h2 =>
  q0 (env 0) v1 v2 h2 := by kernel_rfl
theorem cYx : (fun (env : aO) (h : Hp) =>
 bnd (bN (env 1) h) fun v1 h1 =>
 bnd (bD cV h1) fun v2 h2 =>
  aAo r n (env 0) v1 v2 h2) = (K2 (s270 r n) 0 1) := by kernel_rfl
theorem dVy : D270 r n c270 x0 r270 = (K2 (s270 r n) 0 1) :=
 (dPt r n).trans
 ((dMp r n (aAo r n)).trans (cYx r n))
theorem dFw : aG CF r n 270 args h = s270 r n (aR args 0) (aR args 1) h :=
 (by kernel_rfl : aG CF r n 270 args h = D270 r n c270 x0 r270 (aK args) h).trans ((congrFun (congrFun (dVy r n) (aK args)) h).trans (by kernel_rfl))
noncomputable def eU (r : RT) (n : Nat) (x3 x4 : DV) (h0 : Hp) : aH :=
 bnd (aI 6 x3 h0) fun v1 h1 =>
 bnd (aC 6 x4 v1 h1) fun _ h2 =>
 bnd (aI 6 x4 h2) fun v3 _ =>
 some (v3, h2)
noncomputable def aNb (r : RT) (n : Nat) (kk3 : eO) (x0 x3 x4 : DV) (h0 : Hp) : aH :=
 bnd (r 201 [x0, (aF 1), (.s [])] h0) fun v1 h1 =>
 aT v1 (
 bnd (r 202 [x0] (resv 1 h1)) fun v2 h2 =>
 bnd (dA 1 v2 h2) fun v3 h3 =>
 bnd (aI 6 x3 h3) fun v4 h4 =>
 cnd (aZ (aI 6 x3 (resv 1 h1)) v4 && true) (
 bnd (aS (bB 0 h1.next) cV 1 [(0, 6, v4)] h4) fun v5 h5 =>
 bnd (r 294 [v3, v5] h5) fun v6 h6 =>
 bnd (aC 6 x3 v6 h6) fun v7 h7 =>
      kk3 x0 x3 x4 h7)) (
      eU r n x3 x4 h1)
noncomputable def tJ (r : RT) (n : Nat) (m : Nat) : eO :=
 Nat.rec (motive := fun _ => eO) (fun _ _ _ _ => none) (fun _ ih => aNb r n ih) m
noncomputable def bTy (r : RT) (n : Nat) : eO := tJ r n n
noncomputable def yY (r : RT) (n : Nat) (x0 x3 x4 : DV) (h0 : Hp) : aH :=
 bTy r n x0 x3 x4 h0
noncomputable def s271 (r : RT) (n : Nat) (x0 x1 : DV) (h0 : Hp) : aH :=
 bnd (bN x1 h0) fun v1 h1 =>
 bnd (bD cV h1) fun v2 h2 =>
  yY r n x0 v1 v2 h2
noncomputable abbrev c271 : Code := cf Tryz.f271
noncomputable abbrev aIx : Code := cR c271
noncomputable abbrev dPe : Code := cR aIx
noncomputable abbrev aMa : Code := cL aIx
noncomputable abbrev aNo : Code := cL aMa
noncomputable abbrev mY : Code := cL aNo
noncomputable abbrev aRy : Code := cL c271
noncomputable abbrev r271 : K := aQ CF Tryz.f271
noncomputable def D271 (r : RT) (n : Nat) (c : Code) (X : Nat → K) (k : K) : K := aM CF r 14 n c X r271 k
theorem cZb : D271 r n dPe x0 r271 = (K2 (eU r n) 3 4) :=
 (by kernel_rfl)
theorem bWj (kk3 : eO) (q0 : eM) : D271 r n mY (xs x0 0 (K2 q0 3 4)) (K3 kk3 0 3 4) = fun (env : aO) (h : Hp) =>
 bnd (r 201 [(env 0), (aF 1), (.s [])] h) fun v1 h1 =>
 aT v1 (
 bnd (r 202 [(env 0)] (resv 1 h1)) fun v2 h2 =>
 bnd (dA 1 v2 h2) fun v3 h3 =>
 bnd (aI 6 (env 3) h3) fun v4 h4 =>
 cnd (aZ (aI 6 (env 3) (resv 1 h1)) v4 && true) (
 bnd (aS (bB 0 h1.next) cV 1 [(0, 6, v4)] h4) fun v5 h5 =>
 bnd (r 294 [v3, v5] h5) fun v6 h6 =>
 bnd (aC 6 (env 3) v6 h6) fun v7 h7 =>
      kk3 (env 0) (env 3) (env 4) h7)) (
      q0 (env 3) (env 4) h1) := by kernel_rfl
theorem bKt (kk3 : eO) : (fun (env : aO) (h : Hp) =>
 bnd (r 201 [(env 0), (aF 1), (.s [])] h) fun v1 h1 =>
 aT v1 (
 bnd (r 202 [(env 0)] (resv 1 h1)) fun v2 h2 =>
 bnd (dA 1 v2 h2) fun v3 h3 =>
 bnd (aI 6 (env 3) h3) fun v4 h4 =>
 cnd (aZ (aI 6 (env 3) (resv 1 h1)) v4 && true) (
 bnd (aS (bB 0 h1.next) cV 1 [(0, 6, v4)] h4) fun v5 h5 =>
 bnd (r 294 [v3, v5] h5) fun v6 h6 =>
 bnd (aC 6 (env 3) v6 h6) fun v7 h7 =>
      kk3 (env 0) (env 3) (env 4) h7)) (
      eU r n (env 3) (env 4) h1)) = (K3 (aNb r n kk3) 0 3 4) := by kernel_rfl
theorem cDf (kk3 : eO) : D271 r n mY (xs x0 0 (K2 (eU r n) 3 4)) (K3 kk3 0 3 4) = (K3 (aNb r n kk3) 0 3 4) :=
 (bWj r n kk3 (eU r n)).trans (bKt r n kk3)
theorem bZe (m : Nat) : aL (fun kk => D271 r n mY (xs x0 0 (K2 (eU r n) 3 4)) kk) m = (K3 (tJ r n m) 0 3 4) := by
 induction m with
 | zero => exact (by kernel_rfl : aL (fun kk => D271 r n mY (xs x0 0 (K2 (eU r n) 3 4)) kk) 0 = (K3 (tJ r n 0) 0 3 4))
 | succ m ih =>
  refine (by kernel_rfl : aL (fun kk => D271 r n mY (xs x0 0 (K2 (eU r n) 3 4)) kk) (m + 1) = D271 r n mY (xs x0 0 (K2 (eU r n) 3 4)) (aL (fun kk => D271 r n mY (xs x0 0 (K2 (eU r n) 3 4)) kk) m)).trans ?_
  rw [ih]
  exact (cDf r n (tJ r n m)).trans (by kernel_rfl)
theorem dAg : D271 r n aNo (xs x0 0 (K2 (eU r n) 3 4)) (K2 (eU r n) 3 4) = (K3 (bTy r n) 0 3 4) :=
 (by kernel_rfl : D271 r n aNo (xs x0 0 (K2 (eU r n) 3 4)) (K2 (eU r n) 3 4) = aL (fun kk => D271 r n mY (xs x0 0 (K2 (eU r n) 3 4)) kk) n).trans ((bZe r n n).trans (by kernel_rfl))
theorem bYm : D271 r n aIx x0 r271 = D271 r n aMa x0 (K2 (eU r n) 3 4) :=
 congrArg (fun k => D271 r n aMa x0 k) (cZb r n)
theorem dAw : D271 r n aIx x0 r271 = (K3 (yY r n) 0 3 4) :=
 (bYm r n).trans
 ((by kernel_rfl : D271 r n aMa x0 (K2 (eU r n) 3 4) = D271 r n aNo (xs x0 0 (K2 (eU r n) 3 4)) (K2 (eU r n) 3 4)).trans
 ((dAg r n).trans (by kernel_rfl)))
theorem dEv : D271 r n c271 x0 r271 = D271 r n aRy x0 (K3 (yY r n) 0 3 4) :=
 congrArg (fun k => D271 r n aRy x0 k) (dAw r n)
theorem dIy (q0 : eO) : D271 r n aRy x0 (K3 q0 0 3 4) = fun (env : aO) (h : Hp) =>
 bnd (bN (env 1) h) fun v1 h1 =>
 bnd (bD cV h1) fun v2 h2 =>
  q0 (env 0) v1 v2 h2 := by kernel_rfl
theorem cYf : (fun (env : aO) (h : Hp) =>
 bnd (bN (env 1) h) fun v1 h1 =>
 bnd (bD cV h1) fun v2 h2 =>
  yY r n (env 0) v1 v2 h2) = (K2 (s271 r n) 0 1) := by kernel_rfl
theorem dYn : D271 r n c271 x0 r271 = (K2 (s271 r n) 0 1) :=
 (dEv r n).trans
 ((dIy r n (yY r n)).trans (cYf r n))
theorem dPl : aG CF r n 271 args h = s271 r n (aR args 0) (aR args 1) h :=
 (by kernel_rfl : aG CF r n 271 args h = D271 r n c271 x0 r271 (aK args) h).trans ((congrFun (congrFun (dYn r n) (aK args)) h).trans (by kernel_rfl))
noncomputable def oO (r : RT) (n : Nat) (x2 : DV) (h0 : Hp) : aH :=
 bnd (bA cV [] h0) fun v1 h1 =>
 bnd (aC 6 x2 v1 h1) fun _ h2 =>
 bnd (aI 6 x2 h2) fun v3 _ =>
 some (v3, h2)
noncomputable def rH (r : RT) (n : Nat) (x0 x2 : DV) (h0 : Hp) : aH :=
 bnd (r 205 [x0, (aF 0)] h0) fun v1 h1 =>
 bnd (bD [(aF 0), (.s []), (aF 0), (aF 0)] h1) fun v2 h2 =>
 bnd (aC 4 v2 v1 h2) fun _ h3 =>
 bnd (aU x0 h3) fun v4 h4 =>
 bnd (aB 3 v4 h4) fun v5 h5 =>
 bnd (aA v5 h5) fun v6 h6 =>
 bnd (aE .neq v6 (aF 0) h6) fun v7 h7 =>
 aT v7 (
  oO r n x2 h7) (
 bnd (aB 0 v2 h7) fun v8 h8 =>
 bnd (aA v8 h8) fun v9 h9 =>
 bnd (aE .eql v9 (aF 1) h9) fun v10 h10 =>
 aT v10 (
 bnd (r 202 [x0] h10) fun v11 h11 =>
 bnd (dA 1 v11 h11) fun v12 h12 =>
 bnd (bA cV [(0, 1, (aF 5)), (1, 1, v12)] h12) fun v13 h13 =>
 bnd (aC 6 x2 v13 h13) fun _ h14 =>
 bnd (aI 6 x2 h14) fun v15 _ =>
 some (v15, h14)) (
 bnd (aB 0 v2 h10) fun v16 h16 =>
 bnd (aA v16 h16) fun v17 h17 =>
 bnd (aE .eql v17 (aF 7) h17) fun v18 h18 =>
 aT v18 (
 bnd (r 296 [x0, (.f 297 [x0] [])] h18) fun v19 h19 =>
 bnd (aC 6 x2 v19 h19) fun _ h20 =>
 bnd (aI 6 x2 h20) fun v21 _ =>
 some (v21, h20)) (
 bnd (r 201 [x0, (aF 10), (.s [40])] h18) fun v22 h22 =>
 aT v22 (
 bnd (r 296 [x0, (.f 298 [x0] [])] h22) fun v23 h23 =>
 bnd (aC 6 x2 v23 h23) fun _ h24 =>
 bnd (aI 6 x2 h24) fun v25 _ =>
 some (v25, h24)) (
 bnd (r 201 [x0, (aF 10), (.s [91])] h22) fun v26 h26 =>
 aT v26 (
 bnd (r 296 [x0, (.f 299 [x0] [])] h26) fun v27 h27 =>
 bnd (aC 6 x2 v27 h27) fun _ h28 =>
 bnd (aI 6 x2 h28) fun v29 _ =>
 some (v29, h28)) (
 bnd (aI 4 v2 h26) fun v30 h30 =>
 bnd (r 204 [x0, v30, (aF 13)] h30) fun v31 h31 =>
      oO r n x2 h31)))))
noncomputable def qS (r : RT) (n : Nat) (x0 x2 : DV) (h0 : Hp) : aH :=
 bnd (r 295 [x0] h0) fun v1 h1 =>
 bnd (aD 0 v1 h1) fun v2 h2 =>
 bnd (aD 1 v1 h2) fun v3 h3 =>
 bnd (bD cV h3) fun v4 h4 =>
 bnd (aC 6 v4 v2 h4) fun _ h5 =>
 aT v3 (
 bnd (aI 6 v4 h5) fun v6 h6 =>
 bnd (aC 6 x2 v6 h6) fun _ h7 =>
 bnd (aI 6 x2 h7) fun v8 _ =>
 some (v8, h7)) (
  rH r n x0 x2 h5)
noncomputable def s272 (r : RT) (n : Nat) (x0 : DV) (h0 : Hp) : aH :=
 bnd (bD cV h0) fun v1 h1 =>
  qS r n x0 v1 h1
noncomputable abbrev c272 : Code := cf Tryz.f272
noncomputable abbrev aCl : Code := cR c272
noncomputable abbrev aFs : Code := cR aCl
noncomputable abbrev dNe : Code := cR aFs
noncomputable abbrev aZe : Code := cL aFs
noncomputable abbrev aTu : Code := cL aCl
noncomputable abbrev aTw : Code := cL c272
noncomputable abbrev r272 : K := aQ CF Tryz.f272
noncomputable def D272 (r : RT) (n : Nat) (c : Code) (X : Nat → K) (k : K) : K := aM CF r 55 n c X r272 k
theorem cRp : D272 r n dNe x0 r272 = (K1 (oO r n) 2) :=
 (by kernel_rfl)
theorem cJr : D272 r n aFs x0 r272 = D272 r n aZe x0 (K1 (oO r n) 2) :=
 congrArg (fun k => D272 r n aZe x0 k) (cRp r n)
theorem bXo (q0 : TT1) : D272 r n aZe x0 (K1 q0 2) = fun (env : aO) (h : Hp) =>
 bnd (r 205 [(env 0), (aF 0)] h) fun v1 h1 =>
 bnd (bD [(aF 0), (.s []), (aF 0), (aF 0)] h1) fun v2 h2 =>
 bnd (aC 4 v2 v1 h2) fun _ h3 =>
 bnd (aU (env 0) h3) fun v4 h4 =>
 bnd (aB 3 v4 h4) fun v5 h5 =>
 bnd (aA v5 h5) fun v6 h6 =>
 bnd (aE .neq v6 (aF 0) h6) fun v7 h7 =>
 aT v7 (
   q0 (env 2) h7) (
 bnd (aB 0 v2 h7) fun v8 h8 =>
 bnd (aA v8 h8) fun v9 h9 =>
 bnd (aE .eql v9 (aF 1) h9) fun v10 h10 =>
 aT v10 (
 bnd (r 202 [(env 0)] h10) fun v11 h11 =>
 bnd (dA 1 v11 h11) fun v12 h12 =>
 bnd (bA cV [(0, 1, (aF 5)), (1, 1, v12)] h12) fun v13 h13 =>
 bnd (aC 6 (env 2) v13 h13) fun _ h14 =>
 bnd (aI 6 (env 2) h14) fun v15 _ =>
 some (v15, h14)) (
 bnd (aB 0 v2 h10) fun v16 h16 =>
 bnd (aA v16 h16) fun v17 h17 =>
 bnd (aE .eql v17 (aF 7) h17) fun v18 h18 =>
 aT v18 (
 bnd (r 296 [(env 0), (.f 297 [(env 0)] [])] h18) fun v19 h19 =>
 bnd (aC 6 (env 2) v19 h19) fun _ h20 =>
 bnd (aI 6 (env 2) h20) fun v21 _ =>
 some (v21, h20)) (
 bnd (r 201 [(env 0), (aF 10), (.s [40])] h18) fun v22 h22 =>
 aT v22 (
 bnd (r 296 [(env 0), (.f 298 [(env 0)] [])] h22) fun v23 h23 =>
 bnd (aC 6 (env 2) v23 h23) fun _ h24 =>
 bnd (aI 6 (env 2) h24) fun v25 _ =>
 some (v25, h24)) (
 bnd (r 201 [(env 0), (aF 10), (.s [91])] h22) fun v26 h26 =>
 aT v26 (
 bnd (r 296 [(env 0), (.f 299 [(env 0)] [])] h26) fun v27 h27 =>
 bnd (aC 6 (env 2) v27 h27) fun _ h28 =>
 bnd (aI 6 (env 2) h28) fun v29 _ =>
 some (v29, h28)) (
 bnd (aI 4 v2 h26) fun v30 h30 =>
 bnd (r 204 [(env 0), v30, (aF 13)] h30) fun v31 h31 =>
       q0 (env 2) h31))))) := by kernel_rfl
theorem bNb : (fun (env : aO) (h : Hp) =>
 bnd (r 205 [(env 0), (aF 0)] h) fun v1 h1 =>
 bnd (bD [(aF 0), (.s []), (aF 0), (aF 0)] h1) fun v2 h2 =>
 bnd (aC 4 v2 v1 h2) fun _ h3 =>
 bnd (aU (env 0) h3) fun v4 h4 =>
 bnd (aB 3 v4 h4) fun v5 h5 =>
 bnd (aA v5 h5) fun v6 h6 =>
 bnd (aE .neq v6 (aF 0) h6) fun v7 h7 =>
 aT v7 (
   oO r n (env 2) h7) (
 bnd (aB 0 v2 h7) fun v8 h8 =>
 bnd (aA v8 h8) fun v9 h9 =>
 bnd (aE .eql v9 (aF 1) h9) fun v10 h10 =>
 aT v10 (
 bnd (r 202 [(env 0)] h10) fun v11 h11 =>
 bnd (dA 1 v11 h11) fun v12 h12 =>
 bnd (bA cV [(0, 1, (aF 5)), (1, 1, v12)] h12) fun v13 h13 =>
 bnd (aC 6 (env 2) v13 h13) fun _ h14 =>
 bnd (aI 6 (env 2) h14) fun v15 _ =>
 some (v15, h14)) (
 bnd (aB 0 v2 h10) fun v16 h16 =>
 bnd (aA v16 h16) fun v17 h17 =>
 bnd (aE .eql v17 (aF 7) h17) fun v18 h18 =>
 aT v18 (
 bnd (r 296 [(env 0), (.f 297 [(env 0)] [])] h18) fun v19 h19 =>
 bnd (aC 6 (env 2) v19 h19) fun _ h20 =>
 bnd (aI 6 (env 2) h20) fun v21 _ =>
 some (v21, h20)) (
 bnd (r 201 [(env 0), (aF 10), (.s [40])] h18) fun v22 h22 =>
 aT v22 (
 bnd (r 296 [(env 0), (.f 298 [(env 0)] [])] h22) fun v23 h23 =>
 bnd (aC 6 (env 2) v23 h23) fun _ h24 =>
 bnd (aI 6 (env 2) h24) fun v25 _ =>
 some (v25, h24)) (
 bnd (r 201 [(env 0), (aF 10), (.s [91])] h22) fun v26 h26 =>
 aT v26 (
 bnd (r 296 [(env 0), (.f 299 [(env 0)] [])] h26) fun v27 h27 =>
 bnd (aC 6 (env 2) v27 h27) fun _ h28 =>
 bnd (aI 6 (env 2) h28) fun v29 _ =>
 some (v29, h28)) (
 bnd (aI 4 v2 h26) fun v30 h30 =>
 bnd (r 204 [(env 0), v30, (aF 13)] h30) fun v31 h31 =>
       oO r n (env 2) h31)))))) = (K2 (rH r n) 0 2) := by kernel_rfl
theorem cPv : D272 r n aFs x0 r272 = (K2 (rH r n) 0 2) :=
 (cJr r n).trans
 ((bXo r n (oO r n)).trans (bNb r n))
theorem cBk : D272 r n aCl x0 r272 = D272 r n aTu x0 (K2 (rH r n) 0 2) :=
 congrArg (fun k => D272 r n aTu x0 k) (cPv r n)
theorem bRl (q0 : eM) : D272 r n aTu x0 (K2 q0 0 2) = fun (env : aO) (h : Hp) =>
 bnd (r 295 [(env 0)] h) fun v1 h1 =>
 bnd (aD 0 v1 h1) fun v2 h2 =>
 bnd (aD 1 v1 h2) fun v3 h3 =>
 bnd (bD cV h3) fun v4 h4 =>
 bnd (aC 6 v4 v2 h4) fun _ h5 =>
 aT v3 (
 bnd (aI 6 v4 h5) fun v6 h6 =>
 bnd (aC 6 (env 2) v6 h6) fun _ h7 =>
 bnd (aI 6 (env 2) h7) fun v8 _ =>
 some (v8, h7)) (
   q0 (env 0) (env 2) h5) := by kernel_rfl
theorem bKb : (fun (env : aO) (h : Hp) =>
 bnd (r 295 [(env 0)] h) fun v1 h1 =>
 bnd (aD 0 v1 h1) fun v2 h2 =>
 bnd (aD 1 v1 h2) fun v3 h3 =>
 bnd (bD cV h3) fun v4 h4 =>
 bnd (aC 6 v4 v2 h4) fun _ h5 =>
 aT v3 (
 bnd (aI 6 v4 h5) fun v6 h6 =>
 bnd (aC 6 (env 2) v6 h6) fun _ h7 =>
 bnd (aI 6 (env 2) h7) fun v8 _ =>
 some (v8, h7)) (
   rH r n (env 0) (env 2) h5)) = (K2 (qS r n) 0 2) := by kernel_rfl
theorem dBt : D272 r n aCl x0 r272 = (K2 (qS r n) 0 2) :=
 (cBk r n).trans
 ((bRl r n (rH r n)).trans (bKb r n))
theorem dFx : D272 r n c272 x0 r272 = D272 r n aTw x0 (K2 (qS r n) 0 2) :=
 congrArg (fun k => D272 r n aTw x0 k) (dBt r n)
theorem dHr (q0 : eM) : D272 r n aTw x0 (K2 q0 0 2) = fun (env : aO) (h : Hp) =>
 bnd (bD cV h) fun v1 h1 =>
  q0 (env 0) v1 h1 := by kernel_rfl
theorem dBu : (fun (env : aO) (h : Hp) =>
 bnd (bD cV h) fun v1 h1 =>
  qS r n (env 0) v1 h1) = (K1 (s272 r n) 0) := by kernel_rfl
theorem dYf : D272 r n c272 x0 r272 = (K1 (s272 r n) 0) :=
 (dFx r n).trans
 ((dHr r n (qS r n)).trans (dBu r n))
theorem dGv : aG CF r n 272 args h = s272 r n (aR args 0) h :=
 (by kernel_rfl : aG CF r n 272 args h = D272 r n c272 x0 r272 (aK args) h).trans ((congrFun (congrFun (dYf r n) (aK args)) h).trans (by kernel_rfl))
noncomputable def eR (r : RT) (n : Nat) (h0 : Hp) : aH :=
 some ((.i .i64 (Int.negSucc 0)), h0)
noncomputable def bAs (r : RT) (n : Nat) (kk4 : dI) (x0 x1 x7 x8 : DV) (h0 : Hp) : aH :=
 bnd (aE .lss x8 x7 h0) fun v1 h1 =>
 aT v1 (
 bnd (aJ 4 x0 x8 h1) fun v2 h2 =>
 bnd (aI 4 v2 h2) fun v3 h3 =>
 bnd (dD CF r x1 [v3] h3) fun v4 h4 =>
 aT v4 (
 some (x8, h4)) (
 bnd (aE .add x8 (aF 1) h4) fun v5 h5 =>
    kk4 x0 x1 x7 v5 h5)) (
      eR r n h1)
noncomputable def vC (r : RT) (n : Nat) (m : Nat) : dI :=
 Nat.rec (motive := fun _ => dI) (fun _ _ _ _ _ => none) (fun _ ih => bAs r n ih) m
noncomputable def bVh (r : RT) (n : Nat) : dI := vC r n n
noncomputable def aWw (r : RT) (n : Nat) (x0 x1 x7 x8 : DV) (h0 : Hp) : aH :=
 bVh r n x0 x1 x7 x8 h0
noncomputable def bAn (r : RT) (n : Nat) (x0 x1 : DV) (h0 : Hp) : aH :=
 bnd (bT x0 h0) fun v1 h1 =>
  aWw r n x0 x1 v1 (aF 0) h1
noncomputable def s275 (r : RT) (n : Nat) (x0 x1 : DV) (h0 : Hp) : aH :=
 bAn r n x0 x1 h0
noncomputable abbrev c275 : Code := cf Tryz.f275
noncomputable abbrev aFt : Code := cR c275
noncomputable abbrev dHo : Code := cR aFt
noncomputable abbrev xM : Code := cL aFt
noncomputable abbrev aVt : Code := cR xM
noncomputable abbrev aKo : Code := cL aVt
noncomputable abbrev oE : Code := cL aKo
noncomputable abbrev bPb : Code := cL xM
noncomputable abbrev cLk : Code := cL c275
noncomputable abbrev r275 : K := aQ CF Tryz.f275
noncomputable def D275 (r : RT) (n : Nat) (c : Code) (X : Nat → K) (k : K) : K := aM CF r 19 n c X r275 k
theorem cMt : D275 r n dHo x0 r275 = (K0 (eR r n)) :=
 (by kernel_rfl)
theorem cCb (kk4 : dI) : D275 r n oE (xs x0 0 (K0 (eR r n))) (K4 kk4 0 1 7 8) = (K4 (bAs r n kk4) 0 1 7 8) :=
 (by kernel_rfl)
theorem bUt (m : Nat) : aL (fun kk => D275 r n oE (xs x0 0 (K0 (eR r n))) kk) m = (K4 (vC r n m) 0 1 7 8) := by
 induction m with
 | zero => exact (by kernel_rfl : aL (fun kk => D275 r n oE (xs x0 0 (K0 (eR r n))) kk) 0 = (K4 (vC r n 0) 0 1 7 8))
 | succ m ih =>
  refine (by kernel_rfl : aL (fun kk => D275 r n oE (xs x0 0 (K0 (eR r n))) kk) (m + 1) = D275 r n oE (xs x0 0 (K0 (eR r n))) (aL (fun kk => D275 r n oE (xs x0 0 (K0 (eR r n))) kk) m)).trans ?_
  rw [ih]
  exact (cCb r n (vC r n m)).trans (by kernel_rfl)
theorem cUe : D275 r n aKo (xs x0 0 (K0 (eR r n))) (K0 (eR r n)) = (K4 (bVh r n) 0 1 7 8) :=
 (by kernel_rfl : D275 r n aKo (xs x0 0 (K0 (eR r n))) (K0 (eR r n)) = aL (fun kk => D275 r n oE (xs x0 0 (K0 (eR r n))) kk) n).trans ((bUt r n n).trans (by kernel_rfl))
theorem cOn : D275 r n aVt x0 (K0 (eR r n)) = (K4 (aWw r n) 0 1 7 8) :=
 (by kernel_rfl : D275 r n aVt x0 (K0 (eR r n)) = D275 r n aKo (xs x0 0 (K0 (eR r n))) (K0 (eR r n))).trans
 ((cUe r n).trans (by kernel_rfl))
theorem bOt : D275 r n aFt x0 r275 = D275 r n xM x0 (K0 (eR r n)) :=
 congrArg (fun k => D275 r n xM x0 k) (cMt r n)
theorem cDv : D275 r n xM x0 (K0 (eR r n)) = D275 r n bPb x0 (K4 (aWw r n) 0 1 7 8) :=
 congrArg (fun k => D275 r n bPb x0 k) (cOn r n)
theorem dBz : D275 r n aFt x0 r275 = (K2 (bAn r n) 0 1) :=
 (bOt r n).trans
 ((cDv r n).trans
 ((by kernel_rfl)))
theorem dHd : D275 r n c275 x0 r275 = D275 r n cLk x0 (K2 (bAn r n) 0 1) :=
 congrArg (fun k => D275 r n cLk x0 k) (dBz r n)
theorem dWs : D275 r n c275 x0 r275 = (K2 (s275 r n) 0 1) :=
 (dHd r n).trans
 ((by kernel_rfl))
theorem dFc : aG CF r n 275 args h = s275 r n (aR args 0) (aR args 1) h :=
 (by kernel_rfl : aG CF r n 275 args h = D275 r n c275 x0 r275 (aK args) h).trans ((congrFun (congrFun (dWs r n) (aK args)) h).trans (by kernel_rfl))
noncomputable def s276 (r : RT) (n : Nat) (x0 x1 : DV) (h0 : Hp) : aH :=
 bnd (bN x0 h0) fun v1 h1 =>
 bnd (aB 0 v1 h1) fun v2 h2 =>
 bnd (aA v2 h2) fun v3 h3 =>
 bnd (aA x1 h3) fun v4 h4 =>
 bnd (dR .eql v3 v4 h4) fun v5 h5 =>
 some (v5, h5)
noncomputable abbrev c276 : Code := cf Tryz.f276
noncomputable abbrev r276 : K := aQ CF Tryz.f276
noncomputable def D276 (r : RT) (n : Nat) (c : Code) (X : Nat → K) (k : K) : K := aM CF r 8 n c X r276 k
theorem dYp : D276 r n c276 x0 r276 = (K2 (s276 r n) 0 1) :=
 (by kernel_rfl)
theorem dOq : aG CF r n 276 args h = s276 r n (aR args 0) (aR args 1) h :=
 (by kernel_rfl : aG CF r n 276 args h = D276 r n c276 x0 r276 (aK args) h).trans ((congrFun (congrFun (dYp r n) (aK args)) h).trans (by kernel_rfl))
noncomputable def s277 (r : RT) (n : Nat) (x0 x1 : DV) (h0 : Hp) : aH :=
 bnd (bN x0 h0) fun v1 h1 =>
 bnd (aI 4 v1 h1) fun v2 h2 =>
 bnd (aI 4 x1 h2) fun v3 h3 =>
 bnd (r 278 [v2, v3] h3) fun v4 h4 =>
 some (v4, h4)
noncomputable abbrev c277 : Code := cf Tryz.f277
noncomputable abbrev r277 : K := aQ CF Tryz.f277
noncomputable def D277 (r : RT) (n : Nat) (c : Code) (X : Nat → K) (k : K) : K := aM CF r 7 n c X r277 k
theorem dTr : D277 r n c277 x0 r277 = (K2 (s277 r n) 0 1) :=
 (by kernel_rfl)
theorem dJb : aG CF r n 277 args h = s277 r n (aR args 0) (aR args 1) h :=
 (by kernel_rfl : aG CF r n 277 args h = D277 r n c277 x0 r277 (aK args) h).trans ((congrFun (congrFun (dTr r n) (aK args)) h).trans (by kernel_rfl))
noncomputable def s278 (r : RT) (n : Nat) (x0 x1 : DV) (h0 : Hp) : aH :=
 bnd (bN x0 h0) fun v1 h1 =>
 bnd (bN x1 h1) fun v2 h2 =>
 bnd (aB 0 v1 h2) fun v3 h3 =>
 bnd (aA v3 h3) fun v4 h4 =>
 bnd (aB 0 v2 h4) fun v5 h5 =>
 bnd (aA v5 h5) fun v6 h6 =>
 bnd (aE .eql v4 v6 h6) fun v7 h7 =>
 bnd (gD v7 true (aB 1 v1 h7) h7) fun v8 h8 =>
 bnd (gD v7 true (aA v8 h8) h8) fun v9 h9 =>
 bnd (gD v7 true (aB 1 v2 h9) h9) fun v10 h10 =>
 bnd (gD v7 true (aA v10 h10) h10) fun v11 h11 =>
 bnd (gD v7 true (dR .eql v9 v11 h11) h11) fun v12 h12 =>
 bnd (aP v7 v12 (.b false) h12) fun v13 h13 =>
 bnd (gD v13 true (aB 2 v1 h13) h13) fun v14 h14 =>
 bnd (gD v13 true (aA v14 h14) h14) fun v15 h15 =>
 bnd (gD v13 true (aB 2 v2 h15) h15) fun v16 h16 =>
 bnd (gD v13 true (aA v16 h16) h16) fun v17 h17 =>
 bnd (gD v13 true (aE .eql v15 v17 h17) h17) fun v18 h18 =>
 bnd (aP v13 v18 (.b false) h18) fun v19 h19 =>
 bnd (gD v19 true (aB 3 v1 h19) h19) fun v20 h20 =>
 bnd (gD v19 true (aA v20 h20) h20) fun v21 h21 =>
 bnd (gD v19 true (aB 3 v2 h21) h21) fun v22 h22 =>
 bnd (gD v19 true (aA v22 h22) h22) fun v23 h23 =>
 bnd (gD v19 true (r 301 [v21, v23, (.f 278 [] [])] h23) h23) fun v24 h24 =>
 bnd (aP v19 v24 (.b false) h24) fun v25 h25 =>
 some (v25, h25)
noncomputable abbrev c278 : Code := cf Tryz.f278
noncomputable abbrev r278 : K := aQ CF Tryz.f278
noncomputable def D278 (r : RT) (n : Nat) (c : Code) (X : Nat → K) (k : K) : K := aM CF r 31 n c X r278 k
theorem dRh : D278 r n c278 x0 r278 = (K2 (s278 r n) 0 1) :=
 (by kernel_rfl)
theorem dKq : aG CF r n 278 args h = s278 r n (aR args 0) (aR args 1) h :=
 (by kernel_rfl : aG CF r n 278 args h = D278 r n c278 x0 r278 (aK args) h).trans ((congrFun (congrFun (dRh r n) (aK args)) h).trans (by kernel_rfl))
noncomputable def s280 (r : RT) (n : Nat) (x0 x1 : DV) (h0 : Hp) : aH :=
 bnd (bA [(aF 0), (.s []), (aF 0), .l0] [(0, 1, (aF 3)), (1, 1, x1)] h0) fun v1 h1 =>
 bnd (lI [x0, v1] h1) fun v2 h2 =>
 some (v2, h2)
noncomputable abbrev c280 : Code := cf Tryz.f280
noncomputable abbrev r280 : K := aQ CF Tryz.f280
noncomputable def D280 (r : RT) (n : Nat) (c : Code) (X : Nat → K) (k : K) : K := aM CF r 9 n c X r280 k
theorem dVi : D280 r n c280 x0 r280 = (K2 (s280 r n) 0 1) :=
 (by kernel_rfl)
theorem dHf : aG CF r n 280 args h = s280 r n (aR args 0) (aR args 1) h :=
 (by kernel_rfl : aG CF r n 280 args h = D280 r n c280 x0 r280 (aK args) h).trans ((congrFun (congrFun (dVi r n) (aK args)) h).trans (by kernel_rfl))
noncomputable def mI (r : RT) (n : Nat) (x2 x3 x5 x6 x9 : DV) (h0 : Hp) : aH :=
 bnd (aB 5 x3 h0) fun v1 h1 =>
 bnd (aA v1 h1) fun v2 h2 =>
 bnd (bT v2 h2) fun v3 h3 =>
 bnd (aE .neq v3 x9 h3) fun v4 h4 =>
 bnd (gD v4 false (aB 5 x3 h4) h4) fun v5 h5 =>
 bnd (gD v4 false (aA v5 h5) h5) fun v6 h6 =>
 bnd (gD v4 false (cS 6 v6 (some (aF 1)) none h6) h6) fun v7 h7 =>
 bnd (gD v4 false (r 308 [v7, (.f 309 [] [])] h7) h7) fun v8 h8 =>
 bnd (aP v4 (.b true) v8 h8) fun v9 h9 =>
 aT v9 (
 some ((.b false), h9)) (
 bnd (aA x2 h9) fun v10 h10 =>
 bnd (aB 5 x3 h10) fun v11 h11 =>
 bnd (aA v11 h11) fun v12 h12 =>
 bnd (aJ 6 v12 (aF 0) h12) fun v13 h13 =>
 bnd (aI 6 v13 h13) fun v14 h14 =>
 bnd (r 208 [v10, v14] h14) fun v15 h15 =>
 bnd (aA x2 h15) fun v16 h16 =>
 bnd (r 248 [v16, (aF 17)] h16) fun v17 h17 =>
 bnd (dD CF r x5 [] h17) fun v18 h18 =>
 bnd (aA x2 h18) fun v19 h19 =>
 bnd (r 248 [v19, (aF 16)] h19) fun v20 h20 =>
 bnd (dD CF r v17 [] h20) fun v21 h21 =>
 bnd (dD CF r x6 [] h21) fun v22 h22 =>
 bnd (dD CF r v20 [] h22) fun v23 h23 =>
 some ((.b true), h23))
noncomputable def aWp (r : RT) (n : Nat) (x2 x3 x7 x8 x9 : DV) (h0 : Hp) : aH :=
 bnd (aB 1 x3 h0) fun v1 h1 =>
 bnd (aA v1 h1) fun v2 h2 =>
 bnd (dR .eql v2 (.s [105, 102, 84, 114, 117, 101, 58]) h2) fun v3 h3 =>
 aT v3 (
 bnd (dD CF r x7 [(aF 1)] h3) fun v4 h4 =>
 bnd (dD CF r x8 [(aF 2)] h4) fun v5 h5 =>
  mI r n x2 x3 v4 v5 x9 h5) (
 bnd (dR .eql v2 (.s [105, 102, 70, 97, 108, 115, 101, 58]) h3) fun v6 h6 =>
 aT v6 (
 bnd (dD CF r x8 [(aF 2)] h6) fun v7 h7 =>
 bnd (dD CF r x7 [(aF 1)] h7) fun v8 h8 =>
      mI r n x2 x3 v7 v8 x9 h8) (
 bnd (dR .eql v2 (.s [97, 110, 100, 58]) h6) fun v9 h9 =>
 aT v9 (
 bnd (dD CF r x7 [(aF 1)] h9) fun v10 h10 =>
 bnd (dD CF r x8 [(aF 4)] h10) fun v11 h11 =>
    mI r n x2 x3 v10 v11 x9 h11) (
 bnd (dR .eql v2 (.s [111, 114, 58]) h9) fun v12 h12 =>
 aT v12 (
 bnd (dD CF r x8 [(aF 3)] h12) fun v13 h13 =>
 bnd (dD CF r x7 [(aF 1)] h13) fun v14 h14 =>
     mI r n x2 x3 v13 v14 x9 h14) (
 bnd (dR .eql v2 (.s [105, 102, 84, 114, 117, 101, 58, 105, 102, 70, 97, 108, 115, 101, 58]) h12) fun v15 h15 =>
 aT v15 (
 bnd (dD CF r x7 [(aF 1)] h15) fun v16 h16 =>
 bnd (dD CF r x7 [(aF 2)] h16) fun v17 h17 =>
      mI r n x2 x3 v16 v17 (aF 3) h17) (
 bnd (dR .eql v2 (.s [105, 102, 70, 97, 108, 115, 101, 58, 105, 102, 84, 114, 117, 101, 58]) h15) fun v18 h18 =>
 aT v18 (
 bnd (dD CF r x7 [(aF 2)] h18) fun v19 h19 =>
 bnd (dD CF r x7 [(aF 1)] h19) fun v20 h20 =>
       mI r n x2 x3 v19 v20 (aF 3) h20) (
 some ((.b false), h18)))))))
noncomputable def aXr (r : RT) (n : Nat) (x2 x3 x7 x8 : DV) (h0 : Hp) : aH :=
 aWp r n x2 x3 x7 x8 (aF 2) h0
noncomputable def aXq (r : RT) (n : Nat) (x2 x3 x7 : DV) (h0 : Hp) : aH :=
 aXr r n x2 x3 x7 (.f 306 [] [x2]) h0
noncomputable def bAi (r : RT) (n : Nat) (x2 x3 : DV) (h0 : Hp) : aH :=
 aXq r n x2 x3 (.f 304 [] [x2, x3]) h0
noncomputable def aAv (r : RT) (n : Nat) (x2 x3 : DV) (h0 : Hp) : aH :=
 bAi r n x2 x3 h0
noncomputable def s281 (r : RT) (n : Nat) (x0 x1 : DV) (h0 : Hp) : aH :=
 bnd (bN x0 h0) fun v1 h1 =>
 bnd (bN x1 h1) fun v2 h2 =>
  aAv r n v1 v2 h2
noncomputable abbrev c281 : Code := cf Tryz.f281
noncomputable abbrev aJx : Code := cR c281
noncomputable abbrev aGd : Code := cR aJx
noncomputable abbrev aDh : Code := cR aGd
noncomputable abbrev aHj : Code := cR aDh
noncomputable abbrev aDm : Code := cR aHj
noncomputable abbrev dIe : Code := cR aDm
noncomputable abbrev bVv : Code := cL aDm
noncomputable abbrev bRy : Code := cL aHj
noncomputable abbrev cIv : Code := cL aDh
noncomputable abbrev bEh : Code := cL aGd
noncomputable abbrev bDd : Code := cL aJx
noncomputable abbrev aLk : Code := cL c281
noncomputable abbrev r281 : K := aQ CF Tryz.f281
noncomputable def D281 (r : RT) (n : Nat) (c : Code) (X : Nat → K) (k : K) : K := aM CF r 81 n c X r281 k
theorem cSg : D281 r n dIe x0 r281 = (K5 (mI r n) 2 3 5 6 9) :=
 (by kernel_rfl)
theorem bOu : D281 r n aDm x0 r281 = D281 r n bVv x0 (K5 (mI r n) 2 3 5 6 9) :=
 congrArg (fun k => D281 r n bVv x0 k) (cSg r n)
theorem cTm : D281 r n aDm x0 r281 = (K5 (aWp r n) 2 3 7 8 9) :=
 (bOu r n).trans
 ((by kernel_rfl))
theorem cJq : D281 r n aHj x0 r281 = D281 r n bRy x0 (K5 (aWp r n) 2 3 7 8 9) :=
 congrArg (fun k => D281 r n bRy x0 k) (cTm r n)
theorem cPq : D281 r n aHj x0 r281 = (K4 (aXr r n) 2 3 7 8) :=
 (cJq r n).trans
 ((by kernel_rfl))
theorem bTz : D281 r n aDh x0 r281 = D281 r n cIv x0 (K4 (aXr r n) 2 3 7 8) :=
 congrArg (fun k => D281 r n cIv x0 k) (cPq r n)
theorem cXw : D281 r n aDh x0 r281 = (K3 (aXq r n) 2 3 7) :=
 (bTz r n).trans
 ((by kernel_rfl))
theorem cLc : D281 r n aGd x0 r281 = D281 r n bEh x0 (K3 (aXq r n) 2 3 7) :=
 congrArg (fun k => D281 r n bEh x0 k) (cXw r n)
theorem cXb : D281 r n aGd x0 r281 = (K2 (bAi r n) 2 3) :=
 (cLc r n).trans
 ((by kernel_rfl))
theorem bQj : D281 r n aJx x0 r281 = D281 r n bDd x0 (K2 (bAi r n) 2 3) :=
 congrArg (fun k => D281 r n bDd x0 k) (cXb r n)
theorem cLp : D281 r n aJx x0 r281 = (K2 (aAv r n) 2 3) :=
 (bQj r n).trans
 ((by kernel_rfl))
theorem dFa : D281 r n c281 x0 r281 = D281 r n aLk x0 (K2 (aAv r n) 2 3) :=
 congrArg (fun k => D281 r n aLk x0 k) (cLp r n)
theorem dEt (q0 : eM) : D281 r n aLk x0 (K2 q0 2 3) = fun (env : aO) (h : Hp) =>
 bnd (bN (env 0) h) fun v1 h1 =>
 bnd (bN (env 1) h1) fun v2 h2 =>
  q0 v1 v2 h2 := by kernel_rfl
theorem dBe : (fun (env : aO) (h : Hp) =>
 bnd (bN (env 0) h) fun v1 h1 =>
 bnd (bN (env 1) h1) fun v2 h2 =>
  aAv r n v1 v2 h2) = (K2 (s281 r n) 0 1) := by kernel_rfl
theorem dQt : D281 r n c281 x0 r281 = (K2 (s281 r n) 0 1) :=
 (dFa r n).trans
 ((dEt r n (aAv r n)).trans (dBe r n))
theorem dEo : aG CF r n 281 args h = s281 r n (aR args 0) (aR args 1) h :=
 (by kernel_rfl : aG CF r n 281 args h = D281 r n c281 x0 r281 (aK args) h).trans ((congrFun (congrFun (dQt r n) (aK args)) h).trans (by kernel_rfl))
noncomputable def aLu (r : RT) (n : Nat) (x0 x3 x6 x7 : DV) (h0 : Hp) : aH :=
 bnd (aB 5 x3 h0) fun v1 h1 =>
 bnd (aA v1 h1) fun v2 h2 =>
 bnd (aJ 6 v2 (aF 1) h2) fun v3 h3 =>
 bnd (aI 6 v3 h3) fun v4 h4 =>
 bnd (r 249 [x0, v4] h4) fun v5 h5 =>
 bnd (r 209 [x0, (aF 12), (aF 0), (aF 0)] h5) fun v6 h6 =>
 bnd (r 285 [x0] h6) fun v7 h7 =>
 bnd (r 209 [x0, (aF 16), (aF 0), (aF 0)] h7) fun v8 h8 =>
 bnd (r 287 [x0, v7, (aF 16), x6] h8) fun v9 h9 =>
 bnd (dD CF r x7 [] h9) fun v10 h10 =>
 bnd (r 209 [x0, (aF 2), (aF 0), (aF 0)] h10) fun v11 h11 =>
 some ((.b true), h11)
noncomputable def aSg (r : RT) (n : Nat) (x0 x3 x5 x6 x7 : DV) (h0 : Hp) : aH :=
 bnd (fV .not x5 h0) fun v1 h1 =>
 aT v1 (
 bnd (r 248 [x0, (aF 16)] h1) fun v2 h2 =>
 bnd (dD CF r x7 [] h2) fun v3 h3 =>
  aLu r n x0 x3 x6 v2 h3) (
  aLu r n x0 x3 x6 x7 h1)
noncomputable def aYc (r : RT) (n : Nat) (x0 x3 x5 x6 : DV) (h0 : Hp) : aH :=
 bnd (r 248 [x0, (aF 17)] h0) fun v1 h1 =>
  aSg r n x0 x3 x5 x6 v1 h1
noncomputable def aSv (r : RT) (n : Nat) (x0 x3 x5 x6 : DV) (h0 : Hp) : aH :=
 bnd (aB 5 x3 h0) fun v1 h1 =>
 bnd (aA v1 h1) fun v2 h2 =>
 bnd (aJ 6 v2 (aF 0) h2) fun v3 h3 =>
 bnd (aI 6 v3 h3) fun v4 h4 =>
 bnd (r 249 [x0, v4] h4) fun v5 h5 =>
  aYc r n x0 x3 x5 x6 h5
noncomputable def aRz (r : RT) (n : Nat) (x0 x3 x5 : DV) (h0 : Hp) : aH :=
 bnd (r 285 [x0] h0) fun v1 h1 =>
  aSv r n x0 x3 x5 v1 h1
noncomputable def aZi (r : RT) (n : Nat) (x0 x3 x5 : DV) (h0 : Hp) : aH :=
 bnd (fV .not x5 h0) fun v1 h1 =>
 bnd (gD v1 true (aB 1 x3 h1) h1) fun v2 h2 =>
 bnd (gD v1 true (aA v2 h2) h2) fun v3 h3 =>
 bnd (gD v1 true (dR .neq v3 (.s [119, 104, 105, 108, 101, 70, 97, 108, 115, 101, 58]) h3) h3) fun v4 h4 =>
 bnd (aP v1 v4 (.b false) h4) fun v5 h5 =>
 bnd (gD v5 false (aB 5 x3 h5) h5) fun v6 h6 =>
 bnd (gD v5 false (aA v6 h6) h6) fun v7 h7 =>
 bnd (gD v5 false (bT v7 h7) h7) fun v8 h8 =>
 bnd (gD v5 false (aE .neq v8 (aF 2) h8) h8) fun v9 h9 =>
 bnd (aP v5 (.b true) v9 h9) fun v10 h10 =>
 bnd (gD v10 false (aB 5 x3 h10) h10) fun v11 h11 =>
 bnd (gD v10 false (aA v11 h11) h11) fun v12 h12 =>
 bnd (gD v10 false (aJ 6 v12 (aF 0) h12) h12) fun v13 h13 =>
 bnd (gD v10 false (aI 6 v13 h13) h13) fun v14 h14 =>
 bnd (gD v10 false (r 310 [v14] h14) h14) fun v15 h15 =>
 bnd (gD v10 false (fV .not v15 h15) h15) fun v16 h16 =>
 bnd (aP v10 (.b true) v16 h16) fun v17 h17 =>
 bnd (gD v17 false (aB 5 x3 h17) h17) fun v18 h18 =>
 bnd (gD v17 false (aA v18 h18) h18) fun v19 h19 =>
 bnd (gD v17 false (aJ 6 v19 (aF 1) h19) h19) fun v20 h20 =>
 bnd (gD v17 false (aI 6 v20 h20) h20) fun v21 h21 =>
 bnd (gD v17 false (r 310 [v21] h21) h21) fun v22 h22 =>
 bnd (gD v17 false (fV .not v22 h22) h22) fun v23 h23 =>
 bnd (aP v17 (.b true) v23 h23) fun v24 h24 =>
 aT v24 (
 some ((.b false), h24)) (
  aRz r n x0 x3 x5 h24)
noncomputable def zP (r : RT) (n : Nat) (x0 x3 : DV) (h0 : Hp) : aH :=
 bnd (aB 1 x3 h0) fun v1 h1 =>
 bnd (aA v1 h1) fun v2 h2 =>
 bnd (dR .eql v2 (.s [119, 104, 105, 108, 101, 84, 114, 117, 101, 58]) h2) fun v3 h3 =>
  aZi r n x0 x3 v3 h3
noncomputable def s282 (r : RT) (n : Nat) (x0 x1 : DV) (h0 : Hp) : aH :=
 bnd (bN x1 h0) fun v1 h1 =>
  zP r n x0 v1 h1
noncomputable abbrev c282 : Code := cf Tryz.f282
noncomputable abbrev aKi : Code := cR c282
noncomputable abbrev aKk : Code := cR aKi
noncomputable abbrev aKu : Code := cR aKk
noncomputable abbrev aGu : Code := cR aKu
noncomputable abbrev aFw : Code := cR aGu
noncomputable abbrev aMu : Code := cR aFw
noncomputable abbrev dGj : Code := cR aMu
noncomputable abbrev cDs : Code := cL aMu
noncomputable abbrev cHe : Code := cL aFw
noncomputable abbrev bDx : Code := cL aGu
noncomputable abbrev bFf : Code := cL aKu
noncomputable abbrev bIo : Code := cL aKk
noncomputable abbrev bBm : Code := cL aKi
noncomputable abbrev aNj : Code := cL c282
noncomputable abbrev r282 : K := aQ CF Tryz.f282
noncomputable def D282 (r : RT) (n : Nat) (c : Code) (X : Nat → K) (k : K) : K := aM CF r 79 n c X r282 k
theorem cPx : D282 r n dGj x0 r282 = (K4 (aLu r n) 0 3 6 7) :=
 (by kernel_rfl)
theorem cBv : D282 r n aMu x0 r282 = D282 r n cDs x0 (K4 (aLu r n) 0 3 6 7) :=
 congrArg (fun k => D282 r n cDs x0 k) (cPx r n)
theorem cSp : D282 r n aMu x0 r282 = (K5 (aSg r n) 0 3 5 6 7) :=
 (cBv r n).trans
 ((by kernel_rfl))
theorem cBp : D282 r n aFw x0 r282 = D282 r n cHe x0 (K5 (aSg r n) 0 3 5 6 7) :=
 congrArg (fun k => D282 r n cHe x0 k) (cSp r n)
theorem dBy : D282 r n aFw x0 r282 = (K4 (aYc r n) 0 3 5 6) :=
 (cBp r n).trans
 ((by kernel_rfl))
theorem bUo : D282 r n aGu x0 r282 = D282 r n bDx x0 (K4 (aYc r n) 0 3 5 6) :=
 congrArg (fun k => D282 r n bDx x0 k) (dBy r n)
theorem cPk : D282 r n aGu x0 r282 = (K4 (aSv r n) 0 3 5 6) :=
 (bUo r n).trans
 ((by kernel_rfl))
theorem cLi : D282 r n aKu x0 r282 = D282 r n bFf x0 (K4 (aSv r n) 0 3 5 6) :=
 congrArg (fun k => D282 r n bFf x0 k) (cPk r n)
theorem cPl : D282 r n aKu x0 r282 = (K3 (aRz r n) 0 3 5) :=
 (cLi r n).trans
 ((by kernel_rfl))
theorem cDd : D282 r n aKk x0 r282 = D282 r n bIo x0 (K3 (aRz r n) 0 3 5) :=
 congrArg (fun k => D282 r n bIo x0 k) (cPl r n)
theorem dCj : D282 r n aKk x0 r282 = (K3 (aZi r n) 0 3 5) :=
 (cDd r n).trans
 ((by kernel_rfl))
theorem bQm : D282 r n aKi x0 r282 = D282 r n bBm x0 (K3 (aZi r n) 0 3 5) :=
 congrArg (fun k => D282 r n bBm x0 k) (dCj r n)
theorem cPy : D282 r n aKi x0 r282 = (K2 (zP r n) 0 3) :=
 (bQm r n).trans
 ((by kernel_rfl))
theorem dMb : D282 r n c282 x0 r282 = D282 r n aNj x0 (K2 (zP r n) 0 3) :=
 congrArg (fun k => D282 r n aNj x0 k) (cPy r n)
theorem dNa (q0 : eM) : D282 r n aNj x0 (K2 q0 0 3) = fun (env : aO) (h : Hp) =>
 bnd (bN (env 1) h) fun v1 h1 =>
  q0 (env 0) v1 h1 := by kernel_rfl
theorem cPf : (fun (env : aO) (h : Hp) =>
 bnd (bN (env 1) h) fun v1 h1 =>
  zP r n (env 0) v1 h1) = (K2 (s282 r n) 0 1) := by kernel_rfl
theorem dTm : D282 r n c282 x0 r282 = (K2 (s282 r n) 0 1) :=
 (dMb r n).trans
 ((dNa r n (zP r n)).trans (cPf r n))
theorem dHi : aG CF r n 282 args h = s282 r n (aR args 0) (aR args 1) h :=
 (by kernel_rfl : aG CF r n 282 args h = D282 r n c282 x0 r282 (aK args) h).trans ((congrFun (congrFun (dTm r n) (aK args)) h).trans (by kernel_rfl))
noncomputable def dZ (r : RT) (n : Nat) (x0 x1 x2 x3 : DV) (h0 : Hp) : aH :=
 bnd (r 280 [x0, x2] h0) fun v1 h1 =>
 bnd (bT x3 h1) fun v2 h2 =>
 bnd (r 209 [x0, x1, v1, v2] h2) fun v3 h3 =>
 some (.t [], h3)
noncomputable def aGm (r : RT) (n : Nat) (kk3 : TT7) (x0 x1 x2 x3 x10 x11 x12 : DV) (h0 : Hp) : aH :=
 bnd (aE .lss x12 x11 h0) fun v1 h1 =>
 aT v1 (
 bnd (aJ 6 x10 x12 h1) fun v2 h2 =>
 bnd (aI 6 v2 h2) fun v3 h3 =>
 bnd (bD cV h3) fun v4 h4 =>
 bnd (aC 6 v4 v3 h4) fun _ h5 =>
 bnd (aI 6 v4 h5) fun v6 h6 =>
 bnd (r 208 [x0, v6] h6) fun v7 h7 =>
 bnd (aE .add x12 (aF 1) h7) fun v8 h8 =>
      kk3 x0 x1 x2 x3 x10 x11 v8 h8) (
      dZ r n x0 x1 x2 x3 h1)
noncomputable def vZ (r : RT) (n : Nat) (m : Nat) : TT7 :=
 Nat.rec (motive := fun _ => TT7) (fun _ _ _ _ _ _ _ _ => none) (fun _ ih => aGm r n ih) m
noncomputable def cIz (r : RT) (n : Nat) : TT7 := vZ r n n
noncomputable def aYy (r : RT) (n : Nat) (x0 x1 x2 x3 x10 x11 x12 : DV) (h0 : Hp) : aH :=
 cIz r n x0 x1 x2 x3 x10 x11 x12 h0
noncomputable def s283 (r : RT) (n : Nat) (x0 x1 x2 x3 : DV) (h0 : Hp) : aH :=
 bnd (bT x3 h0) fun v1 h1 =>
  aYy r n x0 x1 x2 x3 x3 v1 (aF 0) h1
noncomputable abbrev c283 : Code := cf Tryz.f283
noncomputable abbrev dOz : Code := cR c283
noncomputable abbrev xI : Code := cL c283
noncomputable abbrev aUw : Code := cR xI
noncomputable abbrev aHh : Code := cL aUw
noncomputable abbrev mC : Code := cL aHh
noncomputable abbrev bRd : Code := cL xI
noncomputable abbrev r283 : K := aQ CF Tryz.f283
noncomputable def D283 (r : RT) (n : Nat) (c : Code) (X : Nat → K) (k : K) : K := aM CF r 28 n c X r283 k
theorem cXe : D283 r n dOz x0 r283 = (K4 (dZ r n) 0 1 2 3) :=
 (by kernel_rfl)
theorem bRj (kk3 : TT7) (q0 : dI) : D283 r n mC (xs x0 0 (K4 q0 0 1 2 3)) (K7 kk3 0 1 2 3 10 11 12) = fun (env : aO) (h : Hp) =>
 bnd (aE .lss (env 12) (env 11) h) fun v1 h1 =>
 aT v1 (
 bnd (aJ 6 (env 10) (env 12) h1) fun v2 h2 =>
 bnd (aI 6 v2 h2) fun v3 h3 =>
 bnd (bD cV h3) fun v4 h4 =>
 bnd (aC 6 v4 v3 h4) fun _ h5 =>
 bnd (aI 6 v4 h5) fun v6 h6 =>
 bnd (r 208 [(env 0), v6] h6) fun v7 h7 =>
 bnd (aE .add (env 12) (aF 1) h7) fun v8 h8 =>
      kk3 (env 0) (env 1) (env 2) (env 3) (env 10) (env 11) v8 h8) (
      q0 (env 0) (env 1) (env 2) (env 3) h1) := by kernel_rfl
theorem bMi (kk3 : TT7) : (fun (env : aO) (h : Hp) =>
 bnd (aE .lss (env 12) (env 11) h) fun v1 h1 =>
 aT v1 (
 bnd (aJ 6 (env 10) (env 12) h1) fun v2 h2 =>
 bnd (aI 6 v2 h2) fun v3 h3 =>
 bnd (bD cV h3) fun v4 h4 =>
 bnd (aC 6 v4 v3 h4) fun _ h5 =>
 bnd (aI 6 v4 h5) fun v6 h6 =>
 bnd (r 208 [(env 0), v6] h6) fun v7 h7 =>
 bnd (aE .add (env 12) (aF 1) h7) fun v8 h8 =>
      kk3 (env 0) (env 1) (env 2) (env 3) (env 10) (env 11) v8 h8) (
      dZ r n (env 0) (env 1) (env 2) (env 3) h1)) = (K7 (aGm r n kk3) 0 1 2 3 10 11 12) := by kernel_rfl
theorem bYh (kk3 : TT7) : D283 r n mC (xs x0 0 (K4 (dZ r n) 0 1 2 3)) (K7 kk3 0 1 2 3 10 11 12) = (K7 (aGm r n kk3) 0 1 2 3 10 11 12) :=
 (bRj r n kk3 (dZ r n)).trans (bMi r n kk3)
theorem cBl (m : Nat) : aL (fun kk => D283 r n mC (xs x0 0 (K4 (dZ r n) 0 1 2 3)) kk) m = (K7 (vZ r n m) 0 1 2 3 10 11 12) := by
 induction m with
 | zero => exact (by kernel_rfl : aL (fun kk => D283 r n mC (xs x0 0 (K4 (dZ r n) 0 1 2 3)) kk) 0 = (K7 (vZ r n 0) 0 1 2 3 10 11 12))
 | succ m ih =>
  refine (by kernel_rfl : aL (fun kk => D283 r n mC (xs x0 0 (K4 (dZ r n) 0 1 2 3)) kk) (m + 1) = D283 r n mC (xs x0 0 (K4 (dZ r n) 0 1 2 3)) (aL (fun kk => D283 r n mC (xs x0 0 (K4 (dZ r n) 0 1 2 3)) kk) m)).trans ?_
  rw [ih]
  exact (bYh r n (vZ r n m)).trans (by kernel_rfl)
theorem dCf : D283 r n aHh (xs x0 0 (K4 (dZ r n) 0 1 2 3)) (K4 (dZ r n) 0 1 2 3) = (K7 (cIz r n) 0 1 2 3 10 11 12) :=
 (by kernel_rfl : D283 r n aHh (xs x0 0 (K4 (dZ r n) 0 1 2 3)) (K4 (dZ r n) 0 1 2 3) = aL (fun kk => D283 r n mC (xs x0 0 (K4 (dZ r n) 0 1 2 3)) kk) n).trans ((cBl r n n).trans (by kernel_rfl))
theorem cUm : D283 r n aUw x0 (K4 (dZ r n) 0 1 2 3) = (K7 (aYy r n) 0 1 2 3 10 11 12) :=
 (by kernel_rfl : D283 r n aUw x0 (K4 (dZ r n) 0 1 2 3) = D283 r n aHh (xs x0 0 (K4 (dZ r n) 0 1 2 3)) (K4 (dZ r n) 0 1 2 3)).trans
 ((dCf r n).trans (by kernel_rfl))
theorem dLs : D283 r n c283 x0 r283 = D283 r n xI x0 (K4 (dZ r n) 0 1 2 3) :=
 congrArg (fun k => D283 r n xI x0 k) (cXe r n)
theorem dHh : D283 r n xI x0 (K4 (dZ r n) 0 1 2 3) = D283 r n bRd x0 (K7 (aYy r n) 0 1 2 3 10 11 12) :=
 congrArg (fun k => D283 r n bRd x0 k) (cUm r n)
theorem dTf : D283 r n c283 x0 r283 = (K4 (s283 r n) 0 1 2 3) :=
 (dLs r n).trans
 ((dHh r n).trans
 ((by kernel_rfl)))
theorem dPy : aG CF r n 283 args h = s283 r n (aR args 0) (aR args 1) (aR args 2) (aR args 3) h :=
 (by kernel_rfl : aG CF r n 283 args h = D283 r n c283 x0 r283 (aK args) h).trans ((congrFun (congrFun (dTf r n) (aK args)) h).trans (by kernel_rfl))
noncomputable def s284 (r : RT) (n : Nat) (x0 x1 : DV) (h0 : Hp) : aH :=
 bnd (bN x1 h0) fun v1 h1 =>
 bnd (aI 6 v1 h1) fun v2 h2 =>
 bnd (r 311 [v2] h2) fun v3 h3 =>
 aT v3 (
 bnd (r 209 [x0, (aF 1), (aF 0), (aF 0)] h3) fun v4 h4 =>
 some ((aF 15), h4)) (
 bnd (aI 6 v1 h3) fun v5 h5 =>
 bnd (r 208 [x0, v5] h5) fun v6 h6 =>
 some ((aF 14), h6))
noncomputable abbrev c284 : Code := cf Tryz.f284
noncomputable abbrev r284 : K := aQ CF Tryz.f284
noncomputable def D284 (r : RT) (n : Nat) (c : Code) (X : Nat → K) (k : K) : K := aM CF r 12 n c X r284 k
theorem dSi : D284 r n c284 x0 r284 = (K2 (s284 r n) 0 1) :=
 (by kernel_rfl)
theorem dHz : aG CF r n 284 args h = s284 r n (aR args 0) (aR args 1) h :=
 (by kernel_rfl : aG CF r n 284 args h = D284 r n c284 x0 r284 (aK args) h).trans ((congrFun (congrFun (dSi r n) (aK args)) h).trans (by kernel_rfl))
noncomputable def s285 (r : RT) (n : Nat) (x0 : DV) (h0 : Hp) : aH :=
 bnd (aU x0 h0) fun v1 h1 =>
 bnd (aB 0 v1 h1) fun v2 h2 =>
 bnd (aB 5 v2 h2) fun v3 h3 =>
 bnd (aA v3 h3) fun v4 h4 =>
 bnd (bT v4 h4) fun v5 h5 =>
 some (v5, h5)
noncomputable abbrev c285 : Code := cf Tryz.f285
noncomputable abbrev r285 : K := aQ CF Tryz.f285
noncomputable def D285 (r : RT) (n : Nat) (c : Code) (X : Nat → K) (k : K) : K := aM CF r 9 n c X r285 k
theorem dUl : D285 r n c285 x0 r285 = (K1 (s285 r n) 0) :=
 (by kernel_rfl)
theorem dPk : aG CF r n 285 args h = s285 r n (aR args 0) h :=
 (by kernel_rfl : aG CF r n 285 args h = D285 r n c285 x0 r285 (aK args) h).trans ((congrFun (congrFun (dUl r n) (aK args)) h).trans (by kernel_rfl))
noncomputable def s286 (r : RT) (n : Nat) (x0 x1 x2 : DV) (h0 : Hp) : aH :=
 bnd (aA x0 h0) fun v1 h1 =>
 bnd (aA x1 h1) fun v2 h2 =>
 bnd (aA x2 h2) fun v3 h3 =>
 bnd (aA x0 h3) fun v4 h4 =>
 bnd (r 285 [v4] h4) fun v5 h5 =>
 cnd (aZ (aA x2 h5) v3 && (aZ (aA x1 h5) v2 && (aZ (aA x0 h5) v1 && true))) (
 bnd (r 287 [v1, v2, v3, v5] h5) fun v6 h6 =>
 some (.t [], h6))
noncomputable abbrev c286 : Code := cf Tryz.f286
noncomputable abbrev r286 : K := aQ CF Tryz.f286
noncomputable def D286 (r : RT) (n : Nat) (c : Code) (X : Nat → K) (k : K) : K := aM CF r 9 n c X r286 k
theorem dVt : D286 r n c286 x0 r286 = (K3 (s286 r n) 0 1 2) :=
 (by kernel_rfl)
theorem dOx : aG CF r n 286 args h = s286 r n (aR args 0) (aR args 1) (aR args 2) h :=
 (by kernel_rfl : aG CF r n 286 args h = D286 r n c286 x0 r286 (aK args) h).trans ((congrFun (congrFun (dVt r n) (aK args)) h).trans (by kernel_rfl))
noncomputable def s287 (r : RT) (n : Nat) (x0 x1 x2 x3 : DV) (h0 : Hp) : aH :=
 bnd (aU x0 h0) fun v1 h1 =>
 bnd (aB 0 v1 h1) fun v2 h2 =>
 bnd (aB 5 v2 h2) fun v3 h3 =>
 bnd (aA v3 h3) fun v4 h4 =>
 bnd (aE .and x3 (aF 255) h4) fun v5 h5 =>
 bnd (dE .shr x3 (.i .u64 (Int.ofNat 8)) h5) fun v6 h6 =>
 bnd (bA [(aF 0), (aF 0), (aF 0)] [(0, 1, x2), (1, 1, v5), (2, 1, v6)] h6) fun v7 h7 =>
 bnd (aJ 3 v4 x1 h7) fun v8 h8 =>
 bnd (aC 3 v8 v7 h8) fun _ h9 =>
 some (.t [], h9)
noncomputable abbrev c287 : Code := cf Tryz.f287
noncomputable abbrev r287 : K := aQ CF Tryz.f287
noncomputable def D287 (r : RT) (n : Nat) (c : Code) (X : Nat → K) (k : K) : K := aM CF r 21 n c X r287 k
theorem dWi : D287 r n c287 x0 r287 = (K4 (s287 r n) 0 1 2 3) :=
 (by kernel_rfl)
theorem dHv : aG CF r n 287 args h = s287 r n (aR args 0) (aR args 1) (aR args 2) (aR args 3) h :=
 (by kernel_rfl : aG CF r n 287 args h = D287 r n c287 x0 r287 (aK args) h).trans ((congrFun (congrFun (dWi r n) (aK args)) h).trans (by kernel_rfl))
noncomputable def s294 (r : RT) (n : Nat) (x0 x1 : DV) (h0 : Hp) : aH :=
 bnd (bD cV h0) fun v1 h1 =>
 bnd (bA cV [(0, 1, (aF 7)), (1, 1, x0), (5, 1, x1)] h1) fun v2 h2 =>
 bnd (aC 6 v1 v2 h2) fun _ h3 =>
 bnd (aI 6 v1 h3) fun v4 _ =>
 some (v4, h3)
noncomputable abbrev c294 : Code := cf Tryz.f294
noncomputable abbrev r294 : K := aQ CF Tryz.f294
noncomputable def D294 (r : RT) (n : Nat) (c : Code) (X : Nat → K) (k : K) : K := aM CF r 8 n c X r294 k
theorem dUb : D294 r n c294 x0 r294 = (K2 (s294 r n) 0 1) :=
 (by kernel_rfl)
theorem dOg : aG CF r n 294 args h = s294 r n (aR args 0) (aR args 1) h :=
 (by kernel_rfl : aG CF r n 294 args h = D294 r n c294 x0 r294 (aK args) h).trans ((congrFun (congrFun (dUb r n) (aK args)) h).trans (by kernel_rfl))
noncomputable def lR (r : RT) (n : Nat) (x0 x2 x5 : DV) (h0 : Hp) : aH :=
 bnd (r 202 [x0] h0) fun v1 h1 =>
 bnd (aI 6 x5 h1) fun v2 h2 =>
 bnd (aC 6 x2 v2 h2) fun _ h3 =>
 bnd (aI 6 x2 h3) fun v4 _ =>
 some (.t [v4, (.b true)], h3)
noncomputable def rF (r : RT) (n : Nat) (x0 x2 x4 x5 : DV) (h0 : Hp) : aH :=
 bnd (aU x0 h0) fun v1 h1 =>
 bnd (aB 3 v1 h1) fun v2 h2 =>
 bnd (aA v2 h2) fun v3 h3 =>
 bnd (aE .neq v3 (aF 0) h3) fun v4 h4 =>
 aT v4 (
 bnd (aI 6 x5 h4) fun v5 h5 =>
 bnd (aC 6 x2 v5 h5) fun _ h6 =>
 bnd (aI 6 x2 h6) fun v7 _ =>
 some (.t [v7, (.b false)], h6)) (
 bnd (r 313 [x0] h4) fun v8 h8 =>
 aT v8 (
 bnd (r 202 [x0] h8) fun v9 h9 =>
 bnd (r 202 [x0] h9) fun v10 h10 =>
 bnd (dA 2 v10 h10) fun v11 h11 =>
 bnd (fV .neg v11 h11) fun v12 h12 =>
 bnd (bA cV [(0, 1, (aF 1)), (2, 1, v12)] h12) fun v13 h13 =>
 bnd (aC 6 x2 v13 h13) fun _ h14 =>
 bnd (aI 6 x2 h14) fun v15 _ =>
 some (.t [v15, (.b true)], h14)) (
 bnd (aB 0 x4 h8) fun v16 h16 =>
 bnd (aA v16 h16) fun v17 h17 =>
 bnd (aE .eql v17 (aF 4) h17) fun v18 h18 =>
 aT v18 (
 bnd (aB 0 x5 h18) fun v19 h19 =>
 bnd (aC 1 v19 (aF 1) h19) fun _ h20 =>
    lR r n x0 x2 x5 h20) (
 bnd (aB 0 x4 h18) fun v21 h21 =>
 bnd (aA v21 h21) fun v22 h22 =>
 bnd (aE .eql v22 (aF 5) h22) fun v23 h23 =>
 aT v23 (
 bnd (aB 0 x5 h23) fun v24 h24 =>
 bnd (aC 1 v24 (aF 2) h24) fun _ h25 =>
     lR r n x0 x2 x5 h25) (
 bnd (aB 0 x4 h23) fun v26 h26 =>
 bnd (aA v26 h26) fun v27 h27 =>
 bnd (aE .eql v27 (aF 6) h27) fun v28 h28 =>
 aT v28 (
 bnd (aB 0 x5 h28) fun v29 h29 =>
 bnd (aC 1 v29 (aF 3) h29) fun _ h30 =>
      lR r n x0 x2 x5 h30) (
 bnd (aI 6 x5 h28) fun v31 h31 =>
 bnd (aC 6 x2 v31 h31) fun _ h32 =>
 bnd (aI 6 x2 h32) fun v33 _ =>
 some (.t [v33, (.b false)], h32))))))
noncomputable def rL (r : RT) (n : Nat) (x0 x2 x4 : DV) (h0 : Hp) : aH :=
 bnd (aB 1 x4 h0) fun v1 h1 =>
 bnd (aA v1 h1) fun v2 h2 =>
 bnd (aB 2 x4 h2) fun v3 h3 =>
 bnd (aA v3 h3) fun v4 h4 =>
 bnd (bA cV [(1, 1, v2), (2, 1, v4)] h4) fun v5 h5 =>
 bnd (bD cV h5) fun v6 h6 =>
 bnd (aC 6 v6 v5 h6) fun _ h7 =>
  rF r n x0 x2 x4 v6 h7
noncomputable def qR (r : RT) (n : Nat) (x0 x2 : DV) (h0 : Hp) : aH :=
 bnd (r 205 [x0, (aF 0)] h0) fun v1 h1 =>
 bnd (bD [(aF 0), (.s []), (aF 0), (aF 0)] h1) fun v2 h2 =>
 bnd (aC 4 v2 v1 h2) fun _ h3 =>
  rL r n x0 x2 v2 h3
noncomputable def s295 (r : RT) (n : Nat) (x0 : DV) (h0 : Hp) : aH :=
 bnd (bD cV h0) fun v1 h1 =>
  qR r n x0 v1 h1
noncomputable abbrev c295 : Code := cf Tryz.f295
noncomputable abbrev aDq : Code := cR c295
noncomputable abbrev aIm : Code := cR aDq
noncomputable abbrev aMs : Code := cR aIm
noncomputable abbrev dLn : Code := cR aMs
noncomputable abbrev aUv : Code := cL aMs
noncomputable abbrev aZl : Code := cL aIm
noncomputable abbrev aWj : Code := cL aDq
noncomputable abbrev aUi : Code := cL c295
noncomputable abbrev r295 : K := aQ CF Tryz.f295
noncomputable def D295 (r : RT) (n : Nat) (c : Code) (X : Nat → K) (k : K) : K := aM CF r 49 n c X r295 k
theorem cUx : D295 r n dLn x0 r295 = (K3 (lR r n) 0 2 5) :=
 (by kernel_rfl)
theorem cIm : D295 r n aMs x0 r295 = D295 r n aUv x0 (K3 (lR r n) 0 2 5) :=
 congrArg (fun k => D295 r n aUv x0 k) (cUx r n)
theorem cJi (q0 : eO) : D295 r n aUv x0 (K3 q0 0 2 5) = fun (env : aO) (h : Hp) =>
 bnd (aU (env 0) h) fun v1 h1 =>
 bnd (aB 3 v1 h1) fun v2 h2 =>
 bnd (aA v2 h2) fun v3 h3 =>
 bnd (aE .neq v3 (aF 0) h3) fun v4 h4 =>
 aT v4 (
 bnd (aI 6 (env 5) h4) fun v5 h5 =>
 bnd (aC 6 (env 2) v5 h5) fun _ h6 =>
 bnd (aI 6 (env 2) h6) fun v7 _ =>
 some (.t [v7, (.b false)], h6)) (
 bnd (r 313 [(env 0)] h4) fun v8 h8 =>
 aT v8 (
 bnd (r 202 [(env 0)] h8) fun v9 h9 =>
 bnd (r 202 [(env 0)] h9) fun v10 h10 =>
 bnd (dA 2 v10 h10) fun v11 h11 =>
 bnd (fV .neg v11 h11) fun v12 h12 =>
 bnd (bA cV [(0, 1, (aF 1)), (2, 1, v12)] h12) fun v13 h13 =>
 bnd (aC 6 (env 2) v13 h13) fun _ h14 =>
 bnd (aI 6 (env 2) h14) fun v15 _ =>
 some (.t [v15, (.b true)], h14)) (
 bnd (aB 0 (env 4) h8) fun v16 h16 =>
 bnd (aA v16 h16) fun v17 h17 =>
 bnd (aE .eql v17 (aF 4) h17) fun v18 h18 =>
 aT v18 (
 bnd (aB 0 (env 5) h18) fun v19 h19 =>
 bnd (aC 1 v19 (aF 1) h19) fun _ h20 =>
     q0 (env 0) (env 2) (env 5) h20) (
 bnd (aB 0 (env 4) h18) fun v21 h21 =>
 bnd (aA v21 h21) fun v22 h22 =>
 bnd (aE .eql v22 (aF 5) h22) fun v23 h23 =>
 aT v23 (
 bnd (aB 0 (env 5) h23) fun v24 h24 =>
 bnd (aC 1 v24 (aF 2) h24) fun _ h25 =>
      q0 (env 0) (env 2) (env 5) h25) (
 bnd (aB 0 (env 4) h23) fun v26 h26 =>
 bnd (aA v26 h26) fun v27 h27 =>
 bnd (aE .eql v27 (aF 6) h27) fun v28 h28 =>
 aT v28 (
 bnd (aB 0 (env 5) h28) fun v29 h29 =>
 bnd (aC 1 v29 (aF 3) h29) fun _ h30 =>
       q0 (env 0) (env 2) (env 5) h30) (
 bnd (aI 6 (env 5) h28) fun v31 h31 =>
 bnd (aC 6 (env 2) v31 h31) fun _ h32 =>
 bnd (aI 6 (env 2) h32) fun v33 _ =>
 some (.t [v33, (.b false)], h32)))))) := by kernel_rfl
theorem bNt : (fun (env : aO) (h : Hp) =>
 bnd (aU (env 0) h) fun v1 h1 =>
 bnd (aB 3 v1 h1) fun v2 h2 =>
 bnd (aA v2 h2) fun v3 h3 =>
 bnd (aE .neq v3 (aF 0) h3) fun v4 h4 =>
 aT v4 (
 bnd (aI 6 (env 5) h4) fun v5 h5 =>
 bnd (aC 6 (env 2) v5 h5) fun _ h6 =>
 bnd (aI 6 (env 2) h6) fun v7 _ =>
 some (.t [v7, (.b false)], h6)) (
 bnd (r 313 [(env 0)] h4) fun v8 h8 =>
 aT v8 (
 bnd (r 202 [(env 0)] h8) fun v9 h9 =>
 bnd (r 202 [(env 0)] h9) fun v10 h10 =>
 bnd (dA 2 v10 h10) fun v11 h11 =>
 bnd (fV .neg v11 h11) fun v12 h12 =>
 bnd (bA cV [(0, 1, (aF 1)), (2, 1, v12)] h12) fun v13 h13 =>
 bnd (aC 6 (env 2) v13 h13) fun _ h14 =>
 bnd (aI 6 (env 2) h14) fun v15 _ =>
 some (.t [v15, (.b true)], h14)) (
 bnd (aB 0 (env 4) h8) fun v16 h16 =>
 bnd (aA v16 h16) fun v17 h17 =>
 bnd (aE .eql v17 (aF 4) h17) fun v18 h18 =>
 aT v18 (
 bnd (aB 0 (env 5) h18) fun v19 h19 =>
 bnd (aC 1 v19 (aF 1) h19) fun _ h20 =>
     lR r n (env 0) (env 2) (env 5) h20) (
 bnd (aB 0 (env 4) h18) fun v21 h21 =>
 bnd (aA v21 h21) fun v22 h22 =>
 bnd (aE .eql v22 (aF 5) h22) fun v23 h23 =>
 aT v23 (
 bnd (aB 0 (env 5) h23) fun v24 h24 =>
 bnd (aC 1 v24 (aF 2) h24) fun _ h25 =>
      lR r n (env 0) (env 2) (env 5) h25) (
 bnd (aB 0 (env 4) h23) fun v26 h26 =>
 bnd (aA v26 h26) fun v27 h27 =>
 bnd (aE .eql v27 (aF 6) h27) fun v28 h28 =>
 aT v28 (
 bnd (aB 0 (env 5) h28) fun v29 h29 =>
 bnd (aC 1 v29 (aF 3) h29) fun _ h30 =>
       lR r n (env 0) (env 2) (env 5) h30) (
 bnd (aI 6 (env 5) h28) fun v31 h31 =>
 bnd (aC 6 (env 2) v31 h31) fun _ h32 =>
 bnd (aI 6 (env 2) h32) fun v33 _ =>
 some (.t [v33, (.b false)], h32))))))) = (K4 (rF r n) 0 2 4 5) := by kernel_rfl
theorem cWi : D295 r n aMs x0 r295 = (K4 (rF r n) 0 2 4 5) :=
 (cIm r n).trans
 ((cJi r n (lR r n)).trans (bNt r n))
theorem bSp : D295 r n aIm x0 r295 = D295 r n aZl x0 (K4 (rF r n) 0 2 4 5) :=
 congrArg (fun k => D295 r n aZl x0 k) (cWi r n)
theorem cKg (q0 : dI) : D295 r n aZl x0 (K4 q0 0 2 4 5) = fun (env : aO) (h : Hp) =>
 bnd (aB 1 (env 4) h) fun v1 h1 =>
 bnd (aA v1 h1) fun v2 h2 =>
 bnd (aB 2 (env 4) h2) fun v3 h3 =>
 bnd (aA v3 h3) fun v4 h4 =>
 bnd (bA cV [(1, 1, v2), (2, 1, v4)] h4) fun v5 h5 =>
 bnd (bD cV h5) fun v6 h6 =>
 bnd (aC 6 v6 v5 h6) fun _ h7 =>
  q0 (env 0) (env 2) (env 4) v6 h7 := by kernel_rfl
theorem bNf : (fun (env : aO) (h : Hp) =>
 bnd (aB 1 (env 4) h) fun v1 h1 =>
 bnd (aA v1 h1) fun v2 h2 =>
 bnd (aB 2 (env 4) h2) fun v3 h3 =>
 bnd (aA v3 h3) fun v4 h4 =>
 bnd (bA cV [(1, 1, v2), (2, 1, v4)] h4) fun v5 h5 =>
 bnd (bD cV h5) fun v6 h6 =>
 bnd (aC 6 v6 v5 h6) fun _ h7 =>
  rF r n (env 0) (env 2) (env 4) v6 h7) = (K3 (rL r n) 0 2 4) := by kernel_rfl
theorem cQt : D295 r n aIm x0 r295 = (K3 (rL r n) 0 2 4) :=
 (bSp r n).trans
 ((cKg r n (rF r n)).trans (bNf r n))
theorem bQl : D295 r n aDq x0 r295 = D295 r n aWj x0 (K3 (rL r n) 0 2 4) :=
 congrArg (fun k => D295 r n aWj x0 k) (cQt r n)
theorem bQa (q0 : eO) : D295 r n aWj x0 (K3 q0 0 2 4) = fun (env : aO) (h : Hp) =>
 bnd (r 205 [(env 0), (aF 0)] h) fun v1 h1 =>
 bnd (bD [(aF 0), (.s []), (aF 0), (aF 0)] h1) fun v2 h2 =>
 bnd (aC 4 v2 v1 h2) fun _ h3 =>
  q0 (env 0) (env 2) v2 h3 := by kernel_rfl
theorem bMy : (fun (env : aO) (h : Hp) =>
 bnd (r 205 [(env 0), (aF 0)] h) fun v1 h1 =>
 bnd (bD [(aF 0), (.s []), (aF 0), (aF 0)] h1) fun v2 h2 =>
 bnd (aC 4 v2 v1 h2) fun _ h3 =>
  rL r n (env 0) (env 2) v2 h3) = (K2 (qR r n) 0 2) := by kernel_rfl
theorem cQl : D295 r n aDq x0 r295 = (K2 (qR r n) 0 2) :=
 (bQl r n).trans
 ((bQa r n (rL r n)).trans (bMy r n))
theorem dPg : D295 r n c295 x0 r295 = D295 r n aUi x0 (K2 (qR r n) 0 2) :=
 congrArg (fun k => D295 r n aUi x0 k) (cQl r n)
theorem dIl (q0 : eM) : D295 r n aUi x0 (K2 q0 0 2) = fun (env : aO) (h : Hp) =>
 bnd (bD cV h) fun v1 h1 =>
  q0 (env 0) v1 h1 := by kernel_rfl
theorem cSb : (fun (env : aO) (h : Hp) =>
 bnd (bD cV h) fun v1 h1 =>
  qR r n (env 0) v1 h1) = (K1 (s295 r n) 0) := by kernel_rfl
theorem dSp : D295 r n c295 x0 r295 = (K1 (s295 r n) 0) :=
 (dPg r n).trans
 ((dIl r n (qR r n)).trans (cSb r n))
theorem dNv : aG CF r n 295 args h = s295 r n (aR args 0) h :=
 (by kernel_rfl : aG CF r n 295 args h = D295 r n c295 x0 r295 (aK args) h).trans ((congrFun (congrFun (dSp r n) (aK args)) h).trans (by kernel_rfl))
noncomputable def s296 (r : RT) (n : Nat) (x0 x1 : DV) (h0 : Hp) : aH :=
 bnd (bD cV h0) fun v1 h1 =>
 bnd (r 202 [x0] h1) fun v2 h2 =>
 bnd (bD [(aF 0), (.s []), (aF 0), (aF 0)] h2) fun v3 h3 =>
 bnd (aC 4 v3 v2 h3) fun _ h4 =>
 bnd (aU x0 h4) fun v5 h5 =>
 bnd (aB 1 v5 h5) fun v6 h6 =>
 bnd (aA v6 h6) fun v7 h7 =>
 bnd (aE .eql v7 (aF 20) h7) fun v8 h8 =>
 aT v8 (
 bnd (aI 4 v3 h8) fun v9 h9 =>
 bnd (r 204 [x0, v9, (aF 14)] h9) fun v10 h10 =>
 bnd (bA cV [] h10) fun v11 h11 =>
 bnd (aC 6 v1 v11 h11) fun _ h12 =>
 bnd (aI 6 v1 h12) fun v13 _ =>
 some (v13, h12)) (
 bnd (aU x0 h8) fun v14 h14 =>
 bnd (aB 1 v14 h14) fun v15 h15 =>
 bnd (aA v15 h15) fun v16 h16 =>
 bnd (aE .add v16 (aF 1) h16) fun v17 h17 =>
 bnd (aU x0 h17) fun v18 h18 =>
 bnd (aB 1 v18 h18) fun v19 h19 =>
 bnd (aC 1 v19 v17 h19) fun _ h20 =>
 bnd (dD CF r x1 [] h20) fun v21 h21 =>
 bnd (bD cV h21) fun v22 h22 =>
 bnd (aC 6 v22 v21 h22) fun _ h23 =>
 bnd (aU x0 h23) fun v24 h24 =>
 bnd (aB 1 v24 h24) fun v25 h25 =>
 bnd (aA v25 h25) fun v26 h26 =>
 bnd (aE .sub v26 (aF 1) h26) fun v27 h27 =>
 bnd (aU x0 h27) fun v28 h28 =>
 bnd (aB 1 v28 h28) fun v29 h29 =>
 bnd (aC 1 v29 v27 h29) fun _ h30 =>
 bnd (aI 6 v22 h30) fun v31 h31 =>
 bnd (aC 6 v1 v31 h31) fun _ h32 =>
 bnd (aI 6 v1 h32) fun v33 _ =>
 some (v33, h32))
noncomputable abbrev c296 : Code := cf Tryz.f296
noncomputable abbrev r296 : K := aQ CF Tryz.f296
noncomputable def D296 (r : RT) (n : Nat) (c : Code) (X : Nat → K) (k : K) : K := aM CF r 35 n c X r296 k
theorem dVd : D296 r n c296 x0 r296 = (K2 (s296 r n) 0 1) :=
 (by kernel_rfl)
theorem dLg : aG CF r n 296 args h = s296 r n (aR args 0) (aR args 1) h :=
 (by kernel_rfl : aG CF r n 296 args h = D296 r n c296 x0 r296 (aK args) h).trans ((congrFun (congrFun (dVd r n) (aK args)) h).trans (by kernel_rfl))
noncomputable def s298 (r : RT) (n : Nat) (x0 : DV) (h0 : Hp) : aH :=
 bnd (bD cV h0) fun v1 h1 =>
 bnd (r 203 [x0] h1) fun v2 h2 =>
 bnd (bD cV h2) fun v3 h3 =>
 bnd (aC 6 v3 v2 h3) fun _ h4 =>
 bnd (r 157 [x0, (aF 10), (.s [41])] h4) fun v5 h5 =>
 bnd (aI 6 v3 h5) fun v6 h6 =>
 bnd (aC 6 v1 v6 h6) fun _ h7 =>
 bnd (aI 6 v1 h7) fun v8 _ =>
 some (v8, h7)
noncomputable abbrev c298 : Code := cf Tryz.f298
noncomputable abbrev r298 : K := aQ CF Tryz.f298
noncomputable def D298 (r : RT) (n : Nat) (c : Code) (X : Nat → K) (k : K) : K := aM CF r 9 n c X r298 k
theorem dRo : D298 r n c298 x0 r298 = (K1 (s298 r n) 0) :=
 (by kernel_rfl)
theorem dIp : aG CF r n 298 args h = s298 r n (aR args 0) h :=
 (by kernel_rfl : aG CF r n 298 args h = D298 r n c298 x0 r298 (aK args) h).trans ((congrFun (congrFun (dRo r n) (aK args)) h).trans (by kernel_rfl))
end Go.Dd

namespace Go.Dd
open Go.Proofs
variable (r : RT) (n : Nat) (args : List DV) (h : Hp)
noncomputable def aFu (r : RT) (n : Nat) (x0 x2 x3 : DV) (h0 : Hp) : aH :=
 bnd (r 155 [x0] h0) fun v1 h1 =>
 bnd (aB 4 x3 h1) fun v2 h2 =>
 bnd (aC 1 v2 v1 h2) fun _ h3 =>
 bnd (r 156 [x0] h3) fun v4 h4 =>
 bnd (aB 5 x3 h4) fun v5 h5 =>
 bnd (aC 1 v5 v4 h5) fun _ h6 =>
 bnd (r 157 [x0, (aF 10), (.s [93])] h6) fun v7 h7 =>
 bnd (aI 6 x3 h7) fun v8 h8 =>
 bnd (aC 6 x2 v8 h8) fun _ h9 =>
 bnd (aI 6 x2 h9) fun v10 _ =>
 some (v10, h9)
noncomputable def eX (r : RT) (n : Nat) (x0 x2 x3 : DV) (h0 : Hp) : aH :=
 bnd (aB 3 x3 h0) fun v1 h1 =>
 bnd (aA v1 h1) fun v2 h2 =>
 bnd (bT v2 h2) fun v3 h3 =>
 bnd (aE .gtr v3 (aF 0) h3) fun v4 h4 =>
 bnd (gD v4 true (some (x0, h4)) h4) fun v5 h5 =>
 bnd (gD v4 true (r 201 [v5, (aF 10), (.s [93])] h5) h5) fun v6 h6 =>
 bnd (gD v4 true (fV .not v6 h6) h6) fun v7 h7 =>
 bnd (aP v4 v7 (.b false) h7) fun v8 h8 =>
 aT v8 (
 bnd (r 157 [x0, (aF 10), (.s [124])] h8) fun v9 h9 =>
  aFu r n x0 x2 x3 h9) (
  aFu r n x0 x2 x3 h8)
noncomputable def aOe (r : RT) (n : Nat) (kk5 : eO) (x0 x2 x3 : DV) (h0 : Hp) : aH :=
 bnd (r 201 [x0, (aF 8), (.s [])] h0) fun v1 h1 =>
 aT v1 (
 bnd (aB 3 x3 (resv 1 h1)) fun v2 h2 =>
 bnd (aA v2 h2) fun v3 h3 =>
 bnd (aB 3 x3 h3) fun v4 h4 =>
 bnd (aA v4 h4) fun v5 h5 =>
 bnd (r 206 [x0, (aF 8), v5] h5) fun v6 h6 =>
 cnd (aZ (aA v2 h6) v3 && true) (
 bnd (aS (bB 0 h1.next) [(.s [])] 1 [(0, 1, v6)] h6) fun v7 h7 =>
 bnd (aW 1 16 v3 v7 h7) fun v8 h8 =>
 bnd (aB 3 x3 h8) fun v9 h9 =>
 bnd (aC 1 v9 v8 h9) fun v10 h10 =>
      kk5 x0 x2 x3 h10)) (
      eX r n x0 x2 x3 h1)
noncomputable def uC (r : RT) (n : Nat) (m : Nat) : eO :=
 Nat.rec (motive := fun _ => eO) (fun _ _ _ _ => none) (fun _ ih => aOe r n ih) m
noncomputable def cFy (r : RT) (n : Nat) : eO := uC r n n
noncomputable def zZ (r : RT) (n : Nat) (x0 x2 x3 : DV) (h0 : Hp) : aH :=
 cFy r n x0 x2 x3 h0
noncomputable def rC (r : RT) (n : Nat) (x0 x2 : DV) (h0 : Hp) : aH :=
 bnd (bA cV [(0, 1, (aF 9))] h0) fun v1 h1 =>
 bnd (bD cV h1) fun v2 h2 =>
 bnd (aC 6 v2 v1 h2) fun _ h3 =>
  zZ r n x0 x2 v2 h3
noncomputable def s299 (r : RT) (n : Nat) (x0 : DV) (h0 : Hp) : aH :=
 bnd (bD cV h0) fun v1 h1 =>
  rC r n x0 v1 h1
noncomputable abbrev c299 : Code := cf Tryz.f299
noncomputable abbrev aLm : Code := cR c299
noncomputable abbrev aDb : Code := cR aLm
noncomputable abbrev aOv : Code := cR aDb
noncomputable abbrev dKi : Code := cR aOv
noncomputable abbrev cFi : Code := cL aOv
noncomputable abbrev aJj : Code := cL aDb
noncomputable abbrev aJh : Code := cL aJj
noncomputable abbrev mO : Code := cL aJh
noncomputable abbrev aWu : Code := cL aLm
noncomputable abbrev aMx : Code := cL c299
noncomputable abbrev r299 : K := aQ CF Tryz.f299
noncomputable def D299 (r : RT) (n : Nat) (c : Code) (X : Nat → K) (k : K) : K := aM CF r 36 n c X r299 k
theorem cWy : D299 r n dKi x0 r299 = (K3 (aFu r n) 0 2 3) :=
 (by kernel_rfl)
theorem bWx : D299 r n aOv x0 r299 = D299 r n cFi x0 (K3 (aFu r n) 0 2 3) :=
 congrArg (fun k => D299 r n cFi x0 k) (cWy r n)
theorem cSf : D299 r n aOv x0 r299 = (K3 (eX r n) 0 2 3) :=
 (bWx r n).trans
 ((by kernel_rfl))
theorem cAt (kk5 : eO) (q0 : eO) : D299 r n mO (xs x0 0 (K3 q0 0 2 3)) (K3 kk5 0 2 3) = fun (env : aO) (h : Hp) =>
 bnd (r 201 [(env 0), (aF 8), (.s [])] h) fun v1 h1 =>
 aT v1 (
 bnd (aB 3 (env 3) (resv 1 h1)) fun v2 h2 =>
 bnd (aA v2 h2) fun v3 h3 =>
 bnd (aB 3 (env 3) h3) fun v4 h4 =>
 bnd (aA v4 h4) fun v5 h5 =>
 bnd (r 206 [(env 0), (aF 8), v5] h5) fun v6 h6 =>
 cnd (aZ (aA v2 h6) v3 && true) (
 bnd (aS (bB 0 h1.next) [(.s [])] 1 [(0, 1, v6)] h6) fun v7 h7 =>
 bnd (aW 1 16 v3 v7 h7) fun v8 h8 =>
 bnd (aB 3 (env 3) h8) fun v9 h9 =>
 bnd (aC 1 v9 v8 h9) fun v10 h10 =>
      kk5 (env 0) (env 2) (env 3) h10)) (
      q0 (env 0) (env 2) (env 3) h1) := by kernel_rfl
theorem bLo (kk5 : eO) : (fun (env : aO) (h : Hp) =>
 bnd (r 201 [(env 0), (aF 8), (.s [])] h) fun v1 h1 =>
 aT v1 (
 bnd (aB 3 (env 3) (resv 1 h1)) fun v2 h2 =>
 bnd (aA v2 h2) fun v3 h3 =>
 bnd (aB 3 (env 3) h3) fun v4 h4 =>
 bnd (aA v4 h4) fun v5 h5 =>
 bnd (r 206 [(env 0), (aF 8), v5] h5) fun v6 h6 =>
 cnd (aZ (aA v2 h6) v3 && true) (
 bnd (aS (bB 0 h1.next) [(.s [])] 1 [(0, 1, v6)] h6) fun v7 h7 =>
 bnd (aW 1 16 v3 v7 h7) fun v8 h8 =>
 bnd (aB 3 (env 3) h8) fun v9 h9 =>
 bnd (aC 1 v9 v8 h9) fun v10 h10 =>
      kk5 (env 0) (env 2) (env 3) h10)) (
      eX r n (env 0) (env 2) (env 3) h1)) = (K3 (aOe r n kk5) 0 2 3) := by kernel_rfl
theorem bYp (kk5 : eO) : D299 r n mO (xs x0 0 (K3 (eX r n) 0 2 3)) (K3 kk5 0 2 3) = (K3 (aOe r n kk5) 0 2 3) :=
 (cAt r n kk5 (eX r n)).trans (bLo r n kk5)
theorem cIw (m : Nat) : aL (fun kk => D299 r n mO (xs x0 0 (K3 (eX r n) 0 2 3)) kk) m = (K3 (uC r n m) 0 2 3) := by
 induction m with
 | zero => exact (by kernel_rfl : aL (fun kk => D299 r n mO (xs x0 0 (K3 (eX r n) 0 2 3)) kk) 0 = (K3 (uC r n 0) 0 2 3))
 | succ m ih =>
  refine (by kernel_rfl : aL (fun kk => D299 r n mO (xs x0 0 (K3 (eX r n) 0 2 3)) kk) (m + 1) = D299 r n mO (xs x0 0 (K3 (eX r n) 0 2 3)) (aL (fun kk => D299 r n mO (xs x0 0 (K3 (eX r n) 0 2 3)) kk) m)).trans ?_
  rw [ih]
  exact (bYp r n (uC r n m)).trans (by kernel_rfl)
theorem dCa : D299 r n aJh (xs x0 0 (K3 (eX r n) 0 2 3)) (K3 (eX r n) 0 2 3) = (K3 (cFy r n) 0 2 3) :=
 (by kernel_rfl : D299 r n aJh (xs x0 0 (K3 (eX r n) 0 2 3)) (K3 (eX r n) 0 2 3) = aL (fun kk => D299 r n mO (xs x0 0 (K3 (eX r n) 0 2 3)) kk) n).trans ((cIw r n n).trans (by kernel_rfl))
theorem cIl : D299 r n aDb x0 r299 = D299 r n aJj x0 (K3 (eX r n) 0 2 3) :=
 congrArg (fun k => D299 r n aJj x0 k) (cSf r n)
theorem cQh : D299 r n aDb x0 r299 = (K3 (zZ r n) 0 2 3) :=
 (cIl r n).trans
 ((by kernel_rfl : D299 r n aJj x0 (K3 (eX r n) 0 2 3) = D299 r n aJh (xs x0 0 (K3 (eX r n) 0 2 3)) (K3 (eX r n) 0 2 3)).trans
 ((dCa r n).trans (by kernel_rfl)))
theorem cGo : D299 r n aLm x0 r299 = D299 r n aWu x0 (K3 (zZ r n) 0 2 3) :=
 congrArg (fun k => D299 r n aWu x0 k) (cQh r n)
theorem cFu (q0 : eO) : D299 r n aWu x0 (K3 q0 0 2 3) = fun (env : aO) (h : Hp) =>
 bnd (bA cV [(0, 1, (aF 9))] h) fun v1 h1 =>
 bnd (bD cV h1) fun v2 h2 =>
 bnd (aC 6 v2 v1 h2) fun _ h3 =>
  q0 (env 0) (env 2) v2 h3 := by kernel_rfl
theorem bLt : (fun (env : aO) (h : Hp) =>
 bnd (bA cV [(0, 1, (aF 9))] h) fun v1 h1 =>
 bnd (bD cV h1) fun v2 h2 =>
 bnd (aC 6 v2 v1 h2) fun _ h3 =>
  zZ r n (env 0) (env 2) v2 h3) = (K2 (rC r n) 0 2) := by kernel_rfl
theorem cQo : D299 r n aLm x0 r299 = (K2 (rC r n) 0 2) :=
 (cGo r n).trans
 ((cFu r n (zZ r n)).trans (bLt r n))
theorem dMl : D299 r n c299 x0 r299 = D299 r n aMx x0 (K2 (rC r n) 0 2) :=
 congrArg (fun k => D299 r n aMx x0 k) (cQo r n)
theorem dKd (q0 : eM) : D299 r n aMx x0 (K2 q0 0 2) = fun (env : aO) (h : Hp) =>
 bnd (bD cV h) fun v1 h1 =>
  q0 (env 0) v1 h1 := by kernel_rfl
theorem cPd : (fun (env : aO) (h : Hp) =>
 bnd (bD cV h) fun v1 h1 =>
  rC r n (env 0) v1 h1) = (K1 (s299 r n) 0) := by kernel_rfl
theorem dUy : D299 r n c299 x0 r299 = (K1 (s299 r n) 0) :=
 (dMl r n).trans
 ((dKd r n (rC r n)).trans (cPd r n))
theorem dKo : aG CF r n 299 args h = s299 r n (aR args 0) h :=
 (by kernel_rfl : aG CF r n 299 args h = D299 r n c299 x0 r299 (aK args) h).trans ((congrFun (congrFun (dUy r n) (aK args)) h).trans (by kernel_rfl))
noncomputable def s305 (r : RT) (n : Nat) (x0 x1 x2 : DV) (h0 : Hp) : aH :=
 bnd (aA x0 h0) fun v1 h1 =>
 bnd (aB 5 x1 h1) fun v2 h2 =>
 bnd (aA v2 h2) fun v3 h3 =>
 bnd (aA x2 h3) fun v4 h4 =>
 bnd (aJ 6 v3 v4 h4) fun v5 h5 =>
 bnd (aI 6 v5 h5) fun v6 h6 =>
 bnd (r 249 [v1, v6] h6) fun v7 h7 =>
 some (.t [], h7)
noncomputable abbrev c305 : Code := cf Tryz.f305
noncomputable abbrev r305 : K := aQ CF Tryz.f305
noncomputable def D305 (r : RT) (n : Nat) (c : Code) (X : Nat → K) (k : K) : K := aM CF r 10 n c X r305 k
theorem dXk : D305 r n c305 x0 r305 = (K3 (s305 r n) 0 1 2) :=
 (by kernel_rfl)
theorem dGy : aG CF r n 305 args h = s305 r n (aR args 0) (aR args 1) (aR args 2) h :=
 (by kernel_rfl : aG CF r n 305 args h = D305 r n c305 x0 r305 (aK args) h).trans ((congrFun (congrFun (dXk r n) (aK args)) h).trans (by kernel_rfl))
noncomputable def s308 (r : RT) (n : Nat) (x0 x1 : DV) (h0 : Hp) : aH :=
 bnd (r 314 [x0, x1] h0) fun v1 h1 =>
 bnd (aE .geq v1 (aF 0) h1) fun v2 h2 =>
 some (v2, h2)
noncomputable abbrev c308 : Code := cf Tryz.f308
noncomputable abbrev r308 : K := aQ CF Tryz.f308
noncomputable def D308 (r : RT) (n : Nat) (c : Code) (X : Nat → K) (k : K) : K := aM CF r 9 n c X r308 k
theorem dRc : D308 r n c308 x0 r308 = (K2 (s308 r n) 0 1) :=
 (by kernel_rfl)
theorem dHe : aG CF r n 308 args h = s308 r n (aR args 0) (aR args 1) h :=
 (by kernel_rfl : aG CF r n 308 args h = D308 r n c308 x0 r308 (aK args) h).trans ((congrFun (congrFun (dRc r n) (aK args)) h).trans (by kernel_rfl))
noncomputable def s309 (r : RT) (n : Nat) (x0 : DV) (h0 : Hp) : aH :=
 bnd (bN x0 h0) fun v1 h1 =>
 bnd (aI 6 v1 h1) fun v2 h2 =>
 bnd (r 310 [v2] h2) fun v3 h3 =>
 bnd (fV .not v3 h3) fun v4 h4 =>
 some (v4, h4)
noncomputable abbrev c309 : Code := cf Tryz.f309
noncomputable abbrev r309 : K := aQ CF Tryz.f309
noncomputable def D309 (r : RT) (n : Nat) (c : Code) (X : Nat → K) (k : K) : K := aM CF r 6 n c X r309 k
theorem dXo : D309 r n c309 x0 r309 = (K1 (s309 r n) 0) :=
 (by kernel_rfl)
theorem dMq : aG CF r n 309 args h = s309 r n (aR args 0) h :=
 (by kernel_rfl : aG CF r n 309 args h = D309 r n c309 x0 r309 (aK args) h).trans ((congrFun (congrFun (dXo r n) (aK args)) h).trans (by kernel_rfl))
noncomputable def s310 (r : RT) (n : Nat) (x0 : DV) (h0 : Hp) : aH :=
 bnd (bN x0 h0) fun v1 h1 =>
 bnd (aB 0 v1 h1) fun v2 h2 =>
 bnd (aA v2 h2) fun v3 h3 =>
 bnd (aE .eql v3 (aF 9) h3) fun v4 h4 =>
 bnd (gD v4 true (aB 3 v1 h4) h4) fun v5 h5 =>
 bnd (gD v4 true (aA v5 h5) h5) fun v6 h6 =>
 bnd (gD v4 true (bT v6 h6) h6) fun v7 h7 =>
 bnd (gD v4 true (aE .eql v7 (aF 0) h7) h7) fun v8 h8 =>
 bnd (aP v4 v8 (.b false) h8) fun v9 h9 =>
 some (v9, h9)
noncomputable abbrev c310 : Code := cf Tryz.f310
noncomputable abbrev r310 : K := aQ CF Tryz.f310
noncomputable def D310 (r : RT) (n : Nat) (c : Code) (X : Nat → K) (k : K) : K := aM CF r 12 n c X r310 k
theorem dWv : D310 r n c310 x0 r310 = (K1 (s310 r n) 0) :=
 (by kernel_rfl)
theorem dMm : aG CF r n 310 args h = s310 r n (aR args 0) h :=
 (by kernel_rfl : aG CF r n 310 args h = D310 r n c310 x0 r310 (aK args) h).trans ((congrFun (congrFun (dWv r n) (aK args)) h).trans (by kernel_rfl))
noncomputable def s311 (r : RT) (n : Nat) (x0 : DV) (h0 : Hp) : aH :=
 bnd (bN x0 h0) fun v1 h1 =>
 bnd (aB 0 v1 h1) fun v2 h2 =>
 bnd (aA v2 h2) fun v3 h3 =>
 bnd (aE .eql v3 (aF 5) h3) fun v4 h4 =>
 bnd (gD v4 true (aB 1 v1 h4) h4) fun v5 h5 =>
 bnd (gD v4 true (aA v5 h5) h5) fun v6 h6 =>
 bnd (gD v4 true (dR .eql v6 (.s [115, 117, 112, 101, 114]) h6) h6) fun v7 h7 =>
 bnd (aP v4 v7 (.b false) h7) fun v8 h8 =>
 some (v8, h8)
noncomputable abbrev c311 : Code := cf Tryz.f311
noncomputable abbrev r311 : K := aQ CF Tryz.f311
noncomputable def D311 (r : RT) (n : Nat) (c : Code) (X : Nat → K) (k : K) : K := aM CF r 11 n c X r311 k
theorem dTs : D311 r n c311 x0 r311 = (K1 (s311 r n) 0) :=
 (by kernel_rfl)
theorem dMe : aG CF r n 311 args h = s311 r n (aR args 0) h :=
 (by kernel_rfl : aG CF r n 311 args h = D311 r n c311 x0 r311 (aK args) h).trans ((congrFun (congrFun (dTs r n) (aK args)) h).trans (by kernel_rfl))
noncomputable def s313 (r : RT) (n : Nat) (x0 : DV) (h0 : Hp) : aH :=
 bnd (r 205 [x0, (aF 1)] h0) fun v1 h1 =>
 bnd (bD [(aF 0), (.s []), (aF 0), (aF 0)] h1) fun v2 h2 =>
 bnd (aC 4 v2 v1 h2) fun _ h3 =>
 bnd (r 201 [x0, (aF 3), (.s [45])] h3) fun v4 h4 =>
 bnd (gD v4 true (aB 0 v2 h4) h4) fun v5 h5 =>
 bnd (gD v4 true (aA v5 h5) h5) fun v6 h6 =>
 bnd (gD v4 true (aE .eql v6 (aF 4) h6) h6) fun v7 h7 =>
 bnd (aP v4 v7 (.b false) h7) fun v8 h8 =>
 bnd (gD v8 true (aB 3 v2 h8) h8) fun v9 h9 =>
 bnd (gD v8 true (aA v9 h9) h9) fun v10 h10 =>
 bnd (gD v8 true (some (x0, h10)) h10) fun v11 h11 =>
 bnd (gD v8 true (r 205 [v11, (aF 0)] h11) h11) fun v12 h12 =>
 cnd (aZ (gD v8 true (aA v9 h12) h12) v10 && true) (
 bnd (gD v8 true (dA 3 v12 h12) h12) fun v13 h13 =>
 bnd (gD v8 true (aE .add v13 (aF 1) h13) h13) fun v14 h14 =>
 bnd (gD v8 true (aE .eql v10 v14 h14) h14) fun v15 h15 =>
 bnd (aP v8 v15 (.b false) h15) fun v16 h16 =>
 some (v16, h16))
noncomputable abbrev c313 : Code := cf Tryz.f313
noncomputable abbrev r313 : K := aQ CF Tryz.f313
noncomputable def D313 (r : RT) (n : Nat) (c : Code) (X : Nat → K) (k : K) : K := aM CF r 22 n c X r313 k
theorem dYj : D313 r n c313 x0 r313 = (K1 (s313 r n) 0) :=
 (by kernel_rfl)
theorem dEs : aG CF r n 313 args h = s313 r n (aR args 0) h :=
 (by kernel_rfl : aG CF r n 313 args h = D313 r n c313 x0 r313 (aK args) h).trans ((congrFun (congrFun (dYj r n) (aK args)) h).trans (by kernel_rfl))
end Go.Dd

namespace Go.Dd
open Go.Proofs
section
variable (ih : RT) (m : Nat) (f : FuncId) (args : List DV) (h : Hp)
theorem cQ {i : Nat} {s r : aH} (e1 : s = aG CF ih m i args h) (e2 : r = aG CF ih m f args h) : (bif Nat.beq f i then s else r) = aG CF ih m f args h := by
 cases e : Nat.beq f i with
 | false => exact e2
 | true => cases Nat.eq_of_beq_eq_true e; exact e1
theorem ndC {i : Nat} {a b : aH} (e1 : a = aG CF ih m f args h) (e2 : b = aG CF ih m f args h) : (bif Nat.blt f i then a else b) = aG CF ih m f args h := by
 cases Nat.blt f i with
 | false => exact e2
 | true => exact e1
noncomputable def qg0 : aH := bif Nat.beq f 10 then s10 ih m (aR args 0) h else bif Nat.beq f 11 then s11 ih m (aR args 0) (aR args 1) h else bif Nat.beq f 13 then s13 ih m (aR args 0) (aR args 1) h else bif Nat.beq f 15 then s15 ih m (aR args 0) (aR args 1) h else bif Nat.beq f 16 then s16 ih m h else bif Nat.beq f 17 then s17 ih m (aR args 0) (aR args 1) h else bif Nat.beq f 34 then s34 ih m (aR args 0) (aR args 1) (aR args 2) h else bif Nat.beq f 45 then s45 ih m (aR args 0) (aR args 1) h else aG CF ih m f args h
theorem eAy : qg0 ih m f args h = aG CF ih m f args h := cQ ih m f args h (bEm ih m args h).symm (cQ ih m f args h (dUd ih m args h).symm (cQ ih m f args h (dVn ih m args h).symm (cQ ih m f args h (dWd ih m args h).symm (cQ ih m f args h (dDf ih m args h).symm (cQ ih m f args h (dSc ih m args h).symm (cQ ih m f args h (dSe ih m args h).symm (cQ ih m f args h (dWo ih m args h).symm rfl)))))))
noncomputable def qg1 : aH := bif Nat.beq f 46 then s46 ih m (aR args 0) h else bif Nat.beq f 48 then s48 ih m (aR args 0) (aR args 1) (aR args 2) h else bif Nat.beq f 49 then s49 ih m (aR args 0) (aR args 1) (aR args 2) h else bif Nat.beq f 53 then s53 ih m (aR args 0) (aR args 1) (aR args 2) h else bif Nat.beq f 55 then s55 ih m (aR args 0) (aR args 1) h else bif Nat.beq f 57 then s57 ih m (aR args 0) (aR args 1) h else bif Nat.beq f 58 then s58 ih m (aR args 0) (aR args 1) h else bif Nat.beq f 61 then s61 ih m (aR args 0) (aR args 1) (aR args 2) (aR args 3) h else aG CF ih m f args h
theorem dYx : qg1 ih m f args h = aG CF ih m f args h := cQ ih m f args h (dSj ih m args h).symm (cQ ih m f args h (dXi ih m args h).symm (cQ ih m f args h (dRv ih m args h).symm (cQ ih m f args h (dTy ih m args h).symm (cQ ih m f args h (dDs ih m args h).symm (cQ ih m f args h (dVk ih m args h).symm (cQ ih m f args h (dQw ih m args h).symm (cQ ih m f args h (dVb ih m args h).symm rfl)))))))
noncomputable def qg2 : aH := bif Nat.beq f 65 then s65 ih m (aR args 0) (aR args 1) h else bif Nat.beq f 66 then s66 ih m (aR args 0) (aR args 1) h else bif Nat.beq f 76 then s76 ih m (aR args 0) (aR args 1) (aR args 2) h else bif Nat.beq f 79 then s79 ih m (aR args 0) (aR args 1) h else bif Nat.beq f 86 then s86 ih m (aR args 0) h else bif Nat.beq f 87 then s87 ih m (aR args 0) (aR args 1) h else bif Nat.beq f 88 then s88 ih m (aR args 0) (aR args 1) (aR args 2) h else bif Nat.beq f 92 then s92 ih m (aR args 0) (aR args 1) h else aG CF ih m f args h
theorem eBv : qg2 ih m f args h = aG CF ih m f args h := cQ ih m f args h (dVj ih m args h).symm (cQ ih m f args h (dXd ih m args h).symm (cQ ih m f args h (dQr ih m args h).symm (cQ ih m f args h (dYs ih m args h).symm (cQ ih m f args h (dWt ih m args h).symm (cQ ih m f args h (dSm ih m args h).symm (cQ ih m f args h (dYo ih m args h).symm (cQ ih m f args h (dTv ih m args h).symm rfl)))))))
noncomputable def qg3 : aH := bif Nat.beq f 93 then s93 ih m (aR args 0) (aR args 1) h else bif Nat.beq f 97 then s97 ih m (aR args 0) (aR args 1) h else bif Nat.beq f 106 then s106 ih m (aR args 0) (aR args 1) h else bif Nat.beq f 109 then s109 ih m (aR args 0) (aR args 1) h else bif Nat.beq f 112 then s112 ih m (aR args 0) h else bif Nat.beq f 114 then s114 ih m (aR args 0) (aR args 1) h else bif Nat.beq f 119 then s119 ih m (aR args 0) (aR args 1) h else bif Nat.beq f 120 then s120 ih m (aR args 0) (aR args 1) h else aG CF ih m f args h
theorem eDm : qg3 ih m f args h = aG CF ih m f args h := cQ ih m f args h (dSg ih m args h).symm (cQ ih m f args h (dWq ih m args h).symm (cQ ih m f args h (dNy ih m args h).symm (cQ ih m f args h (dOl ih m args h).symm (cQ ih m f args h (dHq ih m args h).symm (cQ ih m f args h (dHc ih m args h).symm (cQ ih m f args h (dIa ih m args h).symm (cQ ih m f args h (dFf ih m args h).symm rfl)))))))
noncomputable def qg4 : aH := bif Nat.beq f 121 then s121 ih m (aR args 0) h else bif Nat.beq f 122 then s122 ih m (aR args 0) (aR args 1) (aR args 2) h else bif Nat.beq f 123 then s123 ih m (aR args 0) (aR args 1) (aR args 2) h else bif Nat.beq f 124 then s124 ih m (aR args 0) (aR args 1) (aR args 2) (aR args 3) h else bif Nat.beq f 135 then s135 ih m (aR args 0) (aR args 1) h else bif Nat.beq f 145 then s145 ih m (aR args 0) (aR args 1) (aR args 2) h else bif Nat.beq f 146 then s146 ih m (aR args 0) (aR args 1) h else bif Nat.beq f 147 then s147 ih m (aR args 0) h else aG CF ih m f args h
theorem dZj : qg4 ih m f args h = aG CF ih m f args h := cQ ih m f args h (dJe ih m args h).symm (cQ ih m f args h (dQg ih m args h).symm (cQ ih m f args h (dGn ih m args h).symm (cQ ih m f args h (bPq ih m args h).symm (cQ ih m f args h (dPh ih m args h).symm (cQ ih m f args h (dKv ih m args h).symm (cQ ih m f args h (dLt ih m args h).symm (cQ ih m f args h (dFr ih m args h).symm rfl)))))))
noncomputable def qg5 : aH := bif Nat.beq f 148 then s148 ih m (aR args 0) (aR args 1) h else bif Nat.beq f 149 then s149 ih m (aR args 0) h else bif Nat.beq f 150 then s150 ih m (aR args 0) (aR args 1) (aR args 2) h else bif Nat.beq f 151 then s151 ih m (aR args 0) h else bif Nat.beq f 152 then s152 ih m (aR args 0) (aR args 1) h else bif Nat.beq f 153 then s153 ih m (aR args 0) (aR args 1) h else bif Nat.beq f 154 then s154 ih m (aR args 0) h else bif Nat.beq f 155 then s155 ih m (aR args 0) h else aG CF ih m f args h
theorem eAw : qg5 ih m f args h = aG CF ih m f args h := cQ ih m f args h (dLq ih m args h).symm (cQ ih m f args h (dMh ih m args h).symm (cQ ih m f args h (dKu ih m args h).symm (cQ ih m f args h (dLy ih m args h).symm (cQ ih m f args h (dPo ih m args h).symm (cQ ih m f args h (dEn ih m args h).symm (cQ ih m f args h (dJs ih m args h).symm (cQ ih m f args h (dOe ih m args h).symm rfl)))))))
noncomputable def qg6 : aH := bif Nat.beq f 156 then s156 ih m (aR args 0) h else bif Nat.beq f 157 then s157 ih m (aR args 0) (aR args 1) (aR args 2) h else bif Nat.beq f 158 then s158 ih m (aR args 0) (aR args 1) h else bif Nat.beq f 159 then s159 ih m (aR args 0) h else bif Nat.beq f 160 then s160 ih m (aR args 0) (aR args 1) (aR args 2) h else bif Nat.beq f 161 then s161 ih m (aR args 0) h else bif Nat.beq f 162 then s162 ih m (aR args 0) (aR args 1) h else bif Nat.beq f 187 then s187 ih m (aR args 0) (aR args 1) h else aG CF ih m f args h
theorem dZn : qg6 ih m f args h = aG CF ih m f args h := cQ ih m f args h (dFs ih m args h).symm (cQ ih m f args h (dKt ih m args h).symm (cQ ih m f args h (dOu ih m args h).symm (cQ ih m f args h (dOp ih m args h).symm (cQ ih m f args h (dPm ih m args h).symm (cQ ih m f args h (dJy ih m args h).symm (cQ ih m f args h (dGs ih m args h).symm (cQ ih m f args h (dFh ih m args h).symm rfl)))))))
noncomputable def qg7 : aH := bif Nat.beq f 189 then s189 ih m (aR args 0) h else bif Nat.beq f 190 then s190 ih m (aR args 0) (aR args 1) h else bif Nat.beq f 191 then s191 ih m (aR args 0) (aR args 1) h else bif Nat.beq f 192 then s192 ih m (aR args 0) (aR args 1) h else bif Nat.beq f 193 then s193 ih m (aR args 0) h else bif Nat.beq f 194 then s194 ih m (aR args 0) (aR args 1) (aR args 2) (aR args 3) (aR args 4) (aR args 5) (aR args 6) (aR args 7) h else bif Nat.beq f 195 then s195 ih m (aR args 0) h else bif Nat.beq f 196 then s196 ih m (aR args 0) h else aG CF ih m f args h
theorem dZr : qg7 ih m f args h = aG CF ih m f args h := cQ ih m f args h (dPi ih m args h).symm (cQ ih m f args h (dIb ih m args h).symm (cQ ih m f args h (dIu ih m args h).symm (cQ ih m f args h (dLr ih m args h).symm (cQ ih m f args h (dHt ih m args h).symm (cQ ih m f args h (dGe ih m args h).symm (cQ ih m f args h (dNd ih m args h).symm (cQ ih m f args h (dMa ih m args h).symm rfl)))))))
noncomputable def qg8 : aH := bif Nat.beq f 197 then s197 ih m (aR args 0) (aR args 1) (aR args 2) h else bif Nat.beq f 198 then s198 ih m (aR args 0) h else bif Nat.beq f 199 then s199 ih m (aR args 0) (aR args 1) h else bif Nat.beq f 200 then s200 ih m (aR args 0) h else bif Nat.beq f 201 then s201 ih m (aR args 0) (aR args 1) (aR args 2) h else bif Nat.beq f 202 then s202 ih m (aR args 0) h else bif Nat.beq f 203 then s203 ih m (aR args 0) h else bif Nat.beq f 205 then s205 ih m (aR args 0) (aR args 1) h else aG CF ih m f args h
theorem eDn : qg8 ih m f args h = aG CF ih m f args h := cQ ih m f args h (dQb ih m args h).symm (cQ ih m f args h (dMi ih m args h).symm (cQ ih m f args h (dEa ih m args h).symm (cQ ih m f args h (dEd ih m args h).symm (cQ ih m f args h (dHp ih m args h).symm (cQ ih m f args h (dEu ih m args h).symm (cQ ih m f args h (dPn ih m args h).symm (cQ ih m f args h (dEb ih m args h).symm rfl)))))))
noncomputable def qg9 : aH := bif Nat.beq f 206 then s206 ih m (aR args 0) (aR args 1) (aR args 2) h else bif Nat.beq f 207 then s207 ih m (aR args 0) (aR args 1) (aR args 2) h else bif Nat.beq f 208 then s208 ih m (aR args 0) (aR args 1) h else bif Nat.beq f 209 then s209 ih m (aR args 0) (aR args 1) (aR args 2) (aR args 3) h else bif Nat.beq f 227 then s227 ih m (aR args 0) h else bif Nat.beq f 228 then s228 ih m (aR args 0) (aR args 1) h else bif Nat.beq f 229 then s229 ih m (aR args 0) (aR args 1) h else bif Nat.beq f 230 then s230 ih m (aR args 0) (aR args 1) h else aG CF ih m f args h
theorem eAd : qg9 ih m f args h = aG CF ih m f args h := cQ ih m f args h (dEi ih m args h).symm (cQ ih m f args h (dLu ih m args h).symm (cQ ih m f args h (dMd ih m args h).symm (cQ ih m f args h (dNu ih m args h).symm (cQ ih m f args h (dJz ih m args h).symm (cQ ih m f args h (dLh ih m args h).symm (cQ ih m f args h (dNf ih m args h).symm (cQ ih m f args h (dLo ih m args h).symm rfl)))))))
noncomputable def dUt : aH := bif Nat.beq f 231 then s231 ih m (aR args 0) h else bif Nat.beq f 232 then s232 ih m (aR args 0) h else bif Nat.beq f 233 then s233 ih m (aR args 0) h else bif Nat.beq f 234 then s234 ih m (aR args 0) h else bif Nat.beq f 235 then s235 ih m (aR args 0) h else bif Nat.beq f 237 then s237 ih m (aR args 0) h else bif Nat.beq f 238 then s238 ih m (aR args 0) h else bif Nat.beq f 239 then s239 ih m (aR args 0) (aR args 1) h else aG CF ih m f args h
theorem dUr : dUt ih m f args h = aG CF ih m f args h := cQ ih m f args h (dEp ih m args h).symm (cQ ih m f args h (dPa ih m args h).symm (cQ ih m f args h (dLf ih m args h).symm (cQ ih m f args h (dQc ih m args h).symm (cQ ih m f args h (dNg ih m args h).symm (cQ ih m f args h (dFq ih m args h).symm (cQ ih m f args h (dIn ih m args h).symm (cQ ih m f args h (dNk ih m args h).symm rfl)))))))
noncomputable def dXt : aH := bif Nat.beq f 240 then s240 ih m (aR args 0) h else bif Nat.beq f 243 then s243 ih m (aR args 0) (aR args 1) h else bif Nat.beq f 244 then s244 ih m (aR args 0) (aR args 1) h else bif Nat.beq f 245 then s245 ih m (aR args 0) (aR args 1) h else bif Nat.beq f 246 then s246 ih m (aR args 0) (aR args 1) h else bif Nat.beq f 248 then s248 ih m (aR args 0) (aR args 1) h else bif Nat.beq f 249 then s249 ih m (aR args 0) (aR args 1) h else bif Nat.beq f 250 then s250 ih m (aR args 0) (aR args 1) h else aG CF ih m f args h
theorem dYg : dXt ih m f args h = aG CF ih m f args h := cQ ih m f args h (dIt ih m args h).symm (cQ ih m f args h (dOr ih m args h).symm (cQ ih m f args h (dJl ih m args h).symm (cQ ih m f args h (dJp ih m args h).symm (cQ ih m f args h (dNt ih m args h).symm (cQ ih m f args h (dJv ih m args h).symm (cQ ih m f args h (dOd ih m args h).symm (cQ ih m f args h (dGq ih m args h).symm rfl)))))))
noncomputable def dSd : aH := bif Nat.beq f 267 then s267 ih m (aR args 0) h else bif Nat.beq f 269 then s269 ih m (aR args 0) (aR args 1) h else bif Nat.beq f 270 then s270 ih m (aR args 0) (aR args 1) h else bif Nat.beq f 271 then s271 ih m (aR args 0) (aR args 1) h else bif Nat.beq f 272 then s272 ih m (aR args 0) h else bif Nat.beq f 275 then s275 ih m (aR args 0) (aR args 1) h else bif Nat.beq f 276 then s276 ih m (aR args 0) (aR args 1) h else bif Nat.beq f 277 then s277 ih m (aR args 0) (aR args 1) h else aG CF ih m f args h
theorem dQj : dSd ih m f args h = aG CF ih m f args h := cQ ih m f args h (dIz ih m args h).symm (cQ ih m f args h (dFb ih m args h).symm (cQ ih m f args h (dFw ih m args h).symm (cQ ih m f args h (dPl ih m args h).symm (cQ ih m f args h (dGv ih m args h).symm (cQ ih m f args h (dFc ih m args h).symm (cQ ih m f args h (dOq ih m args h).symm (cQ ih m f args h (dJb ih m args h).symm rfl)))))))
noncomputable def dXs : aH := bif Nat.beq f 278 then s278 ih m (aR args 0) (aR args 1) h else bif Nat.beq f 280 then s280 ih m (aR args 0) (aR args 1) h else bif Nat.beq f 281 then s281 ih m (aR args 0) (aR args 1) h else bif Nat.beq f 282 then s282 ih m (aR args 0) (aR args 1) h else bif Nat.beq f 283 then s283 ih m (aR args 0) (aR args 1) (aR args 2) (aR args 3) h else bif Nat.beq f 284 then s284 ih m (aR args 0) (aR args 1) h else bif Nat.beq f 285 then s285 ih m (aR args 0) h else bif Nat.beq f 286 then s286 ih m (aR args 0) (aR args 1) (aR args 2) h else aG CF ih m f args h
theorem dQs : dXs ih m f args h = aG CF ih m f args h := cQ ih m f args h (dKq ih m args h).symm (cQ ih m f args h (dHf ih m args h).symm (cQ ih m f args h (dEo ih m args h).symm (cQ ih m f args h (dHi ih m args h).symm (cQ ih m f args h (dPy ih m args h).symm (cQ ih m f args h (dHz ih m args h).symm (cQ ih m f args h (dPk ih m args h).symm (cQ ih m f args h (dOx ih m args h).symm rfl)))))))
noncomputable def dUa : aH := bif Nat.beq f 287 then s287 ih m (aR args 0) (aR args 1) (aR args 2) (aR args 3) h else bif Nat.beq f 294 then s294 ih m (aR args 0) (aR args 1) h else bif Nat.beq f 295 then s295 ih m (aR args 0) h else bif Nat.beq f 296 then s296 ih m (aR args 0) (aR args 1) h else bif Nat.beq f 298 then s298 ih m (aR args 0) h else bif Nat.beq f 299 then s299 ih m (aR args 0) h else bif Nat.beq f 305 then s305 ih m (aR args 0) (aR args 1) (aR args 2) h else bif Nat.beq f 308 then s308 ih m (aR args 0) (aR args 1) h else aG CF ih m f args h
theorem dSa : dUa ih m f args h = aG CF ih m f args h := cQ ih m f args h (dHv ih m args h).symm (cQ ih m f args h (dOg ih m args h).symm (cQ ih m f args h (dNv ih m args h).symm (cQ ih m f args h (dLg ih m args h).symm (cQ ih m f args h (dIp ih m args h).symm (cQ ih m f args h (dKo ih m args h).symm (cQ ih m f args h (dGy ih m args h).symm (cQ ih m f args h (dHe ih m args h).symm rfl)))))))
noncomputable def dTc : aH := bif Nat.beq f 309 then s309 ih m (aR args 0) h else bif Nat.beq f 310 then s310 ih m (aR args 0) h else bif Nat.beq f 311 then s311 ih m (aR args 0) h else bif Nat.beq f 313 then s313 ih m (aR args 0) h else aG CF ih m f args h
theorem dRw : dTc ih m f args h = aG CF ih m f args h := cQ ih m f args h (dMq ih m args h).symm (cQ ih m f args h (dMm ih m args h).symm (cQ ih m f args h (dMe ih m args h).symm (cQ ih m f args h (dEs ih m args h).symm rfl)))
noncomputable def qd0 : aH := bif Nat.blt f 46 then qg0 ih m f args h else qg1 ih m f args h
theorem eAr : qd0 ih m f args h = aG CF ih m f args h := ndC ih m f args h (eAy ih m f args h) (dYx ih m f args h)
noncomputable def qd1 : aH := bif Nat.blt f 93 then qg2 ih m f args h else qg3 ih m f args h
theorem eCu : qd1 ih m f args h = aG CF ih m f args h := ndC ih m f args h (eBv ih m f args h) (eDm ih m f args h)
noncomputable def qd2 : aH := bif Nat.blt f 65 then qd0 ih m f args h else qd1 ih m f args h
theorem dZa : qd2 ih m f args h = aG CF ih m f args h := ndC ih m f args h (eAr ih m f args h) (eCu ih m f args h)
noncomputable def qd3 : aH := bif Nat.blt f 148 then qg4 ih m f args h else qg5 ih m f args h
theorem dZi : qd3 ih m f args h = aG CF ih m f args h := ndC ih m f args h (dZj ih m f args h) (eAw ih m f args h)
noncomputable def qd4 : aH := bif Nat.blt f 189 then qg6 ih m f args h else qg7 ih m f args h
theorem eBi : qd4 ih m f args h = aG CF ih m f args h := ndC ih m f args h (dZn ih m f args h) (dZr ih m f args h)
noncomputable def qd5 : aH := bif Nat.blt f 156 then qd3 ih m f args h else qd4 ih m f args h
theorem eAj : qd5 ih m f args h = aG CF ih m f args h := ndC ih m f args h (dZi ih m f args h) (eBi ih m f args h)
noncomputable def qd6 : aH := bif Nat.blt f 121 then qd2 ih m f args h else qd5 ih m f args h
theorem eBo : qd6 ih m f args h = aG CF ih m f args h := ndC ih m f args h (dZa ih m f args h) (eAj ih m f args h)
noncomputable def qd7 : aH := bif Nat.blt f 206 then qg8 ih m f args h else qg9 ih m f args h
theorem dZs : qd7 ih m f args h = aG CF ih m f args h := ndC ih m f args h (eDn ih m f args h) (eAd ih m f args h)
noncomputable def qd8 : aH := bif Nat.blt f 240 then dUt ih m f args h else dXt ih m f args h
theorem dZe : qd8 ih m f args h = aG CF ih m f args h := ndC ih m f args h (dUr ih m f args h) (dYg ih m f args h)
noncomputable def qd9 : aH := bif Nat.blt f 231 then qd7 ih m f args h else qd8 ih m f args h
theorem eDh : qd9 ih m f args h = aG CF ih m f args h := ndC ih m f args h (dZs ih m f args h) (dZe ih m f args h)
noncomputable def dXu : aH := bif Nat.blt f 278 then dSd ih m f args h else dXs ih m f args h
theorem dQz : dXu ih m f args h = aG CF ih m f args h := ndC ih m f args h (dQj ih m f args h) (dQs ih m f args h)
noncomputable def dTh : aH := bif Nat.blt f 309 then dUa ih m f args h else dTc ih m f args h
theorem dUz : dTh ih m f args h = aG CF ih m f args h := ndC ih m f args h (dSa ih m f args h) (dRw ih m f args h)
noncomputable def dSv : aH := bif Nat.blt f 287 then dXu ih m f args h else dTh ih m f args h
theorem dUq : dSv ih m f args h = aG CF ih m f args h := ndC ih m f args h (dQz ih m f args h) (dUz ih m f args h)
noncomputable def dQo : aH := bif Nat.blt f 267 then qd9 ih m f args h else dSv ih m f args h
theorem dTp : dQo ih m f args h = aG CF ih m f args h := ndC ih m f args h (eDh ih m f args h) (dUq ih m f args h)
noncomputable def dQx : aH := bif Nat.blt f 197 then qd6 ih m f args h else dQo ih m f args h
theorem dVs : dQx ih m f args h = aG CF ih m f args h := ndC ih m f args h (eBo ih m f args h) (dTp ih m f args h)
end
noncomputable def shB (ih : RT) (m : Nat) (f : FuncId) (args : List DV) (h : Hp) : aH := dQx ih m f args h
theorem zJ (ih : RT) (m : Nat) (f : FuncId) (args : List DV) (h : Hp) : shB ih m f args h = aG CF ih m f args h := dVs ih m f args h
noncomputable def qO (n : Nat) : FuncId → List DV → Hp → aH :=
 Nat.rec (motive := fun _ => FuncId → List DV → Hp → aH) (fun _ _ _ => none) (fun m ih => fun f args h => bif rgB f then iD CF ih m itm f args h else shB ih m f args h) n
theorem qH (f : FuncId) (hf : rgB f = false) (n : Nat) (args : List DV) (h : Hp) : qO (n + 1) f args h = aG CF (qO n) n f args h := by
 show (bif rgB f then iD CF (qO n) n itm f args h else shB (qO n) n f args h) = _
 rw [hf, cond_false, zJ]
theorem aDx : ∀ n, qO n = fN CF n
 | 0 => rfl
 | n + 1 => by
  funext f args h
  show (bif rgB f then iD CF (qO n) n itm f args h else shB (qO n) n f args h) = (bif rgB f then iD CF (fN CF n) n itm f else aG CF (fN CF n) n f) args h
  rw [← aDx n]
  cases rgB f with
  | true => rfl
  | false => exact zJ _ _ _ _ _
end Go.Dd

namespace Go.Dd
noncomputable section
def mkW (l : List Nat) : Nat → WT → WT := List.rec (motive := fun _ => Nat → WT → WT) (fun _ t => t) (fun x _ ih i t => ih (Nat.add i 1) (t.set i (.ofNat x))) l
def aEd (l : List (Nat × Nat)) : WT → WT := List.rec (motive := fun _ => WT → WT) (fun t => t) (fun x _ ih t => ih (t.set x.1 (.ofNat x.2))) l
def mkP (l : List Nat) : WT → WT := List.rec (motive := fun _ => WT → WT) (fun t => t) (fun x _ ih t => ih (t.set x (.ofNat 1))) l
def tB (l : List Nat) : Nat → List Nat := List.rec (motive := fun _ => Nat → List Nat) (fun _ => []) (fun x _ ih n => bif Nat.beq n 0 then [] else x :: ih (Nat.sub n 1)) l
def eDs (f : Nat) : Nat → Pos := Nat.rec (motive := fun _ => Nat → Pos) (fun _ => .h) (fun _ ih n => bif Nat.beq n 1 then .h else bif Nat.beq (Nat.mod n 2) 0 then .o (ih (Nat.div n 2)) else .i (ih (Nat.div n 2))) f
def bH (n : Nat) : Pos := eDs 24 (Nat.add 1023 n)
def eI : List Nat := [79, 98, 106, 101, 99, 116]
def aNp : List Nat := [67, 108, 97, 115, 115]
def aAe : List Nat := [84, 114, 117, 101]
def oL : List Nat := [70, 97, 108, 115, 101]
def dO : List Nat := [73, 110, 116, 101, 103, 101, 114]
def aEw : List Nat := [65, 114, 114, 97, 121]
def pO : List Nat := [83, 116, 114, 105, 110, 103]
def cWl : List Nat := [83, 121, 109, 98, 111, 108]
def rO : List Nat := [66, 108, 111, 99, 107]
def iU : List Nat := [67, 111, 110, 116, 101, 120, 116]
def aRp : List Nat := [77, 101, 115, 115, 97, 103, 101]
def bJn : List (List Nat × List Nat) := [
 (eI, [61, 32, 111, 116, 104, 101, 114, 32, 94, 115, 101, 108, 102, 32, 61, 61, 32, 111, 116, 104, 101, 114]),
 (eI, [61, 61, 32, 111, 116, 104, 101, 114, 32, 60, 112, 114, 105, 109, 105, 116, 105, 118, 101, 58, 32, 49, 48, 62]),
 (eI, [99, 108, 97, 115, 115, 32, 60, 112, 114, 105, 109, 105, 116, 105, 118, 101, 58, 32, 49, 49, 62]),
 (eI, [105, 115, 78, 105, 108, 32, 94, 115, 101, 108, 102, 32, 61, 61, 32, 110, 105, 108]),
 (eI, [110, 111, 116, 78, 105, 108, 32, 94, 40, 115, 101, 108, 102, 32, 61, 61, 32, 110, 105, 108, 41, 32, 61, 61, 32, 102, 97, 108, 115, 101]),
 (eI, [126, 61, 32, 111, 116, 104, 101, 114, 32, 94, 40, 115, 101, 108, 102, 32, 61, 32, 111, 116, 104, 101, 114, 41, 32, 61, 61, 32, 102, 97, 108, 115, 101]),
 (eI, [121, 111, 117, 114, 115, 101, 108, 102, 32, 94, 115, 101, 108, 102]),
 (eI, [105, 110, 115, 116, 86, 97, 114, 65, 116, 58, 32, 105, 32, 60, 112, 114, 105, 109, 105, 116, 105, 118, 101, 58, 32, 53, 48, 62]),
 (eI, [105, 110, 115, 116, 86, 97, 114, 65, 116, 58, 32, 105, 32, 112, 117, 116, 58, 32, 120, 32, 60, 112, 114, 105, 109, 105, 116, 105, 118, 101, 58, 32, 53, 49, 62]),
 (eI, [98, 101, 99, 111, 109, 101, 58, 32, 111, 116, 104, 101, 114, 32, 60, 112, 114, 105, 109, 105, 116, 105, 118, 101, 58, 32, 54, 48, 62]),
 (eI, [112, 101, 114, 102, 111, 114, 109, 58, 32, 115, 32, 60, 112, 114, 105, 109, 105, 116, 105, 118, 101, 58, 32, 51, 49, 62]),
 (eI, [112, 101, 114, 102, 111, 114, 109, 58, 32, 115, 32, 119, 105, 116, 104, 58, 32, 97, 32, 60, 112, 114, 105, 109, 105, 116, 105, 118, 101, 58, 32, 51, 50, 62]),
 (eI, [115, 104, 111, 119, 32, 60, 112, 114, 105, 109, 105, 116, 105, 118, 101, 58, 32, 55, 48, 62]),
 (eI, [101, 114, 114, 111, 114, 58, 32, 115, 32, 60, 112, 114, 105, 109, 105, 116, 105, 118, 101, 58, 32, 55, 49, 62]),
 (eI, [100, 111, 101, 115, 78, 111, 116, 85, 110, 100, 101, 114, 115, 116, 97, 110, 100, 58, 32, 109, 32, 60, 112, 114, 105, 109, 105, 116, 105, 118, 101, 58, 32, 55, 50, 62]),
 (eI, [109, 117, 115, 116, 66, 101, 66, 111, 111, 108, 101, 97, 110, 32, 60, 112, 114, 105, 109, 105, 116, 105, 118, 101, 58, 32, 55, 51, 62]),
 (aNp, [110, 101, 119, 32, 60, 112, 114, 105, 109, 105, 116, 105, 118, 101, 58, 32, 50, 51, 62]),
 (aNp, [110, 101, 119, 58, 32, 110, 32, 60, 112, 114, 105, 109, 105, 116, 105, 118, 101, 58, 32, 50, 52, 62]),
 (aNp, [110, 97, 109, 101, 32, 60, 112, 114, 105, 109, 105, 116, 105, 118, 101, 58, 32, 52, 48, 62]),
 (aNp, [115, 117, 112, 101, 114, 99, 108, 97, 115, 115, 32, 60, 112, 114, 105, 109, 105, 116, 105, 118, 101, 58, 32, 52, 49, 62]),
 (aAe, [105, 102, 84, 114, 117, 101, 58, 32, 98, 32, 94, 98, 32, 118, 97, 108, 117, 101]),
 (aAe, [105, 102, 70, 97, 108, 115, 101, 58, 32, 98, 32, 94, 110, 105, 108]),
 (aAe, [105, 102, 84, 114, 117, 101, 58, 32, 97, 32, 105, 102, 70, 97, 108, 115, 101, 58, 32, 98, 32, 94, 97, 32, 118, 97, 108, 117, 101]),
 (aAe, [105, 102, 70, 97, 108, 115, 101, 58, 32, 97, 32, 105, 102, 84, 114, 117, 101, 58, 32, 98, 32, 94, 98, 32, 118, 97, 108, 117, 101]),
 (aAe, [97, 110, 100, 58, 32, 98, 32, 94, 98, 32, 118, 97, 108, 117, 101]),
 (aAe, [111, 114, 58, 32, 98, 32, 94, 115, 101, 108, 102]),
 (aAe, [110, 111, 116, 32, 94, 102, 97, 108, 115, 101]),
 (oL, [105, 102, 84, 114, 117, 101, 58, 32, 98, 32, 94, 110, 105, 108]),
 (oL, [105, 102, 70, 97, 108, 115, 101, 58, 32, 98, 32, 94, 98, 32, 118, 97, 108, 117, 101]),
 (oL, [105, 102, 84, 114, 117, 101, 58, 32, 97, 32, 105, 102, 70, 97, 108, 115, 101, 58, 32, 98, 32, 94, 98, 32, 118, 97, 108, 117, 101]),
 (oL, [105, 102, 70, 97, 108, 115, 101, 58, 32, 97, 32, 105, 102, 84, 114, 117, 101, 58, 32, 98, 32, 94, 97, 32, 118, 97, 108, 117, 101]),
 (oL, [97, 110, 100, 58, 32, 98, 32, 94, 115, 101, 108, 102]),
 (oL, [111, 114, 58, 32, 98, 32, 94, 98, 32, 118, 97, 108, 117, 101]),
 (oL, [110, 111, 116, 32, 94, 116, 114, 117, 101]),
 (dO, [43, 32, 110, 32, 60, 112, 114, 105, 109, 105, 116, 105, 118, 101, 58, 32, 49, 62, 32, 94, 115, 101, 108, 102, 32, 101, 114, 114, 111, 114, 58, 32, 35, 110, 117, 109, 98, 101, 114]),
 (dO, [45, 32, 110, 32, 60, 112, 114, 105, 109, 105, 116, 105, 118, 101, 58, 32, 50, 62, 32, 94, 115, 101, 108, 102, 32, 101, 114, 114, 111, 114, 58, 32, 35, 110, 117, 109, 98, 101, 114]),
 (dO, [42, 32, 110, 32, 60, 112, 114, 105, 109, 105, 116, 105, 118, 101, 58, 32, 51, 62, 32, 94, 115, 101, 108, 102, 32, 101, 114, 114, 111, 114, 58, 32, 35, 110, 117, 109, 98, 101, 114]),
 (dO, [47, 47, 32, 110, 32, 60, 112, 114, 105, 109, 105, 116, 105, 118, 101, 58, 32, 52, 62, 32, 94, 115, 101, 108, 102, 32, 101, 114, 114, 111, 114, 58, 32, 35, 110, 117, 109, 98, 101, 114]),
 (dO, [37, 32, 110, 32, 60, 112, 114, 105, 109, 105, 116, 105, 118, 101, 58, 32, 53, 62, 32, 94, 115, 101, 108, 102, 32, 101, 114, 114, 111, 114, 58, 32, 35, 110, 117, 109, 98, 101, 114]),
 (dO, [60, 32, 110, 32, 60, 112, 114, 105, 109, 105, 116, 105, 118, 101, 58, 32, 54, 62, 32, 94, 115, 101, 108, 102, 32, 101, 114, 114, 111, 114, 58, 32, 35, 110, 117, 109, 98, 101, 114]),
 (dO, [61, 32, 110, 32, 60, 112, 114, 105, 109, 105, 116, 105, 118, 101, 58, 32, 55, 62, 32, 94, 102, 97, 108, 115, 101]),
 (dO, [62, 32, 110, 32, 94, 110, 32, 60, 32, 115, 101, 108, 102]),
 (dO, [60, 61, 32, 110, 32, 94, 40, 110, 32, 60, 32, 115, 101, 108, 102, 41, 32, 110, 111, 116]),
 (dO, [62, 61, 32, 110, 32, 94, 40, 115, 101, 108, 102, 32, 60, 32, 110, 41, 32, 110, 111, 116]),
 (dO, [110, 101, 103, 97, 116, 101, 100, 32, 94, 48, 32, 45, 32, 115, 101, 108, 102]),
 (dO, [97, 98, 115, 32, 115, 101, 108, 102, 32, 60, 32, 48, 32, 105, 102, 84, 114, 117, 101, 58, 32, 91, 94, 115, 101, 108, 102, 32, 110, 101, 103, 97, 116, 101, 100, 93]),
 (dO, [109, 97, 120, 58, 32, 110, 32, 115, 101, 108, 102, 32, 60, 32, 110, 32, 105, 102, 84, 114, 117, 101, 58, 32, 91, 94, 110, 93]),
 (dO, [116, 105, 109, 101, 115, 82, 101, 112, 101, 97, 116, 58, 32, 98, 32, 124, 32, 105, 32, 124, 32, 105, 32, 58, 61, 32, 48, 46, 32, 91, 105, 32, 60, 32, 115, 101, 108, 102, 93, 32, 119, 104, 105, 108, 101, 84, 114, 117, 101, 58, 32, 91, 98, 32, 118, 97, 108, 117, 101, 46, 32, 105, 32, 58, 61, 32, 105, 32, 43, 32, 49, 93]),
 (dO, [116, 111, 58, 32, 110, 32, 100, 111, 58, 32, 98, 32, 124, 32, 105, 32, 124, 32, 105, 32, 58, 61, 32, 115, 101, 108, 102, 46, 32, 91, 105, 32, 60, 61, 32, 110, 93, 32, 119, 104, 105, 108, 101, 84, 114, 117, 101, 58, 32, 91, 98, 32, 118, 97, 108, 117, 101, 58, 32, 105, 46, 32, 105, 32, 58, 61, 32, 105, 32, 43, 32, 49, 93]),
 (aEw, [97, 116, 58, 32, 105, 32, 60, 112, 114, 105, 109, 105, 116, 105, 118, 101, 58, 32, 50, 48, 62, 32, 94, 115, 101, 108, 102, 32, 101, 114, 114, 111, 114, 58, 32, 35, 105, 110, 100, 101, 120]),
 (aEw, [97, 116, 58, 32, 105, 32, 112, 117, 116, 58, 32, 120, 32, 60, 112, 114, 105, 109, 105, 116, 105, 118, 101, 58, 32, 50, 49, 62, 32, 94, 115, 101, 108, 102, 32, 101, 114, 114, 111, 114, 58, 32, 35, 105, 110, 100, 101, 120]),
 (aEw, [115, 105, 122, 101, 32, 60, 112, 114, 105, 109, 105, 116, 105, 118, 101, 58, 32, 50, 50, 62]),
 (aEw, [100, 111, 58, 32, 98, 32, 49, 32, 116, 111, 58, 32, 115, 101, 108, 102, 32, 115, 105, 122, 101, 32, 100, 111, 58, 32, 91, 58, 105, 32, 124, 32, 98, 32, 118, 97, 108, 117, 101, 58, 32, 40, 115, 101, 108, 102, 32, 97, 116, 58, 32, 105, 41, 93]),
 (pO, [97, 116, 58, 32, 105, 32, 60, 112, 114, 105, 109, 105, 116, 105, 118, 101, 58, 32, 50, 48, 62, 32, 94, 115, 101, 108, 102, 32, 101, 114, 114, 111, 114, 58, 32, 35, 105, 110, 100, 101, 120]),
 (pO, [97, 116, 58, 32, 105, 32, 112, 117, 116, 58, 32, 120, 32, 60, 112, 114, 105, 109, 105, 116, 105, 118, 101, 58, 32, 50, 49, 62, 32, 94, 115, 101, 108, 102, 32, 101, 114, 114, 111, 114, 58, 32, 35, 105, 110, 100, 101, 120]),
 (pO, [115, 105, 122, 101, 32, 60, 112, 114, 105, 109, 105, 116, 105, 118, 101, 58, 32, 50, 50, 62]),
 (pO, [44, 32, 115, 32, 60, 112, 114, 105, 109, 105, 116, 105, 118, 101, 58, 32, 50, 53, 62, 32, 94, 115, 101, 108, 102, 32, 101, 114, 114, 111, 114, 58, 32, 35, 115, 116, 114, 105, 110, 103]),
 (pO, [61, 32, 115, 32, 60, 112, 114, 105, 109, 105, 116, 105, 118, 101, 58, 32, 50, 54, 62]),
 (cWl, [61, 32, 115, 32, 94, 115, 101, 108, 102, 32, 61, 61, 32, 115]),
 (rO, [118, 97, 108, 117, 101, 32, 60, 112, 114, 105, 109, 105, 116, 105, 118, 101, 58, 32, 51, 51, 62, 32, 94, 115, 101, 108, 102, 32, 101, 114, 114, 111, 114, 58, 32, 35, 97, 114, 103, 117, 109, 101, 110, 116, 115]),
 (rO, [118, 97, 108, 117, 101, 58, 32, 97, 32, 60, 112, 114, 105, 109, 105, 116, 105, 118, 101, 58, 32, 51, 52, 62, 32, 94, 115, 101, 108, 102, 32, 101, 114, 114, 111, 114, 58, 32, 35, 97, 114, 103, 117, 109, 101, 110, 116, 115]),
 (rO, [118, 97, 108, 117, 101, 58, 32, 97, 32, 118, 97, 108, 117, 101, 58, 32, 98, 32, 60, 112, 114, 105, 109, 105, 116, 105, 118, 101, 58, 32, 51, 53, 62, 32, 94, 115, 101, 108, 102, 32, 101, 114, 114, 111, 114, 58, 32, 35, 97, 114, 103, 117, 109, 101, 110, 116, 115]),
 (rO, [119, 104, 105, 108, 101, 84, 114, 117, 101, 58, 32, 98, 32, 91, 115, 101, 108, 102, 32, 118, 97, 108, 117, 101, 93, 32, 119, 104, 105, 108, 101, 84, 114, 117, 101, 58, 32, 91, 98, 32, 118, 97, 108, 117, 101, 93]),
 (rO, [101, 110, 115, 117, 114, 101, 58, 32, 98, 32, 60, 112, 114, 105, 109, 105, 116, 105, 118, 101, 58, 32, 57, 48, 62, 32, 124, 32, 118, 32, 100, 111, 110, 101, 32, 124, 32, 118, 32, 58, 61, 32, 115, 101, 108, 102, 32, 118, 97, 108, 117, 101, 46, 32, 100, 111, 110, 101, 32, 58, 61, 32, 116, 114, 117, 101, 46, 32, 98, 32, 118, 97, 108, 117, 101, 46, 32, 94, 118]),
 (rO, [105, 102, 67, 117, 114, 116, 97, 105, 108, 101, 100, 58, 32, 98, 32, 60, 112, 114, 105, 109, 105, 116, 105, 118, 101, 58, 32, 57, 49, 62, 32, 124, 32, 118, 32, 100, 111, 110, 101, 32, 124, 32, 118, 32, 58, 61, 32, 115, 101, 108, 102, 32, 118, 97, 108, 117, 101, 46, 32, 100, 111, 110, 101, 32, 58, 61, 32, 116, 114, 117, 101, 46, 32, 94, 118]),
 (iU, [115, 101, 110, 100, 101, 114, 32, 60, 112, 114, 105, 109, 105, 116, 105, 118, 101, 58, 32, 56, 48, 62]),
 (iU, [114, 101, 99, 101, 105, 118, 101, 114, 32, 60, 112, 114, 105, 109, 105, 116, 105, 118, 101, 58, 32, 56, 49, 62]),
 (iU, [115, 101, 108, 101, 99, 116, 111, 114, 32, 60, 112, 114, 105, 109, 105, 116, 105, 118, 101, 58, 32, 56, 50, 62]),
 (iU, [112, 99, 32, 60, 112, 114, 105, 109, 105, 116, 105, 118, 101, 58, 32, 56, 51, 62]),
 (iU, [116, 101, 109, 112, 65, 116, 58, 32, 105, 32, 60, 112, 114, 105, 109, 105, 116, 105, 118, 101, 58, 32, 56, 52, 62, 32, 94, 115, 101, 108, 102, 32, 101, 114, 114, 111, 114, 58, 32, 35, 105, 110, 100, 101, 120]),
 (iU, [116, 101, 109, 112, 65, 116, 58, 32, 105, 32, 112, 117, 116, 58, 32, 120, 32, 60, 112, 114, 105, 109, 105, 116, 105, 118, 101, 58, 32, 56, 53, 62, 32, 94, 115, 101, 108, 102, 32, 101, 114, 114, 111, 114, 58, 32, 35, 105, 110, 100, 101, 120]),
 (iU, [114, 101, 116, 117, 114, 110, 58, 32, 120, 32, 60, 112, 114, 105, 109, 105, 116, 105, 118, 101, 58, 32, 56, 54, 62, 32, 94, 115, 101, 108, 102, 32, 99, 97, 110, 110, 111, 116, 82, 101, 116, 117, 114, 110, 58, 32, 120]),
 (iU, [99, 97, 110, 110, 111, 116, 82, 101, 116, 117, 114, 110, 58, 32, 120, 32, 60, 112, 114, 105, 109, 105, 116, 105, 118, 101, 58, 32, 55, 52, 62]),
 (aRp, [115, 101, 108, 101, 99, 116, 111, 114, 32, 94, 115, 101, 108, 101, 99, 116, 111, 114]),
 (aRp, [97, 114, 103, 117, 109, 101, 110, 116, 115, 32, 94, 97, 114, 103, 117, 109, 101, 110, 116, 115])]
def dOk (l : List (List Nat × List Nat)) : Nat → List DV := List.rec (motive := fun _ => Nat → List DV) (fun _ => []) (fun _ _ ih p => .l (bH p) 0 2 2 :: ih (Nat.add p 1)) l
def bJp (l : List (List Nat × Nat)) : List (DV × DV) := List.rec (motive := fun _ => List (DV × DV)) [] (fun x _ ih => (.s x.1, .i .i64 (.ofNat x.2)) :: ih) l
def dPd (l : List Nat) : List DV := List.rec (motive := fun _ => List DV) [] (fun x _ ih => .i .i64 (.ofNat x) :: ih) l
def wsF : List Nat := [0, 0, 0, 24, 24, 1, 294, 0, 1, 322, 2670, 1, 24, 24, 2, 338, 6, 1, 364, 3024, 7, 24, 24, 3, 380, 6, 1, 426, 0, 7, 24, 24, 4, 442, 6, 1, 472, 0, 7, 24, 24, 5, 488, 60, 1, 512, 3738, 7, 24, 24, 6, 528, 60, 1, 554, 4204, 7, 24, 24, 7, 570, 6, 1, 600, 6046, 7, 24, 24, 8, 616, 114, 1, 656, 0, 7, 24, 24, 9, 672, 114, 1, 712, 0, 7, 24, 24, 10, 728, 6, 1, 754, 6538, 3, 24, 24, 11, 770, 6, 1, 798, 6942, 5, 24, 24, 12, 814, 186, 1, 842, 7018, 5, 24, 24, 13, 858, 6, 1, 884, 7746, 7, 24, 24, 14, 900, 6, 1, 930, 8508, 7, 24, 24, 15, 946, 6, 1, 974, 0, 7, 24, 24, 16, 990, 6, 5, 1086, 8632, 1, 26, 204, 17, 79, 98, 106, 101, 99, 116, 8, 168, 18, 294, 0, 0, 168, 19, 8, 168, 20, 6, 0, 22, 204, 21, 67, 108, 97, 115, 115, 8, 168, 22, 338, 312, 0, 168, 23, 8, 168, 24, 24, 328, 62, 204, 25, 85, 110, 100, 101, 102, 105, 110, 101, 100, 79, 98, 106, 101, 99, 116, 8, 168, 26, 380, 354, 0, 168, 27, 8, 168, 28, 42, 370, 30, 204, 29, 66, 111, 111, 108, 101, 97, 110, 8, 168, 30, 442, 416, 0, 168, 31, 8, 168, 32, 60, 432, 18, 204, 33, 84, 114, 117, 101, 8, 168, 34, 488, 462, 0, 168, 35, 8, 168, 36, 78, 478, 22, 204, 37, 70, 97, 108, 115, 101, 8, 168, 38, 528, 502, 0, 168, 39, 8, 168, 40, 96, 518, 30, 204, 41, 73, 110, 116, 101, 103, 101, 114, 8, 168, 42, 570, 544, 0, 168, 43, 8, 168, 44, 114, 560, 50, 204, 45, 83, 109, 97, 108, 108, 73, 110, 116, 101, 103, 101, 114, 8, 168, 46, 616, 590, 0, 168, 47, 8, 168, 48, 132, 606, 50, 204, 49, 76, 97, 114, 103, 101, 73, 110, 116, 101, 103, 101, 114, 8, 168, 50, 672, 646, 0, 168, 51, 8, 168, 52, 150, 662, 22, 204, 53, 65, 114, 114, 97, 121, 8, 168, 54, 728, 702, 0, 168, 55, 8, 168, 56, 168, 718, 26, 204, 57, 83, 116, 114, 105, 110, 103, 8, 168, 58, 770, 744, 0, 168, 59, 8, 168, 60, 186, 760, 26, 204, 61, 83, 121, 109, 98, 111, 108, 8, 168, 62, 814, 788, 0, 168, 63, 8, 168, 64, 204, 804, 22, 204, 65, 66, 108, 111, 99, 107, 8, 168, 66, 858, 832, 0, 168, 67, 8, 168, 68, 222, 848, 30, 204, 69, 67, 111, 110, 116, 101, 120, 116, 8, 168, 70, 900, 874, 0, 168, 71, 8, 168, 72, 240, 890, 26, 204, 73, 77, 101, 116, 104, 111, 100, 8, 168, 74, 946, 920, 0, 168, 75, 8, 168, 76, 258, 936, 30, 204, 77, 77, 101, 115, 115, 97, 103, 101, 8, 168, 78, 990, 964, 34, 204, 79, 115, 101, 108, 101, 99, 116, 111, 114, 8, 168, 80, 1020, 1010, 38, 204, 81, 97, 114, 103, 117, 109, 101, 110, 116, 115, 8, 168, 82, 1052, 1042, 8, 168, 83, 1020, 1052, 8, 168, 84, 276, 980, 6, 204, 85, 61, 8, 168, 86, 1106, 1076, 10, 204, 87, 61, 61, 8, 168, 88, 1124, 1114, 4, 168, 89, 1124, 50, 186, 90, 1, 0, 0, 7, 0, 0, 14, 0, 1, 20, 0, 0, 4, 168, 91, 1152, 28, 258, 92, 1106, 3, 3, 1, 1144, 1182, 6, 8, 168, 93, 1190, 0, 0, 168, 94, 26, 186, 95, 1, 0, 0, 20, 0, 0, 4, 168, 96, 1226, 28, 258, 97, 1124, 3, 3, 21, 1220, 1244, 6, 8, 168, 98, 1252, 1210, 22, 204, 99, 99, 108, 97, 115, 115, 8, 168, 100, 1282, 1134, 0, 168, 101, 26, 186, 102, 1, 0, 0, 20, 0, 0, 4, 168, 103, 1314, 28, 258, 104, 1282, 1, 1, 23, 1308, 1332, 6, 8, 168, 105, 1340, 1272, 22, 204, 106, 105, 115, 78, 105, 108, 8, 168, 107, 1370, 1298, 4, 168, 108, 1124, 50, 186, 109, 1, 0, 0, 2, 0, 0, 14, 0, 1, 20, 0, 0, 4, 168, 110, 1404, 28, 258, 111, 1370, 1, 1, 1, 1396, 1434, 6, 8, 168, 112, 1442, 1360, 26, 204, 113, 110, 111, 116, 78, 105, 108, 8, 168, 114, 1472, 1386, 4, 168, 115, 1124, 74, 186, 116, 1, 0, 0, 2, 0, 0, 14, 0, 1, 4, 0, 0, 14, 0, 1, 20, 0, 0, 4, 168, 117, 1508, 28, 258, 118, 1472, 1, 1, 1, 1500, 1550, 6, 8, 168, 119, 1558, 1462, 10, 204, 120, 126, 61, 8, 168, 121, 1588, 1490, 8, 168, 122, 1106, 1124, 74, 186, 123, 1, 0, 0, 7, 0, 0, 14, 0, 1, 4, 0, 0, 14, 1, 1, 20, 0, 0, 4, 168, 124, 1618, 28, 258, 125, 1588, 3, 3, 1, 1608, 1660, 6, 8, 168, 126, 1668, 1578, 34, 204, 127, 121, 111, 117, 114, 115, 101, 108, 102, 8, 168, 128, 1698, 1598, 0, 168, 129, 26, 186, 130, 1, 0, 0, 20, 0, 0, 4, 168, 131, 1736, 28, 258, 132, 1698, 1, 1, 1, 1730, 1754, 6, 8, 168, 133, 1762, 1688, 42, 204, 134, 105, 110, 115, 116, 86, 97, 114, 65, 116, 58, 8, 168, 135, 1792, 1720, 0, 168, 136, 26, 186, 137, 1, 0, 0, 20, 0, 0, 4, 168, 138, 1834, 28, 258, 139, 1792, 3, 3, 101, 1828, 1852, 6, 8, 168, 140, 1860, 1782, 58, 204, 141, 105, 110, 115, 116, 86, 97, 114, 65, 116, 58, 112, 117, 116, 58, 8, 168, 142, 1890, 1818, 0, 168, 143, 26, 186, 144, 1, 0, 0, 20, 0, 0, 4, 168, 145, 1940, 28, 258, 146, 1890, 5, 5, 103, 1934, 1958, 6, 8, 168, 147, 1966, 1880, 30, 204, 148, 98, 101, 99, 111, 109, 101, 58, 8, 168, 149, 1996, 1924, 0, 168, 150, 26, 186, 151, 1, 0, 0, 20, 0, 0, 4, 168, 152, 2032, 28, 258, 153, 1996, 3, 3, 121, 2026, 2050, 6, 8, 168, 154, 2058, 1986, 34, 204, 155, 112, 101, 114, 102, 111, 114, 109, 58, 8, 168, 156, 2088, 2016, 0, 168, 157, 26, 186, 158, 1, 0, 0, 20, 0, 0, 4, 168, 159, 2126, 28, 258, 160, 2088, 3, 3, 63, 2120, 2144, 6, 8, 168, 161, 2152, 2078, 54, 204, 162, 112, 101, 114, 102, 111, 114, 109, 58, 119, 105, 116, 104, 58, 8, 168, 163, 2182, 2110, 0, 168, 164, 26, 186, 165, 1, 0, 0, 20, 0, 0, 4, 168, 166, 2230, 28, 258, 167, 2182, 5, 5, 65, 2224, 2248, 6, 8, 168, 168, 2256, 2172, 18, 204, 169, 115, 104, 111, 119, 8, 168, 170, 2286, 2214, 0, 168, 171, 26, 186, 172, 1, 0, 0, 20, 0, 0, 4, 168, 173, 2316, 28, 258, 174, 2286, 1, 1, 141, 2310, 2334, 6, 8, 168, 175, 2342, 2276, 26, 204, 176, 101, 114, 114, 111, 114, 58, 8, 168, 177, 2372, 2300, 0, 168, 178, 26, 186, 179, 1, 0, 0, 20, 0, 0, 4, 168, 180, 2406, 28, 258, 181, 2372, 3, 3, 143, 2400, 2424, 6, 8, 168, 182, 2432, 2362, 74, 204, 183, 100, 111, 101, 115, 78, 111, 116, 85, 110, 100, 101, 114, 115, 116, 97, 110, 100, 58, 8, 168, 184, 2462, 2390, 0, 168, 185, 26, 186, 186, 1, 0, 0, 20, 0, 0, 4, 168, 187, 2520, 28, 258, 188, 2462, 3, 3, 145, 2514, 2538, 6, 8, 168, 189, 2546, 2452, 54, 204, 190, 109, 117, 115, 116, 66, 101, 66, 111, 111, 108, 101, 97, 110, 8, 168, 191, 2576, 2504, 0, 168, 192, 26, 186, 193, 1, 0, 0, 20, 0, 0, 4, 168, 194, 2624, 28, 258, 195, 2576, 1, 1, 147, 2618, 2642, 6, 8, 168, 196, 2650, 2566, 14, 204, 197, 110, 101, 119, 8, 168, 198, 2680, 2608, 0, 168, 199, 26, 186, 200, 1, 0, 0, 20, 0, 0, 4, 168, 201, 2708, 28, 258, 202, 2680, 1, 1, 47, 2702, 2726, 24, 8, 168, 203, 2734, 0, 18, 204, 204, 110, 101, 119, 58, 8, 168, 205, 2764, 2692, 0, 168, 206, 26, 186, 207, 1, 0, 0, 20, 0, 0, 4, 168, 208, 2794, 28, 258, 209, 2764, 3, 3, 49, 2788, 2812, 24, 8, 168, 210, 2820, 2754, 18, 204, 211, 110, 97, 109, 101, 8, 168, 212, 2850, 2778, 0, 168, 213, 26, 186, 214, 1, 0, 0, 20, 0, 0, 4, 168, 215, 2880, 28, 258, 216, 2850, 1, 1, 81, 2874, 2898, 24, 8, 168, 217, 2906, 2840, 42, 204, 218, 115, 117, 112, 101, 114, 99, 108, 97, 115, 115, 8, 168, 219, 2936, 2864, 0, 168, 220, 26, 186, 221, 1, 0, 0, 20, 0, 0, 4, 168, 222, 2978, 28, 258, 223, 2936, 1, 1, 83, 2972, 2996, 24, 8, 168, 224, 3004, 2926, 30, 204, 225, 105, 102, 84, 114, 117, 101, 58, 8, 168, 226, 3034, 2962, 22, 204, 227, 118, 97, 108, 117, 101, 8, 168, 228, 3064, 3054, 4, 168, 229, 3064, 38, 186, 230, 7, 0, 0, 14, 0, 0, 20, 0, 0, 4, 168, 231, 3098, 28, 258, 232, 3034, 3, 3, 1, 3090, 3122, 78, 8, 168, 233, 3130, 0, 34, 204, 234, 105, 102, 70, 97, 108, 115, 101, 58, 8, 168, 235, 3160, 3080, 0, 168, 236, 26, 186, 237, 2, 0, 0, 20, 0, 0, 4, 168, 238, 3198, 28, 258, 239, 3160, 3, 3, 1, 3192, 3216, 78, 8, 168, 240, 3224, 3150, 62, 204, 241, 105, 102, 84, 114, 117, 101, 58, 105, 102, 70, 97, 108, 115, 101, 58, 8, 168, 242, 3254, 3182, 4, 168, 243, 3064, 38, 186, 244, 7, 0, 0, 14, 0, 0, 20, 0, 0, 4, 168, 245, 3308, 28, 258, 246, 3254, 5, 5, 1, 3300, 3332, 78, 8, 168, 247, 3340, 3244, 62, 204, 248, 105, 102, 70, 97, 108, 115, 101, 58, 105, 102, 84, 114, 117, 101, 58, 8, 168, 249, 3370, 3290, 4, 168, 250, 3064, 38, 186, 251, 7, 1, 0, 14, 0, 0, 20, 0, 0, 4, 168, 252, 3424, 28, 258, 253, 3370, 5, 5, 1, 3416, 3448, 78, 8, 168, 254, 3456, 3360, 18, 204, 255, 97, 110, 100, 58, 8, 168, 256, 3486, 3406, 4, 168, 257, 3064, 38, 186, 258, 7, 0, 0, 14, 0, 0, 20, 0, 0, 4, 168, 259, 3518, 28, 258, 260, 3486, 3, 3, 1, 3510, 3542, 78, 8, 168, 261, 3550, 3476, 14, 204, 262, 111, 114, 58, 8, 168, 263, 3580, 3500, 0, 168, 264, 26, 186, 265, 1, 0, 0, 20, 0, 0, 4, 168, 266, 3608, 28, 258, 267, 3580, 3, 3, 1, 3602, 3626, 78, 8, 168, 268, 3634, 3570, 14, 204, 269, 110, 111, 116, 8, 168, 270, 3664, 3592, 0, 168, 271, 26, 186, 272, 4, 0, 0, 20, 0, 0, 4, 168, 273, 3692, 28, 258, 274, 3664, 1, 1, 1, 3686, 3710, 78, 8, 168, 275, 3718, 3654, 0, 168, 276, 26, 186, 277, 2, 0, 0, 20, 0, 0, 4, 168, 278, 3754, 28, 258, 279, 3034, 3, 3, 1, 3748, 3772, 96, 8, 168, 280, 3780, 0, 4, 168, 281, 3064, 38, 186, 282, 7, 0, 0, 14, 0, 0, 20, 0, 0, 4, 168, 283, 3818, 28, 258, 284, 3160, 3, 3, 1, 3810, 3842, 96, 8, 168, 285, 3850, 3800, 4, 168, 286, 3064, 38, 186, 287, 7, 1, 0, 14, 0, 0, 20, 0, 0, 4, 168, 288, 3888, 28, 258, 289, 3254, 5, 5, 1, 3880, 3912, 96, 8, 168, 290, 3920, 3870, 4, 168, 291, 3064, 38, 186, 292, 7, 0, 0, 14, 0, 0, 20, 0, 0, 4, 168, 293, 3958, 28, 258, 294, 3370, 5, 5, 1, 3950, 3982, 96, 8, 168, 295, 3990, 3940, 0, 168, 296, 26, 186, 297, 1, 0, 0, 20, 0, 0, 4, 168, 298, 4026, 28, 258, 299, 3486, 3, 3, 1, 4020, 4044, 96, 8, 168, 300, 4052, 4010, 4, 168, 301, 3064, 38, 186, 302, 7, 0, 0, 14, 0, 0, 20, 0, 0, 4, 168, 303, 4090, 28, 258, 304, 3580, 3, 3, 1, 4082, 4114, 96, 8, 168, 305, 4122, 4072, 0, 168, 306, 26, 186, 307, 3, 0, 0, 20, 0, 0, 4, 168, 308, 4158, 28, 258, 309, 3664, 1, 1, 1, 4152, 4176, 96, 8, 168, 310, 4184, 4142, 6, 204, 311, 43, 8, 168, 312, 4214, 3676, 26, 204, 313, 110, 117, 109, 98, 101, 114, 8, 168, 314, 4232, 4222, 8, 168, 315, 4232, 2372, 50, 186, 316, 1, 0, 0, 6, 0, 0, 14, 1, 1, 20, 0, 0, 4, 168, 317, 4270, 28, 258, 318, 4214, 3, 3, 3, 4260, 4300, 114, 8, 168, 319, 4308, 0, 6, 204, 320, 45, 8, 168, 321, 4338, 4250, 8, 168, 322, 4232, 2372, 50, 186, 323, 1, 0, 0, 6, 0, 0, 14, 1, 1, 20, 0, 0, 4, 168, 324, 4366, 28, 258, 325, 4338, 3, 3, 5, 4356, 4396, 114, 8, 168, 326, 4404, 4328, 6, 204, 327, 42, 8, 168, 328, 4434, 4346, 8, 168, 329, 4232, 2372, 50, 186, 330, 1, 0, 0, 6, 0, 0, 14, 1, 1, 20, 0, 0, 4, 168, 331, 4462, 28, 258, 332, 4434, 3, 3, 7, 4452, 4492, 114, 8, 168, 333, 4500, 4424, 10, 204, 334, 47, 47, 8, 168, 335, 4530, 4442, 8, 168, 336, 4232, 2372, 50, 186, 337, 1, 0, 0, 6, 0, 0, 14, 1, 1, 20, 0, 0, 4, 168, 338, 4560, 28, 258, 339, 4530, 3, 3, 9, 4550, 4590, 114, 8, 168, 340, 4598, 4520, 6, 204, 341, 37, 8, 168, 342, 4628, 4540, 8, 168, 343, 4232, 2372, 50, 186, 344, 1, 0, 0, 6, 0, 0, 14, 1, 1, 20, 0, 0, 4, 168, 345, 4656, 28, 258, 346, 4628, 3, 3, 11, 4646, 4686, 114, 8, 168, 347, 4694, 4618, 6, 204, 348, 60, 8, 168, 349, 4724, 4636, 8, 168, 350, 4232, 2372, 50, 186, 351, 1, 0, 0, 6, 0, 0, 14, 1, 1, 20, 0, 0, 4, 168, 352, 4752, 28, 258, 353, 4724, 3, 3, 13, 4742, 4782, 114, 8, 168, 354, 4790, 4714, 0, 168, 355, 26, 186, 356, 4, 0, 0, 20, 0, 0, 4, 168, 357, 4826, 28, 258, 358, 1106, 3, 3, 15, 4820, 4844, 114, 8, 168, 359, 4852, 4810, 6, 204, 360, 62, 8, 168, 361, 4882, 4732, 4, 168, 362, 4724, 50, 186, 363, 7, 0, 0, 1, 0, 0, 14, 0, 1, 20, 0, 0, 4, 168, 364, 4908, 28, 258, 365, 4882, 3, 3, 1, 4900, 4938, 114, 8, 168, 366, 4946, 4872, 10, 204, 367, 60, 61, 8, 168, 368, 4976, 4890, 8, 168, 369, 4724, 3664, 62, 186, 370, 7, 0, 0, 1, 0, 0, 14, 0, 1, 14, 1, 0, 20, 0, 0, 4, 168, 371, 5006, 28, 258, 372, 4976, 3, 3, 1, 4996, 5042, 114, 8, 168, 373, 5050, 4966, 10, 204, 374, 62, 61, 8, 168, 375, 5080, 4986, 8, 168, 376, 4724, 3664, 62, 186, 377, 1, 0, 0, 7, 0, 0, 14, 0, 1, 14, 1, 0, 20, 0, 0, 4, 168, 378, 5110, 28, 258, 379, 5080, 3, 3, 1, 5100, 5146, 114, 8, 168, 380, 5154, 5070, 30, 204, 381, 110, 101, 103, 97, 116, 101, 100, 8, 168, 382, 5184, 5090, 8, 168, 383, 1, 4338, 50, 186, 384, 6, 0, 0, 1, 0, 0, 14, 1, 1, 20, 0, 0, 4, 168, 385, 5224, 28, 258, 386, 5184, 1, 1, 1, 5214, 5254, 114, 8, 168, 387, 5262, 5174, 14, 204, 388, 97, 98, 115, 8, 168, 389, 5292, 5204, 12, 168, 390, 1, 4724, 5184, 158, 186, 391, 1, 0, 0, 6, 0, 0, 14, 1, 1, 17, 9, 0, 1, 0, 0, 14, 2, 0, 20, 0, 0, 2, 0, 0, 16, 10, 0, 2, 0, 0, 12, 0, 0, 1, 0, 0, 20, 0, 0, 4, 168, 392, 5326, 28, 258, 393, 5292, 1, 1, 1, 5314, 5410, 114, 8, 168, 394, 5418, 5282, 18, 204, 395, 109, 97, 120, 58, 8, 168, 396, 5448, 5304, 4, 168, 397, 4724, 146, 186, 398, 1, 0, 0, 7, 0, 0, 14, 0, 1, 17, 8, 0, 7, 0, 0, 20, 0, 0, 2, 0, 0, 16, 9, 0, 2, 0, 0, 12, 0, 0, 1, 0, 0, 20, 0, 0, 4, 168, 399, 5480, 28, 258, 400, 5448, 3, 3, 1, 5472, 5558, 114, 8, 168, 401, 5566, 5438, 50, 204, 402, 116, 105, 109, 101, 115, 82, 101, 112, 101, 97, 116, 58, 8, 168, 403, 5596, 5462, 20, 168, 404, 1, 4724, 3064, 3, 4214, 242, 186, 405, 6, 0, 0, 10, 1, 0, 12, 0, 0, 7, 1, 0, 1, 0, 0, 14, 1, 1, 17, 16, 0, 7, 0, 0, 14, 2, 0, 12, 0, 0, 7, 1, 0, 6, 3, 0, 14, 4, 1, 10, 1, 0, 12, 0, 0, 16, 3, 0, 2, 0, 0, 12, 0, 0, 1, 0, 0, 20, 0, 0, 4, 168, 406, 5652, 28, 258, 407, 5596, 3, 5, 1, 5636, 5778, 114, 8, 168, 408, 5786, 5586, 26, 204, 409, 116, 111, 58, 100, 111, 58, 8, 168, 410, 5816, 5626, 26, 204, 411, 118, 97, 108, 117, 101, 58, 8, 168, 412, 5844, 5834, 16, 168, 413, 4976, 5844, 3, 4214, 254, 186, 414, 1, 0, 0, 10, 2, 0, 12, 0, 0, 7, 2, 0, 7, 0, 0, 14, 0, 1, 17, 17, 0, 7, 1, 0, 7, 2, 0, 14, 1, 1, 12, 0, 0, 7, 2, 0, 6, 2, 0, 14, 3, 1, 10, 2, 0, 12, 0, 0, 16, 3, 0, 2, 0, 0, 12, 0, 0, 1, 0, 0, 20, 0, 0, 4, 168, 415, 5886, 28, 258, 416, 5816, 5, 7, 1, 5872, 6018, 114, 8, 168, 417, 6026, 5806, 14, 204, 418, 97, 116, 58, 8, 168, 419, 6056, 5862, 22, 204, 420, 105, 110, 100, 101, 120, 8, 168, 421, 6078, 6068, 8, 168, 422, 6078, 2372, 50, 186, 423, 1, 0, 0, 6, 0, 0, 14, 1, 1, 20, 0, 0, 4, 168, 424, 6114, 28, 258, 425, 6056, 3, 3, 41, 6104, 6144, 168, 8, 168, 426, 6152, 0, 30, 204, 427, 97, 116, 58, 112, 117, 116, 58, 8, 168, 428, 6182, 6094, 8, 168, 429, 6078, 2372, 50, 186, 430, 1, 0, 0, 6, 0, 0, 14, 1, 1, 20, 0, 0, 4, 168, 431, 6222, 28, 258, 432, 6182, 5, 5, 43, 6212, 6252, 168, 8, 168, 433, 6260, 6172, 18, 204, 434, 115, 105, 122, 101, 8, 168, 435, 6290, 6202, 0, 168, 436, 26, 186, 437, 1, 0, 0, 20, 0, 0, 4, 168, 438, 6320, 28, 258, 439, 6290, 1, 1, 45, 6314, 6338, 168, 8, 168, 440, 6346, 6280, 14, 204, 441, 100, 111, 58, 8, 168, 442, 6376, 6304, 20, 168, 443, 3, 6290, 6056, 5844, 5816, 182, 186, 444, 6, 0, 0, 1, 0, 0, 14, 1, 0, 18, 1, 1, 16, 11, 0, 7, 0, 0, 1, 0, 0, 7, 1, 0, 14, 2, 1, 14, 3, 1, 19, 0, 0, 14, 4, 2, 12, 0, 0, 1, 0, 0, 20, 0, 0, 4, 168, 445, 6414, 28, 258, 446, 6376, 3, 5, 1, 6398, 6510, 168, 8, 168, 447, 6518, 6366, 8, 168, 448, 6078, 2372, 50, 186, 449, 1, 0, 0, 6, 0, 0, 14, 1, 1, 20, 0, 0, 4, 168, 450, 6558, 28, 258, 451, 6056, 3, 3, 41, 6548, 6588, 186, 8, 168, 452, 6596, 0, 8, 168, 453, 6078, 2372, 50, 186, 454, 1, 0, 0, 6, 0, 0, 14, 1, 1, 20, 0, 0, 4, 168, 455, 6636, 28, 258, 456, 6182, 5, 5, 43, 6626, 6666, 186, 8, 168, 457, 6674, 6616, 0, 168, 458, 26, 186, 459, 1, 0, 0, 20, 0, 0, 4, 168, 460, 6710, 28, 258, 461, 6290, 1, 1, 45, 6704, 6728, 186, 8, 168, 462, 6736, 6694, 6, 204, 463, 44, 8, 168, 464, 6766, 6388, 26, 204, 465, 115, 116, 114, 105, 110, 103, 8, 168, 466, 6784, 6774, 8, 168, 467, 6784, 2372, 50, 186, 468, 1, 0, 0, 6, 0, 0, 14, 1, 1, 20, 0, 0, 4, 168, 469, 6822, 28, 258, 470, 6766, 3, 3, 51, 6812, 6852, 186, 8, 168, 471, 6860, 6756, 0, 168, 472, 26, 186, 473, 1, 0, 0, 20, 0, 0, 4, 168, 474, 6896, 28, 258, 475, 1106, 3, 3, 53, 6890, 6914, 186, 8, 168, 476, 6922, 6880, 4, 168, 477, 1124, 50, 186, 478, 1, 0, 0, 7, 0, 0, 14, 0, 1, 20, 0, 0, 4, 168, 479, 6960, 28, 258, 480, 1106, 3, 3, 1, 6952, 6990, 204, 8, 168, 481, 6998, 0, 8, 168, 482, 1052, 2372, 50, 186, 483, 1, 0, 0, 6, 0, 0, 14, 1, 1, 20, 0, 0, 4, 168, 484, 7038, 28, 258, 485, 3064, 1, 1, 67, 7028, 7068, 222, 8, 168, 486, 7076, 0, 8, 168, 487, 1052, 2372, 50, 186, 488, 1, 0, 0, 6, 0, 0, 14, 1, 1, 20, 0, 0, 4, 168, 489, 7116, 28, 258, 490, 5844, 3, 3, 69, 7106, 7146, 222, 8, 168, 491, 7154, 7096, 50, 204, 492, 118, 97, 108, 117, 101, 58, 118, 97, 108, 117, 101, 58, 8, 168, 493, 7184, 6802, 8, 168, 494, 1052, 2372, 50, 186, 495, 1, 0, 0, 6, 0, 0, 14, 1, 1, 20, 0, 0, 4, 168, 496, 7234, 28, 258, 497, 7184, 5, 5, 71, 7224, 7264, 222, 8, 168, 498, 7272, 7174, 42, 204, 499, 119, 104, 105, 108, 101, 84, 114, 117, 101, 58, 8, 168, 500, 7302, 7214, 4, 168, 501, 3064, 134, 186, 502, 1, 0, 0, 14, 0, 0, 17, 7, 0, 7, 0, 0, 14, 0, 0, 12, 0, 0, 16, 0, 0, 2, 0, 0, 12, 0, 0, 1, 0, 0, 20, 0, 0, 4, 168, 503, 7346, 28, 258, 504, 7302, 3, 3, 1, 7338, 7418, 222, 8, 168, 505, 7426, 7292, 30, 204, 506, 101, 110, 115, 117, 114, 101, 58, 8, 168, 507, 7456, 7328, 4, 168, 508, 3064, 146, 186, 509, 1, 0, 0, 14, 0, 0, 10, 1, 0, 12, 0, 0, 3, 0, 0, 10, 2, 0, 12, 0, 0, 7, 0, 0, 14, 0, 0, 12, 0, 0, 7, 1, 0, 20, 0, 0, 4, 168, 510, 7494, 28, 258, 511, 7456, 3, 7, 181, 7486, 7572, 222, 8, 168, 512, 7580, 7446, 50, 204, 513, 105, 102, 67, 117, 114, 116, 97, 105, 108, 101, 100, 58, 8, 168, 514, 7610, 7476, 4, 168, 515, 3064, 110, 186, 516, 1, 0, 0, 14, 0, 0, 10, 1, 0, 12, 0, 0, 3, 0, 0, 10, 2, 0, 12, 0, 0, 7, 1, 0, 20, 0, 0, 4, 168, 517, 7658, 28, 258, 518, 7610, 3, 7, 183, 7650, 7718, 222, 8, 168, 519, 7726, 7600, 26, 204, 520, 115, 101, 110, 100, 101, 114, 8, 168, 521, 7756, 7640, 0, 168, 522, 26, 186, 523, 1, 0, 0, 20, 0, 0, 4, 168, 524, 7790, 28, 258, 525, 7756, 1, 1, 161, 7784, 7808, 240, 8, 168, 526, 7816, 0, 34, 204, 527, 114, 101, 99, 101, 105, 118, 101, 114, 8, 168, 528, 7846, 7774, 0, 168, 529, 26, 186, 530, 1, 0, 0, 20, 0, 0, 4, 168, 531, 7884, 28, 258, 532, 7846, 1, 1, 163, 7878, 7902, 240, 8, 168, 533, 7910, 7836, 0, 168, 534, 26, 186, 535, 1, 0, 0, 20, 0, 0, 4, 168, 536, 7946, 28, 258, 537, 1020, 1, 1, 165, 7940, 7964, 240, 8, 168, 538, 7972, 7930, 10, 204, 539, 112, 99, 8, 168, 540, 8002, 7868, 0, 168, 541, 26, 186, 542, 1, 0, 0, 20, 0, 0, 4, 168, 543, 8028, 28, 258, 544, 8002, 1, 1, 167, 8022, 8046, 240, 8, 168, 545, 8054, 7992, 30, 204, 546, 116, 101, 109, 112, 65, 116, 58, 8, 168, 547, 8084, 8012, 8, 168, 548, 6078, 2372, 50, 186, 549, 1, 0, 0, 6, 0, 0, 14, 1, 1, 20, 0, 0, 4, 168, 550, 8124, 28, 258, 551, 8084, 3, 3, 169, 8114, 8154, 240, 8, 168, 552, 8162, 8074, 46, 204, 553, 116, 101, 109, 112, 65, 116, 58, 112, 117, 116, 58, 8, 168, 554, 8192, 8104, 8, 168, 555, 6078, 2372, 50, 186, 556, 1, 0, 0, 6, 0, 0, 14, 1, 1, 20, 0, 0, 4, 168, 557, 8240, 28, 258, 558, 8192, 5, 5, 171, 8230, 8270, 240, 8, 168, 559, 8278, 8182, 30, 204, 560, 114, 101, 116, 117, 114, 110, 58, 8, 168, 561, 8308, 8220, 54, 204, 562, 99, 97, 110, 110, 111, 116, 82, 101, 116, 117, 114, 110, 58, 8, 168, 563, 8338, 8328, 4, 168, 564, 8338, 50, 186, 565, 1, 0, 0, 7, 0, 0, 14, 0, 1, 20, 0, 0, 4, 168, 566, 8388, 28, 258, 567, 8308, 3, 3, 173, 8380, 8418, 240, 8, 168, 568, 8426, 8298, 0, 168, 569, 26, 186, 570, 1, 0, 0, 20, 0, 0, 4, 168, 571, 8462, 28, 258, 572, 8338, 3, 3, 149, 8456, 8480, 240, 8, 168, 573, 8488, 8446, 0, 168, 574, 26, 186, 575, 8, 0, 0, 20, 0, 0, 4, 168, 576, 8524, 28, 258, 577, 1020, 1, 1, 1, 8518, 8542, 276, 8, 168, 578, 8550, 0, 0, 168, 579, 26, 186, 580, 8, 1, 0, 20, 0, 0, 4, 168, 581, 8586, 28, 258, 582, 1052, 1, 1, 1, 8580, 8604, 276, 8, 168, 583, 8612, 8570]
def plF : List Nat := [3, 12, 21, 30, 39, 48, 57, 66, 75, 84, 93, 102, 111, 120, 129, 138, 147, 156, 161, 164, 169, 177, 182, 185, 190, 208, 213, 216, 221, 231, 236, 239, 244, 251, 256, 259, 264, 272, 277, 280, 285, 295, 300, 303, 308, 323, 328, 331, 336, 351, 356, 359, 364, 372, 377, 380, 385, 394, 399, 402, 407, 416, 421, 424, 429, 437, 442, 445, 450, 460, 465, 468, 473, 482, 487, 490, 495, 505, 510, 521, 526, 538, 543, 548, 553, 557, 562, 567, 572, 576, 591, 595, 605, 610, 613, 622, 626, 636, 641, 649, 654, 657, 666, 670, 680, 685, 693, 698, 702, 717, 721, 731, 736, 745, 750, 754, 775, 779, 789, 794, 799, 804, 809, 830, 834, 844, 849, 860, 865, 868, 877, 881, 891, 896, 909, 914, 917, 926, 930, 940, 945, 962, 967, 970, 979, 983, 993, 998, 1008, 1013, 1016, 1025, 1029, 1039, 1044, 1055, 1060, 1063, 1072, 1076, 1086, 1091, 1107, 1112, 1115, 1124, 1128, 1138, 1143, 1150, 1155, 1158, 1167, 1171, 1181, 1186, 1195, 1200, 1203, 1212, 1216, 1226, 1231, 1252, 1257, 1260, 1269, 1273, 1283, 1288, 1304, 1309, 1312, 1321, 1325, 1335, 1340, 1346, 1351, 1354, 1363, 1367, 1377, 1382, 1389, 1394, 1397, 1406, 1410, 1420, 1425, 1432, 1437, 1440, 1449, 1453, 1463, 1468, 1481, 1486, 1489, 1498, 1502, 1512, 1517, 1527, 1532, 1540, 1545, 1549, 1561, 1565, 1575, 1580, 1591, 1596, 1599, 1608, 1612, 1622, 1627, 1645, 1650, 1654, 1666, 1670, 1680, 1685, 1703, 1708, 1712, 1724, 1728, 1738, 1743, 1750, 1755, 1759, 1771, 1775, 1785, 1790, 1796, 1801, 1804, 1813, 1817, 1827, 1832, 1838, 1843, 1846, 1855, 1859, 1869, 1874, 1877, 1886, 1890, 1900, 1905, 1909, 1921, 1925, 1935, 1940, 1944, 1956, 1960, 1970, 1975, 1979, 1991, 1995, 2005, 2010, 2013, 2022, 2026, 2036, 2041, 2045, 2057, 2061, 2071, 2076, 2079, 2088, 2092, 2102, 2107, 2111, 2116, 2125, 2130, 2135, 2150, 2154, 2164, 2169, 2173, 2178, 2183, 2198, 2202, 2212, 2217, 2221, 2226, 2231, 2246, 2250, 2260, 2265, 2270, 2275, 2280, 2295, 2299, 2309, 2314, 2318, 2323, 2328, 2343, 2347, 2357, 2362, 2366, 2371, 2376, 2391, 2395, 2405, 2410, 2413, 2422, 2426, 2436, 2441, 2445, 2450, 2454, 2469, 2473, 2483, 2488, 2493, 2498, 2503, 2521, 2525, 2535, 2540, 2545, 2550, 2555, 2573, 2577, 2587, 2592, 2602, 2607, 2612, 2627, 2631, 2641, 2646, 2652, 2657, 2663, 2705, 2709, 2719, 2724, 2731, 2736, 2740, 2779, 2783, 2793, 2798, 2813, 2818, 2826, 2889, 2893, 2903, 2908, 2917, 2922, 2931, 2936, 2943, 3009, 3013, 3023, 3028, 3034, 3039, 3047, 3052, 3057, 3072, 3076, 3086, 3091, 3101, 3106, 3111, 3126, 3130, 3140, 3145, 3152, 3157, 3160, 3169, 3173, 3183, 3188, 3194, 3199, 3207, 3255, 3259, 3269, 3274, 3279, 3294, 3298, 3308, 3313, 3318, 3333, 3337, 3347, 3352, 3355, 3364, 3368, 3378, 3383, 3387, 3392, 3401, 3406, 3411, 3426, 3430, 3440, 3445, 3448, 3457, 3461, 3471, 3476, 3480, 3495, 3499, 3509, 3514, 3519, 3534, 3538, 3548, 3553, 3558, 3573, 3577, 3587, 3592, 3607, 3612, 3617, 3632, 3636, 3646, 3651, 3664, 3669, 3673, 3709, 3713, 3723, 3728, 3738, 3743, 3747, 3786, 3790, 3800, 3805, 3820, 3825, 3829, 3859, 3863, 3873, 3878, 3887, 3892, 3895, 3904, 3908, 3918, 3923, 3934, 3939, 3942, 3951, 3955, 3965, 3970, 3973, 3982, 3986, 3996, 4001, 4006, 4011, 4014, 4023, 4027, 4037, 4042, 4052, 4057, 4062, 4077, 4081, 4091, 4096, 4110, 4115, 4120, 4135, 4139, 4149, 4154, 4164, 4169, 4185, 4190, 4194, 4209, 4213, 4223, 4228, 4231, 4240, 4244, 4254, 4259, 4262, 4271, 4275, 4285, 4290, 4293, 4302, 4306, 4316]
def syF : List (List Nat × Nat) := [([79, 98, 106, 101, 99, 116], 294), ([67, 108, 97, 115, 115], 338), ([85, 110, 100, 101, 102, 105, 110, 101, 100, 79, 98, 106, 101, 99, 116], 380), ([66, 111, 111, 108, 101, 97, 110], 442), ([84, 114, 117, 101], 488), ([70, 97, 108, 115, 101], 528), ([73, 110, 116, 101, 103, 101, 114], 570), ([83, 109, 97, 108, 108, 73, 110, 116, 101, 103, 101, 114], 616), ([76, 97, 114, 103, 101, 73, 110, 116, 101, 103, 101, 114], 672), ([65, 114, 114, 97, 121], 728), ([83, 116, 114, 105, 110, 103], 770), ([83, 121, 109, 98, 111, 108], 814), ([66, 108, 111, 99, 107], 858), ([67, 111, 110, 116, 101, 120, 116], 900), ([77, 101, 116, 104, 111, 100], 946), ([77, 101, 115, 115, 97, 103, 101], 990), ([115, 101, 108, 101, 99, 116, 111, 114], 1020), ([97, 114, 103, 117, 109, 101, 110, 116, 115], 1052), ([61], 1106), ([61, 61], 1124), ([99, 108, 97, 115, 115], 1282), ([105, 115, 78, 105, 108], 1370), ([110, 111, 116, 78, 105, 108], 1472), ([126, 61], 1588), ([121, 111, 117, 114, 115, 101, 108, 102], 1698), ([105, 110, 115, 116, 86, 97, 114, 65, 116, 58], 1792), ([105, 110, 115, 116, 86, 97, 114, 65, 116, 58, 112, 117, 116, 58], 1890), ([98, 101, 99, 111, 109, 101, 58], 1996), ([112, 101, 114, 102, 111, 114, 109, 58], 2088), ([112, 101, 114, 102, 111, 114, 109, 58, 119, 105, 116, 104, 58], 2182), ([115, 104, 111, 119], 2286), ([101, 114, 114, 111, 114, 58], 2372), ([100, 111, 101, 115, 78, 111, 116, 85, 110, 100, 101, 114, 115, 116, 97, 110, 100, 58], 2462), ([109, 117, 115, 116, 66, 101, 66, 111, 111, 108, 101, 97, 110], 2576), ([110, 101, 119], 2680), ([110, 101, 119, 58], 2764), ([110, 97, 109, 101], 2850), ([115, 117, 112, 101, 114, 99, 108, 97, 115, 115], 2936), ([105, 102, 84, 114, 117, 101, 58], 3034), ([118, 97, 108, 117, 101], 3064), ([105, 102, 70, 97, 108, 115, 101, 58], 3160), ([105, 102, 84, 114, 117, 101, 58, 105, 102, 70, 97, 108, 115, 101, 58], 3254), ([105, 102, 70, 97, 108, 115, 101, 58, 105, 102, 84, 114, 117, 101, 58], 3370), ([97, 110, 100, 58], 3486), ([111, 114, 58], 3580), ([110, 111, 116], 3664), ([43], 4214), ([110, 117, 109, 98, 101, 114], 4232), ([45], 4338), ([42], 4434), ([47, 47], 4530), ([37], 4628), ([60], 4724), ([62], 4882), ([60, 61], 4976), ([62, 61], 5080), ([110, 101, 103, 97, 116, 101, 100], 5184), ([97, 98, 115], 5292), ([109, 97, 120, 58], 5448), ([116, 105, 109, 101, 115, 82, 101, 112, 101, 97, 116, 58], 5596), ([116, 111, 58, 100, 111, 58], 5816), ([118, 97, 108, 117, 101, 58], 5844), ([97, 116, 58], 6056), ([105, 110, 100, 101, 120], 6078), ([97, 116, 58, 112, 117, 116, 58], 6182), ([115, 105, 122, 101], 6290), ([100, 111, 58], 6376), ([44], 6766), ([115, 116, 114, 105, 110, 103], 6784), ([118, 97, 108, 117, 101, 58, 118, 97, 108, 117, 101, 58], 7184), ([119, 104, 105, 108, 101, 84, 114, 117, 101, 58], 7302), ([101, 110, 115, 117, 114, 101, 58], 7456), ([105, 102, 67, 117, 114, 116, 97, 105, 108, 101, 100, 58], 7610), ([115, 101, 110, 100, 101, 114], 7756), ([114, 101, 99, 101, 105, 118, 101, 114], 7846), ([112, 99], 8002), ([116, 101, 109, 112, 65, 116, 58], 8084), ([116, 101, 109, 112, 65, 116, 58, 112, 117, 116, 58], 8192), ([114, 101, 116, 117, 114, 110, 58], 8308), ([99, 97, 110, 110, 111, 116, 82, 101, 116, 117, 114, 110, 58], 8338)]
def clF : List (List Nat × Nat) := [([79, 98, 106, 101, 99, 116], 6), ([67, 108, 97, 115, 115], 24), ([85, 110, 100, 101, 102, 105, 110, 101, 100, 79, 98, 106, 101, 99, 116], 42), ([66, 111, 111, 108, 101, 97, 110], 60), ([84, 114, 117, 101], 78), ([70, 97, 108, 115, 101], 96), ([73, 110, 116, 101, 103, 101, 114], 114), ([83, 109, 97, 108, 108, 73, 110, 116, 101, 103, 101, 114], 132), ([76, 97, 114, 103, 101, 73, 110, 116, 101, 103, 101, 114], 150), ([65, 114, 114, 97, 121], 168), ([83, 116, 114, 105, 110, 103], 186), ([83, 121, 109, 98, 111, 108], 204), ([66, 108, 111, 99, 107], 222), ([67, 111, 110, 116, 101, 120, 116], 240), ([77, 101, 116, 104, 111, 100], 258), ([77, 101, 115, 115, 97, 103, 101], 276)]
def bTp (l : List (List Nat × Nat)) : Nat → List (List Nat × Nat) := List.rec (motive := fun _ => Nat → List (List Nat × Nat)) (fun _ => []) (fun x _ ih n => bif Nat.beq n 0 then [] else x :: ih (Nat.sub n 1)) l
def bWk (l : List (List Nat × List Nat)) : Nat → List (Pos × Ob) := List.rec (motive := fun _ => Nat → List (Pos × Ob)) (fun _ => []) (fun x _ ih p => (bH p, .row .ex [.s x.1, .s x.2]) :: ih (Nat.add p 1)) l
def cKu (l : List (List Nat × List Nat)) : Nat → List (List Nat × List Nat) := List.rec (motive := fun _ => Nat → List (List Nat × List Nat)) (fun _ => []) (fun x l ih n => bif Nat.beq n 0 then x :: l else ih (Nat.sub n 1)) l
def mkL (N fin made ns : Nat) (roots : List Nat) (pt : List (Nat × Nat)) (k : Nat) : List (Pos × Ob) :=
 (bH 7, .row .ex [.p (bH 3) 0, .l (bH 4) 0 18 18, .m (bH 5), .m (bH 6)]) ::
 (bH 6, .mp (bJp clF)) :: (bH 5, .mp (bJp (bTp syF ns))) :: (bH 4, .row .ex (dPd roots)) ::
 (bH 3, .row .ex [.l (bH 1) 0 N N, .i .i64 (.ofNat fin), .i .i64 (.ofNat made), .m (bH 2)]) ::
 (bH 2, .mi (mkP (tB plF made) .e)) :: (bH 1, .big N (aEd pt (mkW (tB wsF fin) 0 .e))) ::
 (bH 431, .row .ex (dOk bJn 356)) :: bWk (cKu bJn k) (Nat.add 356 k)
def dKa (l : List (Pos × Ob)) : Tr Ob := List.rec (motive := fun _ => Tr Ob) .e (fun x _ ih => Tr.set x.2 x.1 ih) l
def eH (nx : Nat) (l : List (Pos × Ob)) : Hp := ⟨bH nx, dKa l⟩
def bXm (x y : Int) : Bool := match x, y with
 | .ofNat a, .ofNat b => Nat.beq a b
 | .negSucc a, .negSucc b => Nat.beq a b
 | _, _ => false
def wtE (t : WT) : WT → Bool := WT.rec (motive := fun _ => WT → Bool) (fun u => WT.rec (motive := fun _ => Bool) true (fun _ _ _ _ _ => false) u)
 (fun _ v _ ihl ihr u => WT.rec (motive := fun _ => Bool) false (fun l' v' r' _ _ => bXm v v' && (ihl l' && ihr r')) u) t
def dvE (x y : DV) : Bool := match x, y with
 | .i .i64 a, .i .i64 b => bXm a b
 | .s a, .s b => eqD a b
 | .p a o, .p b q => mB a b && Nat.beq o q
 | .l a o n c, .l b q m d => mB a b && (Nat.beq o q && (Nat.beq n m && Nat.beq c d))
 | .m a, .m b => mB a b
 | .b a, .b b => a == b
 | .l0, .l0 => true
 | .p0, .p0 => true
 | .m0, .m0 => true
 | _, _ => false
def cVh (l : List DV) : List DV → Bool := List.rec (motive := fun _ => List DV → Bool) (fun m => List.rec (motive := fun _ => Bool) true (fun _ _ _ => false) m)
 (fun x _ ih m => List.rec (motive := fun _ => Bool) false (fun y m _ => dvE x y && ih m) m) l
def dGi (l : List (DV × DV)) : List (DV × DV) → Bool := List.rec (motive := fun _ => List (DV × DV) → Bool) (fun m => List.rec (motive := fun _ => Bool) true (fun _ _ _ => false) m)
 (fun x _ ih m => List.rec (motive := fun _ => Bool) false (fun y m _ => dvE x.1 y.1 && (dvE x.2 y.2 && ih m)) m) l
def obE (o p : Ob) : Bool := match o, p with
 | .row .ex l, .row .ex m => cVh l m
 | .mp l, .mp m => dGi l m
 | .big n t, .big m u => Nat.beq n m && wtE t u
 | .mi t, .mi u => wtE t u
 | _, _ => false
def cCd (g : Tr Ob) (l : List (Pos × Ob)) : Bool := List.rec (motive := fun _ => Bool) true (fun x _ ih => (match g.get x.1 with
 | some o => obE o x.2
 | none => false) && ih) l
def lK (r : aH) (vs : List DV) (nx : Nat) (l : List (Pos × Ob)) : Bool := match r with
 | some (.t us, g) => cVh us vs && (mB g.next (bH nx) && cCd g.bl l)
 | _ => false
def itN (n : Nat) (K : DV → DV → DV → DV → Hp → aH) : DV → DV → DV → DV → Hp → aH :=
 Nat.rec (motive := fun _ => DV → DV → DV → DV → Hp → aH) K (fun _ ih => hZ (qO 899) 899 ih) n
def nO : DV → DV → DV → DV → Hp → aH := fun a b c d h => some (.t [a, b, c, d], h)
def kL (k : Nat) : List DV := [.p (bH 7) 0, .l (bH 431) 0 75 75, .i .i64 (.ofNat 75), .i .i64 (.ofNat k)]
end
end Go.Dd

namespace Go.Dd
open Go.Proofs
noncomputable section
def pN0 : Code := cf Tryz.f10
def pN1 : Code := cR pN0
def pN2 : Code := cR pN1
def pN3 : Code := cR pN2
def pN4 : Code := cR pN3
def pN5 : Code := cR pN4
def pN6 : Code := cR pN5
def cJn : Code := cR (cL pN6)
def dYd : Code := cR pN6
def hS : Hp := ⟨bH 1, .e⟩
def cXn : K := fun e h => some (.t [e 5, e 155, e 156, e 157], h)
end
end Go.Dd

