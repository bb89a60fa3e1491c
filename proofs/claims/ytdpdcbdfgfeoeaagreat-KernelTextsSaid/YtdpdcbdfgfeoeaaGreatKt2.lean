/- A part of the proof: Q4 Q5 Q6 Q7 Q8 Q9 Qt: each text has a comment of its own. -/
import Derived.Test.YtdpdcbdfgfeoeaaGreatKt1
set_option linter.unusedVariables false
set_option linter.unusedSimpArgs false
set_option linter.constructorNameAsVariable false
set_option maxRecDepth 100000
namespace Go.Dd
open Go.Proofs
variable (r : RT) (n : Nat) (args : List DV) (h : Hp)
noncomputable def bE (r : RT) (n : Nat) (h0 : Hp) : aH :=
 some ((.b true), h0)
noncomputable def bZ (r : RT) (n : Nat) (kk4 : bX) (x0 x1 x11 x12 x13 : DV) (h0 : Hp) : aH :=
 bnd (aD .add x13 (aE 1) h0) fun v1 h1 =>
  kk4 x0 x1 x11 x12 v1 h1
noncomputable def fI (r : RT) (n : Nat) (kk4 : bX) (x0 x1 x5 x6 x11 x12 x13 : DV) (h0 : Hp) : aH :=
 bnd (aK 3 x6 h0) fun v1 h1 =>
 bnd (r 193 [v1] h1) fun v2 h2 =>
 bnd (aD .geq v2 (aE 0) h2) fun v3 h3 =>
 bnd (gD v3 true (some (v2, h3)) h3) fun v4 h4 =>
 bnd (gD v3 true (some (x0, h4)) h4) fun v5 h5 =>
 bnd (gD v3 true (bS v5 h5) h5) fun v6 h6 =>
 bnd (gD v3 true (aD .geq v4 v6 h6) h6) fun v7 h7 =>
 bnd (gD v3 true (some (v7, h7)) h7) fun v8 h8 =>
 bnd (gD v8 false (some (x1, h8)) h8) fun v9 h9 =>
 bnd (gD v8 false (some (v2, h9)) h9) fun v10 h10 =>
 bnd (gD v8 false (aI 1 v9 v10 h10) h10) fun v11 h11 =>
 bnd (gD v8 false (aA v11 h11) h11) fun v12 h12 =>
 bnd (gD v8 false (some (x1, h12)) h12) fun v13 h13 =>
 bnd (gD v8 false (some (x5, h13)) h13) fun v14 h14 =>
 bnd (gD v8 false (aI 1 v13 v14 h14) h14) fun v15 h15 =>
 bnd (gD v8 false (aA v15 h15) h15) fun v16 h16 =>
 bnd (gD v8 false (aD .neq v12 v16 h16) h16) fun v17 h17 =>
 bnd (gD v3 true (aM v8 (.b true) v17 h17) h17) fun v18 h18 =>
 bnd (aM v3 v18 (.b false) h18) fun v19 h19 =>
 aS v19 (
 some ((.b false), h19)) (
  bZ r n kk4 x0 x1 x11 x12 x13 h19)
noncomputable def qU (r : RT) (n : Nat) (kk4 : bX) (x0 x1 x5 x6 x7 x8 x9 x11 x12 x13 : DV) (h0 : Hp) : aH :=
 bnd (gG .not x8 h0) fun v1 h1 =>
 bnd (gD v1 false (some (x7, h1)) h1) fun v2 h2 =>
 bnd (gD v1 false (some (x9, h2)) h2) fun v3 h3 =>
 bnd (gD v1 false (aD .gtr v2 v3 h3) h3) fun v4 h4 =>
 bnd (aM v1 (.b true) v4 h4) fun v5 h5 =>
 aS v5 (
 some ((.b false), h5)) (
  fI r n kk4 x0 x1 x5 x6 x11 x12 x13 h5)
noncomputable def aEu (r : RT) (n : Nat) (kk4 : bX) (x0 x1 x5 x6 x7 x8 x9 x11 x12 x13 : DV) (h0 : Hp) : aH :=
 bnd (aI 1 x1 x5 h0) fun v1 h1 =>
 bnd (aA v1 h1) fun v2 h2 =>
 bnd (aD .geq v2 (aE 0) h2) fun v3 h3 =>
 aS v3 (
 bnd (aI 1 x1 x5 h3) fun v4 h4 =>
 bnd (aA v4 h4) fun v5 h5 =>
 bnd (r 192 [x0, v5] h5) fun v6 h6 =>
 bnd (aC 0 v6 h6) fun v7 h7 =>
 bnd (aC 1 v6 h7) fun v8 h8 =>
  qU r n kk4 x0 x1 x5 x6 x7 x8 v7 x11 x12 x13 h8) (
  qU r n kk4 x0 x1 x5 x6 x7 x8 x9 x11 x12 x13 h3)
noncomputable def aEo (r : RT) (n : Nat) (kk4 : bX) (x0 x1 x5 x6 x7 x8 x11 x12 x13 : DV) (h0 : Hp) : aH :=
 bnd (bS x0 h0) fun v1 h1 =>
  aEu r n kk4 x0 x1 x5 x6 x7 x8 v1 x11 x12 x13 h1
noncomputable def aVk (r : RT) (n : Nat) (kk4 : bX) (x0 x1 x5 x6 x11 x12 x13 : DV) (h0 : Hp) : aH :=
 bnd (r 192 [x0, x5] h0) fun v1 h1 =>
 bnd (aC 0 v1 h1) fun v2 h2 =>
 bnd (aC 1 v1 h2) fun v3 h3 =>
  aEo r n kk4 x0 x1 x5 x6 v2 v3 x11 x12 x13 h3
noncomputable def aBm (r : RT) (n : Nat) (kk4 : bX) (x0 x1 x5 x6 x11 x12 x13 x20 : DV) (h0 : Hp) : aH :=
 aS x20 (
  aVk r n kk4 x0 x1 x5 x6 x11 x12 x13 h0) (
  fI r n kk4 x0 x1 x5 x6 x11 x12 x13 h0)
noncomputable def wM (r : RT) (n : Nat) (kk4 : bX) (x0 x1 x5 x6 x11 x12 x13 : DV) (h0 : Hp) : aH :=
 bnd (aB 0 x6 h0) fun v1 h1 =>
 bnd (aA v1 h1) fun v2 h2 =>
 bnd (aD .eql v2 (aE 18) h2) fun v3 h3 =>
  aBm r n kk4 x0 x1 x5 x6 x11 x12 x13 v3 h3
noncomputable def yO (r : RT) (n : Nat) (kk4 : bX) (x0 x1 x11 x12 x13 : DV) (h0 : Hp) : aH :=
 bnd (aI 3 x11 x13 h0) fun v1 h1 =>
 bnd (aK 3 v1 h1) fun v2 h2 =>
 bnd (bI [(aE 0), (aE 0), (aE 0)] h2) fun v3 h3 =>
 bnd (aF 3 v3 v2 h3) fun _ h4 =>
  wM r n kk4 x0 x1 x13 v3 x11 x12 x13 h4
noncomputable def aNt (r : RT) (n : Nat) (kk4 : bX) (x0 x1 x11 x12 x13 x14 : DV) (h0 : Hp) : aH :=
 aS x14 (
  yO r n kk4 x0 x1 x11 x12 x13 h0) (
  bE r n h0)
noncomputable def aRs (r : RT) (n : Nat) (kk4 : bX) (x0 x1 x11 x12 x13 : DV) (h0 : Hp) : aH :=
 bnd (aD .lss x13 x12 h0) fun v1 h1 =>
  aNt r n kk4 x0 x1 x11 x12 x13 v1 h1
noncomputable def rD (r : RT) (n : Nat) (m : Nat) : bX :=
 Nat.rec (motive := fun _ => bX) (fun _ _ _ _ _ _ => none) (fun _ ih => aRs r n ih) m
noncomputable def bHg (r : RT) (n : Nat) : bX := rD r n n
noncomputable def aKk (r : RT) (n : Nat) (x0 x1 x11 x12 x13 : DV) (h0 : Hp) : aH :=
 bHg r n x0 x1 x11 x12 x13 h0
noncomputable def aNc (r : RT) (n : Nat) (x0 x1 : DV) (h0 : Hp) : aH :=
 bnd (bS x0 h0) fun v1 h1 =>
  aKk r n x0 x1 x0 v1 (aE 0) h1
noncomputable def s152 (r : RT) (n : Nat) (x0 x1 : DV) (h0 : Hp) : aH :=
 aNc r n x0 x1 h0
noncomputable abbrev c152 : Code := cf Tryz.f152
noncomputable abbrev aFp : Code := cR c152
noncomputable abbrev cHs : Code := cR aFp
noncomputable abbrev uI : Code := cL aFp
noncomputable abbrev aOw : Code := cR uI
noncomputable abbrev aEr : Code := cL aOw
noncomputable abbrev jC : Code := cL aEr
noncomputable abbrev aCg : Code := cR jC
noncomputable abbrev aCv : Code := cR aCg
noncomputable abbrev cLy : Code := cR aCv
noncomputable abbrev qY : Code := cL aCv
noncomputable abbrev rX : Code := cL qY
noncomputable abbrev sN : Code := cR rX
noncomputable abbrev bTe : Code := cR sN
noncomputable abbrev nV : Code := cL sN
noncomputable abbrev oH : Code := cR nV
noncomputable abbrev oE : Code := cL oH
noncomputable abbrev rF : Code := cR oE
noncomputable abbrev sG : Code := cR rF
noncomputable abbrev bWh : Code := cR sG
noncomputable abbrev aVc : Code := cL sG
noncomputable abbrev aQc : Code := cL rF
noncomputable abbrev aVg : Code := cL oE
noncomputable abbrev bSp : Code := cR oH
noncomputable abbrev aQf : Code := cL nV
noncomputable abbrev aBj : Code := cL rX
noncomputable abbrev aRn : Code := cL aCg
noncomputable abbrev aUl : Code := cL jC
noncomputable abbrev aVf : Code := cL uI
noncomputable abbrev aSc : Code := cL c152
noncomputable abbrev r152 : K := aO CF Tryz.f152
noncomputable def D152 (r : RT) (n : Nat) (c : Code) (X : Nat → K) (k : K) : K := aP CF r 72 n c X r152 k
theorem bUo : D152 r n cHs x0 r152 = (K0 (bE r n)) :=
 (by kernel_rfl)
theorem cFx (kk4 : bX) : D152 r n cLy (xs x0 0 (K0 (bE r n))) (K5 kk4 0 1 11 12 13) = (K5 (bZ r n kk4) 0 1 11 12 13) :=
 (by kernel_rfl)
theorem bUu (kk4 : bX) : D152 r n bTe (xs (xs x0 0 (K0 (bE r n))) 1 (K5 (bZ r n kk4) 0 1 11 12 13)) (K5 (bZ r n kk4) 0 1 11 12 13) = (K7 (fI r n kk4) 0 1 5 6 11 12 13) :=
 (by kernel_rfl)
theorem bSi (kk4 : bX) : D152 r n bWh (xs (xs x0 0 (K0 (bE r n))) 1 (K5 (bZ r n kk4) 0 1 11 12 13)) (K7 (fI r n kk4) 0 1 5 6 11 12 13) = (K10 (qU r n kk4) 0 1 5 6 7 8 9 11 12 13) :=
 (by kernel_rfl)
theorem bAc (kk4 : bX) : D152 r n sG (xs (xs x0 0 (K0 (bE r n))) 1 (K5 (bZ r n kk4) 0 1 11 12 13)) (K7 (fI r n kk4) 0 1 5 6 11 12 13) = D152 r n aVc (xs (xs x0 0 (K0 (bE r n))) 1 (K5 (bZ r n kk4) 0 1 11 12 13)) (K10 (qU r n kk4) 0 1 5 6 7 8 9 11 12 13) :=
 congrArg (fun k => D152 r n aVc (xs (xs x0 0 (K0 (bE r n))) 1 (K5 (bZ r n kk4) 0 1 11 12 13)) k) (bSi r n kk4)
theorem bKr (kk4 : bX) : D152 r n sG (xs (xs x0 0 (K0 (bE r n))) 1 (K5 (bZ r n kk4) 0 1 11 12 13)) (K7 (fI r n kk4) 0 1 5 6 11 12 13) = (K10 (aEu r n kk4) 0 1 5 6 7 8 9 11 12 13) :=
 (bAc r n kk4).trans
 ((by kernel_rfl))
theorem aZp (kk4 : bX) : D152 r n rF (xs (xs x0 0 (K0 (bE r n))) 1 (K5 (bZ r n kk4) 0 1 11 12 13)) (K7 (fI r n kk4) 0 1 5 6 11 12 13) = D152 r n aQc (xs (xs x0 0 (K0 (bE r n))) 1 (K5 (bZ r n kk4) 0 1 11 12 13)) (K10 (aEu r n kk4) 0 1 5 6 7 8 9 11 12 13) :=
 congrArg (fun k => D152 r n aQc (xs (xs x0 0 (K0 (bE r n))) 1 (K5 (bZ r n kk4) 0 1 11 12 13)) k) (bKr r n kk4)
theorem bMe (kk4 : bX) : D152 r n rF (xs (xs x0 0 (K0 (bE r n))) 1 (K5 (bZ r n kk4) 0 1 11 12 13)) (K7 (fI r n kk4) 0 1 5 6 11 12 13) = (K9 (aEo r n kk4) 0 1 5 6 7 8 11 12 13) :=
 (aZp r n kk4).trans
 ((by kernel_rfl))
theorem aXp (kk4 : bX) : D152 r n oE (xs (xs x0 0 (K0 (bE r n))) 1 (K5 (bZ r n kk4) 0 1 11 12 13)) (K7 (fI r n kk4) 0 1 5 6 11 12 13) = D152 r n aVg (xs (xs x0 0 (K0 (bE r n))) 1 (K5 (bZ r n kk4) 0 1 11 12 13)) (K9 (aEo r n kk4) 0 1 5 6 7 8 11 12 13) :=
 congrArg (fun k => D152 r n aVg (xs (xs x0 0 (K0 (bE r n))) 1 (K5 (bZ r n kk4) 0 1 11 12 13)) k) (bMe r n kk4)
theorem bFq (kk4 : bX) : D152 r n oE (xs (xs x0 0 (K0 (bE r n))) 1 (K5 (bZ r n kk4) 0 1 11 12 13)) (K7 (fI r n kk4) 0 1 5 6 11 12 13) = (K7 (aVk r n kk4) 0 1 5 6 11 12 13) :=
 (aXp r n kk4).trans
 ((by kernel_rfl))
theorem bQe (kk4 : bX) : D152 r n oH (xs (xs x0 0 (K0 (bE r n))) 1 (K5 (bZ r n kk4) 0 1 11 12 13)) (K7 (fI r n kk4) 0 1 5 6 11 12 13) = (K8 (aBm r n kk4) 0 1 5 6 11 12 13 20) :=
 (by kernel_rfl : D152 r n oH (xs (xs x0 0 (K0 (bE r n))) 1 (K5 (bZ r n kk4) 0 1 11 12 13)) (K7 (fI r n kk4) 0 1 5 6 11 12 13) = (fun (env : aU) (h : Hp) => aS (opr env (cC oH)) (D152 r n oE (xs (xs x0 0 (K0 (bE r n))) 1 (K5 (bZ r n kk4) 0 1 11 12 13)) (K7 (fI r n kk4) 0 1 5 6 11 12 13) env h) (D152 r n bSp (xs (xs x0 0 (K0 (bE r n))) 1 (K5 (bZ r n kk4) 0 1 11 12 13)) (K7 (fI r n kk4) 0 1 5 6 11 12 13) env h))).trans (by rw [bFq r n kk4]; kernel_rfl)
theorem bHj (kk4 : bX) : D152 r n sN (xs (xs x0 0 (K0 (bE r n))) 1 (K5 (bZ r n kk4) 0 1 11 12 13)) (K5 (bZ r n kk4) 0 1 11 12 13) = D152 r n nV (xs (xs x0 0 (K0 (bE r n))) 1 (K5 (bZ r n kk4) 0 1 11 12 13)) (K7 (fI r n kk4) 0 1 5 6 11 12 13) :=
 congrArg (fun k => D152 r n nV (xs (xs x0 0 (K0 (bE r n))) 1 (K5 (bZ r n kk4) 0 1 11 12 13)) k) (bUu r n kk4)
theorem bCx (kk4 : bX) : D152 r n nV (xs (xs x0 0 (K0 (bE r n))) 1 (K5 (bZ r n kk4) 0 1 11 12 13)) (K7 (fI r n kk4) 0 1 5 6 11 12 13) = D152 r n aQf (xs (xs x0 0 (K0 (bE r n))) 1 (K5 (bZ r n kk4) 0 1 11 12 13)) (K8 (aBm r n kk4) 0 1 5 6 11 12 13 20) :=
 congrArg (fun k => D152 r n aQf (xs (xs x0 0 (K0 (bE r n))) 1 (K5 (bZ r n kk4) 0 1 11 12 13)) k) (bQe r n kk4)
theorem cEk (kk4 : bX) : D152 r n sN (xs (xs x0 0 (K0 (bE r n))) 1 (K5 (bZ r n kk4) 0 1 11 12 13)) (K5 (bZ r n kk4) 0 1 11 12 13) = (K7 (wM r n kk4) 0 1 5 6 11 12 13) :=
 (bHj r n kk4).trans
 ((bCx r n kk4).trans
 ((by kernel_rfl)))
theorem bLx (kk4 : bX) : D152 r n aCv (xs x0 0 (K0 (bE r n))) (K5 kk4 0 1 11 12 13) = D152 r n qY (xs x0 0 (K0 (bE r n))) (K5 (bZ r n kk4) 0 1 11 12 13) :=
 congrArg (fun k => D152 r n qY (xs x0 0 (K0 (bE r n))) k) (cFx r n kk4)
theorem bQa (kk4 : bX) : D152 r n rX (xs (xs x0 0 (K0 (bE r n))) 1 (K5 (bZ r n kk4) 0 1 11 12 13)) (K5 (bZ r n kk4) 0 1 11 12 13) = D152 r n aBj (xs (xs x0 0 (K0 (bE r n))) 1 (K5 (bZ r n kk4) 0 1 11 12 13)) (K7 (wM r n kk4) 0 1 5 6 11 12 13) :=
 congrArg (fun k => D152 r n aBj (xs (xs x0 0 (K0 (bE r n))) 1 (K5 (bZ r n kk4) 0 1 11 12 13)) k) (cEk r n kk4)
theorem bHp (kk4 : bX) (q0 : TT7) (q1 : Hp → aH) (q2 : bX) : D152 r n aBj (xs (xs x0 0 (K0 q1)) 1 (K5 q2 0 1 11 12 13)) (K7 q0 0 1 5 6 11 12 13) = fun (env : aU) (h : Hp) =>
 bnd (aI 3 (env 11) (env 13) h) fun v1 h1 =>
 bnd (aK 3 v1 h1) fun v2 h2 =>
 bnd (bI [(aE 0), (aE 0), (aE 0)] h2) fun v3 h3 =>
 bnd (aF 3 v3 v2 h3) fun _ h4 =>
  q0 (env 0) (env 1) (env 13) v3 (env 11) (env 12) (env 13) h4 := by kernel_rfl
theorem bAh (kk4 : bX) : (fun (env : aU) (h : Hp) =>
 bnd (aI 3 (env 11) (env 13) h) fun v1 h1 =>
 bnd (aK 3 v1 h1) fun v2 h2 =>
 bnd (bI [(aE 0), (aE 0), (aE 0)] h2) fun v3 h3 =>
 bnd (aF 3 v3 v2 h3) fun _ h4 =>
  wM r n kk4 (env 0) (env 1) (env 13) v3 (env 11) (env 12) (env 13) h4) = (K5 (yO r n kk4) 0 1 11 12 13) := by kernel_rfl
theorem cBt (kk4 : bX) : D152 r n aCv (xs x0 0 (K0 (bE r n))) (K5 kk4 0 1 11 12 13) = (K5 (yO r n kk4) 0 1 11 12 13) :=
 (bLx r n kk4).trans
 ((by kernel_rfl : D152 r n qY (xs x0 0 (K0 (bE r n))) (K5 (bZ r n kk4) 0 1 11 12 13) = D152 r n rX (xs (xs x0 0 (K0 (bE r n))) 1 (K5 (bZ r n kk4) 0 1 11 12 13)) (K5 (bZ r n kk4) 0 1 11 12 13)).trans
 ((bQa r n kk4).trans
 ((bHp r n kk4 (wM r n kk4) (bE r n) (bZ r n kk4)).trans (bAh r n kk4))))
theorem bAy (kk4 : bX) : D152 r n aCg (xs x0 0 (K0 (bE r n))) (K5 kk4 0 1 11 12 13) = D152 r n aRn (xs x0 0 (K0 (bE r n))) (K5 (yO r n kk4) 0 1 11 12 13) :=
 congrArg (fun k => D152 r n aRn (xs x0 0 (K0 (bE r n))) k) (cBt r n kk4)
theorem bYf (kk4 : bX) : D152 r n aCg (xs x0 0 (K0 (bE r n))) (K5 kk4 0 1 11 12 13) = (K6 (aNt r n kk4) 0 1 11 12 13 14) :=
 (bAy r n kk4).trans
 ((by kernel_rfl))
theorem aZw (kk4 : bX) : D152 r n jC (xs x0 0 (K0 (bE r n))) (K5 kk4 0 1 11 12 13) = D152 r n aUl (xs x0 0 (K0 (bE r n))) (K6 (aNt r n kk4) 0 1 11 12 13 14) :=
 congrArg (fun k => D152 r n aUl (xs x0 0 (K0 (bE r n))) k) (bYf r n kk4)
theorem bRo (kk4 : bX) : D152 r n jC (xs x0 0 (K0 (bE r n))) (K5 kk4 0 1 11 12 13) = (K5 (aRs r n kk4) 0 1 11 12 13) :=
 (aZw r n kk4).trans
 ((by kernel_rfl))
theorem bJb (m : Nat) : aN (fun kk => D152 r n jC (xs x0 0 (K0 (bE r n))) kk) m = (K5 (rD r n m) 0 1 11 12 13) := by
 induction m with
 | zero => exact (by kernel_rfl : aN (fun kk => D152 r n jC (xs x0 0 (K0 (bE r n))) kk) 0 = (K5 (rD r n 0) 0 1 11 12 13))
 | succ m ih =>
  refine (by kernel_rfl : aN (fun kk => D152 r n jC (xs x0 0 (K0 (bE r n))) kk) (m + 1) = D152 r n jC (xs x0 0 (K0 (bE r n))) (aN (fun kk => D152 r n jC (xs x0 0 (K0 (bE r n))) kk) m)).trans ?_
  rw [ih]
  exact (bRo r n (rD r n m)).trans (by kernel_rfl)
theorem cBu : D152 r n aEr (xs x0 0 (K0 (bE r n))) (K0 (bE r n)) = (K5 (bHg r n) 0 1 11 12 13) :=
 (by kernel_rfl : D152 r n aEr (xs x0 0 (K0 (bE r n))) (K0 (bE r n)) = aN (fun kk => D152 r n jC (xs x0 0 (K0 (bE r n))) kk) n).trans ((bJb r n n).trans (by kernel_rfl))
theorem bTm : D152 r n aOw x0 (K0 (bE r n)) = (K5 (aKk r n) 0 1 11 12 13) :=
 (by kernel_rfl : D152 r n aOw x0 (K0 (bE r n)) = D152 r n aEr (xs x0 0 (K0 (bE r n))) (K0 (bE r n))).trans
 ((cBu r n).trans (by kernel_rfl))
theorem aXe : D152 r n aFp x0 r152 = D152 r n uI x0 (K0 (bE r n)) :=
 congrArg (fun k => D152 r n uI x0 k) (bUo r n)
theorem aYj : D152 r n uI x0 (K0 (bE r n)) = D152 r n aVf x0 (K5 (aKk r n) 0 1 11 12 13) :=
 congrArg (fun k => D152 r n aVf x0 k) (bTm r n)
theorem cEt : D152 r n aFp x0 r152 = (K2 (aNc r n) 0 1) :=
 (aXe r n).trans
 ((aYj r n).trans
 ((by kernel_rfl)))
theorem bTt : D152 r n c152 x0 r152 = D152 r n aSc x0 (K2 (aNc r n) 0 1) :=
 congrArg (fun k => D152 r n aSc x0 k) (cEt r n)
theorem cUi : D152 r n c152 x0 r152 = (K2 (s152 r n) 0 1) :=
 (bTt r n).trans
 ((by kernel_rfl))
theorem cNf : aG CF r n 152 args h = s152 r n (aR args 0) (aR args 1) h :=
 (by kernel_rfl : aG CF r n 152 args h = D152 r n c152 x0 r152 (aJ args) h).trans ((congrFun (congrFun (cUi r n) (aJ args)) h).trans (by kernel_rfl))
noncomputable def bP (r : RT) (n : Nat) (x6 x9 : DV) (h0 : Hp) : aH :=
 bnd (aA x6 h0) fun v1 h1 =>
 bnd (aA x9 h1) fun v2 h2 =>
 some (.t [v1, v2], h2)
noncomputable def sI (r : RT) (n : Nat) (kk9 : eT) (x2 x3 x6 x7 x9 x10 x11 x14 : DV) (h0 : Hp) : aH :=
 bnd (aD .add x11 (aE 1) h0) fun v1 h1 =>
 bnd (aA x3 h1) fun v2 h2 =>
 bnd (aI 1 v2 x11 h2) fun v3 h3 =>
 bnd (aA v3 h3) fun v4 h4 =>
 bnd (dE CF r x10 [v1, v4, x14] h4) fun v5 h5 =>
  kk9 x2 x3 x6 x7 x9 x10 h5
noncomputable def aGj (r : RT) (n : Nat) (kk9 : eT) (x2 x3 x6 x7 x9 x10 x11 x12 x13 x14 : DV) (h0 : Hp) : aH :=
 bnd (aB 0 x12 h0) fun v1 h1 =>
 bnd (aA v1 h1) fun v2 h2 =>
 bnd (aD .eql v2 (aE 19) h2) fun v3 h3 =>
 aS v3 (
 bnd (aD .neq x13 (aE 1) h3) fun v4 h4 =>
 bnd (gD v4 false (aA x3 h4) h4) fun v5 h5 =>
 bnd (gD v4 false (some (x11, h5)) h5) fun v6 h6 =>
 bnd (gD v4 false (aI 1 v5 v6 h6) h6) fun v7 h7 =>
 bnd (gD v4 false (aA v7 h7) h7) fun v8 h8 =>
 bnd (gD v4 false (aD .lss v8 (aE 0) h8) h8) fun v9 h9 =>
 bnd (aM v4 (.b true) v9 h9) fun v10 h10 =>
 aS v10 (
 some (.t [.l0, (.b false)], h10)) (
   kk9 x2 x3 x6 x7 x9 x10 h10)) (
 bnd (aD .eql v2 (aE 20) h3) fun v11 h11 =>
 aS v11 (
   kk9 x2 x3 x6 x7 x9 x10 h11) (
 bnd (aD .eql v2 (aE 16) h11) fun v12 h12 =>
 aS v12 (
 bnd (aK 3 x12 h12) fun v13 h13 =>
 bnd (r 193 [v13] h13) fun v14 h14 =>
 bnd (aA x3 h14) fun v15 h15 =>
 cnd (bJ (aA x3 h12) v15 && true) (
 bnd (aI 1 v15 x11 h15) fun v16 h16 =>
 bnd (aA v16 h16) fun v17 h17 =>
 cnd (bJ (aA v16 h12) v17 && true) (
 bnd (dE CF r x10 [v14, v17, x14] h17) fun v18 h18 =>
    kk9 x2 x3 x6 x7 x9 x10 h18))) (
 bnd (aD .eql v2 (aE 17) h12) fun v19 h19 =>
 aS v19 (
 bnd (aK 3 x12 h19) fun v20 h20 =>
 bnd (r 193 [v20] h20) fun v21 h21 =>
 bnd (aA x3 h21) fun v22 h22 =>
 cnd (bJ (aA x3 h19) v22 && true) (
 bnd (aI 1 v22 x11 h22) fun v23 h23 =>
 bnd (aA v23 h23) fun v24 h24 =>
 cnd (bJ (aA v23 h19) v24 && true) (
 bnd (dE CF r x10 [v21, v24, x14] h24) fun v25 h25 =>
     sI r n kk9 x2 x3 x6 x7 x9 x10 x11 x14 h25))) (
     sI r n kk9 x2 x3 x6 x7 x9 x10 x11 x14 h19))))
noncomputable def yL (r : RT) (n : Nat) (kk9 : eT) (x2 x3 x6 x7 x9 x10 x11 x12 x13 x14 : DV) (h0 : Hp) : aH :=
 bnd (aK 3 x12 h0) fun v1 h1 =>
 bnd (r 196 [v1] h1) fun v2 h2 =>
 bnd (aD .lss x13 v2 h2) fun v3 h3 =>
 bnd (gD v3 false (some (x14, h3)) h3) fun v4 h4 =>
 bnd (gD v3 false (aD .gtr v4 (aE 24) h4) h4) fun v5 h5 =>
 bnd (aM v3 (.b true) v5 h5) fun v6 h6 =>
 aS v6 (
 some (.t [.l0, (.b false)], h6)) (
  aGj r n kk9 x2 x3 x6 x7 x9 x10 x11 x12 x13 x14 h6)
noncomputable def aFv (r : RT) (n : Nat) (kk9 : eT) (x2 x3 x6 x7 x9 x10 x11 x12 x13 : DV) (h0 : Hp) : aH :=
 bnd (aK 3 x12 h0) fun v1 h1 =>
 bnd (r 195 [v1] h1) fun v2 h2 =>
 bnd (aD .add x13 v2 h2) fun v3 h3 =>
  yL r n kk9 x2 x3 x6 x7 x9 x10 x11 x12 x13 v3 h3
noncomputable def zR (r : RT) (n : Nat) (kk9 : eT) (x2 x3 x6 x7 x9 x10 x11 : DV) (h0 : Hp) : aH :=
 bnd (aA x2 (resv 1 h0)) fun v1 h1 =>
 bnd (aI 3 v1 x11 h1) fun v2 h2 =>
 bnd (aK 3 v2 h2) fun v3 h3 =>
 bnd (aA x6 h3) fun v4 h4 =>
 bnd (aI 1 v4 x11 h4) fun v5 h5 =>
 bnd (aA v5 h5) fun v6 h6 =>
 bnd (kH (bQ 0 h0.next) [(aE 0), (aE 0), (aE 0)] h6) fun v7 h7 =>
 bnd (aF 3 v7 v3 h7) fun v8 h8 =>
 cnd (bJ (aA v5 h8) v6 && (bJ (aA x6 h8) v4 && true)) (
  aFv r n kk9 x2 x3 x6 x7 x9 x10 x11 v7 v6 h8)
noncomputable def xW (r : RT) (n : Nat) (kk9 : eT) (x2 x3 x6 x7 x9 x10 x11 : DV) (h0 : Hp) : aH :=
 bnd (aA x7 h0) fun v1 h1 =>
 bnd (aA x7 h1) fun v2 h2 =>
 bnd (bS v2 h2) fun v3 h3 =>
 bnd (aD .sub v3 (aE 1) h3) fun v4 h4 =>
 bnd (cI 1 v1 none (some v4) h4) fun v5 h5 =>
 bnd (aF 1 x7 v5 h5) fun _ h6 =>
  zR r n kk9 x2 x3 x6 x7 x9 x10 x11 h6
noncomputable def yA (r : RT) (n : Nat) (kk9 : eT) (x2 x3 x6 x7 x9 x10 : DV) (h0 : Hp) : aH :=
 bnd (aA x7 h0) fun v1 h1 =>
 bnd (aA x7 h1) fun v2 h2 =>
 bnd (bS v2 h2) fun v3 h3 =>
 bnd (aD .sub v3 (aE 1) h3) fun v4 h4 =>
 bnd (aI 1 v1 v4 h4) fun v5 h5 =>
 bnd (aA v5 h5) fun v6 h6 =>
  xW r n kk9 x2 x3 x6 x7 x9 x10 v6 h6
noncomputable def aQi (r : RT) (n : Nat) (kk9 : eT) (x2 x3 x6 x7 x9 x10 : DV) (h0 : Hp) : aH :=
 bnd (aA x7 h0) fun v1 h1 =>
 bnd (bS v1 h1) fun v2 h2 =>
 bnd (aD .gtr v2 (aE 0) h2) fun v3 h3 =>
 bnd (gD v3 true (aA x9 h3) h3) fun v4 h4 =>
 bnd (aM v3 v4 (.b false) h4) fun v5 h5 =>
 aS v5 (
   yA r n kk9 x2 x3 x6 x7 x9 x10 h5) (
   bP r n x6 x9 h5)
noncomputable def sV (r : RT) (n : Nat) (m : Nat) : eT :=
 Nat.rec (motive := fun _ => eT) (fun _ _ _ _ _ _ _ => none) (fun _ ih => aQi r n ih) m
noncomputable def bNv (r : RT) (n : Nat) : eT := sV r n n
noncomputable def aMl (r : RT) (n : Nat) (x2 x3 x6 x7 x9 x10 : DV) (h0 : Hp) : aH :=
 bNv r n x2 x3 x6 x7 x9 x10 h0
noncomputable def aKd (r : RT) (n : Nat) (x2 x3 x6 x7 x9 x10 : DV) (h0 : Hp) : aH :=
 aMl r n x2 x3 x6 x7 x9 x10 h0
noncomputable def vI (r : RT) (n : Nat) (x2 x3 x6 x7 x9 : DV) (h0 : Hp) : aH :=
 aKd r n x2 x3 x6 x7 x9 (.f 194 [] [x2, x3, x6, x9, x7]) h0
noncomputable def cE (r : RT) (n : Nat) (x2 x3 x6 x7 : DV) (h0 : Hp) : aH :=
 bnd (bI [(.b false)] h0) fun v1 h1 =>
 bnd (aF 1 v1 (.b true) h1) fun _ h2 =>
  vI r n x2 x3 x6 x7 v1 h2
noncomputable def jU (r : RT) (n : Nat) (kk18 : eT) (x2 x3 x6 x7 x19 x20 : DV) (h0 : Hp) : aH :=
 bnd (aD .add x20 (aE 1) h0) fun v1 h1 =>
  kk18 x2 x3 x6 x7 x19 v1 h1
noncomputable def sY (r : RT) (n : Nat) (kk18 : eT) (x2 x3 x6 x7 x19 x20 : DV) (h0 : Hp) : aH :=
 bnd (aA x6 h0) fun v1 h1 =>
 bnd (aI 1 v1 x20 h1) fun v2 h2 =>
 bnd (aF 1 v2 (.i .i64 (Int.negSucc 0)) h2) fun _ h3 =>
 bnd (aD .eql x20 (aE 0) h3) fun v4 h4 =>
 bnd (gD v4 false (some (x20, h4)) h4) fun v5 h5 =>
 bnd (gD v4 false (aD .gtr v5 (aE 1) h5) h5) fun v6 h6 =>
 bnd (gD v4 false (some (v6, h6)) h6) fun v7 h7 =>
 bnd (gD v7 true (aA x2 h7) h7) fun v8 h8 =>
 bnd (gD v7 true (some (x20, h8)) h8) fun v9 h9 =>
 bnd (gD v7 true (aD .sub v9 (aE 2) h9) h9) fun v10 h10 =>
 bnd (gD v7 true (aI 3 v8 v10 h10) h10) fun v11 h11 =>
 bnd (gD v7 true (aB 0 v11 h11) h11) fun v12 h12 =>
 bnd (gD v7 true (aA v12 h12) h12) fun v13 h13 =>
 bnd (gD v7 true (aD .eql v13 (aE 18) h13) h13) fun v14 h14 =>
 bnd (gD v4 false (aM v7 v14 (.b false) h14) h14) fun v15 h15 =>
 bnd (gD v4 false (some (v15, h15)) h15) fun v16 h16 =>
 bnd (gD v16 true (aA x3 h16) h16) fun v17 h17 =>
 bnd (gD v16 true (some (x20, h17)) h17) fun v18 h18 =>
 bnd (gD v16 true (aI 1 v17 v18 h18) h18) fun v19 h19 =>
 bnd (gD v16 true (aA v19 h19) h19) fun v20 h20 =>
 bnd (gD v16 true (some (x20, h20)) h20) fun v21 h21 =>
 bnd (gD v16 true (aD .sub v21 (aE 2) h21) h21) fun v22 h22 =>
 bnd (gD v16 true (aD .eql v20 v22 h22) h22) fun v23 h23 =>
 bnd (gD v4 false (aM v16 v23 (.b false) h23) h23) fun v24 h24 =>
 bnd (aM v4 (.b true) v24 h24) fun v25 h25 =>
 aS v25 (
 bnd (aA x6 h25) fun v26 h26 =>
 bnd (aI 1 v26 x20 h26) fun v27 h27 =>
 bnd (aF 1 v27 (aE 0) h27) fun _ h28 =>
 bnd (aA x7 h28) fun v29 h29 =>
 bnd (aL [(aE 0)] 1 [(0, 1, x20)] h29) fun v30 h30 =>
 bnd (aX 1 8 v29 v30 h30) fun v31 h31 =>
 bnd (aF 1 x7 v31 h31) fun _ h32 =>
  jU r n kk18 x2 x3 x6 x7 x19 x20 h32) (
  jU r n kk18 x2 x3 x6 x7 x19 x20 h25)
noncomputable def aFq (r : RT) (n : Nat) (kk18 : eT) (x2 x3 x6 x7 x19 x20 x21 : DV) (h0 : Hp) : aH :=
 aS x21 (
  sY r n kk18 x2 x3 x6 x7 x19 x20 h0) (
  cE r n x2 x3 x6 x7 h0)
noncomputable def aJc (r : RT) (n : Nat) (kk18 : eT) (x2 x3 x6 x7 x19 x20 : DV) (h0 : Hp) : aH :=
 bnd (aD .lss x20 x19 h0) fun v1 h1 =>
  aFq r n kk18 x2 x3 x6 x7 x19 x20 v1 h1
noncomputable def nM (r : RT) (n : Nat) (m : Nat) : eT :=
 Nat.rec (motive := fun _ => eT) (fun _ _ _ _ _ _ _ => none) (fun _ ih => aJc r n ih) m
noncomputable def aVx (r : RT) (n : Nat) : eT := nM r n n
noncomputable def aDy (r : RT) (n : Nat) (x2 x3 x6 x7 x19 x20 : DV) (h0 : Hp) : aH :=
 aVx r n x2 x3 x6 x7 x19 x20 h0
noncomputable def tJ (r : RT) (n : Nat) (x2 x3 x6 x7 : DV) (h0 : Hp) : aH :=
 bnd (aA x6 h0) fun v1 h1 =>
 bnd (bS v1 h1) fun v2 h2 =>
  aDy r n x2 x3 x6 x7 v2 (aE 0) h2
noncomputable def oW (r : RT) (n : Nat) (x2 x3 x6 : DV) (h0 : Hp) : aH :=
 bnd (bI [.l0] h0) fun v1 h1 =>
  tJ r n x2 x3 x6 v1 h1
noncomputable def oX (r : RT) (n : Nat) (x2 x3 : DV) (h0 : Hp) : aH :=
 bnd (aA x2 h0) fun v1 h1 =>
 bnd (bS v1 h1) fun v2 h2 =>
 bnd (cB 1 8 [(aE 0)] v2 v2 h2) fun v3 h3 =>
 bnd (bI [.l0] h3) fun v4 h4 =>
 bnd (aF 1 v4 v3 h4) fun _ h5 =>
  oW r n x2 x3 v4 h5
noncomputable def s153 (r : RT) (n : Nat) (x0 x1 : DV) (h0 : Hp) : aH :=
 bnd (bU x0 h0) fun v1 h1 =>
 bnd (bU x1 h1) fun v2 h2 =>
  oX r n v1 v2 h2
noncomputable abbrev c153 : Code := cf Tryz.f153
noncomputable abbrev aNr : Code := cR c153
noncomputable abbrev zI : Code := cL aNr
noncomputable abbrev xS : Code := cR zI
noncomputable abbrev aGv : Code := cR xS
noncomputable abbrev aDv : Code := cR aGv
noncomputable abbrev zE : Code := cR aDv
noncomputable abbrev aDm : Code := cR zE
noncomputable abbrev aCj : Code := cR aDm
noncomputable abbrev cJu : Code := cR aCj
noncomputable abbrev rN : Code := cL aCj
noncomputable abbrev sR : Code := cL rN
noncomputable abbrev gM : Code := cL sR
noncomputable abbrev aFr : Code := cR gM
noncomputable abbrev rL : Code := cL aFr
noncomputable abbrev qW : Code := cR rL
noncomputable abbrev sW : Code := cR qW
noncomputable abbrev qX : Code := cR sW
noncomputable abbrev sH : Code := cR qX
noncomputable abbrev sS : Code := cR sH
noncomputable abbrev bVa : Code := cR sS
noncomputable abbrev aRq : Code := cL sS
noncomputable abbrev aTn : Code := cL sH
noncomputable abbrev aQx : Code := cL qX
noncomputable abbrev aVo : Code := cL sW
noncomputable abbrev aTf : Code := cL qW
noncomputable abbrev aTj : Code := cL rL
noncomputable abbrev aVs : Code := cL gM
noncomputable abbrev aTq : Code := cL aDm
noncomputable abbrev aQo : Code := cL zE
noncomputable abbrev zA : Code := cL aDv
noncomputable abbrev nO : Code := cL aGv
noncomputable abbrev aAa : Code := cR nO
noncomputable abbrev qR : Code := cL aAa
noncomputable abbrev gL : Code := cL qR
noncomputable abbrev sE : Code := cR gL
noncomputable abbrev sP : Code := cR sE
noncomputable abbrev bYb : Code := cR sP
noncomputable abbrev aBg : Code := cL sP
noncomputable abbrev aRm : Code := cL sE
noncomputable abbrev aTy : Code := cL gL
noncomputable abbrev aUp : Code := cL nO
noncomputable abbrev aAe : Code := cL xS
noncomputable abbrev aEz : Code := cL zI
noncomputable abbrev aBc : Code := cL c153
noncomputable abbrev r153 : K := aO CF Tryz.f153
noncomputable def D153 (r : RT) (n : Nat) (c : Code) (X : Nat → K) (k : K) : K := aP CF r 144 n c X r153 k
theorem bXf : D153 r n cJu x0 r153 = (K2 (bP r n) 6 9) :=
 (by kernel_rfl)
theorem bKw (kk9 : eT) : D153 r n bVa (xs (xs x0 2 (K2 (bP r n) 6 9)) 3 (K6 kk9 2 3 6 7 9 10)) (K6 kk9 2 3 6 7 9 10) = (K8 (sI r n kk9) 2 3 6 7 9 10 11 14) :=
 (by kernel_rfl)
theorem aXj (kk9 : eT) : D153 r n sS (xs (xs x0 2 (K2 (bP r n) 6 9)) 3 (K6 kk9 2 3 6 7 9 10)) (K6 kk9 2 3 6 7 9 10) = D153 r n aRq (xs (xs x0 2 (K2 (bP r n) 6 9)) 3 (K6 kk9 2 3 6 7 9 10)) (K8 (sI r n kk9) 2 3 6 7 9 10 11 14) :=
 congrArg (fun k => D153 r n aRq (xs (xs x0 2 (K2 (bP r n) 6 9)) 3 (K6 kk9 2 3 6 7 9 10)) k) (bKw r n kk9)
theorem bKc (kk9 : eT) : D153 r n sS (xs (xs x0 2 (K2 (bP r n) 6 9)) 3 (K6 kk9 2 3 6 7 9 10)) (K6 kk9 2 3 6 7 9 10) = (K10 (aGj r n kk9) 2 3 6 7 9 10 11 12 13 14) :=
 (aXj r n kk9).trans
 ((by kernel_rfl))
theorem aZk (kk9 : eT) : D153 r n sH (xs (xs x0 2 (K2 (bP r n) 6 9)) 3 (K6 kk9 2 3 6 7 9 10)) (K6 kk9 2 3 6 7 9 10) = D153 r n aTn (xs (xs x0 2 (K2 (bP r n) 6 9)) 3 (K6 kk9 2 3 6 7 9 10)) (K10 (aGj r n kk9) 2 3 6 7 9 10 11 12 13 14) :=
 congrArg (fun k => D153 r n aTn (xs (xs x0 2 (K2 (bP r n) 6 9)) 3 (K6 kk9 2 3 6 7 9 10)) k) (bKc r n kk9)
theorem bBb (kk9 : eT) : D153 r n sH (xs (xs x0 2 (K2 (bP r n) 6 9)) 3 (K6 kk9 2 3 6 7 9 10)) (K6 kk9 2 3 6 7 9 10) = (K10 (yL r n kk9) 2 3 6 7 9 10 11 12 13 14) :=
 (aZk r n kk9).trans
 ((by kernel_rfl))
theorem aWy (kk9 : eT) : D153 r n qX (xs (xs x0 2 (K2 (bP r n) 6 9)) 3 (K6 kk9 2 3 6 7 9 10)) (K6 kk9 2 3 6 7 9 10) = D153 r n aQx (xs (xs x0 2 (K2 (bP r n) 6 9)) 3 (K6 kk9 2 3 6 7 9 10)) (K10 (yL r n kk9) 2 3 6 7 9 10 11 12 13 14) :=
 congrArg (fun k => D153 r n aQx (xs (xs x0 2 (K2 (bP r n) 6 9)) 3 (K6 kk9 2 3 6 7 9 10)) k) (bBb r n kk9)
theorem bJj (kk9 : eT) : D153 r n qX (xs (xs x0 2 (K2 (bP r n) 6 9)) 3 (K6 kk9 2 3 6 7 9 10)) (K6 kk9 2 3 6 7 9 10) = (K9 (aFv r n kk9) 2 3 6 7 9 10 11 12 13) :=
 (aWy r n kk9).trans
 ((by kernel_rfl))
theorem aXd (kk9 : eT) : D153 r n sW (xs (xs x0 2 (K2 (bP r n) 6 9)) 3 (K6 kk9 2 3 6 7 9 10)) (K6 kk9 2 3 6 7 9 10) = D153 r n aVo (xs (xs x0 2 (K2 (bP r n) 6 9)) 3 (K6 kk9 2 3 6 7 9 10)) (K9 (aFv r n kk9) 2 3 6 7 9 10 11 12 13) :=
 congrArg (fun k => D153 r n aVo (xs (xs x0 2 (K2 (bP r n) 6 9)) 3 (K6 kk9 2 3 6 7 9 10)) k) (bJj r n kk9)
theorem bIy (kk9 : eT) : D153 r n sW (xs (xs x0 2 (K2 (bP r n) 6 9)) 3 (K6 kk9 2 3 6 7 9 10)) (K6 kk9 2 3 6 7 9 10) = (K7 (zR r n kk9) 2 3 6 7 9 10 11) :=
 (aXd r n kk9).trans
 ((by kernel_rfl))
theorem aYq (kk9 : eT) : D153 r n qW (xs (xs x0 2 (K2 (bP r n) 6 9)) 3 (K6 kk9 2 3 6 7 9 10)) (K6 kk9 2 3 6 7 9 10) = D153 r n aTf (xs (xs x0 2 (K2 (bP r n) 6 9)) 3 (K6 kk9 2 3 6 7 9 10)) (K7 (zR r n kk9) 2 3 6 7 9 10 11) :=
 congrArg (fun k => D153 r n aTf (xs (xs x0 2 (K2 (bP r n) 6 9)) 3 (K6 kk9 2 3 6 7 9 10)) k) (bIy r n kk9)
theorem bJw (kk9 : eT) : D153 r n qW (xs (xs x0 2 (K2 (bP r n) 6 9)) 3 (K6 kk9 2 3 6 7 9 10)) (K6 kk9 2 3 6 7 9 10) = (K7 (xW r n kk9) 2 3 6 7 9 10 11) :=
 (aYq r n kk9).trans
 ((by kernel_rfl))
theorem aXg (kk9 : eT) : D153 r n rL (xs (xs x0 2 (K2 (bP r n) 6 9)) 3 (K6 kk9 2 3 6 7 9 10)) (K6 kk9 2 3 6 7 9 10) = D153 r n aTj (xs (xs x0 2 (K2 (bP r n) 6 9)) 3 (K6 kk9 2 3 6 7 9 10)) (K7 (xW r n kk9) 2 3 6 7 9 10 11) :=
 congrArg (fun k => D153 r n aTj (xs (xs x0 2 (K2 (bP r n) 6 9)) 3 (K6 kk9 2 3 6 7 9 10)) k) (bJw r n kk9)
theorem bCb (kk9 : eT) : D153 r n aFr (xs x0 2 (K2 (bP r n) 6 9)) (K6 kk9 2 3 6 7 9 10) = (K6 (yA r n kk9) 2 3 6 7 9 10) :=
 (by kernel_rfl : D153 r n aFr (xs x0 2 (K2 (bP r n) 6 9)) (K6 kk9 2 3 6 7 9 10) = D153 r n rL (xs (xs x0 2 (K2 (bP r n) 6 9)) 3 (K6 kk9 2 3 6 7 9 10)) (K6 kk9 2 3 6 7 9 10)).trans
 ((aXg r n kk9).trans
 ((by kernel_rfl)))
theorem bGi (kk9 : eT) : D153 r n gM (xs x0 2 (K2 (bP r n) 6 9)) (K6 kk9 2 3 6 7 9 10) = D153 r n aVs (xs x0 2 (K2 (bP r n) 6 9)) (K6 (yA r n kk9) 2 3 6 7 9 10) :=
 congrArg (fun k => D153 r n aVs (xs x0 2 (K2 (bP r n) 6 9)) k) (bCb r n kk9)
theorem bCk (kk9 : eT) : D153 r n gM (xs x0 2 (K2 (bP r n) 6 9)) (K6 kk9 2 3 6 7 9 10) = (K6 (aQi r n kk9) 2 3 6 7 9 10) :=
 (bGi r n kk9).trans
 ((by kernel_rfl))
theorem bEv (m : Nat) : aN (fun kk => D153 r n gM (xs x0 2 (K2 (bP r n) 6 9)) kk) m = (K6 (sV r n m) 2 3 6 7 9 10) := by
 induction m with
 | zero => exact (by kernel_rfl : aN (fun kk => D153 r n gM (xs x0 2 (K2 (bP r n) 6 9)) kk) 0 = (K6 (sV r n 0) 2 3 6 7 9 10))
 | succ m ih =>
  refine (by kernel_rfl : aN (fun kk => D153 r n gM (xs x0 2 (K2 (bP r n) 6 9)) kk) (m + 1) = D153 r n gM (xs x0 2 (K2 (bP r n) 6 9)) (aN (fun kk => D153 r n gM (xs x0 2 (K2 (bP r n) 6 9)) kk) m)).trans ?_
  rw [ih]
  exact (bCk r n (sV r n m)).trans (by kernel_rfl)
theorem bTd : D153 r n sR (xs x0 2 (K2 (bP r n) 6 9)) (K2 (bP r n) 6 9) = (K6 (bNv r n) 2 3 6 7 9 10) :=
 (by kernel_rfl : D153 r n sR (xs x0 2 (K2 (bP r n) 6 9)) (K2 (bP r n) 6 9) = aN (fun kk => D153 r n gM (xs x0 2 (K2 (bP r n) 6 9)) kk) n).trans ((bEv r n n).trans (by kernel_rfl))
theorem bMb : D153 r n aCj x0 r153 = D153 r n rN x0 (K2 (bP r n) 6 9) :=
 congrArg (fun k => D153 r n rN x0 k) (bXf r n)
theorem bYo : D153 r n aCj x0 r153 = (K6 (aMl r n) 2 3 6 7 9 10) :=
 (bMb r n).trans
 ((by kernel_rfl : D153 r n rN x0 (K2 (bP r n) 6 9) = D153 r n sR (xs x0 2 (K2 (bP r n) 6 9)) (K2 (bP r n) 6 9)).trans
 ((bTd r n).trans (by kernel_rfl)))
theorem bNe : D153 r n aDm x0 r153 = D153 r n aTq x0 (K6 (aMl r n) 2 3 6 7 9 10) :=
 congrArg (fun k => D153 r n aTq x0 k) (bYo r n)
theorem cAx : D153 r n aDm x0 r153 = (K6 (aKd r n) 2 3 6 7 9 10) :=
 (bNe r n).trans
 ((by kernel_rfl))
theorem aZv : D153 r n zE x0 r153 = D153 r n aQo x0 (K6 (aKd r n) 2 3 6 7 9 10) :=
 congrArg (fun k => D153 r n aQo x0 k) (cAx r n)
theorem cBc : D153 r n zE x0 r153 = (K5 (vI r n) 2 3 6 7 9) :=
 (aZv r n).trans
 ((by kernel_rfl))
theorem aZh : D153 r n aDv x0 r153 = D153 r n zA x0 (K5 (vI r n) 2 3 6 7 9) :=
 congrArg (fun k => D153 r n zA x0 k) (cBc r n)
theorem bAd (q0 : bX) : D153 r n zA x0 (K5 q0 2 3 6 7 9) = fun (env : aU) (h : Hp) =>
 bnd (bI [(.b false)] h) fun v1 h1 =>
 bnd (aF 1 v1 (.b true) h1) fun _ h2 =>
  q0 (env 2) (env 3) (env 6) (env 7) v1 h2 := by kernel_rfl
theorem aLa : (fun (env : aU) (h : Hp) =>
 bnd (bI [(.b false)] h) fun v1 h1 =>
 bnd (aF 1 v1 (.b true) h1) fun _ h2 =>
  vI r n (env 2) (env 3) (env 6) (env 7) v1 h2) = (K4 (cE r n) 2 3 6 7) := by kernel_rfl
theorem cDk : D153 r n aDv x0 r153 = (K4 (cE r n) 2 3 6 7) :=
 (aZh r n).trans
 ((bAd r n (vI r n)).trans (aLa r n))
theorem bGt (kk18 : eT) : D153 r n bYb (xs x0 0 (K4 (cE r n) 2 3 6 7)) (K6 kk18 2 3 6 7 19 20) = (K6 (jU r n kk18) 2 3 6 7 19 20) :=
 (by kernel_rfl)
theorem aKo (kk18 : eT) : D153 r n sP (xs x0 0 (K4 (cE r n) 2 3 6 7)) (K6 kk18 2 3 6 7 19 20) = D153 r n aBg (xs x0 0 (K4 (cE r n) 2 3 6 7)) (K6 (jU r n kk18) 2 3 6 7 19 20) :=
 congrArg (fun k => D153 r n aBg (xs x0 0 (K4 (cE r n) 2 3 6 7)) k) (bGt r n kk18)
theorem aLp (kk18 : eT) (q0 : eT) (q1 : dM) : D153 r n aBg (xs x0 0 (K4 q1 2 3 6 7)) (K6 q0 2 3 6 7 19 20) = fun (env : aU) (h : Hp) =>
 bnd (aA (env 6) h) fun v1 h1 =>
 bnd (aI 1 v1 (env 20) h1) fun v2 h2 =>
 bnd (aF 1 v2 (.i .i64 (Int.negSucc 0)) h2) fun _ h3 =>
 bnd (aD .eql (env 20) (aE 0) h3) fun v4 h4 =>
 bnd (gD v4 false (some ((env 20), h4)) h4) fun v5 h5 =>
 bnd (gD v4 false (aD .gtr v5 (aE 1) h5) h5) fun v6 h6 =>
 bnd (gD v4 false (some (v6, h6)) h6) fun v7 h7 =>
 bnd (gD v7 true (aA (env 2) h7) h7) fun v8 h8 =>
 bnd (gD v7 true (some ((env 20), h8)) h8) fun v9 h9 =>
 bnd (gD v7 true (aD .sub v9 (aE 2) h9) h9) fun v10 h10 =>
 bnd (gD v7 true (aI 3 v8 v10 h10) h10) fun v11 h11 =>
 bnd (gD v7 true (aB 0 v11 h11) h11) fun v12 h12 =>
 bnd (gD v7 true (aA v12 h12) h12) fun v13 h13 =>
 bnd (gD v7 true (aD .eql v13 (aE 18) h13) h13) fun v14 h14 =>
 bnd (gD v4 false (aM v7 v14 (.b false) h14) h14) fun v15 h15 =>
 bnd (gD v4 false (some (v15, h15)) h15) fun v16 h16 =>
 bnd (gD v16 true (aA (env 3) h16) h16) fun v17 h17 =>
 bnd (gD v16 true (some ((env 20), h17)) h17) fun v18 h18 =>
 bnd (gD v16 true (aI 1 v17 v18 h18) h18) fun v19 h19 =>
 bnd (gD v16 true (aA v19 h19) h19) fun v20 h20 =>
 bnd (gD v16 true (some ((env 20), h20)) h20) fun v21 h21 =>
 bnd (gD v16 true (aD .sub v21 (aE 2) h21) h21) fun v22 h22 =>
 bnd (gD v16 true (aD .eql v20 v22 h22) h22) fun v23 h23 =>
 bnd (gD v4 false (aM v16 v23 (.b false) h23) h23) fun v24 h24 =>
 bnd (aM v4 (.b true) v24 h24) fun v25 h25 =>
 aS v25 (
 bnd (aA (env 6) h25) fun v26 h26 =>
 bnd (aI 1 v26 (env 20) h26) fun v27 h27 =>
 bnd (aF 1 v27 (aE 0) h27) fun _ h28 =>
 bnd (aA (env 7) h28) fun v29 h29 =>
 bnd (aL [(aE 0)] 1 [(0, 1, (env 20))] h29) fun v30 h30 =>
 bnd (aX 1 8 v29 v30 h30) fun v31 h31 =>
 bnd (aF 1 (env 7) v31 h31) fun _ h32 =>
      q0 (env 2) (env 3) (env 6) (env 7) (env 19) (env 20) h32) (
      q0 (env 2) (env 3) (env 6) (env 7) (env 19) (env 20) h25) := by kernel_rfl
theorem aIh (kk18 : eT) : (fun (env : aU) (h : Hp) =>
 bnd (aA (env 6) h) fun v1 h1 =>
 bnd (aI 1 v1 (env 20) h1) fun v2 h2 =>
 bnd (aF 1 v2 (.i .i64 (Int.negSucc 0)) h2) fun _ h3 =>
 bnd (aD .eql (env 20) (aE 0) h3) fun v4 h4 =>
 bnd (gD v4 false (some ((env 20), h4)) h4) fun v5 h5 =>
 bnd (gD v4 false (aD .gtr v5 (aE 1) h5) h5) fun v6 h6 =>
 bnd (gD v4 false (some (v6, h6)) h6) fun v7 h7 =>
 bnd (gD v7 true (aA (env 2) h7) h7) fun v8 h8 =>
 bnd (gD v7 true (some ((env 20), h8)) h8) fun v9 h9 =>
 bnd (gD v7 true (aD .sub v9 (aE 2) h9) h9) fun v10 h10 =>
 bnd (gD v7 true (aI 3 v8 v10 h10) h10) fun v11 h11 =>
 bnd (gD v7 true (aB 0 v11 h11) h11) fun v12 h12 =>
 bnd (gD v7 true (aA v12 h12) h12) fun v13 h13 =>
 bnd (gD v7 true (aD .eql v13 (aE 18) h13) h13) fun v14 h14 =>
 bnd (gD v4 false (aM v7 v14 (.b false) h14) h14) fun v15 h15 =>
 bnd (gD v4 false (some (v15, h15)) h15) fun v16 h16 =>
 bnd (gD v16 true (aA (env 3) h16) h16) fun v17 h17 =>
 bnd (gD v16 true (some ((env 20), h17)) h17) fun v18 h18 =>
 bnd (gD v16 true (aI 1 v17 v18 h18) h18) fun v19 h19 =>
 bnd (gD v16 true (aA v19 h19) h19) fun v20 h20 =>
 bnd (gD v16 true (some ((env 20), h20)) h20) fun v21 h21 =>
 bnd (gD v16 true (aD .sub v21 (aE 2) h21) h21) fun v22 h22 =>
 bnd (gD v16 true (aD .eql v20 v22 h22) h22) fun v23 h23 =>
 bnd (gD v4 false (aM v16 v23 (.b false) h23) h23) fun v24 h24 =>
 bnd (aM v4 (.b true) v24 h24) fun v25 h25 =>
 aS v25 (
 bnd (aA (env 6) h25) fun v26 h26 =>
 bnd (aI 1 v26 (env 20) h26) fun v27 h27 =>
 bnd (aF 1 v27 (aE 0) h27) fun _ h28 =>
 bnd (aA (env 7) h28) fun v29 h29 =>
 bnd (aL [(aE 0)] 1 [(0, 1, (env 20))] h29) fun v30 h30 =>
 bnd (aX 1 8 v29 v30 h30) fun v31 h31 =>
 bnd (aF 1 (env 7) v31 h31) fun _ h32 =>
      jU r n kk18 (env 2) (env 3) (env 6) (env 7) (env 19) (env 20) h32) (
      jU r n kk18 (env 2) (env 3) (env 6) (env 7) (env 19) (env 20) h25)) = (K6 (sY r n kk18) 2 3 6 7 19 20) := by kernel_rfl
theorem bPy (kk18 : eT) : D153 r n sP (xs x0 0 (K4 (cE r n) 2 3 6 7)) (K6 kk18 2 3 6 7 19 20) = (K6 (sY r n kk18) 2 3 6 7 19 20) :=
 (aKo r n kk18).trans
 ((aLp r n kk18 (jU r n kk18) (cE r n)).trans (aIh r n kk18))
theorem aLq (kk18 : eT) : D153 r n sE (xs x0 0 (K4 (cE r n) 2 3 6 7)) (K6 kk18 2 3 6 7 19 20) = D153 r n aRm (xs x0 0 (K4 (cE r n) 2 3 6 7)) (K6 (sY r n kk18) 2 3 6 7 19 20) :=
 congrArg (fun k => D153 r n aRm (xs x0 0 (K4 (cE r n) 2 3 6 7)) k) (bPy r n kk18)
theorem bLp (kk18 : eT) : D153 r n sE (xs x0 0 (K4 (cE r n) 2 3 6 7)) (K6 kk18 2 3 6 7 19 20) = (K7 (aFq r n kk18) 2 3 6 7 19 20 21) :=
 (aLq r n kk18).trans
 ((by kernel_rfl))
theorem aPh (kk18 : eT) : D153 r n gL (xs x0 0 (K4 (cE r n) 2 3 6 7)) (K6 kk18 2 3 6 7 19 20) = D153 r n aTy (xs x0 0 (K4 (cE r n) 2 3 6 7)) (K7 (aFq r n kk18) 2 3 6 7 19 20 21) :=
 congrArg (fun k => D153 r n aTy (xs x0 0 (K4 (cE r n) 2 3 6 7)) k) (bLp r n kk18)
theorem aZq (kk18 : eT) : D153 r n gL (xs x0 0 (K4 (cE r n) 2 3 6 7)) (K6 kk18 2 3 6 7 19 20) = (K6 (aJc r n kk18) 2 3 6 7 19 20) :=
 (aPh r n kk18).trans
 ((by kernel_rfl))
theorem bAt (m : Nat) : aN (fun kk => D153 r n gL (xs x0 0 (K4 (cE r n) 2 3 6 7)) kk) m = (K6 (nM r n m) 2 3 6 7 19 20) := by
 induction m with
 | zero => exact (by kernel_rfl : aN (fun kk => D153 r n gL (xs x0 0 (K4 (cE r n) 2 3 6 7)) kk) 0 = (K6 (nM r n 0) 2 3 6 7 19 20))
 | succ m ih =>
  refine (by kernel_rfl : aN (fun kk => D153 r n gL (xs x0 0 (K4 (cE r n) 2 3 6 7)) kk) (m + 1) = D153 r n gL (xs x0 0 (K4 (cE r n) 2 3 6 7)) (aN (fun kk => D153 r n gL (xs x0 0 (K4 (cE r n) 2 3 6 7)) kk) m)).trans ?_
  rw [ih]
  exact (aZq r n (nM r n m)).trans (by kernel_rfl)
theorem bKb : D153 r n qR (xs x0 0 (K4 (cE r n) 2 3 6 7)) (K4 (cE r n) 2 3 6 7) = (K6 (aVx r n) 2 3 6 7 19 20) :=
 (by kernel_rfl : D153 r n qR (xs x0 0 (K4 (cE r n) 2 3 6 7)) (K4 (cE r n) 2 3 6 7) = aN (fun kk => D153 r n gL (xs x0 0 (K4 (cE r n) 2 3 6 7)) kk) n).trans ((bAt r n n).trans (by kernel_rfl))
theorem bOm : D153 r n aAa x0 (K4 (cE r n) 2 3 6 7) = (K6 (aDy r n) 2 3 6 7 19 20) :=
 (by kernel_rfl : D153 r n aAa x0 (K4 (cE r n) 2 3 6 7) = D153 r n qR (xs x0 0 (K4 (cE r n) 2 3 6 7)) (K4 (cE r n) 2 3 6 7)).trans
 ((bKb r n).trans (by kernel_rfl))
theorem aYl : D153 r n aGv x0 r153 = D153 r n nO x0 (K4 (cE r n) 2 3 6 7) :=
 congrArg (fun k => D153 r n nO x0 k) (cDk r n)
theorem aYt : D153 r n nO x0 (K4 (cE r n) 2 3 6 7) = D153 r n aUp x0 (K6 (aDy r n) 2 3 6 7 19 20) :=
 congrArg (fun k => D153 r n aUp x0 k) (bOm r n)
theorem cDq : D153 r n aGv x0 r153 = (K4 (tJ r n) 2 3 6 7) :=
 (aYl r n).trans
 ((aYt r n).trans
 ((by kernel_rfl)))
theorem aYb : D153 r n xS x0 r153 = D153 r n aAe x0 (K4 (tJ r n) 2 3 6 7) :=
 congrArg (fun k => D153 r n aAe x0 k) (cDq r n)
theorem aZo (q0 : dM) : D153 r n aAe x0 (K4 q0 2 3 6 7) = fun (env : aU) (h : Hp) =>
 bnd (bI [.l0] h) fun v1 h1 =>
  q0 (env 2) (env 3) (env 6) v1 h1 := by kernel_rfl
theorem aMf : (fun (env : aU) (h : Hp) =>
 bnd (bI [.l0] h) fun v1 h1 =>
  tJ r n (env 2) (env 3) (env 6) v1 h1) = (K3 (oW r n) 2 3 6) := by kernel_rfl
theorem bVh : D153 r n xS x0 r153 = (K3 (oW r n) 2 3 6) :=
 (aYb r n).trans
 ((aZo r n (tJ r n)).trans (aMf r n))
theorem aXr : D153 r n zI x0 r153 = D153 r n aEz x0 (K3 (oW r n) 2 3 6) :=
 congrArg (fun k => D153 r n aEz x0 k) (bVh r n)
theorem bAp (q0 : lO) : D153 r n aEz x0 (K3 q0 2 3 6) = fun (env : aU) (h : Hp) =>
 bnd (aA (env 2) h) fun v1 h1 =>
 bnd (bS v1 h1) fun v2 h2 =>
 bnd (cB 1 8 [(aE 0)] v2 v2 h2) fun v3 h3 =>
 bnd (bI [.l0] h3) fun v4 h4 =>
 bnd (aF 1 v4 v3 h4) fun _ h5 =>
  q0 (env 2) (env 3) v4 h5 := by kernel_rfl
theorem aOy : (fun (env : aU) (h : Hp) =>
 bnd (aA (env 2) h) fun v1 h1 =>
 bnd (bS v1 h1) fun v2 h2 =>
 bnd (cB 1 8 [(aE 0)] v2 v2 h2) fun v3 h3 =>
 bnd (bI [.l0] h3) fun v4 h4 =>
 bnd (aF 1 v4 v3 h4) fun _ h5 =>
  oW r n (env 2) (env 3) v4 h5) = (K2 (oX r n) 2 3) := by kernel_rfl
theorem cBz : D153 r n aNr x0 r153 = (K2 (oX r n) 2 3) :=
 (by kernel_rfl : D153 r n aNr x0 r153 = D153 r n zI x0 r153).trans
 ((aXr r n).trans
 ((bAp r n (oW r n)).trans (aOy r n)))
theorem bSw : D153 r n c153 x0 r153 = D153 r n aBc x0 (K2 (oX r n) 2 3) :=
 congrArg (fun k => D153 r n aBc x0 k) (cBz r n)
theorem cCf (q0 : gF) : D153 r n aBc x0 (K2 q0 2 3) = fun (env : aU) (h : Hp) =>
 bnd (bU (env 0) h) fun v1 h1 =>
 bnd (bU (env 1) h1) fun v2 h2 =>
  q0 v1 v2 h2 := by kernel_rfl
theorem bEh : (fun (env : aU) (h : Hp) =>
 bnd (bU (env 0) h) fun v1 h1 =>
 bnd (bU (env 1) h1) fun v2 h2 =>
  oX r n v1 v2 h2) = (K2 (s153 r n) 0 1) := by kernel_rfl
theorem cYt : D153 r n c153 x0 r153 = (K2 (s153 r n) 0 1) :=
 (bSw r n).trans
 ((cCf r n (oX r n)).trans (bEh r n))
theorem cJy : aG CF r n 153 args h = s153 r n (aR args 0) (aR args 1) h :=
 (by kernel_rfl : aG CF r n 153 args h = D153 r n c153 x0 r153 (aJ args) h).trans ((congrFun (congrFun (cYt r n) (aJ args)) h).trans (by kernel_rfl))
noncomputable def eM (r : RT) (n : Nat) (x0 x6 : DV) (h0 : Hp) : aH :=
 bnd (cU x0 h0) fun v1 h1 =>
 bnd (aZ [(aE 0), (.s []), (aE 0), (aE 0)] [(3, 1, v1)] h1) fun v2 h2 =>
 bnd (aL [(aE 0), (.s []), (aE 0), (aE 0)] 1 [(0, 4, v2)] h2) fun v3 h3 =>
 bnd (aX 4 40 x6 v3 h3) fun v4 h4 =>
 some (.t [v4, (aE 0), (aE 0)], h4)
noncomputable def yE (r : RT) (n : Nat) (kk7 : lO) (x0 x5 x6 : DV) (h0 : Hp) : aH :=
 bnd (r 198 [(.s [9, 10, 13, 32])] h0) fun v1 h1 =>
 bnd (cU x0 h1) fun v2 h2 =>
 bnd (r 197 [x5, v1, v2] h2) fun v3 h3 =>
 bnd (aQ x5 h3) fun v4 h4 =>
 bnd (aB 1 v4 h4) fun v5 h5 =>
 bnd (aA v5 h5) fun v6 h6 =>
 bnd (cU x0 h6) fun v7 h7 =>
 bnd (aD .geq v6 v7 h7) fun v8 h8 =>
 aS v8 (
   eM r n x0 x6 h8) (
 bnd (aQ x5 h8) fun v9 h9 =>
 bnd (aB 1 v9 h9) fun v10 h10 =>
 bnd (aA v10 h10) fun v11 h11 =>
 bnd (eS x0 v11 h11) fun v12 h12 =>
 bnd (aD .eql v12 (.i .u8 (Int.ofNat 34)) h12) fun v13 h13 =>
 aS v13 (
 bnd (aQ x5 h13) fun v14 h14 =>
 bnd (aB 1 v14 h14) fun v15 h15 =>
 bnd (aA v15 h15) fun v16 h16 =>
 bnd (aD .add v16 (aE 1) h16) fun v17 h17 =>
 bnd (fC x0 (some v17) none h17) fun v18 h18 =>
 bnd (r 199 [v18, (.i .u8 (Int.ofNat 34))] h18) fun v19 h19 =>
 bnd (aD .lss v19 (aE 0) h19) fun v20 h20 =>
 aS v20 (
 bnd (aQ x5 h20) fun v21 h21 =>
 bnd (aB 1 v21 h21) fun v22 h22 =>
 bnd (aA v22 h22) fun v23 h23 =>
 some (.t [.l0, v23, (aE 11)], h23)) (
 bnd (aQ x5 h20) fun v24 h24 =>
 bnd (aB 1 v24 h24) fun v25 h25 =>
 bnd (aA v25 h25) fun v26 h26 =>
 bnd (aD .add v19 (aE 2) h26) fun v27 h27 =>
 bnd (aD .add v26 v27 h27) fun v28 h28 =>
 bnd (aQ x5 h28) fun v29 h29 =>
 bnd (aB 1 v29 h29) fun v30 h30 =>
 bnd (aF 1 v30 v28 h30) fun _ h31 =>
     kk7 x0 x5 x6 h31)) (
 bnd (r 200 [x5] h13) fun v32 h32 =>
 bnd (aC 0 v32 h32) fun v33 h33 =>
 bnd (aC 1 v32 h33) fun v34 h34 =>
 bnd (bI [(aE 0), (.s []), (aE 0), (aE 0)] h34) fun v35 h35 =>
 bnd (aF 4 v35 v33 h35) fun _ h36 =>
 bnd (aD .neq v34 (aE 0) h36) fun v37 h37 =>
 aS v37 (
 bnd (aB 3 v35 h37) fun v38 h38 =>
 bnd (aA v38 h38) fun v39 h39 =>
 some (.t [.l0, v39, v34], h39)) (
 bnd (aK 4 v35 h37) fun v40 h40 =>
 bnd (aL [(aE 0), (.s []), (aE 0), (aE 0)] 1 [(0, 4, v40)] h40) fun v41 h41 =>
 bnd (aX 4 40 x6 v41 h41) fun v42 h42 =>
     kk7 x0 x5 v42 h42)))
noncomputable def rB (r : RT) (n : Nat) (m : Nat) : lO :=
 Nat.rec (motive := fun _ => lO) (fun _ _ _ _ => none) (fun _ ih => yE r n ih) m
noncomputable def bPs (r : RT) (n : Nat) : lO := rB r n n
noncomputable def aNk (r : RT) (n : Nat) (x0 x5 x6 : DV) (h0 : Hp) : aH :=
 bPs r n x0 x5 x6 h0
noncomputable def aKs (r : RT) (n : Nat) (x0 x5 x6 : DV) (h0 : Hp) : aH :=
 aNk r n x0 x5 x6 h0
noncomputable def wF (r : RT) (n : Nat) (x0 x5 : DV) (h0 : Hp) : aH :=
 aKs r n x0 x5 .l0 h0
noncomputable def aEq (r : RT) (n : Nat) (x0 : DV) (h0 : Hp) : aH :=
 bnd (aZ [(.s []), (aE 0)] [(0, 1, x0)] h0) fun v1 h1 =>
 bnd (bU v1 h1) fun v2 h2 =>
  wF r n x0 v2 h2
noncomputable def aLk (r : RT) (n : Nat) (x0 : DV) (h0 : Hp) : aH :=
 bnd (cU x0 h0) fun v1 h1 =>
 bnd (aD .gtr v1 (aE 2000) h1) fun v2 h2 =>
 aS v2 (
 some (.t [.l0, (aE 0), (aE 12)], h2)) (
  aEq r n x0 h2)
noncomputable def s154 (r : RT) (n : Nat) (x0 : DV) (h0 : Hp) : aH :=
 aLk r n x0 h0
noncomputable abbrev c154 : Code := cf Tryz.f154
noncomputable abbrev aKn : Code := cR c154
noncomputable abbrev aCo : Code := cL aKn
noncomputable abbrev aDz : Code := cR aCo
noncomputable abbrev xX : Code := cR aDz
noncomputable abbrev aBa : Code := cR xX
noncomputable abbrev aEn : Code := cR aBa
noncomputable abbrev cLk : Code := cR aEn
noncomputable abbrev aEi : Code := cL aEn
noncomputable abbrev zO : Code := cL aEi
noncomputable abbrev iK : Code := cL zO
noncomputable abbrev aTr : Code := cL aBa
noncomputable abbrev aUi : Code := cL xX
noncomputable abbrev yM : Code := cL aDz
noncomputable abbrev aTw : Code := cL aCo
noncomputable abbrev aSn : Code := cL c154
noncomputable abbrev r154 : K := aO CF Tryz.f154
noncomputable def D154 (r : RT) (n : Nat) (c : Code) (X : Nat → K) (k : K) : K := aP CF r 80 n c X r154 k
theorem bZt : D154 r n cLk x0 r154 = (K2 (eM r n) 0 6) :=
 (by kernel_rfl)
theorem bJc (kk7 : lO) (q0 : gF) : D154 r n iK (xs x0 0 (K2 q0 0 6)) (K3 kk7 0 5 6) = fun (env : aU) (h : Hp) =>
 bnd (r 198 [(.s [9, 10, 13, 32])] h) fun v1 h1 =>
 bnd (cU (env 0) h1) fun v2 h2 =>
 bnd (r 197 [(env 5), v1, v2] h2) fun v3 h3 =>
 bnd (aQ (env 5) h3) fun v4 h4 =>
 bnd (aB 1 v4 h4) fun v5 h5 =>
 bnd (aA v5 h5) fun v6 h6 =>
 bnd (cU (env 0) h6) fun v7 h7 =>
 bnd (aD .geq v6 v7 h7) fun v8 h8 =>
 aS v8 (
   q0 (env 0) (env 6) h8) (
 bnd (aQ (env 5) h8) fun v9 h9 =>
 bnd (aB 1 v9 h9) fun v10 h10 =>
 bnd (aA v10 h10) fun v11 h11 =>
 bnd (eS (env 0) v11 h11) fun v12 h12 =>
 bnd (aD .eql v12 (.i .u8 (Int.ofNat 34)) h12) fun v13 h13 =>
 aS v13 (
 bnd (aQ (env 5) h13) fun v14 h14 =>
 bnd (aB 1 v14 h14) fun v15 h15 =>
 bnd (aA v15 h15) fun v16 h16 =>
 bnd (aD .add v16 (aE 1) h16) fun v17 h17 =>
 bnd (fC (env 0) (some v17) none h17) fun v18 h18 =>
 bnd (r 199 [v18, (.i .u8 (Int.ofNat 34))] h18) fun v19 h19 =>
 bnd (aD .lss v19 (aE 0) h19) fun v20 h20 =>
 aS v20 (
 bnd (aQ (env 5) h20) fun v21 h21 =>
 bnd (aB 1 v21 h21) fun v22 h22 =>
 bnd (aA v22 h22) fun v23 h23 =>
 some (.t [.l0, v23, (aE 11)], h23)) (
 bnd (aQ (env 5) h20) fun v24 h24 =>
 bnd (aB 1 v24 h24) fun v25 h25 =>
 bnd (aA v25 h25) fun v26 h26 =>
 bnd (aD .add v19 (aE 2) h26) fun v27 h27 =>
 bnd (aD .add v26 v27 h27) fun v28 h28 =>
 bnd (aQ (env 5) h28) fun v29 h29 =>
 bnd (aB 1 v29 h29) fun v30 h30 =>
 bnd (aF 1 v30 v28 h30) fun _ h31 =>
     kk7 (env 0) (env 5) (env 6) h31)) (
 bnd (r 200 [(env 5)] h13) fun v32 h32 =>
 bnd (aC 0 v32 h32) fun v33 h33 =>
 bnd (aC 1 v32 h33) fun v34 h34 =>
 bnd (bI [(aE 0), (.s []), (aE 0), (aE 0)] h34) fun v35 h35 =>
 bnd (aF 4 v35 v33 h35) fun _ h36 =>
 bnd (aD .neq v34 (aE 0) h36) fun v37 h37 =>
 aS v37 (
 bnd (aB 3 v35 h37) fun v38 h38 =>
 bnd (aA v38 h38) fun v39 h39 =>
 some (.t [.l0, v39, v34], h39)) (
 bnd (aK 4 v35 h37) fun v40 h40 =>
 bnd (aL [(aE 0), (.s []), (aE 0), (aE 0)] 1 [(0, 4, v40)] h40) fun v41 h41 =>
 bnd (aX 4 40 (env 6) v41 h41) fun v42 h42 =>
     kk7 (env 0) (env 5) v42 h42))) := by kernel_rfl
theorem aYd (kk7 : lO) : (fun (env : aU) (h : Hp) =>
 bnd (r 198 [(.s [9, 10, 13, 32])] h) fun v1 h1 =>
 bnd (cU (env 0) h1) fun v2 h2 =>
 bnd (r 197 [(env 5), v1, v2] h2) fun v3 h3 =>
 bnd (aQ (env 5) h3) fun v4 h4 =>
 bnd (aB 1 v4 h4) fun v5 h5 =>
 bnd (aA v5 h5) fun v6 h6 =>
 bnd (cU (env 0) h6) fun v7 h7 =>
 bnd (aD .geq v6 v7 h7) fun v8 h8 =>
 aS v8 (
   eM r n (env 0) (env 6) h8) (
 bnd (aQ (env 5) h8) fun v9 h9 =>
 bnd (aB 1 v9 h9) fun v10 h10 =>
 bnd (aA v10 h10) fun v11 h11 =>
 bnd (eS (env 0) v11 h11) fun v12 h12 =>
 bnd (aD .eql v12 (.i .u8 (Int.ofNat 34)) h12) fun v13 h13 =>
 aS v13 (
 bnd (aQ (env 5) h13) fun v14 h14 =>
 bnd (aB 1 v14 h14) fun v15 h15 =>
 bnd (aA v15 h15) fun v16 h16 =>
 bnd (aD .add v16 (aE 1) h16) fun v17 h17 =>
 bnd (fC (env 0) (some v17) none h17) fun v18 h18 =>
 bnd (r 199 [v18, (.i .u8 (Int.ofNat 34))] h18) fun v19 h19 =>
 bnd (aD .lss v19 (aE 0) h19) fun v20 h20 =>
 aS v20 (
 bnd (aQ (env 5) h20) fun v21 h21 =>
 bnd (aB 1 v21 h21) fun v22 h22 =>
 bnd (aA v22 h22) fun v23 h23 =>
 some (.t [.l0, v23, (aE 11)], h23)) (
 bnd (aQ (env 5) h20) fun v24 h24 =>
 bnd (aB 1 v24 h24) fun v25 h25 =>
 bnd (aA v25 h25) fun v26 h26 =>
 bnd (aD .add v19 (aE 2) h26) fun v27 h27 =>
 bnd (aD .add v26 v27 h27) fun v28 h28 =>
 bnd (aQ (env 5) h28) fun v29 h29 =>
 bnd (aB 1 v29 h29) fun v30 h30 =>
 bnd (aF 1 v30 v28 h30) fun _ h31 =>
     kk7 (env 0) (env 5) (env 6) h31)) (
 bnd (r 200 [(env 5)] h13) fun v32 h32 =>
 bnd (aC 0 v32 h32) fun v33 h33 =>
 bnd (aC 1 v32 h33) fun v34 h34 =>
 bnd (bI [(aE 0), (.s []), (aE 0), (aE 0)] h34) fun v35 h35 =>
 bnd (aF 4 v35 v33 h35) fun _ h36 =>
 bnd (aD .neq v34 (aE 0) h36) fun v37 h37 =>
 aS v37 (
 bnd (aB 3 v35 h37) fun v38 h38 =>
 bnd (aA v38 h38) fun v39 h39 =>
 some (.t [.l0, v39, v34], h39)) (
 bnd (aK 4 v35 h37) fun v40 h40 =>
 bnd (aL [(aE 0), (.s []), (aE 0), (aE 0)] 1 [(0, 4, v40)] h40) fun v41 h41 =>
 bnd (aX 4 40 (env 6) v41 h41) fun v42 h42 =>
     kk7 (env 0) (env 5) v42 h42)))) = (K3 (yE r n kk7) 0 5 6) := by kernel_rfl
theorem bCo (kk7 : lO) : D154 r n iK (xs x0 0 (K2 (eM r n) 0 6)) (K3 kk7 0 5 6) = (K3 (yE r n kk7) 0 5 6) :=
 (bJc r n kk7 (eM r n)).trans (aYd r n kk7)
theorem bRp (m : Nat) : aN (fun kk => D154 r n iK (xs x0 0 (K2 (eM r n) 0 6)) kk) m = (K3 (rB r n m) 0 5 6) := by
 induction m with
 | zero => exact (by kernel_rfl : aN (fun kk => D154 r n iK (xs x0 0 (K2 (eM r n) 0 6)) kk) 0 = (K3 (rB r n 0) 0 5 6))
 | succ m ih =>
  refine (by kernel_rfl : aN (fun kk => D154 r n iK (xs x0 0 (K2 (eM r n) 0 6)) kk) (m + 1) = D154 r n iK (xs x0 0 (K2 (eM r n) 0 6)) (aN (fun kk => D154 r n iK (xs x0 0 (K2 (eM r n) 0 6)) kk) m)).trans ?_
  rw [ih]
  exact (bCo r n (rB r n m)).trans (by kernel_rfl)
theorem bVu : D154 r n zO (xs x0 0 (K2 (eM r n) 0 6)) (K2 (eM r n) 0 6) = (K3 (bPs r n) 0 5 6) :=
 (by kernel_rfl : D154 r n zO (xs x0 0 (K2 (eM r n) 0 6)) (K2 (eM r n) 0 6) = aN (fun kk => D154 r n iK (xs x0 0 (K2 (eM r n) 0 6)) kk) n).trans ((bRp r n n).trans (by kernel_rfl))
theorem bFa : D154 r n aEn x0 r154 = D154 r n aEi x0 (K2 (eM r n) 0 6) :=
 congrArg (fun k => D154 r n aEi x0 k) (bZt r n)
theorem bUt : D154 r n aEn x0 r154 = (K3 (aNk r n) 0 5 6) :=
 (bFa r n).trans
 ((by kernel_rfl : D154 r n aEi x0 (K2 (eM r n) 0 6) = D154 r n zO (xs x0 0 (K2 (eM r n) 0 6)) (K2 (eM r n) 0 6)).trans
 ((bVu r n).trans (by kernel_rfl)))
theorem bHk : D154 r n aBa x0 r154 = D154 r n aTr x0 (K3 (aNk r n) 0 5 6) :=
 congrArg (fun k => D154 r n aTr x0 k) (bUt r n)
theorem cEa : D154 r n aBa x0 r154 = (K3 (aKs r n) 0 5 6) :=
 (bHk r n).trans
 ((by kernel_rfl))
theorem bHc : D154 r n xX x0 r154 = D154 r n aUi x0 (K3 (aKs r n) 0 5 6) :=
 congrArg (fun k => D154 r n aUi x0 k) (cEa r n)
theorem cDx : D154 r n xX x0 r154 = (K2 (wF r n) 0 5) :=
 (bHc r n).trans
 ((by kernel_rfl))
theorem bNc : D154 r n aDz x0 r154 = D154 r n yM x0 (K2 (wF r n) 0 5) :=
 congrArg (fun k => D154 r n yM x0 k) (cDx r n)
theorem bKm (q0 : gF) : D154 r n yM x0 (K2 q0 0 5) = fun (env : aU) (h : Hp) =>
 bnd (aZ [(.s []), (aE 0)] [(0, 1, (env 0))] h) fun v1 h1 =>
 bnd (bU v1 h1) fun v2 h2 =>
  q0 (env 0) v2 h2 := by kernel_rfl
theorem aYi : (fun (env : aU) (h : Hp) =>
 bnd (aZ [(.s []), (aE 0)] [(0, 1, (env 0))] h) fun v1 h1 =>
 bnd (bU v1 h1) fun v2 h2 =>
  wF r n (env 0) v2 h2) = (K1 (aEq r n) 0) := by kernel_rfl
theorem cFy : D154 r n aDz x0 r154 = (K1 (aEq r n) 0) :=
 (bNc r n).trans
 ((bKm r n (wF r n)).trans (aYi r n))
theorem bEu : D154 r n aCo x0 r154 = D154 r n aTw x0 (K1 (aEq r n) 0) :=
 congrArg (fun k => D154 r n aTw x0 k) (cFy r n)
theorem cDp : D154 r n aKn x0 r154 = (K1 (aLk r n) 0) :=
 (by kernel_rfl : D154 r n aKn x0 r154 = D154 r n aCo x0 r154).trans
 ((bEu r n).trans
 ((by kernel_rfl)))
theorem cLb : D154 r n c154 x0 r154 = D154 r n aSn x0 (K1 (aLk r n) 0) :=
 congrArg (fun k => D154 r n aSn x0 k) (cDp r n)
theorem cTg : D154 r n c154 x0 r154 = (K1 (s154 r n) 0) :=
 (cLb r n).trans
 ((by kernel_rfl))
theorem cQp : aG CF r n 154 args h = s154 r n (aR args 0) h :=
 (by kernel_rfl : aG CF r n 154 args h = D154 r n c154 x0 r154 (aJ args) h).trans ((congrFun (congrFun (cTg r n) (aJ args)) h).trans (by kernel_rfl))
end Go.Dd

namespace Go.Dd
open Go.Proofs
variable (r : RT) (n : Nat) (args : List DV) (h : Hp)
noncomputable def bM (r : RT) (n : Nat) (x3 : DV) (h0 : Hp) : aH :=
 some (x3, h0)
noncomputable def fG (r : RT) (n : Nat) (kk4 : gF) (x0 x3 : DV) (h0 : Hp) : aH :=
 bnd (r 203 [x0] h0) fun v1 h1 =>
 bnd (aL gC 1 [(0, 6, v1)] h1) fun v2 h2 =>
 bnd (aX 6 104 x3 v2 h2) fun v3 h3 =>
 bnd (r 201 [x0, (aE 10), (.s [46])] h3) fun v4 h4 =>
 bnd (gG .not v4 h4) fun v5 h5 =>
 aS v5 (
 some (v3, h5)) (
 bnd (r 202 [x0] h5) fun v6 h6 =>
  kk4 x0 v3 h6)
noncomputable def sO (r : RT) (n : Nat) (kk4 : gF) (x3 : DV) (h0 : Hp) : aH :=
 some (x3, h0)
noncomputable def oI (r : RT) (n : Nat) (kk4 : gF) (x0 x3 : DV) (h0 : Hp) : aH :=
 bnd (r 201 [x0, (aE 10), (.s [46])] h0) fun v1 h1 =>
 aS v1 (
 bnd (r 202 [x0] h1) fun v2 h2 =>
  sO r n kk4 x3 h2) (
  sO r n kk4 x3 h1)
noncomputable def yK (r : RT) (n : Nat) (kk4 : gF) (x0 x3 : DV) (h0 : Hp) : aH :=
 bnd (r 203 [x0] h0) fun v1 h1 =>
 bnd (aL gC 1 [(0, 6, v1)] h1) fun v2 h2 =>
 bnd (aZ gC [(0, 1, (aE 10)), (5, 1, v2)] h2) fun v3 h3 =>
 bnd (aL gC 1 [(0, 6, v3)] h3) fun v4 h4 =>
 bnd (aX 6 104 x3 v4 h4) fun v5 h5 =>
  oI r n kk4 x0 v5 h5
noncomputable def bJi (r : RT) (n : Nat) (kk4 : gF) (x0 x3 : DV) (h0 : Hp) : aH :=
 bnd (r 202 [x0] h0) fun v1 h1 =>
  yK r n kk4 x0 x3 h1
noncomputable def aLb (r : RT) (n : Nat) (kk4 : gF) (x0 x3 x20 : DV) (h0 : Hp) : aH :=
 aS x20 (
  bJi r n kk4 x0 x3 h0) (
  fG r n kk4 x0 x3 h0)
noncomputable def aOt (r : RT) (n : Nat) (kk4 : gF) (x0 x3 : DV) (h0 : Hp) : aH :=
 bnd (r 201 [x0, (aE 10), (.s [94])] h0) fun v1 h1 =>
  aLb r n kk4 x0 x3 v1 h1
noncomputable def aTe (r : RT) (n : Nat) (kk4 : gF) (x0 x3 : DV) (h0 : Hp) : aH :=
 bnd (aQ x0 h0) fun v1 h1 =>
 bnd (aB 3 v1 h1) fun v2 h2 =>
 bnd (aA v2 h2) fun v3 h3 =>
 bnd (aD .eql v3 (aE 0) h3) fun v4 h4 =>
 bnd (gD v4 true (some (x0, h4)) h4) fun v5 h5 =>
 bnd (gD v4 true (r 201 [v5, (aE 0), (.s [])] h5) h5) fun v6 h6 =>
 bnd (gD v4 true (gG .not v6 h6) h6) fun v7 h7 =>
 bnd (aM v4 v7 (.b false) h7) fun v8 h8 =>
 bnd (gD v8 true (some (x0, h8)) h8) fun v9 h9 =>
 bnd (gD v8 true (r 201 [v9, (aE 10), (.s [93])] h9) h9) fun v10 h10 =>
 bnd (gD v8 true (gG .not v10 h10) h10) fun v11 h11 =>
 bnd (aM v8 v11 (.b false) h11) fun v12 h12 =>
 aS v12 (
   aOt r n kk4 x0 x3 h12) (
   bM r n x3 h12)
noncomputable def rP (r : RT) (n : Nat) (m : Nat) : gF :=
 Nat.rec (motive := fun _ => gF) (fun _ _ _ => none) (fun _ ih => aTe r n ih) m
noncomputable def bKg (r : RT) (n : Nat) : gF := rP r n n
noncomputable def aMa (r : RT) (n : Nat) (x0 x3 : DV) (h0 : Hp) : aH :=
 bKg r n x0 x3 h0
noncomputable def aPt (r : RT) (n : Nat) (x0 : DV) (h0 : Hp) : aH :=
 aMa r n x0 .l0 h0
noncomputable def s156 (r : RT) (n : Nat) (x0 : DV) (h0 : Hp) : aH :=
 aPt r n x0 h0
noncomputable abbrev c156 : Code := cf Tryz.f156
noncomputable abbrev aEl : Code := cR c156
noncomputable abbrev aAu : Code := cR aEl
noncomputable abbrev cIk : Code := cR aAu
noncomputable abbrev aGd : Code := cL aAu
noncomputable abbrev aEp : Code := cL aGd
noncomputable abbrev iT : Code := cL aEp
noncomputable abbrev aMp : Code := cR iT
noncomputable abbrev aGq : Code := cL aMp
noncomputable abbrev bGo : Code := cR aGq
noncomputable abbrev nX : Code := cL aGq
noncomputable abbrev nL : Code := cR nX
noncomputable abbrev nN : Code := cL nL
noncomputable abbrev rW : Code := cR nN
noncomputable abbrev rG : Code := cR rW
noncomputable abbrev bUr : Code := cR rG
noncomputable abbrev aTz : Code := cL rG
noncomputable abbrev zF : Code := cL rW
noncomputable abbrev aQl : Code := cL nN
noncomputable abbrev bZb : Code := cR nL
noncomputable abbrev aRz : Code := cL nX
noncomputable abbrev aWa : Code := cL iT
noncomputable abbrev aUv : Code := cL aEl
noncomputable abbrev aSq : Code := cL c156
noncomputable abbrev r156 : K := aO CF Tryz.f156
noncomputable def D156 (r : RT) (n : Nat) (c : Code) (X : Nat → K) (k : K) : K := aP CF r 47 n c X r156 k
theorem cEx : D156 r n cIk x0 r156 = (K1 (bM r n) 3) :=
 (by kernel_rfl)
theorem bQd (kk4 : gF) (q0 : TT1) : D156 r n bGo (xs (xs x0 0 (K1 q0 3)) 1 (K2 kk4 0 3)) (K2 kk4 0 3) = fun (env : aU) (h : Hp) =>
 bnd (r 203 [(env 0)] h) fun v1 h1 =>
 bnd (aL gC 1 [(0, 6, v1)] h1) fun v2 h2 =>
 bnd (aX 6 104 (env 3) v2 h2) fun v3 h3 =>
 bnd (r 201 [(env 0), (aE 10), (.s [46])] h3) fun v4 h4 =>
 bnd (gG .not v4 h4) fun v5 h5 =>
 aS v5 (
 some (v3, h5)) (
 bnd (r 202 [(env 0)] h5) fun v6 h6 =>
      kk4 (env 0) v3 h6) := by kernel_rfl
theorem bAi (kk4 : gF) : (fun (env : aU) (h : Hp) =>
 bnd (r 203 [(env 0)] h) fun v1 h1 =>
 bnd (aL gC 1 [(0, 6, v1)] h1) fun v2 h2 =>
 bnd (aX 6 104 (env 3) v2 h2) fun v3 h3 =>
 bnd (r 201 [(env 0), (aE 10), (.s [46])] h3) fun v4 h4 =>
 bnd (gG .not v4 h4) fun v5 h5 =>
 aS v5 (
 some (v3, h5)) (
 bnd (r 202 [(env 0)] h5) fun v6 h6 =>
      kk4 (env 0) v3 h6)) = (K2 (fG r n kk4) 0 3) := by kernel_rfl
theorem bVv (kk4 : gF) : D156 r n bGo (xs (xs x0 0 (K1 (bM r n) 3)) 1 (K2 kk4 0 3)) (K2 kk4 0 3) = (K2 (fG r n kk4) 0 3) :=
 (bQd r n kk4 (bM r n)).trans (bAi r n kk4)
theorem bRu (kk4 : gF) : D156 r n bUr (xs (xs x0 0 (K1 (bM r n) 3)) 1 (K2 kk4 0 3)) (K2 (fG r n kk4) 0 3) = (K1 (sO r n kk4) 3) :=
 (by kernel_rfl)
theorem aYw (kk4 : gF) : D156 r n rG (xs (xs x0 0 (K1 (bM r n) 3)) 1 (K2 kk4 0 3)) (K2 (fG r n kk4) 0 3) = D156 r n aTz (xs (xs x0 0 (K1 (bM r n) 3)) 1 (K2 kk4 0 3)) (K1 (sO r n kk4) 3) :=
 congrArg (fun k => D156 r n aTz (xs (xs x0 0 (K1 (bM r n) 3)) 1 (K2 kk4 0 3)) k) (bRu r n kk4)
theorem bGr (kk4 : gF) : D156 r n rG (xs (xs x0 0 (K1 (bM r n) 3)) 1 (K2 kk4 0 3)) (K2 (fG r n kk4) 0 3) = (K2 (oI r n kk4) 0 3) :=
 (aYw r n kk4).trans
 ((by kernel_rfl))
theorem bLr (kk4 : gF) : D156 r n rW (xs (xs x0 0 (K1 (bM r n) 3)) 1 (K2 kk4 0 3)) (K2 (fG r n kk4) 0 3) = D156 r n zF (xs (xs x0 0 (K1 (bM r n) 3)) 1 (K2 kk4 0 3)) (K2 (oI r n kk4) 0 3) :=
 congrArg (fun k => D156 r n zF (xs (xs x0 0 (K1 (bM r n) 3)) 1 (K2 kk4 0 3)) k) (bGr r n kk4)
theorem bGc (kk4 : gF) (q0 : gF) (q1 : TT1) : D156 r n zF (xs (xs x0 0 (K1 q1 3)) 1 (K2 kk4 0 3)) (K2 q0 0 3) = fun (env : aU) (h : Hp) =>
 bnd (r 203 [(env 0)] h) fun v1 h1 =>
 bnd (aL gC 1 [(0, 6, v1)] h1) fun v2 h2 =>
 bnd (aZ gC [(0, 1, (aE 10)), (5, 1, v2)] h2) fun v3 h3 =>
 bnd (aL gC 1 [(0, 6, v3)] h3) fun v4 h4 =>
 bnd (aX 6 104 (env 3) v4 h4) fun v5 h5 =>
  q0 (env 0) v5 h5 := by kernel_rfl
theorem bAg (kk4 : gF) : (fun (env : aU) (h : Hp) =>
 bnd (r 203 [(env 0)] h) fun v1 h1 =>
 bnd (aL gC 1 [(0, 6, v1)] h1) fun v2 h2 =>
 bnd (aZ gC [(0, 1, (aE 10)), (5, 1, v2)] h2) fun v3 h3 =>
 bnd (aL gC 1 [(0, 6, v3)] h3) fun v4 h4 =>
 bnd (aX 6 104 (env 3) v4 h4) fun v5 h5 =>
  oI r n kk4 (env 0) v5 h5) = (K2 (yK r n kk4) 0 3) := by kernel_rfl
theorem bXt (kk4 : gF) : D156 r n rW (xs (xs x0 0 (K1 (bM r n) 3)) 1 (K2 kk4 0 3)) (K2 (fG r n kk4) 0 3) = (K2 (yK r n kk4) 0 3) :=
 (bLr r n kk4).trans
 ((bGc r n kk4 (oI r n kk4) (bM r n)).trans (bAg r n kk4))
theorem bBr (kk4 : gF) : D156 r n nN (xs (xs x0 0 (K1 (bM r n) 3)) 1 (K2 kk4 0 3)) (K2 (fG r n kk4) 0 3) = D156 r n aQl (xs (xs x0 0 (K1 (bM r n) 3)) 1 (K2 kk4 0 3)) (K2 (yK r n kk4) 0 3) :=
 congrArg (fun k => D156 r n aQl (xs (xs x0 0 (K1 (bM r n) 3)) 1 (K2 kk4 0 3)) k) (bXt r n kk4)
theorem bXe (kk4 : gF) : D156 r n nN (xs (xs x0 0 (K1 (bM r n) 3)) 1 (K2 kk4 0 3)) (K2 (fG r n kk4) 0 3) = (K2 (bJi r n kk4) 0 3) :=
 (bBr r n kk4).trans
 ((by kernel_rfl))
theorem cDv (kk4 : gF) : D156 r n nL (xs (xs x0 0 (K1 (bM r n) 3)) 1 (K2 kk4 0 3)) (K2 (fG r n kk4) 0 3) = (K3 (aLb r n kk4) 0 3 20) :=
 (by kernel_rfl : D156 r n nL (xs (xs x0 0 (K1 (bM r n) 3)) 1 (K2 kk4 0 3)) (K2 (fG r n kk4) 0 3) = (fun (env : aU) (h : Hp) => aS (opr env (cC nL)) (D156 r n nN (xs (xs x0 0 (K1 (bM r n) 3)) 1 (K2 kk4 0 3)) (K2 (fG r n kk4) 0 3) env h) (D156 r n bZb (xs (xs x0 0 (K1 (bM r n) 3)) 1 (K2 kk4 0 3)) (K2 (fG r n kk4) 0 3) env h))).trans (by rw [bXe r n kk4]; kernel_rfl)
theorem bGp (kk4 : gF) : D156 r n aGq (xs (xs x0 0 (K1 (bM r n) 3)) 1 (K2 kk4 0 3)) (K2 kk4 0 3) = D156 r n nX (xs (xs x0 0 (K1 (bM r n) 3)) 1 (K2 kk4 0 3)) (K2 (fG r n kk4) 0 3) :=
 congrArg (fun k => D156 r n nX (xs (xs x0 0 (K1 (bM r n) 3)) 1 (K2 kk4 0 3)) k) (bVv r n kk4)
theorem bIz (kk4 : gF) : D156 r n nX (xs (xs x0 0 (K1 (bM r n) 3)) 1 (K2 kk4 0 3)) (K2 (fG r n kk4) 0 3) = D156 r n aRz (xs (xs x0 0 (K1 (bM r n) 3)) 1 (K2 kk4 0 3)) (K3 (aLb r n kk4) 0 3 20) :=
 congrArg (fun k => D156 r n aRz (xs (xs x0 0 (K1 (bM r n) 3)) 1 (K2 kk4 0 3)) k) (cDv r n kk4)
theorem bYm (kk4 : gF) : D156 r n aMp (xs x0 0 (K1 (bM r n) 3)) (K2 kk4 0 3) = (K2 (aOt r n kk4) 0 3) :=
 (by kernel_rfl : D156 r n aMp (xs x0 0 (K1 (bM r n) 3)) (K2 kk4 0 3) = D156 r n aGq (xs (xs x0 0 (K1 (bM r n) 3)) 1 (K2 kk4 0 3)) (K2 kk4 0 3)).trans
 ((bGp r n kk4).trans
 ((bIz r n kk4).trans
 ((by kernel_rfl))))
theorem bFl (kk4 : gF) : D156 r n iT (xs x0 0 (K1 (bM r n) 3)) (K2 kk4 0 3) = D156 r n aWa (xs x0 0 (K1 (bM r n) 3)) (K2 (aOt r n kk4) 0 3) :=
 congrArg (fun k => D156 r n aWa (xs x0 0 (K1 (bM r n) 3)) k) (bYm r n kk4)
theorem bHu (kk4 : gF) : D156 r n iT (xs x0 0 (K1 (bM r n) 3)) (K2 kk4 0 3) = (K2 (aTe r n kk4) 0 3) :=
 (bFl r n kk4).trans
 ((by kernel_rfl))
theorem bNq (m : Nat) : aN (fun kk => D156 r n iT (xs x0 0 (K1 (bM r n) 3)) kk) m = (K2 (rP r n m) 0 3) := by
 induction m with
 | zero => exact (by kernel_rfl : aN (fun kk => D156 r n iT (xs x0 0 (K1 (bM r n) 3)) kk) 0 = (K2 (rP r n 0) 0 3))
 | succ m ih =>
  refine (by kernel_rfl : aN (fun kk => D156 r n iT (xs x0 0 (K1 (bM r n) 3)) kk) (m + 1) = D156 r n iT (xs x0 0 (K1 (bM r n) 3)) (aN (fun kk => D156 r n iT (xs x0 0 (K1 (bM r n) 3)) kk) m)).trans ?_
  rw [ih]
  exact (bHu r n (rP r n m)).trans (by kernel_rfl)
theorem bSq : D156 r n aEp (xs x0 0 (K1 (bM r n) 3)) (K1 (bM r n) 3) = (K2 (bKg r n) 0 3) :=
 (by kernel_rfl : D156 r n aEp (xs x0 0 (K1 (bM r n) 3)) (K1 (bM r n) 3) = aN (fun kk => D156 r n iT (xs x0 0 (K1 (bM r n) 3)) kk) n).trans ((bNq r n n).trans (by kernel_rfl))
theorem bEg : D156 r n aAu x0 r156 = D156 r n aGd x0 (K1 (bM r n) 3) :=
 congrArg (fun k => D156 r n aGd x0 k) (cEx r n)
theorem cAp : D156 r n aAu x0 r156 = (K2 (aMa r n) 0 3) :=
 (bEg r n).trans
 ((by kernel_rfl : D156 r n aGd x0 (K1 (bM r n) 3) = D156 r n aEp (xs x0 0 (K1 (bM r n) 3)) (K1 (bM r n) 3)).trans
 ((bSq r n).trans (by kernel_rfl)))
theorem aZr : D156 r n aEl x0 r156 = D156 r n aUv x0 (K2 (aMa r n) 0 3) :=
 congrArg (fun k => D156 r n aUv x0 k) (cAp r n)
theorem bVk : D156 r n aEl x0 r156 = (K1 (aPt r n) 0) :=
 (aZr r n).trans
 ((by kernel_rfl))
theorem bUy : D156 r n c156 x0 r156 = D156 r n aSq x0 (K1 (aPt r n) 0) :=
 congrArg (fun k => D156 r n aSq x0 k) (bVk r n)
theorem cWi : D156 r n c156 x0 r156 = (K1 (s156 r n) 0) :=
 (bUy r n).trans
 ((by kernel_rfl))
theorem cPs : aG CF r n 156 args h = s156 r n (aR args 0) h :=
 (by kernel_rfl : aG CF r n 156 args h = D156 r n c156 x0 r156 (aJ args) h).trans ((congrFun (congrFun (cWi r n) (aJ args)) h).trans (by kernel_rfl))
noncomputable def s157 (r : RT) (n : Nat) (x0 x1 x2 : DV) (h0 : Hp) : aH :=
 bnd (bI [(aE 0), (.s []), (aE 0), (aE 0)] h0) fun v1 h1 =>
 bnd (r 201 [x0, x1, x2] h1) fun v2 h2 =>
 bnd (gG .not v2 h2) fun v3 h3 =>
 aS v3 (
 bnd (r 205 [x0, (aE 0)] h3) fun v4 h4 =>
 bnd (r 204 [x0, v4, (aE 13)] h4) fun v5 h5 =>
 bnd (aZ [(aE 0), (.s []), (aE 0), (aE 0)] [] h5) fun v6 h6 =>
 bnd (aF 4 v1 v6 h6) fun _ h7 =>
 bnd (aK 4 v1 h7) fun v8 _ =>
 some (v8, h7)) (
 bnd (r 202 [x0] h3) fun v9 h9 =>
 bnd (aF 4 v1 v9 h9) fun _ h10 =>
 bnd (aK 4 v1 h10) fun v11 _ =>
 some (v11, h10))
noncomputable abbrev c157 : Code := cf Tryz.f157
noncomputable abbrev r157 : K := aO CF Tryz.f157
noncomputable def D157 (r : RT) (n : Nat) (c : Code) (X : Nat → K) (k : K) : K := aP CF r 19 n c X r157 k
theorem cVp : D157 r n c157 x0 r157 = (K3 (s157 r n) 0 1 2) :=
 (by kernel_rfl)
theorem cKw : aG CF r n 157 args h = s157 r n (aR args 0) (aR args 1) (aR args 2) h :=
 (by kernel_rfl : aG CF r n 157 args h = D157 r n c157 x0 r157 (aJ args) h).trans ((congrFun (congrFun (cVp r n) (aJ args)) h).trans (by kernel_rfl))
noncomputable def aWh (r : RT) (n : Nat) (kk6 : lO) (x0 x1 x4 : DV) (h0 : Hp) : aH :=
 bnd (gD x4 false (some (x0, h0)) h0) fun v1 h1 =>
 bnd (gD x4 false (r 201 [v1, (aE 2), (.s [])] h1) h1) fun v2 h2 =>
 bnd (aM x4 (.b true) v2 h2) fun v3 h3 =>
 aS v3 (
 bnd (aQ x1 h3) fun v4 h4 =>
 bnd (aB 1 v4 h4) fun v5 h5 =>
 bnd (aA v5 h5) fun v6 h6 =>
 bnd (r 157 [x0, (aE 2), (.s [])] h6) fun v7 h7 =>
 cnd (bJ (aA v5 h7) v6 && true) (
 bnd (eX 1 v7 h7) fun v8 h8 =>
 bnd (eB .add v6 v8 h8) fun v9 h9 =>
 bnd (aQ x1 h9) fun v10 h10 =>
 bnd (aB 1 v10 h10) fun v11 h11 =>
 bnd (aF 1 v11 v9 h11) fun v12 h12 =>
 bnd (aQ x1 (resv 1 h12)) fun v13 h13 =>
 bnd (aB 3 v13 h13) fun v14 h14 =>
 bnd (aA v14 h14) fun v15 h15 =>
 bnd (aQ x1 h15) fun v16 h16 =>
 bnd (aB 3 v16 h16) fun v17 h17 =>
 bnd (aA v17 h17) fun v18 h18 =>
 bnd (r 206 [x0, (aE 1), v18] h18) fun v19 h19 =>
 cnd (bJ (aA v14 h19) v15 && true) (
 bnd (bH (bQ 0 h12.next) [(.s [])] 1 [(0, 1, v19)] h19) fun v20 h20 =>
 bnd (aX 1 16 v15 v20 h20) fun v21 h21 =>
 bnd (aQ x1 h21) fun v22 h22 =>
 bnd (aB 3 v22 h22) fun v23 h23 =>
 bnd (aF 1 v23 v21 h23) fun v24 h24 =>
      kk6 x0 x1 (.b false) h24))) (
 some (.t [], h3))
noncomputable def rE (r : RT) (n : Nat) (m : Nat) : lO :=
 Nat.rec (motive := fun _ => lO) (fun _ _ _ _ => none) (fun _ ih => aWh r n ih) m
noncomputable def bIe (r : RT) (n : Nat) : lO := rE r n n
noncomputable def aNy (r : RT) (n : Nat) (x0 x1 x4 : DV) (h0 : Hp) : aH :=
 bIe r n x0 x1 x4 h0
noncomputable def bOp (r : RT) (n : Nat) (x0 x1 : DV) (h0 : Hp) : aH :=
 aNy r n x0 x1 (.b true) h0
noncomputable def aMc (r : RT) (n : Nat) (x0 x1 x44 : DV) (h0 : Hp) : aH :=
 aS x44 (
 bnd (r 202 [x0] h0) fun v1 h1 =>
 bnd (eX 1 v1 h1) fun v2 h2 =>
 bnd (aQ x1 h2) fun v3 h3 =>
 bnd (aB 1 v3 h3) fun v4 h4 =>
 bnd (aF 1 v4 v2 h4) fun _ h5 =>
 bnd (aQ x1 (resv 1 h5)) fun v6 h6 =>
 bnd (aB 3 v6 h6) fun v7 h7 =>
 bnd (aA v7 h7) fun v8 h8 =>
 bnd (aQ x1 h8) fun v9 h9 =>
 bnd (aB 3 v9 h9) fun v10 h10 =>
 bnd (aA v10 h10) fun v11 h11 =>
 bnd (r 206 [x0, (aE 1), v11] h11) fun v12 h12 =>
 cnd (bJ (aA v7 h12) v8 && true) (
 bnd (bH (bQ 0 h5.next) [(.s [])] 1 [(0, 1, v12)] h12) fun v13 h13 =>
 bnd (aX 1 16 v8 v13 h13) fun v14 h14 =>
 bnd (aQ x1 h14) fun v15 h15 =>
 bnd (aB 3 v15 h15) fun v16 h16 =>
 bnd (aF 1 v16 v14 h16) fun v17 h17 =>
 some (.t [], h17))) (
  bOp r n x0 x1 h0)
noncomputable def bLq (r : RT) (n : Nat) (x0 x1 : DV) (h0 : Hp) : aH :=
 bnd (r 201 [x0, (aE 3), (.s [])] h0) fun v1 h1 =>
  aMc r n x0 x1 v1 h1
noncomputable def aJq (r : RT) (n : Nat) (x0 x1 x35 : DV) (h0 : Hp) : aH :=
 aS x35 (
 bnd (r 202 [x0] h0) fun v1 h1 =>
 bnd (eX 1 v1 h1) fun v2 h2 =>
 bnd (aQ x1 h2) fun v3 h3 =>
 bnd (aB 1 v3 h3) fun v4 h4 =>
 bnd (aF 1 v4 v2 h4) fun _ h5 =>
 some (.t [], h5)) (
  bLq r n x0 x1 h0)
noncomputable def s158 (r : RT) (n : Nat) (x0 x1 : DV) (h0 : Hp) : aH :=
 bnd (r 201 [x0, (aE 1), (.s [])] h0) fun v1 h1 =>
  aJq r n x0 x1 v1 h1
noncomputable abbrev c158 : Code := cf Tryz.f158
noncomputable abbrev aBe : Code := cL c158
noncomputable abbrev vE : Code := cR aBe
noncomputable abbrev uT : Code := cR vE
noncomputable abbrev uE : Code := cR uT
noncomputable abbrev uB : Code := cR uE
noncomputable abbrev aPm : Code := cR uB
noncomputable abbrev aDw : Code := cL aPm
noncomputable abbrev mK : Code := cL aDw
noncomputable abbrev bOq : Code := cL uB
noncomputable abbrev cBh : Code := cL uE
noncomputable abbrev aQq : Code := cL uT
noncomputable abbrev cDe : Code := cL vE
noncomputable abbrev aVn : Code := cL aBe
noncomputable abbrev r158 : K := aO CF Tryz.f158
noncomputable def D158 (r : RT) (n : Nat) (c : Code) (X : Nat → K) (k : K) : K := aP CF r 68 n c X r158 k
theorem bQl (kk6 : lO) : D158 r n mK (xs (xs x0 0 r158) 1 r158) (K3 kk6 0 1 4) = (K3 (aWh r n kk6) 0 1 4) :=
 (by kernel_rfl)
theorem bHw (m : Nat) : aN (fun kk => D158 r n mK (xs (xs x0 0 r158) 1 r158) kk) m = (K3 (rE r n m) 0 1 4) := by
 induction m with
 | zero => exact (by kernel_rfl : aN (fun kk => D158 r n mK (xs (xs x0 0 r158) 1 r158) kk) 0 = (K3 (rE r n 0) 0 1 4))
 | succ m ih =>
  refine (by kernel_rfl : aN (fun kk => D158 r n mK (xs (xs x0 0 r158) 1 r158) kk) (m + 1) = D158 r n mK (xs (xs x0 0 r158) 1 r158) (aN (fun kk => D158 r n mK (xs (xs x0 0 r158) 1 r158) kk) m)).trans ?_
  rw [ih]
  exact (bQl r n (rE r n m)).trans (by kernel_rfl)
theorem bZj : D158 r n aDw (xs (xs x0 0 r158) 1 r158) r158 = (K3 (bIe r n) 0 1 4) :=
 (by kernel_rfl : D158 r n aDw (xs (xs x0 0 r158) 1 r158) r158 = aN (fun kk => D158 r n mK (xs (xs x0 0 r158) 1 r158) kk) n).trans ((bHw r n n).trans (by kernel_rfl))
theorem cFa : D158 r n aPm (xs x0 0 r158) r158 = (K3 (aNy r n) 0 1 4) :=
 (by kernel_rfl : D158 r n aPm (xs x0 0 r158) r158 = D158 r n aDw (xs (xs x0 0 r158) 1 r158) r158).trans
 ((bZj r n).trans (by kernel_rfl))
theorem bSf : D158 r n uB (xs x0 0 r158) r158 = D158 r n bOq (xs x0 0 r158) (K3 (aNy r n) 0 1 4) :=
 congrArg (fun k => D158 r n bOq (xs x0 0 r158) k) (cFa r n)
theorem cAw : D158 r n uB (xs x0 0 r158) r158 = (K2 (bOp r n) 0 1) :=
 (bSf r n).trans
 ((by kernel_rfl))
theorem cCu : D158 r n uE (xs x0 0 r158) r158 = (K3 (aMc r n) 0 1 44) :=
 (by kernel_rfl : D158 r n uE (xs x0 0 r158) r158 = (fun (env : aU) (h : Hp) => aS (opr env (cC uE)) (D158 r n cBh (xs x0 0 r158) r158 env h) (D158 r n uB (xs x0 0 r158) r158 env h))).trans (by rw [cAw r n]; kernel_rfl)
theorem bLt : D158 r n uT (xs x0 0 r158) r158 = D158 r n aQq (xs x0 0 r158) (K3 (aMc r n) 0 1 44) :=
 congrArg (fun k => D158 r n aQq (xs x0 0 r158) k) (cCu r n)
theorem bWl : D158 r n uT (xs x0 0 r158) r158 = (K2 (bLq r n) 0 1) :=
 (bLt r n).trans
 ((by kernel_rfl))
theorem cDi : D158 r n vE (xs x0 0 r158) r158 = (K3 (aJq r n) 0 1 35) :=
 (by kernel_rfl : D158 r n vE (xs x0 0 r158) r158 = (fun (env : aU) (h : Hp) => aS (opr env (cC vE)) (D158 r n cDe (xs x0 0 r158) r158 env h) (D158 r n uT (xs x0 0 r158) r158 env h))).trans (by rw [bWl r n]; kernel_rfl)
theorem cLf : D158 r n aBe (xs x0 0 r158) r158 = D158 r n aVn (xs x0 0 r158) (K3 (aJq r n) 0 1 35) :=
 congrArg (fun k => D158 r n aVn (xs x0 0 r158) k) (cDi r n)
theorem cXx : D158 r n c158 x0 r158 = (K2 (s158 r n) 0 1) :=
 (by kernel_rfl : D158 r n c158 x0 r158 = D158 r n aBe (xs x0 0 r158) r158).trans
 ((cLf r n).trans
 ((by kernel_rfl)))
theorem cHl : aG CF r n 158 args h = s158 r n (aR args 0) (aR args 1) h :=
 (by kernel_rfl : aG CF r n 158 args h = D158 r n c158 x0 r158 (aJ args) h).trans ((congrFun (congrFun (cXx r n) (aJ args)) h).trans (by kernel_rfl))
noncomputable def aDp (r : RT) (n : Nat) (x0 x3 : DV) (h0 : Hp) : aH :=
 bnd (r 157 [x0, (aE 3), (.s [62])] h0) fun v1 h1 =>
 bnd (aB 2 x3 h1) fun v2 h2 =>
 bnd (aA v2 h2) fun v3 h3 =>
 some (v3, h3)
noncomputable def tH (r : RT) (n : Nat) (x0 x3 : DV) (h0 : Hp) : aH :=
 bnd (aB 2 x3 h0) fun v1 h1 =>
 bnd (aA v1 h1) fun v2 h2 =>
 bnd (aD .gtr v2 (aE 255) h2) fun v3 h3 =>
 aS v3 (
 bnd (aK 4 x3 h3) fun v4 h4 =>
 bnd (r 204 [x0, v4, (aE 2)] h4) fun v5 h5 =>
  aDp r n x0 x3 h5) (
  aDp r n x0 x3 h3)
noncomputable def aAo (r : RT) (n : Nat) (x0 : DV) (h0 : Hp) : aH :=
 bnd (r 157 [x0, (aE 4), (.s [])] h0) fun v1 h1 =>
 bnd (bI [(aE 0), (.s []), (aE 0), (aE 0)] h1) fun v2 h2 =>
 bnd (aF 4 v2 v1 h2) fun _ h3 =>
  tH r n x0 v2 h3
noncomputable def aJu (r : RT) (n : Nat) (x0 : DV) (h0 : Hp) : aH :=
 bnd (r 157 [x0, (aE 2), (.s [112, 114, 105, 109, 105, 116, 105, 118, 101, 58])] h0) fun v1 h1 =>
  aAo r n x0 h1
noncomputable def aLl (r : RT) (n : Nat) (x0 : DV) (h0 : Hp) : aH :=
 bnd (r 202 [x0] h0) fun v1 h1 =>
  aJu r n x0 h1
noncomputable def aMb (r : RT) (n : Nat) (x0 : DV) (h0 : Hp) : aH :=
 bnd (r 201 [x0, (aE 3), (.s [60])] h0) fun v1 h1 =>
 bnd (gG .not v1 h1) fun v2 h2 =>
 aS v2 (
 some ((aE 0), h2)) (
  aLl r n x0 h2)
noncomputable def s159 (r : RT) (n : Nat) (x0 : DV) (h0 : Hp) : aH :=
 aMb r n x0 h0
noncomputable abbrev c159 : Code := cf Tryz.f159
noncomputable abbrev xR : Code := cR c159
noncomputable abbrev aEa : Code := cR xR
noncomputable abbrev aFf : Code := cR aEa
noncomputable abbrev aEe : Code := cR aFf
noncomputable abbrev aBr : Code := cR aEe
noncomputable abbrev cIc : Code := cR aBr
noncomputable abbrev bOa : Code := cL aBr
noncomputable abbrev aLr : Code := cL aEe
noncomputable abbrev bHi : Code := cL aFf
noncomputable abbrev aVv : Code := cL aEa
noncomputable abbrev aSa : Code := cL xR
noncomputable abbrev aWd : Code := cL c159
noncomputable abbrev r159 : K := aO CF Tryz.f159
noncomputable def D159 (r : RT) (n : Nat) (c : Code) (X : Nat → K) (k : K) : K := aP CF r 23 n c X r159 k
theorem bVy : D159 r n cIc x0 r159 = (K2 (aDp r n) 0 3) :=
 (by kernel_rfl)
theorem bCe : D159 r n aBr x0 r159 = D159 r n bOa x0 (K2 (aDp r n) 0 3) :=
 congrArg (fun k => D159 r n bOa x0 k) (bVy r n)
theorem cCh : D159 r n aBr x0 r159 = (K2 (tH r n) 0 3) :=
 (bCe r n).trans
 ((by kernel_rfl))
theorem bPg : D159 r n aEe x0 r159 = D159 r n aLr x0 (K2 (tH r n) 0 3) :=
 congrArg (fun k => D159 r n aLr x0 k) (cCh r n)
theorem bCp (q0 : gF) : D159 r n aLr x0 (K2 q0 0 3) = fun (env : aU) (h : Hp) =>
 bnd (r 157 [(env 0), (aE 4), (.s [])] h) fun v1 h1 =>
 bnd (bI [(aE 0), (.s []), (aE 0), (aE 0)] h1) fun v2 h2 =>
 bnd (aF 4 v2 v1 h2) fun _ h3 =>
  q0 (env 0) v2 h3 := by kernel_rfl
theorem aZs : (fun (env : aU) (h : Hp) =>
 bnd (r 157 [(env 0), (aE 4), (.s [])] h) fun v1 h1 =>
 bnd (bI [(aE 0), (.s []), (aE 0), (aE 0)] h1) fun v2 h2 =>
 bnd (aF 4 v2 v1 h2) fun _ h3 =>
  tH r n (env 0) v2 h3) = (K1 (aAo r n) 0) := by kernel_rfl
theorem cAh : D159 r n aEe x0 r159 = (K1 (aAo r n) 0) :=
 (bPg r n).trans
 ((bCp r n (tH r n)).trans (aZs r n))
theorem bBw : D159 r n aFf x0 r159 = D159 r n bHi x0 (K1 (aAo r n) 0) :=
 congrArg (fun k => D159 r n bHi x0 k) (cAh r n)
theorem cDt : D159 r n aFf x0 r159 = (K1 (aJu r n) 0) :=
 (bBw r n).trans
 ((by kernel_rfl))
theorem bFx : D159 r n aEa x0 r159 = D159 r n aVv x0 (K1 (aJu r n) 0) :=
 congrArg (fun k => D159 r n aVv x0 k) (cDt r n)
theorem bZm : D159 r n aEa x0 r159 = (K1 (aLl r n) 0) :=
 (bFx r n).trans
 ((by kernel_rfl))
theorem bRn : D159 r n xR x0 r159 = D159 r n aSa x0 (K1 (aLl r n) 0) :=
 congrArg (fun k => D159 r n aSa x0 k) (bZm r n)
theorem cCy : D159 r n xR x0 r159 = (K1 (aMb r n) 0) :=
 (bRn r n).trans
 ((by kernel_rfl))
theorem cPu : D159 r n c159 x0 r159 = D159 r n aWd x0 (K1 (aMb r n) 0) :=
 congrArg (fun k => D159 r n aWd x0 k) (cCy r n)
theorem cYr : D159 r n c159 x0 r159 = (K1 (s159 r n) 0) :=
 (cPu r n).trans
 ((by kernel_rfl))
theorem cPe : aG CF r n 159 args h = s159 r n (aR args 0) h :=
 (by kernel_rfl : aG CF r n 159 args h = D159 r n c159 x0 r159 (aJ args) h).trans ((congrFun (congrFun (cYr r n) (aJ args)) h).trans (by kernel_rfl))
noncomputable def aCl (r : RT) (n : Nat) (x0 : DV) (h0 : Hp) : aH :=
 bnd (r 209 [x0, (aE 20), (aE 0), (aE 0)] h0) fun v1 h1 =>
 some (.t [], h1)
noncomputable def cG (r : RT) (n : Nat) (x0 x2 : DV) (h0 : Hp) : aH :=
 aS x2 (
 bnd (r 209 [x0, (aE 2), (aE 0), (aE 0)] h0) fun v1 h1 =>
  aCl r n x0 h1) (
 bnd (r 209 [x0, (aE 1), (aE 0), (aE 0)] h0) fun v2 h2 =>
  aCl r n x0 h2)
noncomputable def jZ (r : RT) (n : Nat) (kk8 : eT) (x0 x2 x6 x22 x23 x24 : DV) (h0 : Hp) : aH :=
 bnd (aD .add x24 (aE 1) h0) fun v1 h1 =>
  kk8 x0 x2 x6 x22 x23 v1 h1
noncomputable def qO (r : RT) (n : Nat) (kk8 : eT) (x0 x2 x6 x22 x23 x24 : DV) (h0 : Hp) : aH :=
 bnd (aI 6 x22 x24 h0) fun v1 h1 =>
 bnd (aK 6 v1 h1) fun v2 h2 =>
 bnd (bI gC h2) fun v3 h3 =>
 bnd (aF 6 v3 v2 h3) fun _ h4 =>
 bnd (aK 6 v3 h4) fun v5 h5 =>
 bnd (r 208 [x0, v5] h5) fun v6 h6 =>
 bnd (aD .eql x24 x6 h6) fun v7 h7 =>
 bnd (gD v7 true (aB 0 v3 h7) h7) fun v8 h8 =>
 bnd (gD v7 true (aA v8 h8) h8) fun v9 h9 =>
 bnd (gD v7 true (aD .eql v9 (aE 10) h9) h9) fun v10 h10 =>
 bnd (aM v7 v10 (.b false) h10) fun v11 h11 =>
 aS v11 (
 some (.t [], h11)) (
 bnd (aD .eql x24 x6 h11) fun v12 h12 =>
 bnd (gD v12 true (some (x2, h12)) h12) fun v13 h13 =>
 bnd (aM v12 v13 (.b false) h13) fun v14 h14 =>
 aS v14 (
 bnd (r 209 [x0, (aE 20), (aE 0), (aE 0)] h14) fun v15 h15 =>
 some (.t [], h15)) (
 bnd (aB 0 v3 h14) fun v16 h16 =>
 bnd (aA v16 h16) fun v17 h17 =>
 bnd (aD .eql v17 (aE 10) h17) fun v18 h18 =>
 aS v18 (
    jZ r n kk8 x0 x2 x6 x22 x23 x24 h18) (
 bnd (r 209 [x0, (aE 12), (aE 0), (aE 0)] h18) fun v19 h19 =>
    jZ r n kk8 x0 x2 x6 x22 x23 x24 h19)))
noncomputable def aLy (r : RT) (n : Nat) (kk8 : eT) (x0 x2 x6 x22 x23 x24 x25 : DV) (h0 : Hp) : aH :=
 aS x25 (
  qO r n kk8 x0 x2 x6 x22 x23 x24 h0) (
  cG r n x0 x2 h0)
noncomputable def aSj (r : RT) (n : Nat) (kk8 : eT) (x0 x2 x6 x22 x23 x24 : DV) (h0 : Hp) : aH :=
 bnd (aD .lss x24 x23 h0) fun v1 h1 =>
  aLy r n kk8 x0 x2 x6 x22 x23 x24 v1 h1
noncomputable def rJ (r : RT) (n : Nat) (m : Nat) : eT :=
 Nat.rec (motive := fun _ => eT) (fun _ _ _ _ _ _ _ => none) (fun _ ih => aSj r n ih) m
noncomputable def bDp (r : RT) (n : Nat) : eT := rJ r n n
noncomputable def aJp (r : RT) (n : Nat) (x0 x2 x6 x22 x23 x24 : DV) (h0 : Hp) : aH :=
 bDp r n x0 x2 x6 x22 x23 x24 h0
noncomputable def aMw (r : RT) (n : Nat) (x0 x2 x4 x6 : DV) (h0 : Hp) : aH :=
 bnd (aB 5 x4 h0) fun v1 h1 =>
 bnd (aA v1 h1) fun v2 h2 =>
 bnd (bS v2 h2) fun v3 h3 =>
  aJp r n x0 x2 x6 v2 v3 (aE 0) h3
noncomputable def aLf (r : RT) (n : Nat) (x0 x2 x4 : DV) (h0 : Hp) : aH :=
 bnd (aB 5 x4 h0) fun v1 h1 =>
 bnd (aA v1 h1) fun v2 h2 =>
 bnd (bS v2 h2) fun v3 h3 =>
 bnd (aD .sub v3 (aE 1) h3) fun v4 h4 =>
  aMw r n x0 x2 x4 v4 h4
noncomputable def aKi (r : RT) (n : Nat) (x0 x2 x4 : DV) (h0 : Hp) : aH :=
 bnd (aB 4 x4 h0) fun v1 h1 =>
 bnd (aA v1 h1) fun v2 h2 =>
 bnd (r 207 [x0, v2, (.b false)] h2) fun v3 h3 =>
  aLf r n x0 x2 x4 h3
noncomputable def vT (r : RT) (n : Nat) (x0 x2 x4 : DV) (h0 : Hp) : aH :=
 bnd (aB 3 x4 h0) fun v1 h1 =>
 bnd (aA v1 h1) fun v2 h2 =>
 bnd (r 207 [x0, v2, (.b true)] h2) fun v3 h3 =>
  aKi r n x0 x2 x4 h3
noncomputable def s160 (r : RT) (n : Nat) (x0 x1 x2 : DV) (h0 : Hp) : aH :=
 bnd (bU x1 h0) fun v1 h1 =>
  vT r n x0 x2 v1 h1
noncomputable abbrev c160 : Code := cf Tryz.f160
noncomputable abbrev aFu : Code := cR c160
noncomputable abbrev aFw : Code := cR aFu
noncomputable abbrev yV : Code := cR aFw
noncomputable abbrev aCh : Code := cR yV
noncomputable abbrev aDg : Code := cR aCh
noncomputable abbrev cMh : Code := cR aDg
noncomputable abbrev bKa : Code := cL aDg
noncomputable abbrev uV : Code := cL aCh
noncomputable abbrev aOc : Code := cR uV
noncomputable abbrev rR : Code := cL aOc
noncomputable abbrev gK : Code := cL rR
noncomputable abbrev sB : Code := cR gK
noncomputable abbrev sM : Code := cR sB
noncomputable abbrev bWa : Code := cR sM
noncomputable abbrev aBi : Code := cL sM
noncomputable abbrev aWj : Code := cL sB
noncomputable abbrev aUg : Code := cL gK
noncomputable abbrev aUw : Code := cL uV
noncomputable abbrev aWk : Code := cL yV
noncomputable abbrev aRx : Code := cL aFw
noncomputable abbrev aUz : Code := cL aFu
noncomputable abbrev aEy : Code := cL c160
noncomputable abbrev r160 : K := aO CF Tryz.f160
noncomputable def D160 (r : RT) (n : Nat) (c : Code) (X : Nat → K) (k : K) : K := aP CF r 64 n c X r160 k
theorem bUh : D160 r n cMh x0 r160 = (K1 (aCl r n) 0) :=
 (by kernel_rfl)
theorem bLd : D160 r n aDg x0 r160 = D160 r n bKa x0 (K1 (aCl r n) 0) :=
 congrArg (fun k => D160 r n bKa x0 k) (bUh r n)
theorem cCa : D160 r n aDg x0 r160 = (K2 (cG r n) 0 2) :=
 (bLd r n).trans
 ((by kernel_rfl))
theorem bDc (kk8 : eT) : D160 r n bWa (xs x0 0 (K2 (cG r n) 0 2)) (K6 kk8 0 2 6 22 23 24) = (K6 (jZ r n kk8) 0 2 6 22 23 24) :=
 (by kernel_rfl)
theorem aXb (kk8 : eT) : D160 r n sM (xs x0 0 (K2 (cG r n) 0 2)) (K6 kk8 0 2 6 22 23 24) = D160 r n aBi (xs x0 0 (K2 (cG r n) 0 2)) (K6 (jZ r n kk8) 0 2 6 22 23 24) :=
 congrArg (fun k => D160 r n aBi (xs x0 0 (K2 (cG r n) 0 2)) k) (bDc r n kk8)
theorem aYn (kk8 : eT) (q0 : eT) (q1 : gF) : D160 r n aBi (xs x0 0 (K2 q1 0 2)) (K6 q0 0 2 6 22 23 24) = fun (env : aU) (h : Hp) =>
 bnd (aI 6 (env 22) (env 24) h) fun v1 h1 =>
 bnd (aK 6 v1 h1) fun v2 h2 =>
 bnd (bI gC h2) fun v3 h3 =>
 bnd (aF 6 v3 v2 h3) fun _ h4 =>
 bnd (aK 6 v3 h4) fun v5 h5 =>
 bnd (r 208 [(env 0), v5] h5) fun v6 h6 =>
 bnd (aD .eql (env 24) (env 6) h6) fun v7 h7 =>
 bnd (gD v7 true (aB 0 v3 h7) h7) fun v8 h8 =>
 bnd (gD v7 true (aA v8 h8) h8) fun v9 h9 =>
 bnd (gD v7 true (aD .eql v9 (aE 10) h9) h9) fun v10 h10 =>
 bnd (aM v7 v10 (.b false) h10) fun v11 h11 =>
 aS v11 (
 some (.t [], h11)) (
 bnd (aD .eql (env 24) (env 6) h11) fun v12 h12 =>
 bnd (gD v12 true (some ((env 2), h12)) h12) fun v13 h13 =>
 bnd (aM v12 v13 (.b false) h13) fun v14 h14 =>
 aS v14 (
 bnd (r 209 [(env 0), (aE 20), (aE 0), (aE 0)] h14) fun v15 h15 =>
 some (.t [], h15)) (
 bnd (aB 0 v3 h14) fun v16 h16 =>
 bnd (aA v16 h16) fun v17 h17 =>
 bnd (aD .eql v17 (aE 10) h17) fun v18 h18 =>
 aS v18 (
     q0 (env 0) (env 2) (env 6) (env 22) (env 23) (env 24) h18) (
 bnd (r 209 [(env 0), (aE 12), (aE 0), (aE 0)] h18) fun v19 h19 =>
     q0 (env 0) (env 2) (env 6) (env 22) (env 23) (env 24) h19))) := by kernel_rfl
theorem aNq (kk8 : eT) : (fun (env : aU) (h : Hp) =>
 bnd (aI 6 (env 22) (env 24) h) fun v1 h1 =>
 bnd (aK 6 v1 h1) fun v2 h2 =>
 bnd (bI gC h2) fun v3 h3 =>
 bnd (aF 6 v3 v2 h3) fun _ h4 =>
 bnd (aK 6 v3 h4) fun v5 h5 =>
 bnd (r 208 [(env 0), v5] h5) fun v6 h6 =>
 bnd (aD .eql (env 24) (env 6) h6) fun v7 h7 =>
 bnd (gD v7 true (aB 0 v3 h7) h7) fun v8 h8 =>
 bnd (gD v7 true (aA v8 h8) h8) fun v9 h9 =>
 bnd (gD v7 true (aD .eql v9 (aE 10) h9) h9) fun v10 h10 =>
 bnd (aM v7 v10 (.b false) h10) fun v11 h11 =>
 aS v11 (
 some (.t [], h11)) (
 bnd (aD .eql (env 24) (env 6) h11) fun v12 h12 =>
 bnd (gD v12 true (some ((env 2), h12)) h12) fun v13 h13 =>
 bnd (aM v12 v13 (.b false) h13) fun v14 h14 =>
 aS v14 (
 bnd (r 209 [(env 0), (aE 20), (aE 0), (aE 0)] h14) fun v15 h15 =>
 some (.t [], h15)) (
 bnd (aB 0 v3 h14) fun v16 h16 =>
 bnd (aA v16 h16) fun v17 h17 =>
 bnd (aD .eql v17 (aE 10) h17) fun v18 h18 =>
 aS v18 (
     jZ r n kk8 (env 0) (env 2) (env 6) (env 22) (env 23) (env 24) h18) (
 bnd (r 209 [(env 0), (aE 12), (aE 0), (aE 0)] h18) fun v19 h19 =>
     jZ r n kk8 (env 0) (env 2) (env 6) (env 22) (env 23) (env 24) h19)))) = (K6 (qO r n kk8) 0 2 6 22 23 24) := by kernel_rfl
theorem bEw (kk8 : eT) : D160 r n sM (xs x0 0 (K2 (cG r n) 0 2)) (K6 kk8 0 2 6 22 23 24) = (K6 (qO r n kk8) 0 2 6 22 23 24) :=
 (aXb r n kk8).trans
 ((aYn r n kk8 (jZ r n kk8) (cG r n)).trans (aNq r n kk8))
theorem bLm (kk8 : eT) : D160 r n sB (xs x0 0 (K2 (cG r n) 0 2)) (K6 kk8 0 2 6 22 23 24) = D160 r n aWj (xs x0 0 (K2 (cG r n) 0 2)) (K6 (qO r n kk8) 0 2 6 22 23 24) :=
 congrArg (fun k => D160 r n aWj (xs x0 0 (K2 (cG r n) 0 2)) k) (bEw r n kk8)
theorem bTa (kk8 : eT) : D160 r n sB (xs x0 0 (K2 (cG r n) 0 2)) (K6 kk8 0 2 6 22 23 24) = (K7 (aLy r n kk8) 0 2 6 22 23 24 25) :=
 (bLm r n kk8).trans
 ((by kernel_rfl))
theorem bLc (kk8 : eT) : D160 r n gK (xs x0 0 (K2 (cG r n) 0 2)) (K6 kk8 0 2 6 22 23 24) = D160 r n aUg (xs x0 0 (K2 (cG r n) 0 2)) (K7 (aLy r n kk8) 0 2 6 22 23 24 25) :=
 congrArg (fun k => D160 r n aUg (xs x0 0 (K2 (cG r n) 0 2)) k) (bTa r n kk8)
theorem bRd (kk8 : eT) : D160 r n gK (xs x0 0 (K2 (cG r n) 0 2)) (K6 kk8 0 2 6 22 23 24) = (K6 (aSj r n kk8) 0 2 6 22 23 24) :=
 (bLc r n kk8).trans
 ((by kernel_rfl))
theorem bDh (m : Nat) : aN (fun kk => D160 r n gK (xs x0 0 (K2 (cG r n) 0 2)) kk) m = (K6 (rJ r n m) 0 2 6 22 23 24) := by
 induction m with
 | zero => exact (by kernel_rfl : aN (fun kk => D160 r n gK (xs x0 0 (K2 (cG r n) 0 2)) kk) 0 = (K6 (rJ r n 0) 0 2 6 22 23 24))
 | succ m ih =>
  refine (by kernel_rfl : aN (fun kk => D160 r n gK (xs x0 0 (K2 (cG r n) 0 2)) kk) (m + 1) = D160 r n gK (xs x0 0 (K2 (cG r n) 0 2)) (aN (fun kk => D160 r n gK (xs x0 0 (K2 (cG r n) 0 2)) kk) m)).trans ?_
  rw [ih]
  exact (bRd r n (rJ r n m)).trans (by kernel_rfl)
theorem bYd : D160 r n rR (xs x0 0 (K2 (cG r n) 0 2)) (K2 (cG r n) 0 2) = (K6 (bDp r n) 0 2 6 22 23 24) :=
 (by kernel_rfl : D160 r n rR (xs x0 0 (K2 (cG r n) 0 2)) (K2 (cG r n) 0 2) = aN (fun kk => D160 r n gK (xs x0 0 (K2 (cG r n) 0 2)) kk) n).trans ((bDh r n n).trans (by kernel_rfl))
theorem bTf : D160 r n aOc x0 (K2 (cG r n) 0 2) = (K6 (aJp r n) 0 2 6 22 23 24) :=
 (by kernel_rfl : D160 r n aOc x0 (K2 (cG r n) 0 2) = D160 r n rR (xs x0 0 (K2 (cG r n) 0 2)) (K2 (cG r n) 0 2)).trans
 ((bYd r n).trans (by kernel_rfl))
theorem bGx : D160 r n aCh x0 r160 = D160 r n uV x0 (K2 (cG r n) 0 2) :=
 congrArg (fun k => D160 r n uV x0 k) (cCa r n)
theorem bLf : D160 r n uV x0 (K2 (cG r n) 0 2) = D160 r n aUw x0 (K6 (aJp r n) 0 2 6 22 23 24) :=
 congrArg (fun k => D160 r n aUw x0 k) (bTf r n)
theorem bUf : D160 r n aCh x0 r160 = (K4 (aMw r n) 0 2 4 6) :=
 (bGx r n).trans
 ((bLf r n).trans
 ((by kernel_rfl)))
theorem bCl : D160 r n yV x0 r160 = D160 r n aWk x0 (K4 (aMw r n) 0 2 4 6) :=
 congrArg (fun k => D160 r n aWk x0 k) (bUf r n)
theorem bSy : D160 r n yV x0 r160 = (K3 (aLf r n) 0 2 4) :=
 (bCl r n).trans
 ((by kernel_rfl))
theorem bBx : D160 r n aFw x0 r160 = D160 r n aRx x0 (K3 (aLf r n) 0 2 4) :=
 congrArg (fun k => D160 r n aRx x0 k) (bSy r n)
theorem cFf : D160 r n aFw x0 r160 = (K3 (aKi r n) 0 2 4) :=
 (bBx r n).trans
 ((by kernel_rfl))
theorem aXo : D160 r n aFu x0 r160 = D160 r n aUz x0 (K3 (aKi r n) 0 2 4) :=
 congrArg (fun k => D160 r n aUz x0 k) (cFf r n)
theorem cFk : D160 r n aFu x0 r160 = (K3 (vT r n) 0 2 4) :=
 (aXo r n).trans
 ((by kernel_rfl))
theorem bTu : D160 r n c160 x0 r160 = D160 r n aEy x0 (K3 (vT r n) 0 2 4) :=
 congrArg (fun k => D160 r n aEy x0 k) (cFk r n)
theorem bWy (q0 : lO) : D160 r n aEy x0 (K3 q0 0 2 4) = fun (env : aU) (h : Hp) =>
 bnd (bU (env 1) h) fun v1 h1 =>
  q0 (env 0) (env 2) v1 h1 := by kernel_rfl
theorem bOi : (fun (env : aU) (h : Hp) =>
 bnd (bU (env 1) h) fun v1 h1 =>
  vT r n (env 0) (env 2) v1 h1) = (K3 (s160 r n) 0 1 2) := by kernel_rfl
theorem cXy : D160 r n c160 x0 r160 = (K3 (s160 r n) 0 1 2) :=
 (bTu r n).trans
 ((bWy r n (vT r n)).trans (bOi r n))
theorem cNs : aG CF r n 160 args h = s160 r n (aR args 0) (aR args 1) (aR args 2) h :=
 (by kernel_rfl : aG CF r n 160 args h = D160 r n c160 x0 r160 (aJ args) h).trans ((congrFun (congrFun (cXy r n) (aJ args)) h).trans (by kernel_rfl))
noncomputable def dS (r : RT) (n : Nat) (x4 : DV) (h0 : Hp) : aH :=
 some (.t [x4, (aE 0)], h0)
noncomputable def aAj (r : RT) (n : Nat) (kk6 : dM) (x4 x10 x11 x12 : DV) (h0 : Hp) : aH :=
 bnd (aD .lss x12 x11 h0) fun v1 h1 =>
 aS v1 (
 bnd (aI 3 x10 x12 h1) fun v2 h2 =>
 bnd (aK 3 v2 h2) fun v3 h3 =>
 bnd (bI [(aE 0), (aE 0), (aE 0)] h3) fun v4 h4 =>
 bnd (aF 3 v4 v3 h4) fun _ h5 =>
 bnd (aK 3 v4 h5) fun v6 h6 =>
 bnd (r 149 [v6] h6) fun v7 h7 =>
 bnd (gG .not v7 h7) fun v8 h8 =>
 aS v8 (
 some (.t [.l0, (aE 19)], h8)) (
 bnd (aB 0 v4 h8) fun v9 h9 =>
 bnd (aA v9 h9) fun v10 h10 =>
 bnd (dH .u8 v10 h10) fun v11 h11 =>
 bnd (aB 1 v4 h11) fun v12 h12 =>
 bnd (aA v12 h12) fun v13 h13 =>
 bnd (dH .u8 v13 h13) fun v14 h14 =>
 bnd (aB 2 v4 h14) fun v15 h15 =>
 bnd (aA v15 h15) fun v16 h16 =>
 bnd (dH .u8 v16 h16) fun v17 h17 =>
 bnd (aL [(.i .u8 (Int.ofNat 0)), (.i .u8 (Int.ofNat 0)), (.i .u8 (Int.ofNat 0))] 3 [(0, 1, v11), (1, 1, v14), (2, 1, v17)] h17) fun v18 h18 =>
 bnd (aX 1 1 x4 v18 h18) fun v19 h19 =>
 bnd (aD .add x12 (aE 1) h19) fun v20 h20 =>
    kk6 v19 x10 x11 v20 h20)) (
      dS r n x4 h1)
noncomputable def sA (r : RT) (n : Nat) (m : Nat) : dM :=
 Nat.rec (motive := fun _ => dM) (fun _ _ _ _ _ => none) (fun _ ih => aAj r n ih) m
noncomputable def bQb (r : RT) (n : Nat) : dM := sA r n n
noncomputable def aNm (r : RT) (n : Nat) (x4 x10 x11 x12 : DV) (h0 : Hp) : aH :=
 bQb r n x4 x10 x11 x12 h0
noncomputable def aKe (r : RT) (n : Nat) (x0 x4 : DV) (h0 : Hp) : aH :=
 bnd (bS x0 h0) fun v1 h1 =>
  aNm r n x4 x0 v1 (aE 0) h1
noncomputable def aMe (r : RT) (n : Nat) (x0 : DV) (h0 : Hp) : aH :=
 aKe r n x0 .l0 h0
noncomputable def aOu (r : RT) (n : Nat) (x0 : DV) (h0 : Hp) : aH :=
 bnd (bS x0 h0) fun v1 h1 =>
 bnd (aD .gtr v1 (aE 400) h1) fun v2 h2 =>
 aS v2 (
 some (.t [.l0, (aE 19)], h2)) (
  aMe r n x0 h2)
noncomputable def s161 (r : RT) (n : Nat) (x0 : DV) (h0 : Hp) : aH :=
 aOu r n x0 h0
noncomputable abbrev c161 : Code := cf Tryz.f161
noncomputable abbrev aAt : Code := cR c161
noncomputable abbrev aFk : Code := cR aAt
noncomputable abbrev xZ : Code := cR aFk
noncomputable abbrev cNc : Code := cR xZ
noncomputable abbrev uD : Code := cL xZ
noncomputable abbrev aLc : Code := cR uD
noncomputable abbrev aGp : Code := cL aLc
noncomputable abbrev lM : Code := cL aGp
noncomputable abbrev bCj : Code := cL uD
noncomputable abbrev aSy : Code := cL aFk
noncomputable abbrev aSd : Code := cL aAt
noncomputable abbrev aUk : Code := cL c161
noncomputable abbrev r161 : K := aO CF Tryz.f161
noncomputable def D161 (r : RT) (n : Nat) (c : Code) (X : Nat → K) (k : K) : K := aP CF r 33 n c X r161 k
theorem bYt : D161 r n cNc x0 r161 = (K1 (dS r n) 4) :=
 (by kernel_rfl)
theorem bMt (kk6 : dM) (q0 : TT1) : D161 r n lM (xs x0 0 (K1 q0 4)) (K4 kk6 4 10 11 12) = fun (env : aU) (h : Hp) =>
 bnd (aD .lss (env 12) (env 11) h) fun v1 h1 =>
 aS v1 (
 bnd (aI 3 (env 10) (env 12) h1) fun v2 h2 =>
 bnd (aK 3 v2 h2) fun v3 h3 =>
 bnd (bI [(aE 0), (aE 0), (aE 0)] h3) fun v4 h4 =>
 bnd (aF 3 v4 v3 h4) fun _ h5 =>
 bnd (aK 3 v4 h5) fun v6 h6 =>
 bnd (r 149 [v6] h6) fun v7 h7 =>
 bnd (gG .not v7 h7) fun v8 h8 =>
 aS v8 (
 some (.t [.l0, (aE 19)], h8)) (
 bnd (aB 0 v4 h8) fun v9 h9 =>
 bnd (aA v9 h9) fun v10 h10 =>
 bnd (dH .u8 v10 h10) fun v11 h11 =>
 bnd (aB 1 v4 h11) fun v12 h12 =>
 bnd (aA v12 h12) fun v13 h13 =>
 bnd (dH .u8 v13 h13) fun v14 h14 =>
 bnd (aB 2 v4 h14) fun v15 h15 =>
 bnd (aA v15 h15) fun v16 h16 =>
 bnd (dH .u8 v16 h16) fun v17 h17 =>
 bnd (aL [(.i .u8 (Int.ofNat 0)), (.i .u8 (Int.ofNat 0)), (.i .u8 (Int.ofNat 0))] 3 [(0, 1, v11), (1, 1, v14), (2, 1, v17)] h17) fun v18 h18 =>
 bnd (aX 1 1 (env 4) v18 h18) fun v19 h19 =>
 bnd (aD .add (env 12) (aE 1) h19) fun v20 h20 =>
    kk6 v19 (env 10) (env 11) v20 h20)) (
      q0 (env 4) h1) := by kernel_rfl
theorem aZl (kk6 : dM) : (fun (env : aU) (h : Hp) =>
 bnd (aD .lss (env 12) (env 11) h) fun v1 h1 =>
 aS v1 (
 bnd (aI 3 (env 10) (env 12) h1) fun v2 h2 =>
 bnd (aK 3 v2 h2) fun v3 h3 =>
 bnd (bI [(aE 0), (aE 0), (aE 0)] h3) fun v4 h4 =>
 bnd (aF 3 v4 v3 h4) fun _ h5 =>
 bnd (aK 3 v4 h5) fun v6 h6 =>
 bnd (r 149 [v6] h6) fun v7 h7 =>
 bnd (gG .not v7 h7) fun v8 h8 =>
 aS v8 (
 some (.t [.l0, (aE 19)], h8)) (
 bnd (aB 0 v4 h8) fun v9 h9 =>
 bnd (aA v9 h9) fun v10 h10 =>
 bnd (dH .u8 v10 h10) fun v11 h11 =>
 bnd (aB 1 v4 h11) fun v12 h12 =>
 bnd (aA v12 h12) fun v13 h13 =>
 bnd (dH .u8 v13 h13) fun v14 h14 =>
 bnd (aB 2 v4 h14) fun v15 h15 =>
 bnd (aA v15 h15) fun v16 h16 =>
 bnd (dH .u8 v16 h16) fun v17 h17 =>
 bnd (aL [(.i .u8 (Int.ofNat 0)), (.i .u8 (Int.ofNat 0)), (.i .u8 (Int.ofNat 0))] 3 [(0, 1, v11), (1, 1, v14), (2, 1, v17)] h17) fun v18 h18 =>
 bnd (aX 1 1 (env 4) v18 h18) fun v19 h19 =>
 bnd (aD .add (env 12) (aE 1) h19) fun v20 h20 =>
    kk6 v19 (env 10) (env 11) v20 h20)) (
      dS r n (env 4) h1)) = (K4 (aAj r n kk6) 4 10 11 12) := by kernel_rfl
theorem bDk (kk6 : dM) : D161 r n lM (xs x0 0 (K1 (dS r n) 4)) (K4 kk6 4 10 11 12) = (K4 (aAj r n kk6) 4 10 11 12) :=
 (bMt r n kk6 (dS r n)).trans (aZl r n kk6)
theorem bOh (m : Nat) : aN (fun kk => D161 r n lM (xs x0 0 (K1 (dS r n) 4)) kk) m = (K4 (sA r n m) 4 10 11 12) := by
 induction m with
 | zero => exact (by kernel_rfl : aN (fun kk => D161 r n lM (xs x0 0 (K1 (dS r n) 4)) kk) 0 = (K4 (sA r n 0) 4 10 11 12))
 | succ m ih =>
  refine (by kernel_rfl : aN (fun kk => D161 r n lM (xs x0 0 (K1 (dS r n) 4)) kk) (m + 1) = D161 r n lM (xs x0 0 (K1 (dS r n) 4)) (aN (fun kk => D161 r n lM (xs x0 0 (K1 (dS r n) 4)) kk) m)).trans ?_
  rw [ih]
  exact (bDk r n (sA r n m)).trans (by kernel_rfl)
theorem cAa : D161 r n aGp (xs x0 0 (K1 (dS r n) 4)) (K1 (dS r n) 4) = (K4 (bQb r n) 4 10 11 12) :=
 (by kernel_rfl : D161 r n aGp (xs x0 0 (K1 (dS r n) 4)) (K1 (dS r n) 4) = aN (fun kk => D161 r n lM (xs x0 0 (K1 (dS r n) 4)) kk) n).trans ((bOh r n n).trans (by kernel_rfl))
theorem bTs : D161 r n aLc x0 (K1 (dS r n) 4) = (K4 (aNm r n) 4 10 11 12) :=
 (by kernel_rfl : D161 r n aLc x0 (K1 (dS r n) 4) = D161 r n aGp (xs x0 0 (K1 (dS r n) 4)) (K1 (dS r n) 4)).trans
 ((cAa r n).trans (by kernel_rfl))
theorem bLn : D161 r n xZ x0 r161 = D161 r n uD x0 (K1 (dS r n) 4) :=
 congrArg (fun k => D161 r n uD x0 k) (bYt r n)
theorem bEo : D161 r n uD x0 (K1 (dS r n) 4) = D161 r n bCj x0 (K4 (aNm r n) 4 10 11 12) :=
 congrArg (fun k => D161 r n bCj x0 k) (bTs r n)
theorem cDf : D161 r n xZ x0 r161 = (K2 (aKe r n) 0 4) :=
 (bLn r n).trans
 ((bEo r n).trans
 ((by kernel_rfl)))
theorem bIh : D161 r n aFk x0 r161 = D161 r n aSy x0 (K2 (aKe r n) 0 4) :=
 congrArg (fun k => D161 r n aSy x0 k) (cDf r n)
theorem cBp : D161 r n aFk x0 r161 = (K1 (aMe r n) 0) :=
 (bIh r n).trans
 ((by kernel_rfl))
theorem bJr : D161 r n aAt x0 r161 = D161 r n aSd x0 (K1 (aMe r n) 0) :=
 congrArg (fun k => D161 r n aSd x0 k) (cBp r n)
theorem bZc : D161 r n aAt x0 r161 = (K1 (aOu r n) 0) :=
 (bJr r n).trans
 ((by kernel_rfl))
theorem cLn : D161 r n c161 x0 r161 = D161 r n aUk x0 (K1 (aOu r n) 0) :=
 congrArg (fun k => D161 r n aUk x0 k) (bZc r n)
theorem cXn : D161 r n c161 x0 r161 = (K1 (s161 r n) 0) :=
 (cLn r n).trans
 ((by kernel_rfl))
theorem cKb : aG CF r n 161 args h = s161 r n (aR args 0) h :=
 (by kernel_rfl : aG CF r n 161 args h = D161 r n c161 x0 r161 (aJ args) h).trans ((congrFun (congrFun (cXn r n) (aJ args)) h).trans (by kernel_rfl))
noncomputable def eE (r : RT) (n : Nat) (x0 x6 : DV) (h0 : Hp) : aH :=
 bnd (r 45 [x0, x6] h0) fun v1 h1 =>
 bnd (aC 0 v1 h1) fun v2 h2 =>
 bnd (aC 1 v1 h2) fun v3 h3 =>
 some (.t [v2, v3], h3)
noncomputable def aCx (r : RT) (n : Nat) (kk4 : lO) (x0 x1 x6 : DV) (h0 : Hp) : aH :=
 bnd (bS x1 h0) fun v1 h1 =>
 bnd (aD .gtr v1 (aE 0) h1) fun v2 h2 =>
 aS v2 (
 bnd (bS x1 h2) fun v3 h3 =>
 bnd (aLu v3 (aE 240) h3) fun v4 h4 =>
 bnd (r 15 [x0, (aE 10)] h4) fun v5 h5 =>
 bnd (cI 1 x1 none (some v4) h5) fun v6 h6 =>
 cnd (bJ (cI 1 x1 none (some v4) h4) v6 && true) (
 bnd (fE v6 h6) fun v7 h7 =>
 cnd (bJ (fE v6 h4) v7 && true) (
 bnd (r 49 [x0, v5, v7] h7) fun v8 h8 =>
 bnd (aC 0 v8 h8) fun v9 h9 =>
 bnd (aC 1 v8 h9) fun v10 h10 =>
 bnd (aD .neq v10 (aE 0) h10) fun v11 h11 =>
 aS v11 (
 some (.t [(aE 0), v10], h11)) (
 bnd (bH (bQ 0 h11.next) [(aE 0)] 1 [(0, 1, v9)] (resv 1 h11)) fun v12 h12 =>
 bnd (aX 1 8 x6 v12 h12) fun v13 h13 =>
 bnd (cI 1 x1 (some v4) none h13) fun v14 h14 =>
 cnd (bJ (cI 1 x1 (some v4) none (resv 1 h11)) v14 && true) (
    kk4 x0 v14 v13 h14))))) (
      eE r n x0 x6 h2)
noncomputable def sJ (r : RT) (n : Nat) (m : Nat) : lO :=
 Nat.rec (motive := fun _ => lO) (fun _ _ _ _ => none) (fun _ ih => aCx r n ih) m
noncomputable def bMx (r : RT) (n : Nat) : lO := sJ r n n
noncomputable def aKw (r : RT) (n : Nat) (x0 x1 x6 : DV) (h0 : Hp) : aH :=
 bMx r n x0 x1 x6 h0
noncomputable def aKy (r : RT) (n : Nat) (x0 x1 : DV) (h0 : Hp) : aH :=
 aKw r n x0 x1 .l0 h0
noncomputable def s162 (r : RT) (n : Nat) (x0 x1 : DV) (h0 : Hp) : aH :=
 aKy r n x0 x1 h0
noncomputable abbrev c162 : Code := cf Tryz.f162
noncomputable abbrev aGu : Code := cR c162
noncomputable abbrev aAl : Code := cR aGu
noncomputable abbrev cLo : Code := cR aAl
noncomputable abbrev aGl : Code := cL aAl
noncomputable abbrev yF : Code := cL aGl
noncomputable abbrev lN : Code := cL yF
noncomputable abbrev bHn : Code := cL aGu
noncomputable abbrev bOt : Code := cL c162
noncomputable abbrev r162 : K := aO CF Tryz.f162
noncomputable def D162 (r : RT) (n : Nat) (c : Code) (X : Nat → K) (k : K) : K := aP CF r 42 n c X r162 k
theorem bVf : D162 r n cLo x0 r162 = (K2 (eE r n) 0 6) :=
 (by kernel_rfl)
theorem bKf (kk4 : lO) (q0 : gF) : D162 r n lN (xs x0 0 (K2 q0 0 6)) (K3 kk4 0 1 6) = fun (env : aU) (h : Hp) =>
 bnd (bS (env 1) h) fun v1 h1 =>
 bnd (aD .gtr v1 (aE 0) h1) fun v2 h2 =>
 aS v2 (
 bnd (bS (env 1) h2) fun v3 h3 =>
 bnd (aLu v3 (aE 240) h3) fun v4 h4 =>
 bnd (r 15 [(env 0), (aE 10)] h4) fun v5 h5 =>
 bnd (cI 1 (env 1) none (some v4) h5) fun v6 h6 =>
 cnd (bJ (cI 1 (env 1) none (some v4) h4) v6 && true) (
 bnd (fE v6 h6) fun v7 h7 =>
 cnd (bJ (fE v6 h4) v7 && true) (
 bnd (r 49 [(env 0), v5, v7] h7) fun v8 h8 =>
 bnd (aC 0 v8 h8) fun v9 h9 =>
 bnd (aC 1 v8 h9) fun v10 h10 =>
 bnd (aD .neq v10 (aE 0) h10) fun v11 h11 =>
 aS v11 (
 some (.t [(aE 0), v10], h11)) (
 bnd (bH (bQ 0 h11.next) [(aE 0)] 1 [(0, 1, v9)] (resv 1 h11)) fun v12 h12 =>
 bnd (aX 1 8 (env 6) v12 h12) fun v13 h13 =>
 bnd (cI 1 (env 1) (some v4) none h13) fun v14 h14 =>
 cnd (bJ (cI 1 (env 1) (some v4) none (resv 1 h11)) v14 && true) (
    kk4 (env 0) v14 v13 h14))))) (
      q0 (env 0) (env 6) h2) := by kernel_rfl
theorem aXi (kk4 : lO) : (fun (env : aU) (h : Hp) =>
 bnd (bS (env 1) h) fun v1 h1 =>
 bnd (aD .gtr v1 (aE 0) h1) fun v2 h2 =>
 aS v2 (
 bnd (bS (env 1) h2) fun v3 h3 =>
 bnd (aLu v3 (aE 240) h3) fun v4 h4 =>
 bnd (r 15 [(env 0), (aE 10)] h4) fun v5 h5 =>
 bnd (cI 1 (env 1) none (some v4) h5) fun v6 h6 =>
 cnd (bJ (cI 1 (env 1) none (some v4) h4) v6 && true) (
 bnd (fE v6 h6) fun v7 h7 =>
 cnd (bJ (fE v6 h4) v7 && true) (
 bnd (r 49 [(env 0), v5, v7] h7) fun v8 h8 =>
 bnd (aC 0 v8 h8) fun v9 h9 =>
 bnd (aC 1 v8 h9) fun v10 h10 =>
 bnd (aD .neq v10 (aE 0) h10) fun v11 h11 =>
 aS v11 (
 some (.t [(aE 0), v10], h11)) (
 bnd (bH (bQ 0 h11.next) [(aE 0)] 1 [(0, 1, v9)] (resv 1 h11)) fun v12 h12 =>
 bnd (aX 1 8 (env 6) v12 h12) fun v13 h13 =>
 bnd (cI 1 (env 1) (some v4) none h13) fun v14 h14 =>
 cnd (bJ (cI 1 (env 1) (some v4) none (resv 1 h11)) v14 && true) (
    kk4 (env 0) v14 v13 h14))))) (
      eE r n (env 0) (env 6) h2)) = (K3 (aCx r n kk4) 0 1 6) := by kernel_rfl
theorem bQx (kk4 : lO) : D162 r n lN (xs x0 0 (K2 (eE r n) 0 6)) (K3 kk4 0 1 6) = (K3 (aCx r n kk4) 0 1 6) :=
 (bKf r n kk4 (eE r n)).trans (aXi r n kk4)
theorem bRj (m : Nat) : aN (fun kk => D162 r n lN (xs x0 0 (K2 (eE r n) 0 6)) kk) m = (K3 (sJ r n m) 0 1 6) := by
 induction m with
 | zero => exact (by kernel_rfl : aN (fun kk => D162 r n lN (xs x0 0 (K2 (eE r n) 0 6)) kk) 0 = (K3 (sJ r n 0) 0 1 6))
 | succ m ih =>
  refine (by kernel_rfl : aN (fun kk => D162 r n lN (xs x0 0 (K2 (eE r n) 0 6)) kk) (m + 1) = D162 r n lN (xs x0 0 (K2 (eE r n) 0 6)) (aN (fun kk => D162 r n lN (xs x0 0 (K2 (eE r n) 0 6)) kk) m)).trans ?_
  rw [ih]
  exact (bQx r n (sJ r n m)).trans (by kernel_rfl)
theorem bTv : D162 r n yF (xs x0 0 (K2 (eE r n) 0 6)) (K2 (eE r n) 0 6) = (K3 (bMx r n) 0 1 6) :=
 (by kernel_rfl : D162 r n yF (xs x0 0 (K2 (eE r n) 0 6)) (K2 (eE r n) 0 6) = aN (fun kk => D162 r n lN (xs x0 0 (K2 (eE r n) 0 6)) kk) n).trans ((bRj r n n).trans (by kernel_rfl))
theorem bBq : D162 r n aAl x0 r162 = D162 r n aGl x0 (K2 (eE r n) 0 6) :=
 congrArg (fun k => D162 r n aGl x0 k) (bVf r n)
theorem cFt : D162 r n aAl x0 r162 = (K3 (aKw r n) 0 1 6) :=
 (bBq r n).trans
 ((by kernel_rfl : D162 r n aGl x0 (K2 (eE r n) 0 6) = D162 r n yF (xs x0 0 (K2 (eE r n) 0 6)) (K2 (eE r n) 0 6)).trans
 ((bTv r n).trans (by kernel_rfl)))
theorem bCm : D162 r n aGu x0 r162 = D162 r n bHn x0 (K3 (aKw r n) 0 1 6) :=
 congrArg (fun k => D162 r n bHn x0 k) (cFt r n)
theorem bYa : D162 r n aGu x0 r162 = (K2 (aKy r n) 0 1) :=
 (bCm r n).trans
 ((by kernel_rfl))
theorem cIr : D162 r n c162 x0 r162 = D162 r n bOt x0 (K2 (aKy r n) 0 1) :=
 congrArg (fun k => D162 r n bOt x0 k) (bYa r n)
theorem cVt : D162 r n c162 x0 r162 = (K2 (s162 r n) 0 1) :=
 (cIr r n).trans
 ((by kernel_rfl))
theorem cJa : aG CF r n 162 args h = s162 r n (aR args 0) (aR args 1) h :=
 (by kernel_rfl : aG CF r n 162 args h = D162 r n c162 x0 r162 (aJ args) h).trans ((congrFun (congrFun (cVt r n) (aJ args)) h).trans (by kernel_rfl))
noncomputable def eJ (r : RT) (n : Nat) (h0 : Hp) : aH :=
 some ((.i .i64 (Int.negSucc 0)), h0)
noncomputable def aQz (r : RT) (n : Nat) (kk4 : dM) (x0 x1 x7 x8 : DV) (h0 : Hp) : aH :=
 bnd (aD .lss x8 x7 h0) fun v1 h1 =>
 aS v1 (
 bnd (aI 4 x0 x8 h1) fun v2 h2 =>
 bnd (aK 4 v2 h2) fun v3 h3 =>
 bnd (dE CF r x1 [v3] h3) fun v4 h4 =>
 aS v4 (
 some (x8, h4)) (
 bnd (aD .add x8 (aE 1) h4) fun v5 h5 =>
    kk4 x0 x1 x7 v5 h5)) (
      eJ r n h1)
noncomputable def qP (r : RT) (n : Nat) (m : Nat) : dM :=
 Nat.rec (motive := fun _ => dM) (fun _ _ _ _ _ => none) (fun _ ih => aQz r n ih) m
noncomputable def bBu (r : RT) (n : Nat) : dM := qP r n n
noncomputable def aMu (r : RT) (n : Nat) (x0 x1 x7 x8 : DV) (h0 : Hp) : aH :=
 bBu r n x0 x1 x7 x8 h0
noncomputable def aJz (r : RT) (n : Nat) (x0 x1 : DV) (h0 : Hp) : aH :=
 bnd (bS x0 h0) fun v1 h1 =>
  aMu r n x0 x1 v1 (aE 0) h1
noncomputable def s187 (r : RT) (n : Nat) (x0 x1 : DV) (h0 : Hp) : aH :=
 aJz r n x0 x1 h0
noncomputable abbrev c187 : Code := cf Tryz.f187
noncomputable abbrev aAp : Code := cR c187
noncomputable abbrev cLi : Code := cR aAp
noncomputable abbrev tO : Code := cL aAp
noncomputable abbrev aOa : Code := cR tO
noncomputable abbrev xT : Code := cL aOa
noncomputable abbrev mX : Code := cL xT
noncomputable abbrev bMw : Code := cL tO
noncomputable abbrev bQq : Code := cL c187
noncomputable abbrev r187 : K := aO CF Tryz.f187
noncomputable def D187 (r : RT) (n : Nat) (c : Code) (X : Nat → K) (k : K) : K := aP CF r 19 n c X r187 k
theorem bWw : D187 r n cLi x0 r187 = (K0 (eJ r n)) :=
 (by kernel_rfl)
theorem bJy (kk4 : dM) : D187 r n mX (xs x0 0 (K0 (eJ r n))) (K4 kk4 0 1 7 8) = (K4 (aQz r n kk4) 0 1 7 8) :=
 (by kernel_rfl)
theorem bGb (m : Nat) : aN (fun kk => D187 r n mX (xs x0 0 (K0 (eJ r n))) kk) m = (K4 (qP r n m) 0 1 7 8) := by
 induction m with
 | zero => exact (by kernel_rfl : aN (fun kk => D187 r n mX (xs x0 0 (K0 (eJ r n))) kk) 0 = (K4 (qP r n 0) 0 1 7 8))
 | succ m ih =>
  refine (by kernel_rfl : aN (fun kk => D187 r n mX (xs x0 0 (K0 (eJ r n))) kk) (m + 1) = D187 r n mX (xs x0 0 (K0 (eJ r n))) (aN (fun kk => D187 r n mX (xs x0 0 (K0 (eJ r n))) kk) m)).trans ?_
  rw [ih]
  exact (bJy r n (qP r n m)).trans (by kernel_rfl)
theorem cDm : D187 r n xT (xs x0 0 (K0 (eJ r n))) (K0 (eJ r n)) = (K4 (bBu r n) 0 1 7 8) :=
 (by kernel_rfl : D187 r n xT (xs x0 0 (K0 (eJ r n))) (K0 (eJ r n)) = aN (fun kk => D187 r n mX (xs x0 0 (K0 (eJ r n))) kk) n).trans ((bGb r n n).trans (by kernel_rfl))
theorem cDh : D187 r n aOa x0 (K0 (eJ r n)) = (K4 (aMu r n) 0 1 7 8) :=
 (by kernel_rfl : D187 r n aOa x0 (K0 (eJ r n)) = D187 r n xT (xs x0 0 (K0 (eJ r n))) (K0 (eJ r n))).trans
 ((cDm r n).trans (by kernel_rfl))
theorem bRq : D187 r n aAp x0 r187 = D187 r n tO x0 (K0 (eJ r n)) :=
 congrArg (fun k => D187 r n tO x0 k) (bWw r n)
theorem bEb : D187 r n tO x0 (K0 (eJ r n)) = D187 r n bMw x0 (K4 (aMu r n) 0 1 7 8) :=
 congrArg (fun k => D187 r n bMw x0 k) (cDh r n)
theorem bTb : D187 r n aAp x0 r187 = (K2 (aJz r n) 0 1) :=
 (bRq r n).trans
 ((bEb r n).trans
 ((by kernel_rfl)))
theorem cKv : D187 r n c187 x0 r187 = D187 r n bQq x0 (K2 (aJz r n) 0 1) :=
 congrArg (fun k => D187 r n bQq x0 k) (bTb r n)
theorem cVc : D187 r n c187 x0 r187 = (K2 (s187 r n) 0 1) :=
 (cKv r n).trans
 ((by kernel_rfl))
theorem cJt : aG CF r n 187 args h = s187 r n (aR args 0) (aR args 1) h :=
 (by kernel_rfl : aG CF r n 187 args h = D187 r n c187 x0 r187 (aJ args) h).trans ((congrFun (congrFun (cVc r n) (aJ args)) h).trans (by kernel_rfl))
noncomputable def cA (r : RT) (n : Nat) (x2 x3 : DV) (h0 : Hp) : aH :=
 some (.t [x2, x3], h0)
noncomputable def cH (r : RT) (n : Nat) (x3 : DV) (h0 : Hp) : aH :=
 cA r n (.b true) x3 h0
noncomputable def dA (r : RT) (n : Nat) (h0 : Hp) : aH :=
 cH r n (.b true) h0
noncomputable def mS (r : RT) (n : Nat) (x2 x3 : DV) (h0 : Hp) : aH :=
 cA r n x2 x3 h0
noncomputable def lL (r : RT) (n : Nat) (x2 x3 x11 : DV) (h0 : Hp) : aH :=
 aS x11 (
  cH r n x3 h0) (
  mS r n x2 x3 h0)
noncomputable def wN (r : RT) (n : Nat) (x2 x3 x4 : DV) (h0 : Hp) : aH :=
 bnd (aD .eql x4 (aE 6) h0) fun v1 h1 =>
 aS v1 (
  lL r n x2 x3 v1 h1) (
 bnd (aD .eql x4 (aE 7) h1) fun v2 h2 =>
 aS v2 (
   lL r n x2 x3 v2 h2) (
 bnd (aD .eql x4 (aE 8) h2) fun v3 h3 =>
 aS v3 (
    lL r n x2 x3 v3 h3) (
 bnd (aD .eql x4 (aE 9) h3) fun v4 h4 =>
 aS v4 (
     lL r n x2 x3 v4 h4) (
 bnd (aD .eql x4 (aE 10) h4) fun v5 h5 =>
 aS v5 (
      lL r n x2 x3 v5 h5) (
 bnd (aD .eql x4 (aE 11) h5) fun v6 h6 =>
      lL r n x2 x3 v6 h6)))))
noncomputable def mZ (r : RT) (n : Nat) (x2 x3 x4 x5 : DV) (h0 : Hp) : aH :=
 aS x5 (
  dA r n h0) (
  wN r n x2 x3 x4 h0)
noncomputable def aMo (r : RT) (n : Nat) (x2 x3 x4 : DV) (h0 : Hp) : aH :=
 bnd (aD .eql x4 (aE 14) h0) fun v1 h1 =>
 aS v1 (
  mZ r n x2 x3 x4 v1 h1) (
 bnd (aD .eql x4 (aE 15) h1) fun v2 h2 =>
 aS v2 (
   mZ r n x2 x3 x4 v2 h2) (
 bnd (aD .eql x4 (aE 16) h2) fun v3 h3 =>
 aS v3 (
    mZ r n x2 x3 x4 v3 h3) (
 bnd (aD .eql x4 (aE 17) h3) fun v4 h4 =>
 aS v4 (
     mZ r n x2 x3 x4 v4 h4) (
 bnd (aD .eql x4 (aE 18) h4) fun v5 h5 =>
     mZ r n x2 x3 x4 v5 h5))))
noncomputable def aLv (r : RT) (n : Nat) (x0 x2 x3 : DV) (h0 : Hp) : aH :=
 aMo r n x2 x3 x0 h0
noncomputable def s189 (r : RT) (n : Nat) (x0 : DV) (h0 : Hp) : aH :=
 aLv r n x0 (.b false) (.b false) h0
noncomputable abbrev c189 : Code := cf Tryz.f189
noncomputable abbrev zK : Code := cR c189
noncomputable abbrev cHb : Code := cR zK
noncomputable abbrev uP : Code := cL zK
noncomputable abbrev aPz : Code := cR uP
noncomputable abbrev aFm : Code := cL aPz
noncomputable abbrev cMg : Code := cR aFm
noncomputable abbrev aFy : Code := cL aFm
noncomputable abbrev aBo : Code := cL aFy
noncomputable abbrev cRe : Code := cR aBo
noncomputable abbrev rH : Code := cL aBo
noncomputable abbrev rY : Code := cL rH
noncomputable abbrev cCn : Code := cR rY
noncomputable abbrev oD : Code := cL rY
noncomputable abbrev rO : Code := cR oD
noncomputable abbrev cDa : Code := cR rO
noncomputable abbrev aTa : Code := cL rO
noncomputable abbrev nI : Code := cL oD
noncomputable abbrev bUz : Code := cR nI
noncomputable abbrev aWe : Code := cL nI
noncomputable abbrev aWn : Code := cL uP
noncomputable abbrev aWi : Code := cL c189
noncomputable abbrev r189 : K := aO CF Tryz.f189
noncomputable def D189 (r : RT) (n : Nat) (c : Code) (X : Nat → K) (k : K) : K := aP CF r 20 n c X r189 k
theorem cBq : D189 r n cHb x0 r189 = (K2 (cA r n) 2 3) :=
 (by kernel_rfl)
theorem bYh : D189 r n cMg (xs x0 0 (K2 (cA r n) 2 3)) (K2 (cA r n) 2 3) = (K1 (cH r n) 3) :=
 (by kernel_rfl)
theorem bTq : D189 r n cRe (xs (xs x0 0 (K2 (cA r n) 2 3)) 2 (K1 (cH r n) 3)) (K1 (cH r n) 3) = (K0 (dA r n)) :=
 (by kernel_rfl)
theorem cDo : D189 r n cCn (xs (xs (xs x0 0 (K2 (cA r n) 2 3)) 2 (K1 (cH r n) 3)) 1 (K0 (dA r n))) (K0 (dA r n)) = (K2 (mS r n) 2 3) :=
 (by kernel_rfl)
theorem bZl : D189 r n cDa (xs (xs (xs x0 0 (K2 (cA r n) 2 3)) 2 (K1 (cH r n) 3)) 1 (K0 (dA r n))) (K2 (mS r n) 2 3) = (K3 (lL r n) 2 3 11) :=
 (by kernel_rfl)
theorem bJv : D189 r n rO (xs (xs (xs x0 0 (K2 (cA r n) 2 3)) 2 (K1 (cH r n) 3)) 1 (K0 (dA r n))) (K2 (mS r n) 2 3) = D189 r n aTa (xs (xs (xs x0 0 (K2 (cA r n) 2 3)) 2 (K1 (cH r n) 3)) 1 (K0 (dA r n))) (K3 (lL r n) 2 3 11) :=
 congrArg (fun k => D189 r n aTa (xs (xs (xs x0 0 (K2 (cA r n) 2 3)) 2 (K1 (cH r n) 3)) 1 (K0 (dA r n))) k) (bZl r n)
theorem bXd : D189 r n rO (xs (xs (xs x0 0 (K2 (cA r n) 2 3)) 2 (K1 (cH r n) 3)) 1 (K0 (dA r n))) (K2 (mS r n) 2 3) = (K3 (wN r n) 2 3 4) :=
 (bJv r n).trans
 ((by kernel_rfl))
theorem bXo : D189 r n bUz (xs (xs (xs x0 0 (K2 (cA r n) 2 3)) 2 (K1 (cH r n) 3)) 1 (K0 (dA r n))) (K3 (wN r n) 2 3 4) = (K4 (mZ r n) 2 3 4 5) :=
 (by kernel_rfl)
theorem bMa : D189 r n aFm (xs x0 0 (K2 (cA r n) 2 3)) (K2 (cA r n) 2 3) = D189 r n aFy (xs x0 0 (K2 (cA r n) 2 3)) (K1 (cH r n) 3) :=
 congrArg (fun k => D189 r n aFy (xs x0 0 (K2 (cA r n) 2 3)) k) (bYh r n)
theorem bKn : D189 r n aBo (xs (xs x0 0 (K2 (cA r n) 2 3)) 2 (K1 (cH r n) 3)) (K1 (cH r n) 3) = D189 r n rH (xs (xs x0 0 (K2 (cA r n) 2 3)) 2 (K1 (cH r n) 3)) (K0 (dA r n)) :=
 congrArg (fun k => D189 r n rH (xs (xs x0 0 (K2 (cA r n) 2 3)) 2 (K1 (cH r n) 3)) k) (bTq r n)
theorem bFm : D189 r n rY (xs (xs (xs x0 0 (K2 (cA r n) 2 3)) 2 (K1 (cH r n) 3)) 1 (K0 (dA r n))) (K0 (dA r n)) = D189 r n oD (xs (xs (xs x0 0 (K2 (cA r n) 2 3)) 2 (K1 (cH r n) 3)) 1 (K0 (dA r n))) (K2 (mS r n) 2 3) :=
 congrArg (fun k => D189 r n oD (xs (xs (xs x0 0 (K2 (cA r n) 2 3)) 2 (K1 (cH r n) 3)) 1 (K0 (dA r n))) k) (cDo r n)
theorem bBz : D189 r n oD (xs (xs (xs x0 0 (K2 (cA r n) 2 3)) 2 (K1 (cH r n) 3)) 1 (K0 (dA r n))) (K2 (mS r n) 2 3) = D189 r n nI (xs (xs (xs x0 0 (K2 (cA r n) 2 3)) 2 (K1 (cH r n) 3)) 1 (K0 (dA r n))) (K3 (wN r n) 2 3 4) :=
 congrArg (fun k => D189 r n nI (xs (xs (xs x0 0 (K2 (cA r n) 2 3)) 2 (K1 (cH r n) 3)) 1 (K0 (dA r n))) k) (bXd r n)
theorem bIl : D189 r n nI (xs (xs (xs x0 0 (K2 (cA r n) 2 3)) 2 (K1 (cH r n) 3)) 1 (K0 (dA r n))) (K3 (wN r n) 2 3 4) = D189 r n aWe (xs (xs (xs x0 0 (K2 (cA r n) 2 3)) 2 (K1 (cH r n) 3)) 1 (K0 (dA r n))) (K4 (mZ r n) 2 3 4 5) :=
 congrArg (fun k => D189 r n aWe (xs (xs (xs x0 0 (K2 (cA r n) 2 3)) 2 (K1 (cH r n) 3)) 1 (K0 (dA r n))) k) (bXo r n)
theorem cBl : D189 r n aPz x0 (K2 (cA r n) 2 3) = (K3 (aMo r n) 2 3 4) :=
 (by kernel_rfl : D189 r n aPz x0 (K2 (cA r n) 2 3) = D189 r n aFm (xs x0 0 (K2 (cA r n) 2 3)) (K2 (cA r n) 2 3)).trans
 ((bMa r n).trans
 ((by kernel_rfl : D189 r n aFy (xs x0 0 (K2 (cA r n) 2 3)) (K1 (cH r n) 3) = D189 r n aBo (xs (xs x0 0 (K2 (cA r n) 2 3)) 2 (K1 (cH r n) 3)) (K1 (cH r n) 3)).trans
 ((bKn r n).trans
 ((by kernel_rfl : D189 r n rH (xs (xs x0 0 (K2 (cA r n) 2 3)) 2 (K1 (cH r n) 3)) (K0 (dA r n)) = D189 r n rY (xs (xs (xs x0 0 (K2 (cA r n) 2 3)) 2 (K1 (cH r n) 3)) 1 (K0 (dA r n))) (K0 (dA r n))).trans
 ((bFm r n).trans
 ((bBz r n).trans
 ((bIl r n).trans
 ((by kernel_rfl)))))))))
theorem bHs : D189 r n zK x0 r189 = D189 r n uP x0 (K2 (cA r n) 2 3) :=
 congrArg (fun k => D189 r n uP x0 k) (cBq r n)
theorem bCn : D189 r n uP x0 (K2 (cA r n) 2 3) = D189 r n aWn x0 (K3 (aMo r n) 2 3 4) :=
 congrArg (fun k => D189 r n aWn x0 k) (cBl r n)
theorem cFm : D189 r n zK x0 r189 = (K3 (aLv r n) 0 2 3) :=
 (bHs r n).trans
 ((bCn r n).trans
 ((by kernel_rfl)))
theorem cMt : D189 r n c189 x0 r189 = D189 r n aWi x0 (K3 (aLv r n) 0 2 3) :=
 congrArg (fun k => D189 r n aWi x0 k) (cFm r n)
theorem cVr : D189 r n c189 x0 r189 = (K1 (s189 r n) 0) :=
 (cMt r n).trans
 ((by kernel_rfl))
theorem cOp : aG CF r n 189 args h = s189 r n (aR args 0) h :=
 (by kernel_rfl : aG CF r n 189 args h = D189 r n c189 x0 r189 (aJ args) h).trans ((congrFun (congrFun (cVr r n) (aJ args)) h).trans (by kernel_rfl))
noncomputable def s190 (r : RT) (n : Nat) (x0 x1 : DV) (h0 : Hp) : aH :=
 bnd (aD .eql x0 (aE 0) h0) fun v1 h1 =>
 bnd (gD v1 false (some (x1, h1)) h1) fun v2 h2 =>
 bnd (gD v1 false (some (v2, h2)) h2) fun v3 h3 =>
 bnd (gD v3 true (some (x0, h3)) h3) fun v4 h4 =>
 bnd (gD v3 true (aD .gtr v4 (aE 0) h4) h4) fun v5 h5 =>
 bnd (gD v1 false (aM v3 v5 (.b false) h5) h5) fun v6 h6 =>
 bnd (gD v1 false (some (v6, h6)) h6) fun v7 h7 =>
 bnd (gD v7 true (some (x0, h7)) h7) fun v8 h8 =>
 bnd (gD v7 true (aD .leq v8 (aE 255) h8) h8) fun v9 h9 =>
 bnd (gD v1 false (aM v7 v9 (.b false) h9) h9) fun v10 h10 =>
 bnd (aM v1 (.b true) v10 h10) fun v11 h11 =>
 some (v11, h11)
noncomputable abbrev c190 : Code := cf Tryz.f190
noncomputable abbrev r190 : K := aO CF Tryz.f190
noncomputable def D190 (r : RT) (n : Nat) (c : Code) (X : Nat → K) (k : K) : K := aP CF r 18 n c X r190 k
theorem cTf : D190 r n c190 x0 r190 = (K2 (s190 r n) 0 1) :=
 (by kernel_rfl)
theorem cNn : aG CF r n 190 args h = s190 r n (aR args 0) (aR args 1) h :=
 (by kernel_rfl : aG CF r n 190 args h = D190 r n c190 x0 r190 (aJ args) h).trans ((congrFun (congrFun (cTf r n) (aJ args)) h).trans (by kernel_rfl))
noncomputable def cS (r : RT) (n : Nat) (x4 : DV) (h0 : Hp) : aH :=
 some (x4, h0)
noncomputable def aDl (r : RT) (n : Nat) (kk5 : dM) (x0 x1 x4 x5 : DV) (h0 : Hp) : aH :=
 bnd (aD .add x5 (aE 1) h0) fun v1 h1 =>
  kk5 x0 x1 x4 v1 h1
noncomputable def aJy (r : RT) (n : Nat) (kk5 : dM) (x0 x1 x4 x5 : DV) (h0 : Hp) : aH :=
 bnd (aA x1 h0) fun v1 h1 =>
 bnd (r 192 [v1, x5] h1) fun v2 h2 =>
 bnd (aC 0 v2 h2) fun v3 h3 =>
 bnd (aC 1 v2 h3) fun v4 h4 =>
 bnd (gD v4 true (some (x0, h4)) h4) fun v5 h5 =>
 bnd (gD v4 true (some (v3, h5)) h5) fun v6 h6 =>
 bnd (gD v4 true (aD .lss v5 v6 h6) h6) fun v7 h7 =>
 bnd (aM v4 v7 (.b false) h7) fun v8 h8 =>
 aS v8 (
  aDl r n kk5 x0 x1 x5 x5 h8) (
  aDl r n kk5 x0 x1 x4 x5 h8)
noncomputable def aTt (r : RT) (n : Nat) (kk5 : dM) (x0 x1 x4 x5 : DV) (h0 : Hp) : aH :=
 bnd (aD .add x5 (aE 2) h0) fun v1 h1 =>
 bnd (aD .leq v1 x0 h1) fun v2 h2 =>
 aS v2 (
   aJy r n kk5 x0 x1 x4 x5 h2) (
   cS r n x4 h2)
noncomputable def sK (r : RT) (n : Nat) (m : Nat) : dM :=
 Nat.rec (motive := fun _ => dM) (fun _ _ _ _ _ => none) (fun _ ih => aTt r n ih) m
noncomputable def bDt (r : RT) (n : Nat) : dM := sK r n n
noncomputable def aOp (r : RT) (n : Nat) (x0 x1 x4 x5 : DV) (h0 : Hp) : aH :=
 bDt r n x0 x1 x4 x5 h0
noncomputable def aLg (r : RT) (n : Nat) (x0 x1 x4 : DV) (h0 : Hp) : aH :=
 aOp r n x0 x1 x4 (aE 0) h0
noncomputable def aMn (r : RT) (n : Nat) (x0 x1 : DV) (h0 : Hp) : aH :=
 aLg r n x0 x1 (.i .i64 (Int.negSucc 0)) h0
noncomputable def s191 (r : RT) (n : Nat) (x0 x1 : DV) (h0 : Hp) : aH :=
 aMn r n x0 x1 h0
noncomputable abbrev c191 : Code := cf Tryz.f191
noncomputable abbrev zW : Code := cR c191
noncomputable abbrev aDt : Code := cR zW
noncomputable abbrev cNq : Code := cR aDt
noncomputable abbrev tI : Code := cL aDt
noncomputable abbrev aKx : Code := cR tI
noncomputable abbrev aEf : Code := cL aKx
noncomputable abbrev iS : Code := cL aEf
noncomputable abbrev aFt : Code := cR iS
noncomputable abbrev cOd : Code := cR aFt
noncomputable abbrev aRy : Code := cL aFt
noncomputable abbrev aTb : Code := cL iS
noncomputable abbrev aVz : Code := cL tI
noncomputable abbrev aVb : Code := cL zW
noncomputable abbrev aTs : Code := cL c191
noncomputable abbrev r191 : K := aO CF Tryz.f191
noncomputable def D191 (r : RT) (n : Nat) (c : Code) (X : Nat → K) (k : K) : K := aP CF r 28 n c X r191 k
theorem bXs : D191 r n cNq x0 r191 = (K1 (cS r n) 4) :=
 (by kernel_rfl)
theorem cCb (kk5 : dM) : D191 r n cOd (xs x0 0 (K1 (cS r n) 4)) (K4 kk5 0 1 4 5) = (K4 (aDl r n kk5) 0 1 4 5) :=
 (by kernel_rfl)
theorem bEt (kk5 : dM) : D191 r n aFt (xs x0 0 (K1 (cS r n) 4)) (K4 kk5 0 1 4 5) = D191 r n aRy (xs x0 0 (K1 (cS r n) 4)) (K4 (aDl r n kk5) 0 1 4 5) :=
 congrArg (fun k => D191 r n aRy (xs x0 0 (K1 (cS r n) 4)) k) (cCb r n kk5)
theorem cEu (kk5 : dM) : D191 r n aFt (xs x0 0 (K1 (cS r n) 4)) (K4 kk5 0 1 4 5) = (K4 (aJy r n kk5) 0 1 4 5) :=
 (bEt r n kk5).trans
 ((by kernel_rfl))
theorem bIv (kk5 : dM) : D191 r n iS (xs x0 0 (K1 (cS r n) 4)) (K4 kk5 0 1 4 5) = D191 r n aTb (xs x0 0 (K1 (cS r n) 4)) (K4 (aJy r n kk5) 0 1 4 5) :=
 congrArg (fun k => D191 r n aTb (xs x0 0 (K1 (cS r n) 4)) k) (cEu r n kk5)
theorem bKz (kk5 : dM) : D191 r n iS (xs x0 0 (K1 (cS r n) 4)) (K4 kk5 0 1 4 5) = (K4 (aTt r n kk5) 0 1 4 5) :=
 (bIv r n kk5).trans
 ((by kernel_rfl))
theorem bKj (m : Nat) : aN (fun kk => D191 r n iS (xs x0 0 (K1 (cS r n) 4)) kk) m = (K4 (sK r n m) 0 1 4 5) := by
 induction m with
 | zero => exact (by kernel_rfl : aN (fun kk => D191 r n iS (xs x0 0 (K1 (cS r n) 4)) kk) 0 = (K4 (sK r n 0) 0 1 4 5))
 | succ m ih =>
  refine (by kernel_rfl : aN (fun kk => D191 r n iS (xs x0 0 (K1 (cS r n) 4)) kk) (m + 1) = D191 r n iS (xs x0 0 (K1 (cS r n) 4)) (aN (fun kk => D191 r n iS (xs x0 0 (K1 (cS r n) 4)) kk) m)).trans ?_
  rw [ih]
  exact (bKz r n (sK r n m)).trans (by kernel_rfl)
theorem bWt : D191 r n aEf (xs x0 0 (K1 (cS r n) 4)) (K1 (cS r n) 4) = (K4 (bDt r n) 0 1 4 5) :=
 (by kernel_rfl : D191 r n aEf (xs x0 0 (K1 (cS r n) 4)) (K1 (cS r n) 4) = aN (fun kk => D191 r n iS (xs x0 0 (K1 (cS r n) 4)) kk) n).trans ((bKj r n n).trans (by kernel_rfl))
theorem cCj : D191 r n aKx x0 (K1 (cS r n) 4) = (K4 (aOp r n) 0 1 4 5) :=
 (by kernel_rfl : D191 r n aKx x0 (K1 (cS r n) 4) = D191 r n aEf (xs x0 0 (K1 (cS r n) 4)) (K1 (cS r n) 4)).trans
 ((bWt r n).trans (by kernel_rfl))
theorem bBc : D191 r n aDt x0 r191 = D191 r n tI x0 (K1 (cS r n) 4) :=
 congrArg (fun k => D191 r n tI x0 k) (bXs r n)
theorem bFu : D191 r n tI x0 (K1 (cS r n) 4) = D191 r n aVz x0 (K4 (aOp r n) 0 1 4 5) :=
 congrArg (fun k => D191 r n aVz x0 k) (cCj r n)
theorem cFr : D191 r n aDt x0 r191 = (K3 (aLg r n) 0 1 4) :=
 (bBc r n).trans
 ((bFu r n).trans
 ((by kernel_rfl)))
theorem bFc : D191 r n zW x0 r191 = D191 r n aVb x0 (K3 (aLg r n) 0 1 4) :=
 congrArg (fun k => D191 r n aVb x0 k) (cFr r n)
theorem cFl : D191 r n zW x0 r191 = (K2 (aMn r n) 0 1) :=
 (bFc r n).trans
 ((by kernel_rfl))
theorem cNe : D191 r n c191 x0 r191 = D191 r n aTs x0 (K2 (aMn r n) 0 1) :=
 congrArg (fun k => D191 r n aTs x0 k) (cFl r n)
theorem cTx : D191 r n c191 x0 r191 = (K2 (s191 r n) 0 1) :=
 (cNe r n).trans
 ((by kernel_rfl))
theorem cHg : aG CF r n 191 args h = s191 r n (aR args 0) (aR args 1) h :=
 (by kernel_rfl : aG CF r n 191 args h = D191 r n c191 x0 r191 (aJ args) h).trans ((congrFun (congrFun (cTx r n) (aJ args)) h).trans (by kernel_rfl))
noncomputable def s192 (r : RT) (n : Nat) (x0 x1 : DV) (h0 : Hp) : aH :=
 bnd (aI 3 x0 x1 h0) fun v1 h1 =>
 bnd (aB 0 v1 h1) fun v2 h2 =>
 bnd (aA v2 h2) fun v3 h3 =>
 bnd (aD .neq v3 (aE 18) h3) fun v4 h4 =>
 bnd (gD v4 false (some (x1, h4)) h4) fun v5 h5 =>
 bnd (gD v4 false (aD .add v5 (aE 1) h5) h5) fun v6 h6 =>
 bnd (gD v4 false (some (x0, h6)) h6) fun v7 h7 =>
 bnd (gD v4 false (bS v7 h7) h7) fun v8 h8 =>
 bnd (gD v4 false (aD .geq v6 v8 h8) h8) fun v9 h9 =>
 bnd (aM v4 (.b true) v9 h9) fun v10 h10 =>
 bnd (gD v10 false (some (x0, h10)) h10) fun v11 h11 =>
 bnd (gD v10 false (some (x1, h11)) h11) fun v12 h12 =>
 bnd (gD v10 false (aD .add v12 (aE 1) h12) h12) fun v13 h13 =>
 bnd (gD v10 false (aI 3 v11 v13 h13) h13) fun v14 h14 =>
 bnd (gD v10 false (aB 0 v14 h14) h14) fun v15 h15 =>
 bnd (gD v10 false (aA v15 h15) h15) fun v16 h16 =>
 bnd (gD v10 false (aD .neq v16 (aE 16) h16) h16) fun v17 h17 =>
 bnd (aM v10 (.b true) v17 h17) fun v18 h18 =>
 aS v18 (
 some (.t [(aE 0), (.b false)], h18)) (
 bnd (aD .add x1 (aE 1) h18) fun v19 h19 =>
 bnd (aI 3 x0 v19 h19) fun v20 h20 =>
 bnd (aK 3 v20 h20) fun v21 h21 =>
 bnd (r 193 [v21] h21) fun v22 h22 =>
 bnd (aD .add x1 (aE 2) h22) fun v23 h23 =>
 bnd (aD .gtr v22 v23 h23) fun v24 h24 =>
 some (.t [v22, v24], h24))
noncomputable abbrev c192 : Code := cf Tryz.f192
noncomputable abbrev r192 : K := aO CF Tryz.f192
noncomputable def D192 (r : RT) (n : Nat) (c : Code) (X : Nat → K) (k : K) : K := aP CF r 40 n c X r192 k
theorem cTc : D192 r n c192 x0 r192 = (K2 (s192 r n) 0 1) :=
 (by kernel_rfl)
theorem cNi : aG CF r n 192 args h = s192 r n (aR args 0) (aR args 1) h :=
 (by kernel_rfl : aG CF r n 192 args h = D192 r n c192 x0 r192 (aJ args) h).trans ((congrFun (congrFun (cTc r n) (aJ args)) h).trans (by kernel_rfl))
end Go.Dd

namespace Go.Dd
open Go.Proofs
variable (r : RT) (n : Nat) (args : List DV) (h : Hp)
noncomputable def s193 (r : RT) (n : Nat) (x0 : DV) (h0 : Hp) : aH :=
 bnd (bU x0 h0) fun v1 h1 =>
 bnd (aB 0 v1 h1) fun v2 h2 =>
 bnd (aA v2 h2) fun v3 h3 =>
 bnd (r 227 [v3] h3) fun v4 h4 =>
 bnd (gG .not v4 h4) fun v5 h5 =>
 aS v5 (
 some ((.i .i64 (Int.negSucc 0)), h5)) (
 bnd (aB 1 v1 h5) fun v6 h6 =>
 bnd (aA v6 h6) fun v7 h7 =>
 bnd (aB 2 v1 h7) fun v8 h8 =>
 bnd (aA v8 h8) fun v9 h9 =>
 bnd (cV .shl v9 (.i .u64 (Int.ofNat 8)) h9) fun v10 h10 =>
 bnd (aD .add v7 v10 h10) fun v11 h11 =>
 some (v11, h11))
noncomputable abbrev c193 : Code := cf Tryz.f193
noncomputable abbrev r193 : K := aO CF Tryz.f193
noncomputable def D193 (r : RT) (n : Nat) (c : Code) (X : Nat → K) (k : K) : K := aP CF r 13 n c X r193 k
theorem cWj : D193 r n c193 x0 r193 = (K1 (s193 r n) 0) :=
 (by kernel_rfl)
theorem cHj : aG CF r n 193 args h = s193 r n (aR args 0) h :=
 (by kernel_rfl : aG CF r n 193 args h = D193 r n c193 x0 r193 (aJ args) h).trans ((congrFun (congrFun (cWj r n) (aJ args)) h).trans (by kernel_rfl))
noncomputable def s194 (r : RT) (n : Nat) (x0 x1 x2 x3 x4 x5 x6 x7 : DV) (h0 : Hp) : aH :=
 bnd (aA x3 h0) fun v1 h1 =>
 bnd (bS v1 h1) fun v2 h2 =>
 bnd (aD .geq x0 v2 h2) fun v3 h3 =>
 bnd (gD v3 false (aA x4 h3) h3) fun v4 h4 =>
 bnd (gD v3 false (some (x0, h4)) h4) fun v5 h5 =>
 bnd (gD v3 false (aI 1 v4 v5 h5) h5) fun v6 h6 =>
 bnd (gD v3 false (aA v6 h6) h6) fun v7 h7 =>
 bnd (gD v3 false (some (x1, h7)) h7) fun v8 h8 =>
 bnd (gD v3 false (aD .neq v7 v8 h8) h8) fun v9 h9 =>
 bnd (aM v3 (.b true) v9 h9) fun v10 h10 =>
 bnd (gD v10 false (aA x5 h10) h10) fun v11 h11 =>
 bnd (gD v10 false (some (x0, h11)) h11) fun v12 h12 =>
 bnd (gD v10 false (aI 1 v11 v12 h12) h12) fun v13 h13 =>
 bnd (gD v10 false (aA v13 h13) h13) fun v14 h14 =>
 bnd (gD v10 false (aD .geq v14 (aE 0) h14) h14) fun v15 h15 =>
 bnd (gD v10 false (some (v15, h15)) h15) fun v16 h16 =>
 bnd (gD v16 true (aA x5 h16) h16) fun v17 h17 =>
 bnd (gD v16 true (some (x0, h17)) h17) fun v18 h18 =>
 bnd (gD v16 true (aI 1 v17 v18 h18) h18) fun v19 h19 =>
 bnd (gD v16 true (aA v19 h19) h19) fun v20 h20 =>
 bnd (gD v16 true (some (x2, h20)) h20) fun v21 h21 =>
 bnd (gD v16 true (aD .neq v20 v21 h21) h21) fun v22 h22 =>
 bnd (gD v10 false (aM v16 v22 (.b false) h22) h22) fun v23 h23 =>
 bnd (aM v10 (.b true) v23 h23) fun v24 h24 =>
 aS v24 (
 bnd (aF 1 x6 (.b false) h24) fun _ h25 =>
 some (.t [], h25)) (
 bnd (aA x5 h24) fun v26 h26 =>
 bnd (aI 1 v26 x0 h26) fun v27 h27 =>
 bnd (aA v27 h27) fun v28 h28 =>
 bnd (aD .lss v28 (aE 0) h28) fun v29 h29 =>
 aS v29 (
 bnd (aA x5 h29) fun v30 h30 =>
 bnd (aI 1 v30 x0 h30) fun v31 h31 =>
 bnd (aF 1 v31 x2 h31) fun _ h32 =>
 bnd (aA x7 h32) fun v33 h33 =>
 bnd (aL [(aE 0)] 1 [(0, 1, x0)] h33) fun v34 h34 =>
 bnd (aX 1 8 v33 v34 h34) fun v35 h35 =>
 bnd (aF 1 x7 v35 h35) fun _ h36 =>
 some (.t [], h36)) (
 some (.t [], h29)))
noncomputable abbrev c194 : Code := cf Tryz.f194
noncomputable abbrev r194 : K := aO CF Tryz.f194
noncomputable def D194 (r : RT) (n : Nat) (c : Code) (X : Nat → K) (k : K) : K := aP CF r 53 n c X r194 k
theorem cRv : D194 r n c194 x0 r194 = (K8 (s194 r n) 0 1 2 3 4 5 6 7) :=
 (by kernel_rfl)
theorem cMd : aG CF r n 194 args h = s194 r n (aR args 0) (aR args 1) (aR args 2) (aR args 3) (aR args 4) (aR args 5) (aR args 6) (aR args 7) h :=
 (by kernel_rfl : aG CF r n 194 args h = D194 r n c194 x0 r194 (aJ args) h).trans ((congrFun (congrFun (cRv r n) (aJ args)) h).trans (by kernel_rfl))
noncomputable def bT (r : RT) (n : Nat) (h0 : Hp) : aH :=
 some ((aE 0), h0)
noncomputable def aDx (r : RT) (n : Nat) (x1 x22 : DV) (h0 : Hp) : aH :=
 aS x22 (
 bnd (aB 2 x1 h0) fun v1 h1 =>
 bnd (aA v1 h1) fun v2 h2 =>
 bnd (gG .neg v2 h2) fun v3 h3 =>
 some (v3, h3)) (
  bT r n h0)
noncomputable def bCv (r : RT) (n : Nat) (x1 x4 : DV) (h0 : Hp) : aH :=
 bnd (aD .eql x4 (aE 14) h0) fun v1 h1 =>
 aS v1 (
  aDx r n x1 v1 h1) (
 bnd (aD .eql x4 (aE 15) h1) fun v2 h2 =>
  aDx r n x1 v2 h2)
noncomputable def oZ (r : RT) (n : Nat) (x1 x4 x17 : DV) (h0 : Hp) : aH :=
 aS x17 (
 some ((.i .i64 (Int.negSucc 0)), h0)) (
  bCv r n x1 x4 h0)
noncomputable def bBv (r : RT) (n : Nat) (x1 x4 : DV) (h0 : Hp) : aH :=
 bnd (aD .eql x4 (aE 12) h0) fun v1 h1 =>
 aS v1 (
  oZ r n x1 x4 v1 h1) (
 bnd (aD .eql x4 (aE 17) h1) fun v2 h2 =>
 aS v2 (
   oZ r n x1 x4 v2 h2) (
 bnd (aD .eql x4 (aE 19) h2) fun v3 h3 =>
 aS v3 (
    oZ r n x1 x4 v3 h3) (
 bnd (aD .eql x4 (aE 20) h3) fun v4 h4 =>
    oZ r n x1 x4 v4 h4)))
noncomputable def gI (r : RT) (n : Nat) (x1 x4 x5 : DV) (h0 : Hp) : aH :=
 aS x5 (
 some ((aE 1), h0)) (
  bBv r n x1 x4 h0)
noncomputable def aKl (r : RT) (n : Nat) (x1 x4 : DV) (h0 : Hp) : aH :=
 bnd (aD .eql x4 (aE 1) h0) fun v1 h1 =>
 aS v1 (
  gI r n x1 x4 v1 h1) (
 bnd (aD .eql x4 (aE 2) h1) fun v2 h2 =>
 aS v2 (
   gI r n x1 x4 v2 h2) (
 bnd (aD .eql x4 (aE 3) h2) fun v3 h3 =>
 aS v3 (
    gI r n x1 x4 v3 h3) (
 bnd (aD .eql x4 (aE 4) h3) fun v4 h4 =>
 aS v4 (
     gI r n x1 x4 v4 h4) (
 bnd (aD .eql x4 (aE 5) h4) fun v5 h5 =>
 aS v5 (
      gI r n x1 x4 v5 h5) (
 bnd (aD .eql x4 (aE 6) h5) fun v6 h6 =>
 aS v6 (
       gI r n x1 x4 v6 h6) (
 bnd (aD .eql x4 (aE 7) h6) fun v7 h7 =>
 aS v7 (
        gI r n x1 x4 v7 h7) (
 bnd (aD .eql x4 (aE 8) h7) fun v8 h8 =>
 aS v8 (
         gI r n x1 x4 v8 h8) (
 bnd (aD .eql x4 (aE 9) h8) fun v9 h9 =>
 aS v9 (
          gI r n x1 x4 v9 h9) (
 bnd (aD .eql x4 (aE 13) h9) fun v10 h10 =>
 aS v10 (
           gI r n x1 x4 v10 h10) (
 bnd (aD .eql x4 (aE 18) h10) fun v11 h11 =>
           gI r n x1 x4 v11 h11))))))))))
noncomputable def uK (r : RT) (n : Nat) (x1 : DV) (h0 : Hp) : aH :=
 bnd (aB 0 x1 h0) fun v1 h1 =>
 bnd (aA v1 h1) fun v2 h2 =>
  aKl r n x1 v2 h2
noncomputable def s195 (r : RT) (n : Nat) (x0 : DV) (h0 : Hp) : aH :=
 bnd (bU x0 h0) fun v1 h1 =>
  uK r n v1 h1
noncomputable abbrev c195 : Code := cf Tryz.f195
noncomputable abbrev aAd : Code := cR c195
noncomputable abbrev cIq : Code := cR aAd
noncomputable abbrev wC : Code := cL aAd
noncomputable abbrev aMz : Code := cR wC
noncomputable abbrev aCt : Code := cL aMz
noncomputable abbrev vS : Code := cR aCt
noncomputable abbrev tV : Code := cR vS
noncomputable abbrev vL : Code := cR tV
noncomputable abbrev uA : Code := cR vL
noncomputable abbrev bUd : Code := cR uA
noncomputable abbrev aUc : Code := cL uA
noncomputable abbrev bYv : Code := cL vL
noncomputable abbrev aWv : Code := cL tV
noncomputable abbrev bZk : Code := cL vS
noncomputable abbrev aQy : Code := cL aCt
noncomputable abbrev aSe : Code := cL wC
noncomputable abbrev zJ : Code := cL c195
noncomputable abbrev r195 : K := aO CF Tryz.f195
noncomputable def D195 (r : RT) (n : Nat) (c : Code) (X : Nat → K) (k : K) : K := aP CF r 28 n c X r195 k
theorem bSo : D195 r n cIq x0 r195 = (K0 (bT r n)) :=
 (by kernel_rfl)
theorem cCw : D195 r n bUd (xs x0 0 (K0 (bT r n))) (K0 (bT r n)) = (K2 (aDx r n) 1 22) :=
 (by kernel_rfl)
theorem bGs : D195 r n uA (xs x0 0 (K0 (bT r n))) (K0 (bT r n)) = D195 r n aUc (xs x0 0 (K0 (bT r n))) (K2 (aDx r n) 1 22) :=
 congrArg (fun k => D195 r n aUc (xs x0 0 (K0 (bT r n))) k) (cCw r n)
theorem bSs : D195 r n uA (xs x0 0 (K0 (bT r n))) (K0 (bT r n)) = (K2 (bCv r n) 1 4) :=
 (bGs r n).trans
 ((by kernel_rfl))
theorem cAd : D195 r n vL (xs x0 0 (K0 (bT r n))) (K0 (bT r n)) = (K3 (oZ r n) 1 4 17) :=
 (by kernel_rfl : D195 r n vL (xs x0 0 (K0 (bT r n))) (K0 (bT r n)) = (fun (env : aU) (h : Hp) => aS (opr env (cC vL)) (D195 r n bYv (xs x0 0 (K0 (bT r n))) (K0 (bT r n)) env h) (D195 r n uA (xs x0 0 (K0 (bT r n))) (K0 (bT r n)) env h))).trans (by rw [bSs r n]; kernel_rfl)
theorem bMp : D195 r n tV (xs x0 0 (K0 (bT r n))) (K0 (bT r n)) = D195 r n aWv (xs x0 0 (K0 (bT r n))) (K3 (oZ r n) 1 4 17) :=
 congrArg (fun k => D195 r n aWv (xs x0 0 (K0 (bT r n))) k) (cAd r n)
theorem bWq : D195 r n tV (xs x0 0 (K0 (bT r n))) (K0 (bT r n)) = (K2 (bBv r n) 1 4) :=
 (bMp r n).trans
 ((by kernel_rfl))
theorem cAv : D195 r n vS (xs x0 0 (K0 (bT r n))) (K0 (bT r n)) = (K3 (gI r n) 1 4 5) :=
 (by kernel_rfl : D195 r n vS (xs x0 0 (K0 (bT r n))) (K0 (bT r n)) = (fun (env : aU) (h : Hp) => aS (opr env (cC vS)) (D195 r n bZk (xs x0 0 (K0 (bT r n))) (K0 (bT r n)) env h) (D195 r n tV (xs x0 0 (K0 (bT r n))) (K0 (bT r n)) env h))).trans (by rw [bWq r n]; kernel_rfl)
theorem bDe : D195 r n aCt (xs x0 0 (K0 (bT r n))) (K0 (bT r n)) = D195 r n aQy (xs x0 0 (K0 (bT r n))) (K3 (gI r n) 1 4 5) :=
 congrArg (fun k => D195 r n aQy (xs x0 0 (K0 (bT r n))) k) (cAv r n)
theorem cBb : D195 r n aMz x0 (K0 (bT r n)) = (K2 (aKl r n) 1 4) :=
 (by kernel_rfl : D195 r n aMz x0 (K0 (bT r n)) = D195 r n aCt (xs x0 0 (K0 (bT r n))) (K0 (bT r n))).trans
 ((bDe r n).trans
 ((by kernel_rfl)))
theorem bIa : D195 r n aAd x0 r195 = D195 r n wC x0 (K0 (bT r n)) :=
 congrArg (fun k => D195 r n wC x0 k) (bSo r n)
theorem bHz : D195 r n wC x0 (K0 (bT r n)) = D195 r n aSe x0 (K2 (aKl r n) 1 4) :=
 congrArg (fun k => D195 r n aSe x0 k) (cBb r n)
theorem cAe : D195 r n aAd x0 r195 = (K1 (uK r n) 1) :=
 (bIa r n).trans
 ((bHz r n).trans
 ((by kernel_rfl)))
theorem cNp : D195 r n c195 x0 r195 = D195 r n zJ x0 (K1 (uK r n) 1) :=
 congrArg (fun k => D195 r n zJ x0 k) (cAe r n)
theorem cPd (q0 : TT1) : D195 r n zJ x0 (K1 q0 1) = fun (env : aU) (h : Hp) =>
 bnd (bU (env 0) h) fun v1 h1 =>
  q0 v1 h1 := by kernel_rfl
theorem bVz : (fun (env : aU) (h : Hp) =>
 bnd (bU (env 0) h) fun v1 h1 =>
  uK r n v1 h1) = (K1 (s195 r n) 0) := by kernel_rfl
theorem cSz : D195 r n c195 x0 r195 = (K1 (s195 r n) 0) :=
 (cNp r n).trans
 ((cPd r n (uK r n)).trans (bVz r n))
theorem cQm : aG CF r n 195 args h = s195 r n (aR args 0) h :=
 (by kernel_rfl : aG CF r n 195 args h = D195 r n c195 x0 r195 (aJ args) h).trans ((congrFun (congrFun (cSz r n) (aJ args)) h).trans (by kernel_rfl))
noncomputable def cM (r : RT) (n : Nat) (h0 : Hp) : aH :=
 some ((aE 0), h0)
noncomputable def aEj (r : RT) (n : Nat) (x1 x13 : DV) (h0 : Hp) : aH :=
 aS x13 (
 bnd (aB 2 x1 h0) fun v1 h1 =>
 bnd (aA v1 h1) fun v2 h2 =>
 bnd (aD .add v2 (aE 1) h2) fun v3 h3 =>
 some (v3, h3)) (
  cM r n h0)
noncomputable def bKo (r : RT) (n : Nat) (x1 x4 : DV) (h0 : Hp) : aH :=
 bnd (aD .eql x4 (aE 14) h0) fun v1 h1 =>
 aS v1 (
  aEj r n x1 v1 h1) (
 bnd (aD .eql x4 (aE 15) h1) fun v2 h2 =>
  aEj r n x1 v2 h2)
noncomputable def jV (r : RT) (n : Nat) (x1 x4 x5 : DV) (h0 : Hp) : aH :=
 aS x5 (
 some ((aE 1), h0)) (
  bKo r n x1 x4 h0)
noncomputable def aKq (r : RT) (n : Nat) (x1 x4 : DV) (h0 : Hp) : aH :=
 bnd (aD .eql x4 (aE 12) h0) fun v1 h1 =>
 aS v1 (
  jV r n x1 x4 v1 h1) (
 bnd (aD .eql x4 (aE 13) h1) fun v2 h2 =>
 aS v2 (
   jV r n x1 x4 v2 h2) (
 bnd (aD .eql x4 (aE 10) h2) fun v3 h3 =>
 aS v3 (
    jV r n x1 x4 v3 h3) (
 bnd (aD .eql x4 (aE 11) h3) fun v4 h4 =>
 aS v4 (
     jV r n x1 x4 v4 h4) (
 bnd (aD .eql x4 (aE 17) h4) fun v5 h5 =>
 aS v5 (
      jV r n x1 x4 v5 h5) (
 bnd (aD .eql x4 (aE 20) h5) fun v6 h6 =>
 aS v6 (
       jV r n x1 x4 v6 h6) (
 bnd (aD .eql x4 (aE 19) h6) fun v7 h7 =>
       jV r n x1 x4 v7 h7))))))
noncomputable def vJ (r : RT) (n : Nat) (x1 : DV) (h0 : Hp) : aH :=
 bnd (aB 0 x1 h0) fun v1 h1 =>
 bnd (aA v1 h1) fun v2 h2 =>
  aKq r n x1 v2 h2
noncomputable def s196 (r : RT) (n : Nat) (x0 : DV) (h0 : Hp) : aH :=
 bnd (bU x0 h0) fun v1 h1 =>
  vJ r n v1 h1
noncomputable abbrev c196 : Code := cf Tryz.f196
noncomputable abbrev aBz : Code := cR c196
noncomputable abbrev cIo : Code := cR aBz
noncomputable abbrev uG : Code := cL aBz
noncomputable abbrev aOz : Code := cR uG
noncomputable abbrev aCs : Code := cL aOz
noncomputable abbrev uW : Code := cR aCs
noncomputable abbrev tC : Code := cR uW
noncomputable abbrev cHk : Code := cR tC
noncomputable abbrev bIc : Code := cL tC
noncomputable abbrev cCq : Code := cL uW
noncomputable abbrev aUx : Code := cL aCs
noncomputable abbrev aWm : Code := cL uG
noncomputable abbrev aGw : Code := cL c196
noncomputable abbrev r196 : K := aO CF Tryz.f196
noncomputable def D196 (r : RT) (n : Nat) (c : Code) (X : Nat → K) (k : K) : K := aP CF r 19 n c X r196 k
theorem bYs : D196 r n cIo x0 r196 = (K0 (cM r n)) :=
 (by kernel_rfl)
theorem cEb : D196 r n cHk (xs x0 0 (K0 (cM r n))) (K0 (cM r n)) = (K2 (aEj r n) 1 13) :=
 (by kernel_rfl)
theorem bDo : D196 r n tC (xs x0 0 (K0 (cM r n))) (K0 (cM r n)) = D196 r n bIc (xs x0 0 (K0 (cM r n))) (K2 (aEj r n) 1 13) :=
 congrArg (fun k => D196 r n bIc (xs x0 0 (K0 (cM r n))) k) (cEb r n)
theorem cFs : D196 r n tC (xs x0 0 (K0 (cM r n))) (K0 (cM r n)) = (K2 (bKo r n) 1 4) :=
 (bDo r n).trans
 ((by kernel_rfl))
theorem bUg : D196 r n uW (xs x0 0 (K0 (cM r n))) (K0 (cM r n)) = (K3 (jV r n) 1 4 5) :=
 (by kernel_rfl : D196 r n uW (xs x0 0 (K0 (cM r n))) (K0 (cM r n)) = (fun (env : aU) (h : Hp) => aS (opr env (cC uW)) (D196 r n cCq (xs x0 0 (K0 (cM r n))) (K0 (cM r n)) env h) (D196 r n tC (xs x0 0 (K0 (cM r n))) (K0 (cM r n)) env h))).trans (by rw [cFs r n]; kernel_rfl)
theorem bBj : D196 r n aCs (xs x0 0 (K0 (cM r n))) (K0 (cM r n)) = D196 r n aUx (xs x0 0 (K0 (cM r n))) (K3 (jV r n) 1 4 5) :=
 congrArg (fun k => D196 r n aUx (xs x0 0 (K0 (cM r n))) k) (bUg r n)
theorem cEr : D196 r n aOz x0 (K0 (cM r n)) = (K2 (aKq r n) 1 4) :=
 (by kernel_rfl : D196 r n aOz x0 (K0 (cM r n)) = D196 r n aCs (xs x0 0 (K0 (cM r n))) (K0 (cM r n))).trans
 ((bBj r n).trans
 ((by kernel_rfl)))
theorem bGa : D196 r n aBz x0 r196 = D196 r n uG x0 (K0 (cM r n)) :=
 congrArg (fun k => D196 r n uG x0 k) (bYs r n)
theorem bMc : D196 r n uG x0 (K0 (cM r n)) = D196 r n aWm x0 (K2 (aKq r n) 1 4) :=
 congrArg (fun k => D196 r n aWm x0 k) (cEr r n)
theorem bZg : D196 r n aBz x0 r196 = (K1 (vJ r n) 1) :=
 (bGa r n).trans
 ((bMc r n).trans
 ((by kernel_rfl)))
theorem cIt : D196 r n c196 x0 r196 = D196 r n aGw x0 (K1 (vJ r n) 1) :=
 congrArg (fun k => D196 r n aGw x0 k) (bZg r n)
theorem cLe (q0 : TT1) : D196 r n aGw x0 (K1 q0 1) = fun (env : aU) (h : Hp) =>
 bnd (bU (env 0) h) fun v1 h1 =>
  q0 v1 h1 := by kernel_rfl
theorem bWu : (fun (env : aU) (h : Hp) =>
 bnd (bU (env 0) h) fun v1 h1 =>
  vJ r n v1 h1) = (K1 (s196 r n) 0) := by kernel_rfl
theorem cTz : D196 r n c196 x0 r196 = (K1 (s196 r n) 0) :=
 (cIt r n).trans
 ((cLe r n (vJ r n)).trans (bWu r n))
theorem cIx : aG CF r n 196 args h = s196 r n (aR args 0) h :=
 (by kernel_rfl : aG CF r n 196 args h = D196 r n c196 x0 r196 (aJ args) h).trans ((congrFun (congrFun (cTz r n) (aJ args)) h).trans (by kernel_rfl))
noncomputable def eW (r : RT) (n : Nat) (x0 x7 : DV) (h0 : Hp) : aH :=
 bnd (aQ x0 h0) fun v1 h1 =>
 bnd (aB 0 v1 h1) fun v2 h2 =>
 bnd (aA v2 h2) fun v3 h3 =>
 bnd (aQ x0 h3) fun v4 h4 =>
 bnd (aB 1 v4 h4) fun v5 h5 =>
 bnd (aA v5 h5) fun v6 h6 =>
 bnd (fC v3 (some x7) (some v6) h6) fun v7 h7 =>
 some (v7, h7)
noncomputable def aRg (r : RT) (n : Nat) (kk4 : dM) (x0 x1 x2 x7 : DV) (h0 : Hp) : aH :=
 bnd (aQ x0 h0) fun v1 h1 =>
 bnd (aB 1 v1 h1) fun v2 h2 =>
 bnd (aA v2 h2) fun v3 h3 =>
 bnd (aQ x0 h3) fun v4 h4 =>
 bnd (aB 0 v4 h4) fun v5 h5 =>
 bnd (aA v5 h5) fun v6 h6 =>
 bnd (cU v6 h6) fun v7 h7 =>
 bnd (aD .lss v3 v7 h7) fun v8 h8 =>
 bnd (gD v8 true (some (x0, h8)) h8) fun v9 h9 =>
 bnd (gD v8 true (aQ v9 h9) h9) fun v10 h10 =>
 bnd (gD v8 true (aB 1 v10 h10) h10) fun v11 h11 =>
 bnd (gD v8 true (aA v11 h11) h11) fun v12 h12 =>
 bnd (gD v8 true (some (x7, h12)) h12) fun v13 h13 =>
 bnd (gD v8 true (aD .sub v12 v13 h13) h13) fun v14 h14 =>
 bnd (gD v8 true (some (x2, h14)) h14) fun v15 h15 =>
 bnd (gD v8 true (aD .lss v14 v15 h15) h15) fun v16 h16 =>
 bnd (aM v8 v16 (.b false) h16) fun v17 h17 =>
 bnd (gD v17 true (some (x1, h17)) h17) fun v18 h18 =>
 bnd (gD v17 true (some (x0, h18)) h18) fun v19 h19 =>
 bnd (gD v17 true (aQ v19 h19) h19) fun v20 h20 =>
 bnd (gD v17 true (aB 0 v20 h20) h20) fun v21 h21 =>
 bnd (gD v17 true (aA v21 h21) h21) fun v22 h22 =>
 bnd (gD v17 true (some (x0, h22)) h22) fun v23 h23 =>
 bnd (gD v17 true (aQ v23 h23) h23) fun v24 h24 =>
 bnd (gD v17 true (aB 1 v24 h24) h24) fun v25 h25 =>
 bnd (gD v17 true (aA v25 h25) h25) fun v26 h26 =>
 bnd (gD v17 true (eS v22 v26 h26) h26) fun v27 h27 =>
 bnd (gD v17 true (dE CF r v18 [v27] h27) h27) fun v28 h28 =>
 bnd (aM v17 v28 (.b false) h28) fun v29 h29 =>
 aS v29 (
 bnd (aQ x0 h29) fun v30 h30 =>
 bnd (aB 1 v30 h30) fun v31 h31 =>
 bnd (aA v31 h31) fun v32 h32 =>
 bnd (aD .add v32 (aE 1) h32) fun v33 h33 =>
 bnd (aQ x0 h33) fun v34 h34 =>
 bnd (aB 1 v34 h34) fun v35 h35 =>
 bnd (aF 1 v35 v33 h35) fun _ h36 =>
      kk4 x0 x1 x2 x7 h36) (
      eW r n x0 x7 h29)
noncomputable def qQ (r : RT) (n : Nat) (m : Nat) : dM :=
 Nat.rec (motive := fun _ => dM) (fun _ _ _ _ _ => none) (fun _ ih => aRg r n ih) m
noncomputable def bPn (r : RT) (n : Nat) : dM := qQ r n n
noncomputable def aLw (r : RT) (n : Nat) (x0 x1 x2 x7 : DV) (h0 : Hp) : aH :=
 bPn r n x0 x1 x2 x7 h0
noncomputable def aJm (r : RT) (n : Nat) (x0 x1 x2 : DV) (h0 : Hp) : aH :=
 bnd (aQ x0 h0) fun v1 h1 =>
 bnd (aB 1 v1 h1) fun v2 h2 =>
 bnd (aA v2 h2) fun v3 h3 =>
  aLw r n x0 x1 x2 v3 h3
noncomputable def s197 (r : RT) (n : Nat) (x0 x1 x2 : DV) (h0 : Hp) : aH :=
 aJm r n x0 x1 x2 h0
noncomputable abbrev c197 : Code := cf Tryz.f197
noncomputable abbrev zM : Code := cR c197
noncomputable abbrev aFj : Code := cR zM
noncomputable abbrev cRk : Code := cR aFj
noncomputable abbrev aGa : Code := cL aFj
noncomputable abbrev aFs : Code := cL aGa
noncomputable abbrev mU : Code := cL aFs
noncomputable abbrev bKd : Code := cL zM
noncomputable abbrev bMd : Code := cL c197
noncomputable abbrev r197 : K := aO CF Tryz.f197
noncomputable def D197 (r : RT) (n : Nat) (c : Code) (X : Nat → K) (k : K) : K := aP CF r 62 n c X r197 k
theorem cBn : D197 r n cRk x0 r197 = (K2 (eW r n) 0 7) :=
 (by kernel_rfl)
theorem bLe (kk4 : dM) : D197 r n mU (xs x0 0 (K2 (eW r n) 0 7)) (K4 kk4 0 1 2 7) = (K4 (aRg r n kk4) 0 1 2 7) :=
 (by kernel_rfl)
theorem bLb (m : Nat) : aN (fun kk => D197 r n mU (xs x0 0 (K2 (eW r n) 0 7)) kk) m = (K4 (qQ r n m) 0 1 2 7) := by
 induction m with
 | zero => exact (by kernel_rfl : aN (fun kk => D197 r n mU (xs x0 0 (K2 (eW r n) 0 7)) kk) 0 = (K4 (qQ r n 0) 0 1 2 7))
 | succ m ih =>
  refine (by kernel_rfl : aN (fun kk => D197 r n mU (xs x0 0 (K2 (eW r n) 0 7)) kk) (m + 1) = D197 r n mU (xs x0 0 (K2 (eW r n) 0 7)) (aN (fun kk => D197 r n mU (xs x0 0 (K2 (eW r n) 0 7)) kk) m)).trans ?_
  rw [ih]
  exact (bLe r n (qQ r n m)).trans (by kernel_rfl)
theorem bYi : D197 r n aFs (xs x0 0 (K2 (eW r n) 0 7)) (K2 (eW r n) 0 7) = (K4 (bPn r n) 0 1 2 7) :=
 (by kernel_rfl : D197 r n aFs (xs x0 0 (K2 (eW r n) 0 7)) (K2 (eW r n) 0 7) = aN (fun kk => D197 r n mU (xs x0 0 (K2 (eW r n) 0 7)) kk) n).trans ((bLb r n n).trans (by kernel_rfl))
theorem bSj : D197 r n aFj x0 r197 = D197 r n aGa x0 (K2 (eW r n) 0 7) :=
 congrArg (fun k => D197 r n aGa x0 k) (cBn r n)
theorem cFp : D197 r n aFj x0 r197 = (K4 (aLw r n) 0 1 2 7) :=
 (bSj r n).trans
 ((by kernel_rfl : D197 r n aGa x0 (K2 (eW r n) 0 7) = D197 r n aFs (xs x0 0 (K2 (eW r n) 0 7)) (K2 (eW r n) 0 7)).trans
 ((bYi r n).trans (by kernel_rfl)))
theorem bMo : D197 r n zM x0 r197 = D197 r n bKd x0 (K4 (aLw r n) 0 1 2 7) :=
 congrArg (fun k => D197 r n bKd x0 k) (cFp r n)
theorem cCk : D197 r n zM x0 r197 = (K3 (aJm r n) 0 1 2) :=
 (bMo r n).trans
 ((by kernel_rfl))
theorem cHn : D197 r n c197 x0 r197 = D197 r n bMd x0 (K3 (aJm r n) 0 1 2) :=
 congrArg (fun k => D197 r n bMd x0 k) (cCk r n)
theorem cYs : D197 r n c197 x0 r197 = (K3 (s197 r n) 0 1 2) :=
 (cHn r n).trans
 ((by kernel_rfl))
theorem cPi : aG CF r n 197 args h = s197 r n (aR args 0) (aR args 1) (aR args 2) h :=
 (by kernel_rfl : aG CF r n 197 args h = D197 r n c197 x0 r197 (aJ args) h).trans ((congrFun (congrFun (cYs r n) (aJ args)) h).trans (by kernel_rfl))
noncomputable def s198 (r : RT) (n : Nat) (x0 : DV) (h0 : Hp) : aH :=
 bnd (bU x0 h0) fun v1 h1 =>
 some ((.f 228 [] [v1]), h1)
noncomputable abbrev c198 : Code := cf Tryz.f198
noncomputable abbrev r198 : K := aO CF Tryz.f198
noncomputable def D198 (r : RT) (n : Nat) (c : Code) (X : Nat → K) (k : K) : K := aP CF r 4 n c X r198 k
theorem cTo : D198 r n c198 x0 r198 = (K1 (s198 r n) 0) :=
 (by kernel_rfl)
theorem cJv : aG CF r n 198 args h = s198 r n (aR args 0) h :=
 (by kernel_rfl : aG CF r n 198 args h = D198 r n c198 x0 r198 (aJ args) h).trans ((congrFun (congrFun (cTo r n) (aJ args)) h).trans (by kernel_rfl))
noncomputable def s199 (r : RT) (n : Nat) (x0 x1 : DV) (h0 : Hp) : aH :=
 bnd (r 229 [x0, x1] h0) fun v1 h1 =>
 some (v1, h1)
noncomputable abbrev c199 : Code := cf Tryz.f199
noncomputable abbrev r199 : K := aO CF Tryz.f199
noncomputable def D199 (r : RT) (n : Nat) (c : Code) (X : Nat → K) (k : K) : K := aP CF r 8 n c X r199 k
theorem cVy : D199 r n c199 x0 r199 = (K2 (s199 r n) 0 1) :=
 (by kernel_rfl)
theorem cJm : aG CF r n 199 args h = s199 r n (aR args 0) (aR args 1) h :=
 (by kernel_rfl : aG CF r n 199 args h = D199 r n c199 x0 r199 (aJ args) h).trans ((congrFun (congrFun (cVy r n) (aJ args)) h).trans (by kernel_rfl))
noncomputable def gJ (r : RT) (n : Nat) (x2 x4 x5 : DV) (h0 : Hp) : aH :=
 bnd (aK 4 x4 h0) fun v1 h1 =>
 bnd (aF 4 x2 v1 h1) fun _ h2 =>
 bnd (aK 4 x2 h2) fun v3 _ =>
 some (.t [v3, x5], h2)
noncomputable def aPj (r : RT) (n : Nat) (x0 x2 x4 x5 x6 : DV) (h0 : Hp) : aH :=
 bnd (r 231 [x6] h0) fun v1 h1 =>
 aS v1 (
 bnd (aB 0 x4 h1) fun v2 h2 =>
 bnd (aF 1 v2 (aE 1) h2) fun _ h3 =>
 bnd (r 232 [x0] h3) fun v4 h4 =>
 bnd (aC 0 v4 h4) fun v5 h5 =>
 bnd (aC 1 v4 h5) fun v6 h6 =>
 bnd (aB 1 x4 h6) fun v7 h7 =>
 bnd (aF 1 v7 v5 h7) fun _ h8 =>
 bnd (aD .eql v6 (aE 0) h8) fun v9 h9 =>
 bnd (gD v9 true (some (x0, h9)) h9) fun v10 h10 =>
 bnd (gD v9 true (r 233 [v10] h10) h10) fun v11 h11 =>
 bnd (aM v9 v11 (.b false) h11) fun v12 h12 =>
 aS v12 (
 bnd (aB 1 x4 h12) fun v13 h13 =>
 bnd (aA v13 h13) fun v14 h14 =>
 bnd (eB .add v14 (.s [58]) h14) fun v15 h15 =>
 bnd (aB 0 x4 h15) fun v16 h16 =>
 bnd (aF 1 v16 (aE 2) h16) fun _ h17 =>
 bnd (aB 1 x4 h17) fun v18 h18 =>
 bnd (aF 1 v18 v15 h18) fun _ h19 =>
      gJ r n x2 x4 v6 h19) (
      gJ r n x2 x4 v6 h12)) (
 bnd (r 234 [x6] h1) fun v20 h20 =>
 aS v20 (
 bnd (aB 0 x4 h20) fun v21 h21 =>
 bnd (aF 1 v21 (aE 4) h21) fun _ h22 =>
 bnd (r 235 [x0] h22) fun v23 h23 =>
 bnd (aC 0 v23 h23) fun v24 h24 =>
 bnd (aC 1 v23 h24) fun v25 h25 =>
 bnd (aB 2 x4 h25) fun v26 h26 =>
 bnd (aF 1 v26 v24 h26) fun _ h27 =>
      gJ r n x2 x4 v25 h27) (
 bnd (aD .eql x6 (.i .u8 (Int.ofNat 39)) h20) fun v28 h28 =>
 aS v28 (
 bnd (aQ x0 h28) fun v29 h29 =>
 bnd (aB 1 v29 h29) fun v30 h30 =>
 bnd (aA v30 h30) fun v31 h31 =>
 bnd (aD .add v31 (aE 1) h31) fun v32 h32 =>
 bnd (aQ x0 h32) fun v33 h33 =>
 bnd (aB 1 v33 h33) fun v34 h34 =>
 bnd (aF 1 v34 v32 h34) fun _ h35 =>
 bnd (aB 0 x4 h35) fun v36 h36 =>
 bnd (aF 1 v36 (aE 5) h36) fun _ h37 =>
 bnd (r 236 [x0] h37) fun v38 h38 =>
 bnd (aC 0 v38 h38) fun v39 h39 =>
 bnd (aC 1 v38 h39) fun v40 h40 =>
 bnd (aB 1 x4 h40) fun v41 h41 =>
 bnd (aF 1 v41 v39 h41) fun _ h42 =>
    gJ r n x2 x4 v40 h42) (
 bnd (aD .eql x6 (.i .u8 (Int.ofNat 35)) h28) fun v43 h43 =>
 bnd (gD v43 true (some (x0, h43)) h43) fun v44 h44 =>
 bnd (gD v43 true (r 230 [v44, (aE 1)] h44) h44) fun v45 h45 =>
 bnd (gD v43 true (aD .eql v45 (.i .u8 (Int.ofNat 40)) h45) h45) fun v46 h46 =>
 bnd (aM v43 v46 (.b false) h46) fun v47 h47 =>
 aS v47 (
 bnd (aQ x0 h47) fun v48 h48 =>
 bnd (aB 1 v48 h48) fun v49 h49 =>
 bnd (aA v49 h49) fun v50 h50 =>
 bnd (aD .add v50 (aE 2) h50) fun v51 h51 =>
 bnd (aQ x0 h51) fun v52 h52 =>
 bnd (aB 1 v52 h52) fun v53 h53 =>
 bnd (aF 1 v53 v51 h53) fun _ h54 =>
 bnd (aB 0 x4 h54) fun v55 h55 =>
 bnd (aF 1 v55 (aE 7) h55) fun _ h56 =>
     gJ r n x2 x4 x5 h56) (
 bnd (aD .eql x6 (.i .u8 (Int.ofNat 35)) h47) fun v57 h57 =>
 aS v57 (
 bnd (aQ x0 h57) fun v58 h58 =>
 bnd (aB 1 v58 h58) fun v59 h59 =>
 bnd (aA v59 h59) fun v60 h60 =>
 bnd (aD .add v60 (aE 1) h60) fun v61 h61 =>
 bnd (aQ x0 h61) fun v62 h62 =>
 bnd (aB 1 v62 h62) fun v63 h63 =>
 bnd (aF 1 v63 v61 h63) fun _ h64 =>
 bnd (aB 0 x4 h64) fun v65 h65 =>
 bnd (aF 1 v65 (aE 6) h65) fun _ h66 =>
 bnd (r 237 [x0] h66) fun v67 h67 =>
 bnd (aC 0 v67 h67) fun v68 h68 =>
 bnd (aC 1 v67 h68) fun v69 h69 =>
 bnd (aB 1 x4 h69) fun v70 h70 =>
 bnd (aF 1 v70 v68 h70) fun _ h71 =>
      gJ r n x2 x4 v69 h71) (
 bnd (aD .eql x6 (.i .u8 (Int.ofNat 58)) h57) fun v72 h72 =>
 bnd (gD v72 true (some (x0, h72)) h72) fun v73 h73 =>
 bnd (gD v72 true (r 230 [v73, (aE 1)] h73) h73) fun v74 h74 =>
 bnd (gD v72 true (aD .eql v74 (.i .u8 (Int.ofNat 61)) h74) h74) fun v75 h75 =>
 bnd (aM v72 v75 (.b false) h75) fun v76 h76 =>
 aS v76 (
 bnd (aQ x0 h76) fun v77 h77 =>
 bnd (aB 1 v77 h77) fun v78 h78 =>
 bnd (aA v78 h78) fun v79 h79 =>
 bnd (aD .add v79 (aE 2) h79) fun v80 h80 =>
 bnd (aQ x0 h80) fun v81 h81 =>
 bnd (aB 1 v81 h81) fun v82 h82 =>
 bnd (aF 1 v82 v80 h82) fun _ h83 =>
 bnd (aB 0 x4 h83) fun v84 h84 =>
 bnd (aF 1 v84 (aE 9) h84) fun _ h85 =>
       gJ r n x2 x4 x5 h85) (
 bnd (aD .eql x6 (.i .u8 (Int.ofNat 58)) h76) fun v86 h86 =>
 bnd (gD v86 true (some (x0, h86)) h86) fun v87 h87 =>
 bnd (gD v86 true (r 230 [v87, (aE 1)] h87) h87) fun v88 h88 =>
 bnd (gD v86 true (r 231 [v88] h88) h88) fun v89 h89 =>
 bnd (aM v86 v89 (.b false) h89) fun v90 h90 =>
 aS v90 (
 bnd (aQ x0 h90) fun v91 h91 =>
 bnd (aB 1 v91 h91) fun v92 h92 =>
 bnd (aA v92 h92) fun v93 h93 =>
 bnd (aD .add v93 (aE 1) h93) fun v94 h94 =>
 bnd (aQ x0 h94) fun v95 h95 =>
 bnd (aB 1 v95 h95) fun v96 h96 =>
 bnd (aF 1 v96 v94 h96) fun _ h97 =>
 bnd (aB 0 x4 h97) fun v98 h98 =>
 bnd (aF 1 v98 (aE 8) h98) fun _ h99 =>
 bnd (r 232 [x0] h99) fun v100 h100 =>
 bnd (aC 0 v100 h100) fun v101 h101 =>
 bnd (aC 1 v100 h101) fun v102 h102 =>
 bnd (aB 1 x4 h102) fun v103 h103 =>
 bnd (aF 1 v103 v101 h103) fun _ h104 =>
        gJ r n x2 x4 v102 h104) (
 bnd (r 198 [(.s [43, 45, 42, 47, 60, 62, 61, 126, 44, 64, 38, 37])] h90) fun v105 h105 =>
 bnd (dE CF r v105 [x6] h105) fun v106 h106 =>
 aS v106 (
 bnd (r 198 [(.s [43, 45, 42, 47, 60, 62, 61, 126, 44, 64, 38, 37])] h106) fun v107 h107 =>
 bnd (r 197 [x0, v107, (aE 2)] h107) fun v108 h108 =>
 bnd (aB 0 x4 h108) fun v109 h109 =>
 bnd (aF 1 v109 (aE 3) h109) fun _ h110 =>
 bnd (aB 1 x4 h110) fun v111 h111 =>
 bnd (aF 1 v111 v108 h111) fun _ h112 =>
         gJ r n x2 x4 x5 h112) (
 bnd (r 198 [(.s [94, 46, 59, 40, 41, 91, 93, 124])] h106) fun v113 h113 =>
 bnd (dE CF r v113 [x6] h113) fun v114 h114 =>
 aS v114 (
 bnd (r 198 [(.s [94, 46, 59, 40, 41, 91, 93, 124])] h114) fun v115 h115 =>
 bnd (r 197 [x0, v115, (aE 1)] h115) fun v116 h116 =>
 bnd (aB 0 x4 h116) fun v117 h117 =>
 bnd (aF 1 v117 (aE 10) h117) fun _ h118 =>
 bnd (aB 1 x4 h118) fun v119 h119 =>
 bnd (aF 1 v119 v116 h119) fun _ h120 =>
          gJ r n x2 x4 x5 h120) (
          gJ r n x2 x4 (aE 10) h114)))))))))
noncomputable def aJr (r : RT) (n : Nat) (x0 x2 x4 x5 : DV) (h0 : Hp) : aH :=
 bnd (r 230 [x0, (aE 0)] h0) fun v1 h1 =>
  aPj r n x0 x2 x4 x5 v1 h1
noncomputable def tW (r : RT) (n : Nat) (x0 x2 x4 : DV) (h0 : Hp) : aH :=
 aJr r n x0 x2 x4 (aE 0) h0
noncomputable def pD (r : RT) (n : Nat) (x0 x2 : DV) (h0 : Hp) : aH :=
 bnd (aQ x0 h0) fun v1 h1 =>
 bnd (aB 1 v1 h1) fun v2 h2 =>
 bnd (aA v2 h2) fun v3 h3 =>
 bnd (aZ [(aE 0), (.s []), (aE 0), (aE 0)] [(3, 1, v3)] h3) fun v4 h4 =>
 bnd (bI [(aE 0), (.s []), (aE 0), (aE 0)] h4) fun v5 h5 =>
 bnd (aF 4 v5 v4 h5) fun _ h6 =>
  tW r n x0 x2 v5 h6
noncomputable def s200 (r : RT) (n : Nat) (x0 : DV) (h0 : Hp) : aH :=
 bnd (bI [(aE 0), (.s []), (aE 0), (aE 0)] h0) fun v1 h1 =>
  pD r n x0 v1 h1
noncomputable abbrev c200 : Code := cf Tryz.f200
noncomputable abbrev aCm : Code := cR c200
noncomputable abbrev zS : Code := cR aCm
noncomputable abbrev aCr : Code := cR zS
noncomputable abbrev zB : Code := cR aCr
noncomputable abbrev cKf : Code := cR zB
noncomputable abbrev bGg : Code := cL zB
noncomputable abbrev bQv : Code := cL aCr
noncomputable abbrev bOd : Code := cL zS
noncomputable abbrev aMs : Code := cL aCm
noncomputable abbrev aBf : Code := cL c200
noncomputable abbrev r200 : K := aO CF Tryz.f200
noncomputable def D200 (r : RT) (n : Nat) (c : Code) (X : Nat → K) (k : K) : K := aP CF r 153 n c X r200 k
theorem bVo : D200 r n cKf x0 r200 = (K3 (gJ r n) 2 4 5) :=
 (by kernel_rfl)
theorem bNd : D200 r n zB x0 r200 = D200 r n bGg x0 (K3 (gJ r n) 2 4 5) :=
 congrArg (fun k => D200 r n bGg x0 k) (bVo r n)
theorem cCe : D200 r n zB x0 r200 = (K5 (aPj r n) 0 2 4 5 6) :=
 (bNd r n).trans
 ((by kernel_rfl))
theorem bGw : D200 r n aCr x0 r200 = D200 r n bQv x0 (K5 (aPj r n) 0 2 4 5 6) :=
 congrArg (fun k => D200 r n bQv x0 k) (cCe r n)
theorem bXn : D200 r n aCr x0 r200 = (K4 (aJr r n) 0 2 4 5) :=
 (bGw r n).trans
 ((by kernel_rfl))
theorem bKu : D200 r n zS x0 r200 = D200 r n bOd x0 (K4 (aJr r n) 0 2 4 5) :=
 congrArg (fun k => D200 r n bOd x0 k) (bXn r n)
theorem cEi : D200 r n zS x0 r200 = (K3 (tW r n) 0 2 4) :=
 (bKu r n).trans
 ((by kernel_rfl))
theorem bDf : D200 r n aCm x0 r200 = D200 r n aMs x0 (K3 (tW r n) 0 2 4) :=
 congrArg (fun k => D200 r n aMs x0 k) (cEi r n)
theorem bMy (q0 : lO) : D200 r n aMs x0 (K3 q0 0 2 4) = fun (env : aU) (h : Hp) =>
 bnd (aQ (env 0) h) fun v1 h1 =>
 bnd (aB 1 v1 h1) fun v2 h2 =>
 bnd (aA v2 h2) fun v3 h3 =>
 bnd (aZ [(aE 0), (.s []), (aE 0), (aE 0)] [(3, 1, v3)] h3) fun v4 h4 =>
 bnd (bI [(aE 0), (.s []), (aE 0), (aE 0)] h4) fun v5 h5 =>
 bnd (aF 4 v5 v4 h5) fun _ h6 =>
  q0 (env 0) (env 2) v5 h6 := by kernel_rfl
theorem aZn : (fun (env : aU) (h : Hp) =>
 bnd (aQ (env 0) h) fun v1 h1 =>
 bnd (aB 1 v1 h1) fun v2 h2 =>
 bnd (aA v2 h2) fun v3 h3 =>
 bnd (aZ [(aE 0), (.s []), (aE 0), (aE 0)] [(3, 1, v3)] h3) fun v4 h4 =>
 bnd (bI [(aE 0), (.s []), (aE 0), (aE 0)] h4) fun v5 h5 =>
 bnd (aF 4 v5 v4 h5) fun _ h6 =>
  tW r n (env 0) (env 2) v5 h6) = (K2 (pD r n) 0 2) := by kernel_rfl
theorem bZa : D200 r n aCm x0 r200 = (K2 (pD r n) 0 2) :=
 (bDf r n).trans
 ((bMy r n (tW r n)).trans (aZn r n))
theorem cOe : D200 r n c200 x0 r200 = D200 r n aBf x0 (K2 (pD r n) 0 2) :=
 congrArg (fun k => D200 r n aBf x0 k) (bZa r n)
theorem cJb (q0 : gF) : D200 r n aBf x0 (K2 q0 0 2) = fun (env : aU) (h : Hp) =>
 bnd (bI [(aE 0), (.s []), (aE 0), (aE 0)] h) fun v1 h1 =>
  q0 (env 0) v1 h1 := by kernel_rfl
theorem cAm : (fun (env : aU) (h : Hp) =>
 bnd (bI [(aE 0), (.s []), (aE 0), (aE 0)] h) fun v1 h1 =>
  pD r n (env 0) v1 h1) = (K1 (s200 r n) 0) := by kernel_rfl
theorem cXp : D200 r n c200 x0 r200 = (K1 (s200 r n) 0) :=
 (cOe r n).trans
 ((cJb r n (pD r n)).trans (cAm r n))
theorem cPl : aG CF r n 200 args h = s200 r n (aR args 0) h :=
 (by kernel_rfl : aG CF r n 200 args h = D200 r n c200 x0 r200 (aJ args) h).trans ((congrFun (congrFun (cXp r n) (aJ args)) h).trans (by kernel_rfl))
noncomputable def s201 (r : RT) (n : Nat) (x0 x1 x2 : DV) (h0 : Hp) : aH :=
 bnd (r 205 [x0, (aE 0)] h0) fun v1 h1 =>
 bnd (bI [(aE 0), (.s []), (aE 0), (aE 0)] h1) fun v2 h2 =>
 bnd (aF 4 v2 v1 h2) fun _ h3 =>
 bnd (aQ x0 h3) fun v4 h4 =>
 bnd (aB 3 v4 h4) fun v5 h5 =>
 bnd (aA v5 h5) fun v6 h6 =>
 bnd (aD .eql v6 (aE 0) h6) fun v7 h7 =>
 bnd (gD v7 true (aB 0 v2 h7) h7) fun v8 h8 =>
 bnd (gD v7 true (aA v8 h8) h8) fun v9 h9 =>
 bnd (gD v7 true (some (x1, h9)) h9) fun v10 h10 =>
 bnd (gD v7 true (aD .eql v9 v10 h10) h10) fun v11 h11 =>
 bnd (aM v7 v11 (.b false) h11) fun v12 h12 =>
 bnd (gD v12 true (some (x2, h12)) h12) fun v13 h13 =>
 bnd (gD v12 true (eB .eql v13 (.s []) h13) h13) fun v14 h14 =>
 bnd (gD v12 true (some (v14, h14)) h14) fun v15 h15 =>
 bnd (gD v15 false (aB 1 v2 h15) h15) fun v16 h16 =>
 bnd (gD v15 false (aA v16 h16) h16) fun v17 h17 =>
 bnd (gD v15 false (some (x2, h17)) h17) fun v18 h18 =>
 bnd (gD v15 false (eB .eql v17 v18 h18) h18) fun v19 h19 =>
 bnd (gD v12 true (aM v15 (.b true) v19 h19) h19) fun v20 h20 =>
 bnd (aM v12 v20 (.b false) h20) fun v21 h21 =>
 some (v21, h21)
noncomputable abbrev c201 : Code := cf Tryz.f201
noncomputable abbrev r201 : K := aO CF Tryz.f201
noncomputable def D201 (r : RT) (n : Nat) (c : Code) (X : Nat → K) (k : K) : K := aP CF r 31 n c X r201 k
theorem cXm : D201 r n c201 x0 r201 = (K3 (s201 r n) 0 1 2) :=
 (by kernel_rfl)
theorem cNx : aG CF r n 201 args h = s201 r n (aR args 0) (aR args 1) (aR args 2) h :=
 (by kernel_rfl : aG CF r n 201 args h = D201 r n c201 x0 r201 (aJ args) h).trans ((congrFun (congrFun (cXm r n) (aJ args)) h).trans (by kernel_rfl))
noncomputable def aBq (r : RT) (n : Nat) (x2 x3 : DV) (h0 : Hp) : aH :=
 bnd (aK 4 x3 h0) fun v1 h1 =>
 bnd (aF 4 x2 v1 h1) fun _ h2 =>
 bnd (aK 4 x2 h2) fun v3 _ =>
 some (v3, h2)
noncomputable def uY (r : RT) (n : Nat) (x0 x2 x3 : DV) (h0 : Hp) : aH :=
 bnd (aB 0 x3 h0) fun v1 h1 =>
 bnd (aA v1 h1) fun v2 h2 =>
 bnd (aD .neq v2 (aE 0) h2) fun v3 h3 =>
 aS v3 (
 bnd (aQ x0 h3) fun v4 h4 =>
 bnd (aB 0 v4 h4) fun v5 h5 =>
 bnd (aA v5 h5) fun v6 h6 =>
 bnd (cI 4 v6 (some (aE 1)) none h6) fun v7 h7 =>
 bnd (aQ x0 h7) fun v8 h8 =>
 bnd (aB 0 v8 h8) fun v9 h9 =>
 bnd (aF 1 v9 v7 h9) fun _ h10 =>
  aBq r n x2 x3 h10) (
  aBq r n x2 x3 h3)
noncomputable def oS (r : RT) (n : Nat) (x0 x2 : DV) (h0 : Hp) : aH :=
 bnd (r 205 [x0, (aE 0)] h0) fun v1 h1 =>
 bnd (bI [(aE 0), (.s []), (aE 0), (aE 0)] h1) fun v2 h2 =>
 bnd (aF 4 v2 v1 h2) fun _ h3 =>
  uY r n x0 x2 v2 h3
noncomputable def s202 (r : RT) (n : Nat) (x0 : DV) (h0 : Hp) : aH :=
 bnd (bI [(aE 0), (.s []), (aE 0), (aE 0)] h0) fun v1 h1 =>
  oS r n x0 v1 h1
noncomputable abbrev c202 : Code := cf Tryz.f202
noncomputable abbrev aDo : Code := cR c202
noncomputable abbrev aFl : Code := cR aDo
noncomputable abbrev cOa : Code := cR aFl
noncomputable abbrev bJf : Code := cL aFl
noncomputable abbrev aNb : Code := cL aDo
noncomputable abbrev aLd : Code := cL c202
noncomputable abbrev r202 : K := aO CF Tryz.f202
noncomputable def D202 (r : RT) (n : Nat) (c : Code) (X : Nat → K) (k : K) : K := aP CF r 18 n c X r202 k
theorem cAi : D202 r n cOa x0 r202 = (K2 (aBq r n) 2 3) :=
 (by kernel_rfl)
theorem bBn : D202 r n aFl x0 r202 = D202 r n bJf x0 (K2 (aBq r n) 2 3) :=
 congrArg (fun k => D202 r n bJf x0 k) (cAi r n)
theorem bXw : D202 r n aFl x0 r202 = (K3 (uY r n) 0 2 3) :=
 (bBn r n).trans
 ((by kernel_rfl))
theorem bKe : D202 r n aDo x0 r202 = D202 r n aNb x0 (K3 (uY r n) 0 2 3) :=
 congrArg (fun k => D202 r n aNb x0 k) (bXw r n)
theorem bCy (q0 : lO) : D202 r n aNb x0 (K3 q0 0 2 3) = fun (env : aU) (h : Hp) =>
 bnd (r 205 [(env 0), (aE 0)] h) fun v1 h1 =>
 bnd (bI [(aE 0), (.s []), (aE 0), (aE 0)] h1) fun v2 h2 =>
 bnd (aF 4 v2 v1 h2) fun _ h3 =>
  q0 (env 0) (env 2) v2 h3 := by kernel_rfl
theorem aZy : (fun (env : aU) (h : Hp) =>
 bnd (r 205 [(env 0), (aE 0)] h) fun v1 h1 =>
 bnd (bI [(aE 0), (.s []), (aE 0), (aE 0)] h1) fun v2 h2 =>
 bnd (aF 4 v2 v1 h2) fun _ h3 =>
  uY r n (env 0) (env 2) v2 h3) = (K2 (oS r n) 0 2) := by kernel_rfl
theorem cEz : D202 r n aDo x0 r202 = (K2 (oS r n) 0 2) :=
 (bKe r n).trans
 ((bCy r n (uY r n)).trans (aZy r n))
theorem cQe : D202 r n c202 x0 r202 = D202 r n aLd x0 (K2 (oS r n) 0 2) :=
 congrArg (fun k => D202 r n aLd x0 k) (cEz r n)
theorem cNd (q0 : gF) : D202 r n aLd x0 (K2 q0 0 2) = fun (env : aU) (h : Hp) =>
 bnd (bI [(aE 0), (.s []), (aE 0), (aE 0)] h) fun v1 h1 =>
  q0 (env 0) v1 h1 := by kernel_rfl
theorem bVp : (fun (env : aU) (h : Hp) =>
 bnd (bI [(aE 0), (.s []), (aE 0), (aE 0)] h) fun v1 h1 =>
  oS r n (env 0) v1 h1) = (K1 (s202 r n) 0) := by kernel_rfl
theorem cTr : D202 r n c202 x0 r202 = (K1 (s202 r n) 0) :=
 (cQe r n).trans
 ((cNd r n (oS r n)).trans (bVp r n))
theorem cNu : aG CF r n 202 args h = s202 r n (aR args 0) h :=
 (by kernel_rfl : aG CF r n 202 args h = D202 r n c202 x0 r202 (aJ args) h).trans ((congrFun (congrFun (cTr r n) (aJ args)) h).trans (by kernel_rfl))
noncomputable def s203 (r : RT) (n : Nat) (x0 : DV) (h0 : Hp) : aH :=
 bnd (bI gC h0) fun v1 h1 =>
 bnd (r 201 [x0, (aE 1), (.s [])] h1) fun v2 h2 =>
 bnd (gD v2 true (some (x0, h2)) h2) fun v3 h3 =>
 bnd (gD v2 true (r 205 [v3, (aE 1)] h3) h3) fun v4 h4 =>
 bnd (gD v2 true (eX 0 v4 h4) h4) fun v5 h5 =>
 bnd (gD v2 true (aD .eql v5 (aE 9) h5) h5) fun v6 h6 =>
 bnd (aM v2 v6 (.b false) h6) fun v7 h7 =>
 aS v7 (
 bnd (r 202 [x0] h7) fun v8 h8 =>
 bnd (eX 1 v8 h8) fun v9 h9 =>
 bnd (aZ gC [(0, 1, (aE 6)), (1, 1, v9)] h9) fun v10 h10 =>
 bnd (bI gC h10) fun v11 h11 =>
 bnd (aF 6 v11 v10 h11) fun _ h12 =>
 bnd (r 202 [x0] h12) fun v13 h13 =>
 bnd (r 203 [x0] h13) fun v14 h14 =>
 bnd (aL gC 1 [(0, 6, v14)] h14) fun v15 h15 =>
 bnd (aB 5 v11 h15) fun v16 h16 =>
 bnd (aF 1 v16 v15 h16) fun _ h17 =>
 bnd (aK 6 v11 h17) fun v18 h18 =>
 bnd (aF 6 v1 v18 h18) fun _ h19 =>
 bnd (aK 6 v1 h19) fun v20 _ =>
 some (v20, h19)) (
 bnd (r 238 [x0] h7) fun v21 h21 =>
 bnd (aF 6 v1 v21 h21) fun _ h22 =>
 bnd (aK 6 v1 h22) fun v23 _ =>
 some (v23, h22))
noncomputable abbrev c203 : Code := cf Tryz.f203
noncomputable abbrev r203 : K := aO CF Tryz.f203
noncomputable def D203 (r : RT) (n : Nat) (c : Code) (X : Nat → K) (k : K) : K := aP CF r 25 n c X r203 k
theorem cTq : D203 r n c203 x0 r203 = (K1 (s203 r n) 0) :=
 (by kernel_rfl)
theorem cKj : aG CF r n 203 args h = s203 r n (aR args 0) h :=
 (by kernel_rfl : aG CF r n 203 args h = D203 r n c203 x0 r203 (aJ args) h).trans ((congrFun (congrFun (cTq r n) (aJ args)) h).trans (by kernel_rfl))
noncomputable def s205 (r : RT) (n : Nat) (x0 x1 : DV) (h0 : Hp) : aH :=
 bnd (bI [(aE 0), (.s []), (aE 0), (aE 0)] h0) fun v1 h1 =>
 bnd (aQ x0 h1) fun v2 h2 =>
 bnd (aB 0 v2 h2) fun v3 h3 =>
 bnd (aA v3 h3) fun v4 h4 =>
 bnd (aQ x0 h4) fun v5 h5 =>
 bnd (aB 0 v5 h5) fun v6 h6 =>
 bnd (aA v6 h6) fun v7 h7 =>
 bnd (bS v7 h7) fun v8 h8 =>
 bnd (aD .sub v8 (aE 1) h8) fun v9 h9 =>
 bnd (aLu x1 v9 h9) fun v10 h10 =>
 bnd (aI 4 v4 v10 h10) fun v11 h11 =>
 bnd (aK 4 v11 h11) fun v12 h12 =>
 bnd (aF 4 v1 v12 h12) fun v13 h13 =>
 bnd (aK 4 v1 h13) fun v14 _ =>
 some (v14, h13)
noncomputable abbrev c205 : Code := cf Tryz.f205
noncomputable abbrev r205 : K := aO CF Tryz.f205
noncomputable def D205 (r : RT) (n : Nat) (c : Code) (X : Nat → K) (k : K) : K := aP CF r 19 n c X r205 k
theorem cTb : D205 r n c205 x0 r205 = (K2 (s205 r n) 0 1) :=
 (by kernel_rfl)
theorem cOu : aG CF r n 205 args h = s205 r n (aR args 0) (aR args 1) h :=
 (by kernel_rfl : aG CF r n 205 args h = D205 r n c205 x0 r205 (aJ args) h).trans ((congrFun (congrFun (cTb r n) (aJ args)) h).trans (by kernel_rfl))
noncomputable def yC (r : RT) (n : Nat) (x7 : DV) (h0 : Hp) : aH :=
 bnd (aB 1 x7 h0) fun v1 h1 =>
 bnd (aA v1 h1) fun v2 h2 =>
 some (v2, h2)
noncomputable def wH (r : RT) (n : Nat) (x0 x2 x7 : DV) (h0 : Hp) : aH :=
 bnd (bS x2 h0) fun v1 h1 =>
 bnd (aD .eql v1 (aE 4) h1) fun v2 h2 =>
 aS v2 (
 bnd (aK 4 x7 h2) fun v3 h3 =>
 bnd (r 204 [x0, v3, (aE 18)] h3) fun v4 h4 =>
  yC r n x7 h4) (
  yC r n x7 h2)
noncomputable def yP (r : RT) (n : Nat) (x0 x1 x2 : DV) (h0 : Hp) : aH :=
 bnd (r 157 [x0, x1, (.s [])] h0) fun v1 h1 =>
 bnd (bI [(aE 0), (.s []), (aE 0), (aE 0)] h1) fun v2 h2 =>
 bnd (aF 4 v2 v1 h2) fun _ h3 =>
  wH r n x0 x2 v2 h3
noncomputable def s206 (r : RT) (n : Nat) (x0 x1 x2 : DV) (h0 : Hp) : aH :=
 yP r n x0 x1 x2 h0
noncomputable abbrev c206 : Code := cf Tryz.f206
noncomputable abbrev aAr : Code := cR c206
noncomputable abbrev aFg : Code := cR aAr
noncomputable abbrev cLg : Code := cR aFg
noncomputable abbrev bKx : Code := cL aFg
noncomputable abbrev aKh : Code := cL aAr
noncomputable abbrev bNw : Code := cL c206
noncomputable abbrev r206 : K := aO CF Tryz.f206
noncomputable def D206 (r : RT) (n : Nat) (c : Code) (X : Nat → K) (k : K) : K := aP CF r 19 n c X r206 k
theorem bSv : D206 r n cLg x0 r206 = (K1 (yC r n) 7) :=
 (by kernel_rfl)
theorem bQt : D206 r n aFg x0 r206 = D206 r n bKx x0 (K1 (yC r n) 7) :=
 congrArg (fun k => D206 r n bKx x0 k) (bSv r n)
theorem cBr : D206 r n aFg x0 r206 = (K3 (wH r n) 0 2 7) :=
 (bQt r n).trans
 ((by kernel_rfl))
theorem bMr : D206 r n aAr x0 r206 = D206 r n aKh x0 (K3 (wH r n) 0 2 7) :=
 congrArg (fun k => D206 r n aKh x0 k) (cBr r n)
theorem bMl (q0 : lO) : D206 r n aKh x0 (K3 q0 0 2 7) = fun (env : aU) (h : Hp) =>
 bnd (r 157 [(env 0), (env 1), (.s [])] h) fun v1 h1 =>
 bnd (bI [(aE 0), (.s []), (aE 0), (aE 0)] h1) fun v2 h2 =>
 bnd (aF 4 v2 v1 h2) fun _ h3 =>
  q0 (env 0) (env 2) v2 h3 := by kernel_rfl
theorem aZd : (fun (env : aU) (h : Hp) =>
 bnd (r 157 [(env 0), (env 1), (.s [])] h) fun v1 h1 =>
 bnd (bI [(aE 0), (.s []), (aE 0), (aE 0)] h1) fun v2 h2 =>
 bnd (aF 4 v2 v1 h2) fun _ h3 =>
  wH r n (env 0) (env 2) v2 h3) = (K3 (yP r n) 0 1 2) := by kernel_rfl
theorem cAf : D206 r n aAr x0 r206 = (K3 (yP r n) 0 1 2) :=
 (bMr r n).trans
 ((bMl r n (wH r n)).trans (aZd r n))
theorem cOt : D206 r n c206 x0 r206 = D206 r n bNw x0 (K3 (yP r n) 0 1 2) :=
 congrArg (fun k => D206 r n bNw x0 k) (cAf r n)
theorem cVn : D206 r n c206 x0 r206 = (K3 (s206 r n) 0 1 2) :=
 (cOt r n).trans
 ((by kernel_rfl))
theorem cJr : aG CF r n 206 args h = s206 r n (aR args 0) (aR args 1) (aR args 2) h :=
 (by kernel_rfl : aG CF r n 206 args h = D206 r n c206 x0 r206 (aJ args) h).trans ((congrFun (congrFun (cVn r n) (aJ args)) h).trans (by kernel_rfl))
noncomputable def cQ (r : RT) (n : Nat) (kk2 : bX) (x0 x2 x10 x11 x12 : DV) (h0 : Hp) : aH :=
 bnd (aD .add x12 (aE 1) h0) fun v1 h1 =>
  kk2 x0 x2 x10 x11 v1 h1
noncomputable def wL (r : RT) (n : Nat) (kk2 : bX) (x0 x2 x7 x10 x11 x12 : DV) (h0 : Hp) : aH :=
 bnd (aQ x0 h0) fun v1 h1 =>
 bnd (aB 8 v1 h1) fun v2 h2 =>
 bnd (aA v2 h2) fun v3 h3 =>
 bnd (aD .neq v3 (aE 0) h3) fun v4 h4 =>
 aS v4 (
 some (.t [], h4)) (
 bnd (aQ x0 (resv 1 h4)) fun v5 h5 =>
 bnd (aB 6 v5 h5) fun v6 h6 =>
 bnd (aA v6 h6) fun v7 h7 =>
 bnd (aQ x0 h7) fun v8 h8 =>
 bnd (aB 0 v8 h8) fun v9 h9 =>
 bnd (aB 2 v9 h9) fun v10 h10 =>
 bnd (aA v10 h10) fun v11 h11 =>
 bnd (aZ [(.s []), (.b false), (.b false), (aE 0)] [(0, 1, x7), (1, 1, (.b false)), (2, 1, x2), (3, 1, v11)] h11) fun v12 h12 =>
 bnd (bH (bQ 0 h4.next) [(.s []), (.b false), (.b false), (aE 0)] 1 [(0, 4, v12)] h12) fun v13 h13 =>
 bnd (aX 4 32 v7 v13 h13) fun v14 h14 =>
 bnd (aQ x0 h14) fun v15 h15 =>
 bnd (aB 6 v15 h15) fun v16 h16 =>
 bnd (aF 1 v16 v14 h16) fun v17 h17 =>
 bnd (aQ x0 h17) fun v18 h18 =>
 bnd (aB 0 v18 h18) fun v19 h19 =>
 bnd (aB 2 v19 h19) fun v20 h20 =>
 bnd (aA v20 h20) fun v21 h21 =>
 bnd (aD .add v21 (aE 1) h21) fun v22 h22 =>
 bnd (aQ x0 h22) fun v23 h23 =>
 bnd (aB 0 v23 h23) fun v24 h24 =>
 bnd (aB 2 v24 h24) fun v25 h25 =>
 bnd (aF 1 v25 v22 h25) fun _ h26 =>
  cQ r n kk2 x0 x2 x10 x11 x12 h26)
noncomputable def nA (r : RT) (n : Nat) (kk2 : bX) (x0 x2 x7 x10 x11 x12 : DV) (h0 : Hp) : aH :=
 bnd (aQ x0 h0) fun v1 h1 =>
 bnd (aB 0 v1 h1) fun v2 h2 =>
 bnd (aB 2 v2 h2) fun v3 h3 =>
 bnd (aA v3 h3) fun v4 h4 =>
 bnd (aD .eql v4 (aE 24) h4) fun v5 h5 =>
 aS v5 (
 bnd (r 241 [x0, x7, (aE 18)] h5) fun v6 h6 =>
  wL r n kk2 x0 x2 x7 x10 x11 x12 h6) (
  wL r n kk2 x0 x2 x7 x10 x11 x12 h5)
noncomputable def aEb (r : RT) (n : Nat) (kk2 : bX) (x0 x2 x7 x10 x11 x12 : DV) (h0 : Hp) : aH :=
 bnd (r 239 [x0, x7] h0) fun v1 h1 =>
 bnd (aC 0 v1 h1) fun v2 h2 =>
 bnd (aC 1 v1 h2) fun v3 h3 =>
 bnd (bI [(.s []), (.b false), (.b false), (aE 0)] h3) fun v4 h4 =>
 bnd (aF 4 v4 v2 h4) fun _ h5 =>
 bnd (gD v3 false (some (x7, h5)) h5) fun v6 h6 =>
 bnd (gD v3 false (r 240 [v6] h6) h6) fun v7 h7 =>
 bnd (aM v3 (.b true) v7 h7) fun v8 h8 =>
 aS v8 (
 bnd (r 241 [x0, x7, (aE 16)] h8) fun v9 h9 =>
  nA r n kk2 x0 x2 x7 x10 x11 x12 h9) (
  nA r n kk2 x0 x2 x7 x10 x11 x12 h8)
noncomputable def aKg (r : RT) (n : Nat) (kk2 : bX) (x0 x2 x10 x11 x12 : DV) (h0 : Hp) : aH :=
 bnd (aI 1 x10 x12 h0) fun v1 h1 =>
 bnd (aA v1 h1) fun v2 h2 =>
  aEb r n kk2 x0 x2 v2 x10 x11 x12 h2
noncomputable def aLj (r : RT) (n : Nat) (kk2 : bX) (x0 x2 x10 x11 x12 x13 : DV) (h0 : Hp) : aH :=
 aS x13 (
  aKg r n kk2 x0 x2 x10 x11 x12 h0) (
 some (.t [], h0))
noncomputable def aVa (r : RT) (n : Nat) (kk2 : bX) (x0 x2 x10 x11 x12 : DV) (h0 : Hp) : aH :=
 bnd (aD .lss x12 x11 h0) fun v1 h1 =>
  aLj r n kk2 x0 x2 x10 x11 x12 v1 h1
noncomputable def rV (r : RT) (n : Nat) (m : Nat) : bX :=
 Nat.rec (motive := fun _ => bX) (fun _ _ _ _ _ _ => none) (fun _ ih => aVa r n ih) m
noncomputable def bJl (r : RT) (n : Nat) : bX := rV r n n
noncomputable def aNx (r : RT) (n : Nat) (x0 x2 x10 x11 x12 : DV) (h0 : Hp) : aH :=
 bJl r n x0 x2 x10 x11 x12 h0
noncomputable def s207 (r : RT) (n : Nat) (x0 x1 x2 : DV) (h0 : Hp) : aH :=
 bnd (bS x1 h0) fun v1 h1 =>
  aNx r n x0 x2 x1 v1 (aE 0) h1
noncomputable abbrev c207 : Code := cf Tryz.f207
noncomputable abbrev aPb : Code := cR c207
noncomputable abbrev aEt : Code := cL aPb
noncomputable abbrev iV : Code := cL aEt
noncomputable abbrev aCu : Code := cR iV
noncomputable abbrev aBk : Code := cR aCu
noncomputable abbrev cLr : Code := cR aBk
noncomputable abbrev aDb : Code := cL aBk
noncomputable abbrev aFc : Code := cL aDb
noncomputable abbrev zH : Code := cR aFc
noncomputable abbrev qM : Code := cR zH
noncomputable abbrev aRf : Code := cR qM
noncomputable abbrev aUn : Code := cL qM
noncomputable abbrev aFi : Code := cL zH
noncomputable abbrev aQu : Code := cL aFc
noncomputable abbrev aRi : Code := cL aCu
noncomputable abbrev aSp : Code := cL iV
noncomputable abbrev aUs : Code := cL c207
noncomputable abbrev r207 : K := aO CF Tryz.f207
noncomputable def D207 (r : RT) (n : Nat) (c : Code) (X : Nat → K) (k : K) : K := aP CF r 71 n c X r207 k
theorem bWs (kk2 : bX) : D207 r n cLr (xs x0 0 r207) (K5 kk2 0 2 10 11 12) = (K5 (cQ r n kk2) 0 2 10 11 12) :=
 (by kernel_rfl)
theorem bFk (kk2 : bX) (q0 : bX) : D207 r n aRf (xs (xs x0 0 r207) 1 (K5 q0 0 2 10 11 12)) (K5 q0 0 2 10 11 12) = fun (env : aU) (h : Hp) =>
 bnd (aQ (env 0) h) fun v1 h1 =>
 bnd (aB 8 v1 h1) fun v2 h2 =>
 bnd (aA v2 h2) fun v3 h3 =>
 bnd (aD .neq v3 (aE 0) h3) fun v4 h4 =>
 aS v4 (
 some (.t [], h4)) (
 bnd (aQ (env 0) (resv 1 h4)) fun v5 h5 =>
 bnd (aB 6 v5 h5) fun v6 h6 =>
 bnd (aA v6 h6) fun v7 h7 =>
 bnd (aQ (env 0) h7) fun v8 h8 =>
 bnd (aB 0 v8 h8) fun v9 h9 =>
 bnd (aB 2 v9 h9) fun v10 h10 =>
 bnd (aA v10 h10) fun v11 h11 =>
 bnd (aZ [(.s []), (.b false), (.b false), (aE 0)] [(0, 1, (env 7)), (1, 1, (.b false)), (2, 1, (env 2)), (3, 1, v11)] h11) fun v12 h12 =>
 bnd (bH (bQ 0 h4.next) [(.s []), (.b false), (.b false), (aE 0)] 1 [(0, 4, v12)] h12) fun v13 h13 =>
 bnd (aX 4 32 v7 v13 h13) fun v14 h14 =>
 bnd (aQ (env 0) h14) fun v15 h15 =>
 bnd (aB 6 v15 h15) fun v16 h16 =>
 bnd (aF 1 v16 v14 h16) fun v17 h17 =>
 bnd (aQ (env 0) h17) fun v18 h18 =>
 bnd (aB 0 v18 h18) fun v19 h19 =>
 bnd (aB 2 v19 h19) fun v20 h20 =>
 bnd (aA v20 h20) fun v21 h21 =>
 bnd (aD .add v21 (aE 1) h21) fun v22 h22 =>
 bnd (aQ (env 0) h22) fun v23 h23 =>
 bnd (aB 0 v23 h23) fun v24 h24 =>
 bnd (aB 2 v24 h24) fun v25 h25 =>
 bnd (aF 1 v25 v22 h25) fun _ h26 =>
      q0 (env 0) (env 2) (env 10) (env 11) (env 12) h26) := by kernel_rfl
theorem aZt (kk2 : bX) : (fun (env : aU) (h : Hp) =>
 bnd (aQ (env 0) h) fun v1 h1 =>
 bnd (aB 8 v1 h1) fun v2 h2 =>
 bnd (aA v2 h2) fun v3 h3 =>
 bnd (aD .neq v3 (aE 0) h3) fun v4 h4 =>
 aS v4 (
 some (.t [], h4)) (
 bnd (aQ (env 0) (resv 1 h4)) fun v5 h5 =>
 bnd (aB 6 v5 h5) fun v6 h6 =>
 bnd (aA v6 h6) fun v7 h7 =>
 bnd (aQ (env 0) h7) fun v8 h8 =>
 bnd (aB 0 v8 h8) fun v9 h9 =>
 bnd (aB 2 v9 h9) fun v10 h10 =>
 bnd (aA v10 h10) fun v11 h11 =>
 bnd (aZ [(.s []), (.b false), (.b false), (aE 0)] [(0, 1, (env 7)), (1, 1, (.b false)), (2, 1, (env 2)), (3, 1, v11)] h11) fun v12 h12 =>
 bnd (bH (bQ 0 h4.next) [(.s []), (.b false), (.b false), (aE 0)] 1 [(0, 4, v12)] h12) fun v13 h13 =>
 bnd (aX 4 32 v7 v13 h13) fun v14 h14 =>
 bnd (aQ (env 0) h14) fun v15 h15 =>
 bnd (aB 6 v15 h15) fun v16 h16 =>
 bnd (aF 1 v16 v14 h16) fun v17 h17 =>
 bnd (aQ (env 0) h17) fun v18 h18 =>
 bnd (aB 0 v18 h18) fun v19 h19 =>
 bnd (aB 2 v19 h19) fun v20 h20 =>
 bnd (aA v20 h20) fun v21 h21 =>
 bnd (aD .add v21 (aE 1) h21) fun v22 h22 =>
 bnd (aQ (env 0) h22) fun v23 h23 =>
 bnd (aB 0 v23 h23) fun v24 h24 =>
 bnd (aB 2 v24 h24) fun v25 h25 =>
 bnd (aF 1 v25 v22 h25) fun _ h26 =>
      cQ r n kk2 (env 0) (env 2) (env 10) (env 11) (env 12) h26)) = (K6 (wL r n kk2) 0 2 7 10 11 12) := by kernel_rfl
theorem cBg (kk2 : bX) : D207 r n aRf (xs (xs x0 0 r207) 1 (K5 (cQ r n kk2) 0 2 10 11 12)) (K5 (cQ r n kk2) 0 2 10 11 12) = (K6 (wL r n kk2) 0 2 7 10 11 12) :=
 (bFk r n kk2 (cQ r n kk2)).trans (aZt r n kk2)
theorem bMj (kk2 : bX) : D207 r n qM (xs (xs x0 0 r207) 1 (K5 (cQ r n kk2) 0 2 10 11 12)) (K5 (cQ r n kk2) 0 2 10 11 12) = D207 r n aUn (xs (xs x0 0 r207) 1 (K5 (cQ r n kk2) 0 2 10 11 12)) (K6 (wL r n kk2) 0 2 7 10 11 12) :=
 congrArg (fun k => D207 r n aUn (xs (xs x0 0 r207) 1 (K5 (cQ r n kk2) 0 2 10 11 12)) k) (cBg r n kk2)
theorem bSk (kk2 : bX) : D207 r n qM (xs (xs x0 0 r207) 1 (K5 (cQ r n kk2) 0 2 10 11 12)) (K5 (cQ r n kk2) 0 2 10 11 12) = (K6 (nA r n kk2) 0 2 7 10 11 12) :=
 (bMj r n kk2).trans
 ((by kernel_rfl))
theorem bEc (kk2 : bX) : D207 r n zH (xs (xs x0 0 r207) 1 (K5 (cQ r n kk2) 0 2 10 11 12)) (K5 (cQ r n kk2) 0 2 10 11 12) = D207 r n aFi (xs (xs x0 0 r207) 1 (K5 (cQ r n kk2) 0 2 10 11 12)) (K6 (nA r n kk2) 0 2 7 10 11 12) :=
 congrArg (fun k => D207 r n aFi (xs (xs x0 0 r207) 1 (K5 (cQ r n kk2) 0 2 10 11 12)) k) (bSk r n kk2)
theorem bNh (kk2 : bX) (q0 : eT) (q1 : bX) : D207 r n aFi (xs (xs x0 0 r207) 1 (K5 q1 0 2 10 11 12)) (K6 q0 0 2 7 10 11 12) = fun (env : aU) (h : Hp) =>
 bnd (r 239 [(env 0), (env 7)] h) fun v1 h1 =>
 bnd (aC 0 v1 h1) fun v2 h2 =>
 bnd (aC 1 v1 h2) fun v3 h3 =>
 bnd (bI [(.s []), (.b false), (.b false), (aE 0)] h3) fun v4 h4 =>
 bnd (aF 4 v4 v2 h4) fun _ h5 =>
 bnd (gD v3 false (some ((env 7), h5)) h5) fun v6 h6 =>
 bnd (gD v3 false (r 240 [v6] h6) h6) fun v7 h7 =>
 bnd (aM v3 (.b true) v7 h7) fun v8 h8 =>
 aS v8 (
 bnd (r 241 [(env 0), (env 7), (aE 16)] h8) fun v9 h9 =>
      q0 (env 0) (env 2) (env 7) (env 10) (env 11) (env 12) h9) (
      q0 (env 0) (env 2) (env 7) (env 10) (env 11) (env 12) h8) := by kernel_rfl
theorem aXz (kk2 : bX) : (fun (env : aU) (h : Hp) =>
 bnd (r 239 [(env 0), (env 7)] h) fun v1 h1 =>
 bnd (aC 0 v1 h1) fun v2 h2 =>
 bnd (aC 1 v1 h2) fun v3 h3 =>
 bnd (bI [(.s []), (.b false), (.b false), (aE 0)] h3) fun v4 h4 =>
 bnd (aF 4 v4 v2 h4) fun _ h5 =>
 bnd (gD v3 false (some ((env 7), h5)) h5) fun v6 h6 =>
 bnd (gD v3 false (r 240 [v6] h6) h6) fun v7 h7 =>
 bnd (aM v3 (.b true) v7 h7) fun v8 h8 =>
 aS v8 (
 bnd (r 241 [(env 0), (env 7), (aE 16)] h8) fun v9 h9 =>
      nA r n kk2 (env 0) (env 2) (env 7) (env 10) (env 11) (env 12) h9) (
      nA r n kk2 (env 0) (env 2) (env 7) (env 10) (env 11) (env 12) h8)) = (K6 (aEb r n kk2) 0 2 7 10 11 12) := by kernel_rfl
theorem bXu (kk2 : bX) : D207 r n zH (xs (xs x0 0 r207) 1 (K5 (cQ r n kk2) 0 2 10 11 12)) (K5 (cQ r n kk2) 0 2 10 11 12) = (K6 (aEb r n kk2) 0 2 7 10 11 12) :=
 (bEc r n kk2).trans
 ((bNh r n kk2 (nA r n kk2) (cQ r n kk2)).trans (aXz r n kk2))
theorem bRw (kk2 : bX) : D207 r n aBk (xs x0 0 r207) (K5 kk2 0 2 10 11 12) = D207 r n aDb (xs x0 0 r207) (K5 (cQ r n kk2) 0 2 10 11 12) :=
 congrArg (fun k => D207 r n aDb (xs x0 0 r207) k) (bWs r n kk2)
theorem bBo (kk2 : bX) : D207 r n aFc (xs (xs x0 0 r207) 1 (K5 (cQ r n kk2) 0 2 10 11 12)) (K5 (cQ r n kk2) 0 2 10 11 12) = D207 r n aQu (xs (xs x0 0 r207) 1 (K5 (cQ r n kk2) 0 2 10 11 12)) (K6 (aEb r n kk2) 0 2 7 10 11 12) :=
 congrArg (fun k => D207 r n aQu (xs (xs x0 0 r207) 1 (K5 (cQ r n kk2) 0 2 10 11 12)) k) (bXu r n kk2)
theorem bVd (kk2 : bX) : D207 r n aBk (xs x0 0 r207) (K5 kk2 0 2 10 11 12) = (K5 (aKg r n kk2) 0 2 10 11 12) :=
 (bRw r n kk2).trans
 ((by kernel_rfl : D207 r n aDb (xs x0 0 r207) (K5 (cQ r n kk2) 0 2 10 11 12) = D207 r n aFc (xs (xs x0 0 r207) 1 (K5 (cQ r n kk2) 0 2 10 11 12)) (K5 (cQ r n kk2) 0 2 10 11 12)).trans
 ((bBo r n kk2).trans
 ((by kernel_rfl))))
theorem bEj (kk2 : bX) : D207 r n aCu (xs x0 0 r207) (K5 kk2 0 2 10 11 12) = D207 r n aRi (xs x0 0 r207) (K5 (aKg r n kk2) 0 2 10 11 12) :=
 congrArg (fun k => D207 r n aRi (xs x0 0 r207) k) (bVd r n kk2)
theorem cBe (kk2 : bX) : D207 r n aCu (xs x0 0 r207) (K5 kk2 0 2 10 11 12) = (K6 (aLj r n kk2) 0 2 10 11 12 13) :=
 (bEj r n kk2).trans
 ((by kernel_rfl))
theorem bNp (kk2 : bX) : D207 r n iV (xs x0 0 r207) (K5 kk2 0 2 10 11 12) = D207 r n aSp (xs x0 0 r207) (K6 (aLj r n kk2) 0 2 10 11 12 13) :=
 congrArg (fun k => D207 r n aSp (xs x0 0 r207) k) (cBe r n kk2)
theorem bFe (kk2 : bX) : D207 r n iV (xs x0 0 r207) (K5 kk2 0 2 10 11 12) = (K5 (aVa r n kk2) 0 2 10 11 12) :=
 (bNp r n kk2).trans
 ((by kernel_rfl))
theorem bDz (m : Nat) : aN (fun kk => D207 r n iV (xs x0 0 r207) kk) m = (K5 (rV r n m) 0 2 10 11 12) := by
 induction m with
 | zero => exact (by kernel_rfl : aN (fun kk => D207 r n iV (xs x0 0 r207) kk) 0 = (K5 (rV r n 0) 0 2 10 11 12))
 | succ m ih =>
  refine (by kernel_rfl : aN (fun kk => D207 r n iV (xs x0 0 r207) kk) (m + 1) = D207 r n iV (xs x0 0 r207) (aN (fun kk => D207 r n iV (xs x0 0 r207) kk) m)).trans ?_
  rw [ih]
  exact (bFe r n (rV r n m)).trans (by kernel_rfl)
theorem cAs : D207 r n aEt (xs x0 0 r207) r207 = (K5 (bJl r n) 0 2 10 11 12) :=
 (by kernel_rfl : D207 r n aEt (xs x0 0 r207) r207 = aN (fun kk => D207 r n iV (xs x0 0 r207) kk) n).trans ((bDz r n n).trans (by kernel_rfl))
theorem cAj : D207 r n aPb x0 r207 = (K5 (aNx r n) 0 2 10 11 12) :=
 (by kernel_rfl : D207 r n aPb x0 r207 = D207 r n aEt (xs x0 0 r207) r207).trans
 ((cAs r n).trans (by kernel_rfl))
theorem cPc : D207 r n c207 x0 r207 = D207 r n aUs x0 (K5 (aNx r n) 0 2 10 11 12) :=
 congrArg (fun k => D207 r n aUs x0 k) (cAj r n)
theorem cYv : D207 r n c207 x0 r207 = (K3 (s207 r n) 0 1 2) :=
 (cPc r n).trans
 ((by kernel_rfl))
theorem cMv : aG CF r n 207 args h = s207 r n (aR args 0) (aR args 1) (aR args 2) h :=
 (by kernel_rfl : aG CF r n 207 args h = D207 r n c207 x0 r207 (aJ args) h).trans ((congrFun (congrFun (cYv r n) (aJ args)) h).trans (by kernel_rfl))
noncomputable def pH (r : RT) (n : Nat) (x0 x3 x11 x14 : DV) (h0 : Hp) : aH :=
 aS x14 (
 bnd (aK 6 x3 h0) fun v1 h1 =>
 bnd (r 243 [x0, v1] h1) fun v2 h2 =>
 bnd (kF [x0, v2] h2) fun v3 h3 =>
 bnd (r 209 [x0, (aE 6), v3, (aE 0)] h3) fun v4 h4 =>
 some (.t [], h4)) (
 bnd (aD .eql x11 (aE 5) h0) fun v5 h5 =>
 aS v5 (
 bnd (aB 1 x3 h5) fun v6 h6 =>
 bnd (aA v6 h6) fun v7 h7 =>
 bnd (r 244 [x0, v7] h7) fun v8 h8 =>
 some (.t [], h8)) (
 bnd (aD .eql x11 (aE 6) h5) fun v9 h9 =>
 aS v9 (
 bnd (aK 6 x3 h9) fun v10 h10 =>
 bnd (r 245 [x0, v10] h10) fun v11 h11 =>
 some (.t [], h11)) (
 bnd (aD .eql x11 (aE 7) h9) fun v12 h12 =>
 aS v12 (
 bnd (aK 6 x3 h12) fun v13 h13 =>
 bnd (r 246 [x0, v13] h13) fun v14 h14 =>
 some (.t [], h14)) (
 bnd (aD .eql x11 (aE 8) h12) fun v15 h15 =>
 aS v15 (
 bnd (aK 6 x3 h15) fun v16 h16 =>
 bnd (r 247 [x0, v16] h16) fun v17 h17 =>
 some (.t [], h17)) (
 bnd (aD .eql x11 (aE 9) h15) fun v18 h18 =>
 aS v18 (
 bnd (aQ x0 h18) fun v19 h19 =>
 bnd (aB 0 v19 h19) fun v20 h20 =>
 bnd (aB 2 v20 h20) fun v21 h21 =>
 bnd (aA v21 h21) fun v22 h22 =>
 bnd (aB 3 x3 h22) fun v23 h23 =>
 bnd (aA v23 h23) fun v24 h24 =>
 bnd (bS v24 h24) fun v25 h25 =>
 bnd (r 209 [x0, (aE 18), v22, v25] h25) fun v26 h26 =>
 bnd (r 248 [x0, (aE 16)] h26) fun v27 h27 =>
 bnd (aK 6 x3 h27) fun v28 h28 =>
 bnd (r 249 [x0, v28] h28) fun v29 h29 =>
 bnd (r 209 [x0, (aE 19), (aE 0), (aE 0)] h29) fun v30 h30 =>
 bnd (dE CF r v27 [] h30) fun v31 h31 =>
 some (.t [], h31)) (
 bnd (aD .eql x11 (aE 10) h18) fun v32 h32 =>
 aS v32 (
 bnd (aK 6 x3 h32) fun v33 h33 =>
 bnd (r 250 [x0, v33] h33) fun v34 h34 =>
 aS v34 (
 bnd (aB 5 x3 h34) fun v35 h35 =>
 bnd (aA v35 h35) fun v36 h36 =>
 bnd (aI 6 v36 (aE 0) h36) fun v37 h37 =>
 bnd (aK 6 v37 h37) fun v38 h38 =>
 bnd (r 208 [x0, v38] h38) fun v39 h39 =>
 bnd (r 209 [x0, (aE 20), (aE 0), (aE 0)] h39) fun v40 h40 =>
 some (.t [], h40)) (
 some (.t [], h34))) (
 bnd (r 241 [x0, (.s []), (aE 1)] h32) fun v41 h41 =>
 some (.t [], h41))))))))
noncomputable def aJk (r : RT) (n : Nat) (x0 x3 x11 : DV) (h0 : Hp) : aH :=
 bnd (aD .eql x11 (aE 1) h0) fun v1 h1 =>
 aS v1 (
  pH r n x0 x3 x11 v1 h1) (
 bnd (aD .eql x11 (aE 2) h1) fun v2 h2 =>
 aS v2 (
   pH r n x0 x3 x11 v2 h2) (
 bnd (aD .eql x11 (aE 3) h2) fun v3 h3 =>
 aS v3 (
    pH r n x0 x3 x11 v3 h3) (
 bnd (aD .eql x11 (aE 4) h3) fun v4 h4 =>
    pH r n x0 x3 x11 v4 h4)))
noncomputable def aLz (r : RT) (n : Nat) (x0 x3 : DV) (h0 : Hp) : aH :=
 bnd (aB 0 x3 h0) fun v1 h1 =>
 bnd (aA v1 h1) fun v2 h2 =>
  aJk r n x0 x3 v2 h2
noncomputable def uH (r : RT) (n : Nat) (x0 x3 : DV) (h0 : Hp) : aH :=
 bnd (aQ x0 h0) fun v1 h1 =>
 bnd (aB 8 v1 h1) fun v2 h2 =>
 bnd (aA v2 h2) fun v3 h3 =>
 bnd (aD .neq v3 (aE 0) h3) fun v4 h4 =>
 aS v4 (
 some (.t [], h4)) (
  aLz r n x0 x3 h4)
noncomputable def s208 (r : RT) (n : Nat) (x0 x1 : DV) (h0 : Hp) : aH :=
 bnd (bU x1 h0) fun v1 h1 =>
  uH r n x0 v1 h1
noncomputable abbrev c208 : Code := cf Tryz.f208
noncomputable abbrev zU : Code := cR c208
noncomputable abbrev aCy : Code := cR zU
noncomputable abbrev aMd : Code := cR aCy
noncomputable abbrev yJ : Code := cL aMd
noncomputable abbrev cJp : Code := cR yJ
noncomputable abbrev bJm : Code := cL yJ
noncomputable abbrev bLw : Code := cL aCy
noncomputable abbrev bPp : Code := cL zU
noncomputable abbrev aNw : Code := cL c208
noncomputable abbrev r208 : K := aO CF Tryz.f208
noncomputable def D208 (r : RT) (n : Nat) (c : Code) (X : Nat → K) (k : K) : K := aP CF r 81 n c X r208 k
theorem cFz : D208 r n cJp (xs x0 0 r208) r208 = (K4 (pH r n) 0 3 11 14) :=
 (by kernel_rfl)
theorem bQs : D208 r n yJ (xs x0 0 r208) r208 = D208 r n bJm (xs x0 0 r208) (K4 (pH r n) 0 3 11 14) :=
 congrArg (fun k => D208 r n bJm (xs x0 0 r208) k) (cFz r n)
theorem bXi : D208 r n aMd x0 r208 = (K3 (aJk r n) 0 3 11) :=
 (by kernel_rfl : D208 r n aMd x0 r208 = D208 r n yJ (xs x0 0 r208) r208).trans
 ((bQs r n).trans
 ((by kernel_rfl)))
theorem bNi : D208 r n aCy x0 r208 = D208 r n bLw x0 (K3 (aJk r n) 0 3 11) :=
 congrArg (fun k => D208 r n bLw x0 k) (bXi r n)
theorem bTx : D208 r n aCy x0 r208 = (K2 (aLz r n) 0 3) :=
 (bNi r n).trans
 ((by kernel_rfl))
theorem bSe : D208 r n zU x0 r208 = D208 r n bPp x0 (K2 (aLz r n) 0 3) :=
 congrArg (fun k => D208 r n bPp x0 k) (bTx r n)
theorem cEv : D208 r n zU x0 r208 = (K2 (uH r n) 0 3) :=
 (bSe r n).trans
 ((by kernel_rfl))
theorem cQo : D208 r n c208 x0 r208 = D208 r n aNw x0 (K2 (uH r n) 0 3) :=
 congrArg (fun k => D208 r n aNw x0 k) (cEv r n)
theorem cKn (q0 : gF) : D208 r n aNw x0 (K2 q0 0 3) = fun (env : aU) (h : Hp) =>
 bnd (bU (env 1) h) fun v1 h1 =>
  q0 (env 0) v1 h1 := by kernel_rfl
theorem cFn : (fun (env : aU) (h : Hp) =>
 bnd (bU (env 1) h) fun v1 h1 =>
  uH r n (env 0) v1 h1) = (K2 (s208 r n) 0 1) := by kernel_rfl
theorem cSq : D208 r n c208 x0 r208 = (K2 (s208 r n) 0 1) :=
 (cQo r n).trans
 ((cKn r n (uH r n)).trans (cFn r n))
theorem cNg : aG CF r n 208 args h = s208 r n (aR args 0) (aR args 1) h :=
 (by kernel_rfl : aG CF r n 208 args h = D208 r n c208 x0 r208 (aJ args) h).trans ((congrFun (congrFun (cSq r n) (aJ args)) h).trans (by kernel_rfl))
noncomputable def s209 (r : RT) (n : Nat) (x0 x1 x2 x3 : DV) (h0 : Hp) : aH :=
 bnd (aQ x0 h0) fun v1 h1 =>
 bnd (aB 0 v1 h1) fun v2 h2 =>
 bnd (aB 5 v2 h2) fun v3 h3 =>
 bnd (aA v3 h3) fun v4 h4 =>
 bnd (aZ [(aE 0), (aE 0), (aE 0)] [(0, 1, x1), (1, 1, x2), (2, 1, x3)] h4) fun v5 h5 =>
 bnd (aL [(aE 0), (aE 0), (aE 0)] 1 [(0, 3, v5)] h5) fun v6 h6 =>
 bnd (aX 3 24 v4 v6 h6) fun v7 h7 =>
 bnd (aQ x0 h7) fun v8 h8 =>
 bnd (aB 0 v8 h8) fun v9 h9 =>
 bnd (aB 5 v9 h9) fun v10 h10 =>
 bnd (aF 1 v10 v7 h10) fun _ h11 =>
 some (.t [], h11)
noncomputable abbrev c209 : Code := cf Tryz.f209
noncomputable abbrev r209 : K := aO CF Tryz.f209
noncomputable def D209 (r : RT) (n : Nat) (c : Code) (X : Nat → K) (k : K) : K := aP CF r 23 n c X r209 k
theorem cSo : D209 r n c209 x0 r209 = (K4 (s209 r n) 0 1 2 3) :=
 (by kernel_rfl)
theorem cGz : aG CF r n 209 args h = s209 r n (aR args 0) (aR args 1) (aR args 2) (aR args 3) h :=
 (by kernel_rfl : aG CF r n 209 args h = D209 r n c209 x0 r209 (aJ args) h).trans ((congrFun (congrFun (cSo r n) (aJ args)) h).trans (by kernel_rfl))
noncomputable def s227 (r : RT) (n : Nat) (x0 : DV) (h0 : Hp) : aH :=
 bnd (aD .eql x0 (aE 16) h0) fun v1 h1 =>
 bnd (gD v1 false (some (x0, h1)) h1) fun v2 h2 =>
 bnd (gD v1 false (aD .eql v2 (aE 17) h2) h2) fun v3 h3 =>
 bnd (aM v1 (.b true) v3 h3) fun v4 h4 =>
 some (v4, h4)
noncomputable abbrev c227 : Code := cf Tryz.f227
noncomputable abbrev r227 : K := aO CF Tryz.f227
noncomputable def D227 (r : RT) (n : Nat) (c : Code) (X : Nat → K) (k : K) : K := aP CF r 9 n c X r227 k
theorem cTi : D227 r n c227 x0 r227 = (K1 (s227 r n) 0) :=
 (by kernel_rfl)
theorem cJl : aG CF r n 227 args h = s227 r n (aR args 0) h :=
 (by kernel_rfl : aG CF r n 227 args h = D227 r n c227 x0 r227 (aJ args) h).trans ((congrFun (congrFun (cTi r n) (aJ args)) h).trans (by kernel_rfl))
noncomputable def s228 (r : RT) (n : Nat) (x0 x1 : DV) (h0 : Hp) : aH :=
 bnd (aA x1 h0) fun v1 h1 =>
 bnd (r 199 [v1, x0] h1) fun v2 h2 =>
 bnd (aD .geq v2 (aE 0) h2) fun v3 h3 =>
 some (v3, h3)
noncomputable abbrev c228 : Code := cf Tryz.f228
noncomputable abbrev r228 : K := aO CF Tryz.f228
noncomputable def D228 (r : RT) (n : Nat) (c : Code) (X : Nat → K) (k : K) : K := aP CF r 8 n c X r228 k
theorem cYm : D228 r n c228 x0 r228 = (K2 (s228 r n) 0 1) :=
 (by kernel_rfl)
theorem cRm : aG CF r n 228 args h = s228 r n (aR args 0) (aR args 1) h :=
 (by kernel_rfl : aG CF r n 228 args h = D228 r n c228 x0 r228 (aJ args) h).trans ((congrFun (congrFun (cYm r n) (aJ args)) h).trans (by kernel_rfl))
noncomputable def s229 (r : RT) (n : Nat) (x0 x1 : DV) (h0 : Hp) : aH :=
 bnd (kQ [x0, x1] h0) fun v1 h1 =>
 some (v1, h1)
noncomputable abbrev c229 : Code := cf Tryz.f229
noncomputable abbrev r229 : K := aO CF Tryz.f229
noncomputable def D229 (r : RT) (n : Nat) (c : Code) (X : Nat → K) (k : K) : K := aP CF r 8 n c X r229 k
theorem cTw : D229 r n c229 x0 r229 = (K2 (s229 r n) 0 1) :=
 (by kernel_rfl)
theorem cPb : aG CF r n 229 args h = s229 r n (aR args 0) (aR args 1) h :=
 (by kernel_rfl : aG CF r n 229 args h = D229 r n c229 x0 r229 (aJ args) h).trans ((congrFun (congrFun (cTw r n) (aJ args)) h).trans (by kernel_rfl))
noncomputable def s230 (r : RT) (n : Nat) (x0 x1 : DV) (h0 : Hp) : aH :=
 bnd (aQ x0 h0) fun v1 h1 =>
 bnd (aB 1 v1 h1) fun v2 h2 =>
 bnd (aA v2 h2) fun v3 h3 =>
 bnd (aD .add v3 x1 h3) fun v4 h4 =>
 bnd (aQ x0 h4) fun v5 h5 =>
 bnd (aB 0 v5 h5) fun v6 h6 =>
 bnd (aA v6 h6) fun v7 h7 =>
 bnd (cU v7 h7) fun v8 h8 =>
 bnd (aD .geq v4 v8 h8) fun v9 h9 =>
 aS v9 (
 some ((.i .u8 (Int.ofNat 0)), h9)) (
 bnd (aQ x0 h9) fun v10 h10 =>
 bnd (aB 0 v10 h10) fun v11 h11 =>
 bnd (aA v11 h11) fun v12 h12 =>
 bnd (aQ x0 h12) fun v13 h13 =>
 bnd (aB 1 v13 h13) fun v14 h14 =>
 bnd (aA v14 h14) fun v15 h15 =>
 bnd (aD .add v15 x1 h15) fun v16 h16 =>
 bnd (eS v12 v16 h16) fun v17 h17 =>
 some (v17, h17))
noncomputable abbrev c230 : Code := cf Tryz.f230
noncomputable abbrev r230 : K := aO CF Tryz.f230
noncomputable def D230 (r : RT) (n : Nat) (c : Code) (X : Nat → K) (k : K) : K := aP CF r 28 n c X r230 k
theorem cWw : D230 r n c230 x0 r230 = (K2 (s230 r n) 0 1) :=
 (by kernel_rfl)
theorem cJh : aG CF r n 230 args h = s230 r n (aR args 0) (aR args 1) h :=
 (by kernel_rfl : aG CF r n 230 args h = D230 r n c230 x0 r230 (aJ args) h).trans ((congrFun (congrFun (cWw r n) (aJ args)) h).trans (by kernel_rfl))
noncomputable def s231 (r : RT) (n : Nat) (x0 : DV) (h0 : Hp) : aH :=
 bnd (aD .geq x0 (.i .u8 (Int.ofNat 97)) h0) fun v1 h1 =>
 bnd (gD v1 true (some (x0, h1)) h1) fun v2 h2 =>
 bnd (gD v1 true (aD .leq v2 (.i .u8 (Int.ofNat 122)) h2) h2) fun v3 h3 =>
 bnd (aM v1 v3 (.b false) h3) fun v4 h4 =>
 bnd (gD v4 false (some (x0, h4)) h4) fun v5 h5 =>
 bnd (gD v4 false (aD .geq v5 (.i .u8 (Int.ofNat 65)) h5) h5) fun v6 h6 =>
 bnd (gD v4 false (some (v6, h6)) h6) fun v7 h7 =>
 bnd (gD v7 true (some (x0, h7)) h7) fun v8 h8 =>
 bnd (gD v7 true (aD .leq v8 (.i .u8 (Int.ofNat 90)) h8) h8) fun v9 h9 =>
 bnd (gD v4 false (aM v7 v9 (.b false) h9) h9) fun v10 h10 =>
 bnd (aM v4 (.b true) v10 h10) fun v11 h11 =>
 some (v11, h11)
noncomputable abbrev c231 : Code := cf Tryz.f231
noncomputable abbrev r231 : K := aO CF Tryz.f231
noncomputable def D231 (r : RT) (n : Nat) (c : Code) (X : Nat → K) (k : K) : K := aP CF r 17 n c X r231 k
theorem cSt : D231 r n c231 x0 r231 = (K1 (s231 r n) 0) :=
 (by kernel_rfl)
theorem cJf : aG CF r n 231 args h = s231 r n (aR args 0) h :=
 (by kernel_rfl : aG CF r n 231 args h = D231 r n c231 x0 r231 (aJ args) h).trans ((congrFun (congrFun (cSt r n) (aJ args)) h).trans (by kernel_rfl))
noncomputable def s232 (r : RT) (n : Nat) (x0 : DV) (h0 : Hp) : aH :=
 bnd (aQ x0 h0) fun v1 h1 =>
 bnd (aB 0 v1 h1) fun v2 h2 =>
 bnd (aA v2 h2) fun v3 h3 =>
 bnd (cU v3 h3) fun v4 h4 =>
 bnd (r 197 [x0, (.f 267 [] []), v4] h4) fun v5 h5 =>
 bnd (cU v5 h5) fun v6 h6 =>
 bnd (aD .gtr v6 (aE 24) h6) fun v7 h7 =>
 aS v7 (
 some (.t [(.s []), (aE 12)], h7)) (
 some (.t [v5, (aE 0)], h7))
noncomputable abbrev c232 : Code := cf Tryz.f232
noncomputable abbrev r232 : K := aO CF Tryz.f232
noncomputable def D232 (r : RT) (n : Nat) (c : Code) (X : Nat → K) (k : K) : K := aP CF r 16 n c X r232 k
theorem cSu : D232 r n c232 x0 r232 = (K1 (s232 r n) 0) :=
 (by kernel_rfl)
theorem cLt : aG CF r n 232 args h = s232 r n (aR args 0) h :=
 (by kernel_rfl : aG CF r n 232 args h = D232 r n c232 x0 r232 (aJ args) h).trans ((congrFun (congrFun (cSu r n) (aJ args)) h).trans (by kernel_rfl))
noncomputable def s233 (r : RT) (n : Nat) (x0 : DV) (h0 : Hp) : aH :=
 bnd (r 230 [x0, (aE 0)] h0) fun v1 h1 =>
 bnd (aD .neq v1 (.i .u8 (Int.ofNat 58)) h1) fun v2 h2 =>
 bnd (gD v2 false (some (x0, h2)) h2) fun v3 h3 =>
 bnd (gD v2 false (r 230 [v3, (aE 1)] h3) h3) fun v4 h4 =>
 bnd (gD v2 false (aD .eql v4 (.i .u8 (Int.ofNat 61)) h4) h4) fun v5 h5 =>
 bnd (aM v2 (.b true) v5 h5) fun v6 h6 =>
 aS v6 (
 some ((.b false), h6)) (
 bnd (aQ x0 h6) fun v7 h7 =>
 bnd (aB 1 v7 h7) fun v8 h8 =>
 bnd (aA v8 h8) fun v9 h9 =>
 bnd (aD .add v9 (aE 1) h9) fun v10 h10 =>
 bnd (aQ x0 h10) fun v11 h11 =>
 bnd (aB 1 v11 h11) fun v12 h12 =>
 bnd (aF 1 v12 v10 h12) fun _ h13 =>
 some ((.b true), h13))
noncomputable abbrev c233 : Code := cf Tryz.f233
noncomputable abbrev r233 : K := aO CF Tryz.f233
noncomputable def D233 (r : RT) (n : Nat) (c : Code) (X : Nat → K) (k : K) : K := aP CF r 18 n c X r233 k
theorem cTh : D233 r n c233 x0 r233 = (K1 (s233 r n) 0) :=
 (by kernel_rfl)
theorem cOg : aG CF r n 233 args h = s233 r n (aR args 0) h :=
 (by kernel_rfl : aG CF r n 233 args h = D233 r n c233 x0 r233 (aJ args) h).trans ((congrFun (congrFun (cTh r n) (aJ args)) h).trans (by kernel_rfl))
noncomputable def s234 (r : RT) (n : Nat) (x0 : DV) (h0 : Hp) : aH :=
 bnd (aD .geq x0 (.i .u8 (Int.ofNat 48)) h0) fun v1 h1 =>
 bnd (gD v1 true (some (x0, h1)) h1) fun v2 h2 =>
 bnd (gD v1 true (aD .leq v2 (.i .u8 (Int.ofNat 57)) h2) h2) fun v3 h3 =>
 bnd (aM v1 v3 (.b false) h3) fun v4 h4 =>
 some (v4, h4)
noncomputable abbrev c234 : Code := cf Tryz.f234
noncomputable abbrev r234 : K := aO CF Tryz.f234
noncomputable def D234 (r : RT) (n : Nat) (c : Code) (X : Nat → K) (k : K) : K := aP CF r 9 n c X r234 k
theorem cSc : D234 r n c234 x0 r234 = (K1 (s234 r n) 0) :=
 (by kernel_rfl)
theorem cGx : aG CF r n 234 args h = s234 r n (aR args 0) h :=
 (by kernel_rfl : aG CF r n 234 args h = D234 r n c234 x0 r234 (aJ args) h).trans ((congrFun (congrFun (cSc r n) (aJ args)) h).trans (by kernel_rfl))
noncomputable def eG (r : RT) (n : Nat) (x4 : DV) (h0 : Hp) : aH :=
 some (.t [x4, (aE 0)], h0)
noncomputable def aVl (r : RT) (n : Nat) (kk5 : gF) (x4 x14 : DV) (h0 : Hp) : aH :=
 bnd (wB x14 h0) fun v1 h1 =>
 bnd (aC 0 v1 h1) fun v2 h2 =>
 aS v2 (
 bnd (aC 2 v1 h2) fun v3 h3 =>
 bnd (aD .gtr x4 (aE 115292150460684697) h3) fun v4 h4 =>
 aS v4 (
 some (.t [(aE 0), (aE 2)], h4)) (
 bnd (aD .mul x4 (aE 10) h4) fun v5 h5 =>
 bnd (aD .sub v3 (.i .i32 (Int.ofNat 48)) h5) fun v6 h6 =>
 bnd (dH .i64 v6 h6) fun v7 h7 =>
 bnd (aD .add v5 v7 h7) fun v8 h8 =>
 bnd (aD .gtr v8 (aE 1152921504606846976) h8) fun v9 h9 =>
 aS v9 (
 some (.t [(aE 0), (aE 2)], h9)) (
     kk5 v8 x14 h9))) (
   eG r n x4 h2)
noncomputable def sQ (r : RT) (n : Nat) (m : Nat) : gF :=
 Nat.rec (motive := fun _ => gF) (fun _ _ _ => none) (fun _ ih => aVl r n ih) m
noncomputable def bJh (r : RT) (n : Nat) : gF := sQ r n n
noncomputable def aJl (r : RT) (n : Nat) (x4 x14 : DV) (h0 : Hp) : aH :=
 bJh r n x4 x14 h0
noncomputable def aJh (r : RT) (n : Nat) (x0 x4 : DV) (h0 : Hp) : aH :=
 bnd (aQ x0 h0) fun v1 h1 =>
 bnd (aB 0 v1 h1) fun v2 h2 =>
 bnd (aA v2 h2) fun v3 h3 =>
 bnd (cU v3 h3) fun v4 h4 =>
 bnd (r 197 [x0, (.f 234 [] []), v4] h4) fun v5 h5 =>
 bnd (mO v5 h5) fun v6 h6 =>
  aJl r n x4 v6 h6
noncomputable def aJg (r : RT) (n : Nat) (x0 : DV) (h0 : Hp) : aH :=
 aJh r n x0 (aE 0) h0
noncomputable def s235 (r : RT) (n : Nat) (x0 : DV) (h0 : Hp) : aH :=
 aJg r n x0 h0
noncomputable abbrev c235 : Code := cf Tryz.f235
noncomputable abbrev aFe : Code := cR c235
noncomputable abbrev aBx : Code := cR aFe
noncomputable abbrev cLu : Code := cR aBx
noncomputable abbrev vB : Code := cL aBx
noncomputable abbrev aMk : Code := cR vB
noncomputable abbrev aAk : Code := cL aMk
noncomputable abbrev mW : Code := cL aAk
noncomputable abbrev bJd : Code := cL vB
noncomputable abbrev bLi : Code := cL aFe
noncomputable abbrev aUf : Code := cL c235
noncomputable abbrev r235 : K := aO CF Tryz.f235
noncomputable def D235 (r : RT) (n : Nat) (c : Code) (X : Nat → K) (k : K) : K := aP CF r 29 n c X r235 k
theorem bWx : D235 r n cLu x0 r235 = (K1 (eG r n) 4) :=
 (by kernel_rfl)
theorem bEy (kk5 : gF) : D235 r n mW (xs x0 0 (K1 (eG r n) 4)) (K2 kk5 4 14) = (K2 (aVl r n kk5) 4 14) :=
 (by kernel_rfl)
theorem bOc (m : Nat) : aN (fun kk => D235 r n mW (xs x0 0 (K1 (eG r n) 4)) kk) m = (K2 (sQ r n m) 4 14) := by
 induction m with
 | zero => exact (by kernel_rfl : aN (fun kk => D235 r n mW (xs x0 0 (K1 (eG r n) 4)) kk) 0 = (K2 (sQ r n 0) 4 14))
 | succ m ih =>
  refine (by kernel_rfl : aN (fun kk => D235 r n mW (xs x0 0 (K1 (eG r n) 4)) kk) (m + 1) = D235 r n mW (xs x0 0 (K1 (eG r n) 4)) (aN (fun kk => D235 r n mW (xs x0 0 (K1 (eG r n) 4)) kk) m)).trans ?_
  rw [ih]
  exact (bEy r n (sQ r n m)).trans (by kernel_rfl)
theorem bTo : D235 r n aAk (xs x0 0 (K1 (eG r n) 4)) (K1 (eG r n) 4) = (K2 (bJh r n) 4 14) :=
 (by kernel_rfl : D235 r n aAk (xs x0 0 (K1 (eG r n) 4)) (K1 (eG r n) 4) = aN (fun kk => D235 r n mW (xs x0 0 (K1 (eG r n) 4)) kk) n).trans ((bOc r n n).trans (by kernel_rfl))
theorem cAc : D235 r n aMk x0 (K1 (eG r n) 4) = (K2 (aJl r n) 4 14) :=
 (by kernel_rfl : D235 r n aMk x0 (K1 (eG r n) 4) = D235 r n aAk (xs x0 0 (K1 (eG r n) 4)) (K1 (eG r n) 4)).trans
 ((bTo r n).trans (by kernel_rfl))
theorem bIt : D235 r n aBx x0 r235 = D235 r n vB x0 (K1 (eG r n) 4) :=
 congrArg (fun k => D235 r n vB x0 k) (bWx r n)
theorem bFi : D235 r n vB x0 (K1 (eG r n) 4) = D235 r n bJd x0 (K2 (aJl r n) 4 14) :=
 congrArg (fun k => D235 r n bJd x0 k) (cAc r n)
theorem bZo : D235 r n aBx x0 r235 = (K2 (aJh r n) 0 4) :=
 (bIt r n).trans
 ((bFi r n).trans
 ((by kernel_rfl)))
theorem bHb : D235 r n aFe x0 r235 = D235 r n bLi x0 (K2 (aJh r n) 0 4) :=
 congrArg (fun k => D235 r n bLi x0 k) (bZo r n)
theorem cEf : D235 r n aFe x0 r235 = (K1 (aJg r n) 0) :=
 (bHb r n).trans
 ((by kernel_rfl))
theorem cMo : D235 r n c235 x0 r235 = D235 r n aUf x0 (K1 (aJg r n) 0) :=
 congrArg (fun k => D235 r n aUf x0 k) (cEf r n)
theorem cSv : D235 r n c235 x0 r235 = (K1 (s235 r n) 0) :=
 (cMo r n).trans
 ((by kernel_rfl))
theorem cQj : aG CF r n 235 args h = s235 r n (aR args 0) h :=
 (by kernel_rfl : aG CF r n 235 args h = D235 r n c235 x0 r235 (aJ args) h).trans ((congrFun (congrFun (cSv r n) (aJ args)) h).trans (by kernel_rfl))
end Go.Dd

namespace Go.Dd
open Go.Proofs
variable (r : RT) (n : Nat) (args : List DV) (h : Hp)
noncomputable def s239 (r : RT) (n : Nat) (x0 x1 : DV) (h0 : Hp) : aH :=
 bnd (bU x1 h0) fun v1 h1 =>
 bnd (bI [(.s []), (.b false), (.b false), (aE 0)] h1) fun v2 h2 =>
 bnd (aQ x0 h2) fun v3 h3 =>
 bnd (aB 6 v3 h3) fun v4 h4 =>
 bnd (aA v4 h4) fun v5 h5 =>
 bnd (r 275 [v5, (.f 276 [] [v1])] h5) fun v6 h6 =>
 bnd (aD .lss v6 (aE 0) h6) fun v7 h7 =>
 aS v7 (
 bnd (aZ [(.s []), (.b false), (.b false), (aE 0)] [] h7) fun v8 h8 =>
 bnd (aF 4 v2 v8 h8) fun _ h9 =>
 bnd (aK 4 v2 h9) fun v10 _ =>
 some (.t [v10, (.b false)], h9)) (
 bnd (aQ x0 h7) fun v11 h11 =>
 bnd (aB 6 v11 h11) fun v12 h12 =>
 bnd (aA v12 h12) fun v13 h13 =>
 bnd (aI 4 v13 v6 h13) fun v14 h14 =>
 bnd (aK 4 v14 h14) fun v15 h15 =>
 bnd (aF 4 v2 v15 h15) fun _ h16 =>
 bnd (aK 4 v2 h16) fun v17 _ =>
 some (.t [v17, (.b true)], h16))
noncomputable abbrev c239 : Code := cf Tryz.f239
noncomputable abbrev r239 : K := aO CF Tryz.f239
noncomputable def D239 (r : RT) (n : Nat) (c : Code) (X : Nat → K) (k : K) : K := aP CF r 23 n c X r239 k
theorem cSf : D239 r n c239 x0 r239 = (K2 (s239 r n) 0 1) :=
 (by kernel_rfl)
theorem cHc : aG CF r n 239 args h = s239 r n (aR args 0) (aR args 1) h :=
 (by kernel_rfl : aG CF r n 239 args h = D239 r n c239 x0 r239 (aJ args) h).trans ((congrFun (congrFun (cSf r n) (aJ args)) h).trans (by kernel_rfl))
noncomputable def fS (r : RT) (n : Nat) (h0 : Hp) : aH :=
 some ((.b false), h0)
noncomputable def kZ (r : RT) (n : Nat) (x4 : DV) (h0 : Hp) : aH :=
 aS x4 (
 some ((.b true), h0)) (
  fS r n h0)
noncomputable def aLn (r : RT) (n : Nat) (x3 : DV) (h0 : Hp) : aH :=
 bnd (eB .eql x3 (.s [115, 101, 108, 102]) h0) fun v1 h1 =>
 aS v1 (
  kZ r n v1 h1) (
 bnd (eB .eql x3 (.s [115, 117, 112, 101, 114]) h1) fun v2 h2 =>
 aS v2 (
   kZ r n v2 h2) (
 bnd (eB .eql x3 (.s [110, 105, 108]) h2) fun v3 h3 =>
 aS v3 (
    kZ r n v3 h3) (
 bnd (eB .eql x3 (.s [116, 114, 117, 101]) h3) fun v4 h4 =>
 aS v4 (
     kZ r n v4 h4) (
 bnd (eB .eql x3 (.s [102, 97, 108, 115, 101]) h4) fun v5 h5 =>
 aS v5 (
      kZ r n v5 h5) (
 bnd (eB .eql x3 (.s [116, 104, 105, 115, 67, 111, 110, 116, 101, 120, 116]) h5) fun v6 h6 =>
      kZ r n v6 h6)))))
noncomputable def aPi (r : RT) (n : Nat) (x0 : DV) (h0 : Hp) : aH :=
 aLn r n x0 h0
noncomputable def s240 (r : RT) (n : Nat) (x0 : DV) (h0 : Hp) : aH :=
 aPi r n x0 h0
noncomputable abbrev c240 : Code := cf Tryz.f240
noncomputable abbrev yD : Code := cR c240
noncomputable abbrev cQs : Code := cR yD
noncomputable abbrev vD : Code := cL yD
noncomputable abbrev aOo : Code := cR vD
noncomputable abbrev aBl : Code := cL aOo
noncomputable abbrev cMa : Code := cR aBl
noncomputable abbrev bRc : Code := cL aBl
noncomputable abbrev bDw : Code := cL vD
noncomputable abbrev bHa : Code := cL c240
noncomputable abbrev r240 : K := aO CF Tryz.f240
noncomputable def D240 (r : RT) (n : Nat) (c : Code) (X : Nat → K) (k : K) : K := aP CF r 11 n c X r240 k
theorem bVm : D240 r n cQs x0 r240 = (K0 (fS r n)) :=
 (by kernel_rfl)
theorem bTy : D240 r n cMa (xs x0 0 (K0 (fS r n))) (K0 (fS r n)) = (K1 (kZ r n) 4) :=
 (by kernel_rfl)
theorem bRz : D240 r n aBl (xs x0 0 (K0 (fS r n))) (K0 (fS r n)) = D240 r n bRc (xs x0 0 (K0 (fS r n))) (K1 (kZ r n) 4) :=
 congrArg (fun k => D240 r n bRc (xs x0 0 (K0 (fS r n))) k) (bTy r n)
theorem cAg : D240 r n aOo x0 (K0 (fS r n)) = (K1 (aLn r n) 3) :=
 (by kernel_rfl : D240 r n aOo x0 (K0 (fS r n)) = D240 r n aBl (xs x0 0 (K0 (fS r n))) (K0 (fS r n))).trans
 ((bRz r n).trans
 ((by kernel_rfl)))
theorem bQf : D240 r n yD x0 r240 = D240 r n vD x0 (K0 (fS r n)) :=
 congrArg (fun k => D240 r n vD x0 k) (bVm r n)
theorem bNg : D240 r n vD x0 (K0 (fS r n)) = D240 r n bDw x0 (K1 (aLn r n) 3) :=
 congrArg (fun k => D240 r n bDw x0 k) (cAg r n)
theorem bZw : D240 r n yD x0 r240 = (K1 (aPi r n) 0) :=
 (bQf r n).trans
 ((bNg r n).trans
 ((by kernel_rfl)))
theorem cOl : D240 r n c240 x0 r240 = D240 r n bHa x0 (K1 (aPi r n) 0) :=
 congrArg (fun k => D240 r n bHa x0 k) (bZw r n)
theorem cUl : D240 r n c240 x0 r240 = (K1 (s240 r n) 0) :=
 (cOl r n).trans
 ((by kernel_rfl))
theorem cPr : aG CF r n 240 args h = s240 r n (aR args 0) h :=
 (by kernel_rfl : aG CF r n 240 args h = D240 r n c240 x0 r240 (aJ args) h).trans ((congrFun (congrFun (cUl r n) (aJ args)) h).trans (by kernel_rfl))
noncomputable def aEh (r : RT) (n : Nat) (x0 x1 : DV) (h0 : Hp) : aH :=
 bnd (r 239 [x0, x1] h0) fun v1 h1 =>
 bnd (aC 0 v1 h1) fun v2 h2 =>
 bnd (aC 1 v1 h2) fun v3 h3 =>
 bnd (bI [(.s []), (.b false), (.b false), (aE 0)] h3) fun v4 h4 =>
 bnd (aF 4 v4 v2 h4) fun _ h5 =>
 bnd (gD v3 true (aB 1 v4 h5) h5) fun v6 h6 =>
 bnd (gD v3 true (aA v6 h6) h6) fun v7 h7 =>
 bnd (aM v3 v7 (.b false) h7) fun v8 h8 =>
 aS v8 (
 bnd (aB 3 v4 h8) fun v9 h9 =>
 bnd (aA v9 h9) fun v10 h10 =>
 bnd (r 209 [x0, (aE 8), v10, (aE 0)] h10) fun v11 h11 =>
 some (.t [], h11)) (
 aS v3 (
 bnd (aB 3 v4 h8) fun v12 h12 =>
 bnd (aA v12 h12) fun v13 h13 =>
 bnd (r 209 [x0, (aE 7), v13, (aE 0)] h13) fun v14 h14 =>
 some (.t [], h14)) (
 bnd (r 279 [x1] h8) fun v15 h15 =>
 aS v15 (
 bnd (r 280 [x0, x1] h15) fun v16 h16 =>
 bnd (r 209 [x0, (aE 9), v16, (aE 0)] h16) fun v17 h17 =>
 some (.t [], h17)) (
 bnd (r 241 [x0, x1, (aE 15)] h15) fun v18 h18 =>
 some (.t [], h18))))
noncomputable def s244 (r : RT) (n : Nat) (x0 x1 : DV) (h0 : Hp) : aH :=
 bnd (eB .eql x1 (.s [115, 101, 108, 102]) h0) fun v1 h1 =>
 aS v1 (
 bnd (r 209 [x0, (aE 1), (aE 0), (aE 0)] h1) fun v2 h2 =>
 some (.t [], h2)) (
 bnd (eB .eql x1 (.s [110, 105, 108]) h1) fun v3 h3 =>
 aS v3 (
 bnd (r 209 [x0, (aE 2), (aE 0), (aE 0)] h3) fun v4 h4 =>
 some (.t [], h4)) (
 bnd (eB .eql x1 (.s [116, 114, 117, 101]) h3) fun v5 h5 =>
 aS v5 (
 bnd (r 209 [x0, (aE 3), (aE 0), (aE 0)] h5) fun v6 h6 =>
 some (.t [], h6)) (
 bnd (eB .eql x1 (.s [102, 97, 108, 115, 101]) h5) fun v7 h7 =>
 aS v7 (
 bnd (r 209 [x0, (aE 4), (aE 0), (aE 0)] h7) fun v8 h8 =>
 some (.t [], h8)) (
 bnd (eB .eql x1 (.s [116, 104, 105, 115, 67, 111, 110, 116, 101, 120, 116]) h7) fun v9 h9 =>
 aS v9 (
 bnd (r 209 [x0, (aE 5), (aE 0), (aE 0)] h9) fun v10 h10 =>
 some (.t [], h10)) (
 bnd (eB .eql x1 (.s [115, 117, 112, 101, 114]) h9) fun v11 h11 =>
 aS v11 (
 bnd (r 241 [x0, x1, (aE 15)] h11) fun v12 h12 =>
       aEh r n x0 x1 h12) (
       aEh r n x0 x1 h11))))))
noncomputable abbrev c244 : Code := cf Tryz.f244
noncomputable abbrev cLw : Code := cR c244
noncomputable abbrev bKv : Code := cL c244
noncomputable abbrev r244 : K := aO CF Tryz.f244
noncomputable def D244 (r : RT) (n : Nat) (c : Code) (X : Nat → K) (k : K) : K := aP CF r 65 n c X r244 k
theorem cAt : D244 r n cLw x0 r244 = (K2 (aEh r n) 0 1) :=
 (by kernel_rfl)
theorem cHy : D244 r n c244 x0 r244 = D244 r n bKv x0 (K2 (aEh r n) 0 1) :=
 congrArg (fun k => D244 r n bKv x0 k) (cAt r n)
theorem cTd : D244 r n c244 x0 r244 = (K2 (s244 r n) 0 1) :=
 (cHy r n).trans
 ((by kernel_rfl))
theorem cHo : aG CF r n 244 args h = s244 r n (aR args 0) (aR args 1) h :=
 (by kernel_rfl : aG CF r n 244 args h = D244 r n c244 x0 r244 (aJ args) h).trans ((congrFun (congrFun (cTd r n) (aJ args)) h).trans (by kernel_rfl))
noncomputable def s246 (r : RT) (n : Nat) (x0 x1 : DV) (h0 : Hp) : aH :=
 bnd (bU x1 h0) fun v1 h1 =>
 bnd (aB 5 v1 h1) fun v2 h2 =>
 bnd (aA v2 h2) fun v3 h3 =>
 bnd (bS v3 h3) fun v4 h4 =>
 bnd (aD .eql v4 (aE 0) h4) fun v5 h5 =>
 aS v5 (
 bnd (r 241 [x0, (.s []), (aE 1)] h5) fun v6 h6 =>
 some (.t [], h6)) (
 bnd (aK 6 v1 h5) fun v7 h7 =>
 bnd (r 281 [x0, v7] h7) fun v8 h8 =>
 bnd (gD v8 false (some (x0, h8)) h8) fun v9 h9 =>
 bnd (gD v8 false (aK 6 v1 h9) h9) fun v10 h10 =>
 bnd (gD v8 false (r 282 [v9, v10] h10) h10) fun v11 h11 =>
 bnd (aM v8 (.b true) v11 h11) fun v12 h12 =>
 aS v12 (
 some (.t [], h12)) (
 bnd (aB 5 v1 h12) fun v13 h13 =>
 bnd (aA v13 h13) fun v14 h14 =>
 bnd (aI 6 v14 (aE 0) h14) fun v15 h15 =>
 bnd (aK 6 v15 h15) fun v16 h16 =>
 bnd (r 284 [x0, v16] h16) fun v17 h17 =>
 bnd (aB 1 v1 h17) fun v18 h18 =>
 bnd (aA v18 h18) fun v19 h19 =>
 cnd (bJ (aA v18 h12) v19 && true) (
 bnd (aB 5 v1 h19) fun v20 h20 =>
 bnd (aA v20 h20) fun v21 h21 =>
 cnd (bJ (aA v20 h12) v21 && true) (
 bnd (cI 6 v21 (some (aE 1)) none h21) fun v22 h22 =>
 cnd (bJ (cI 6 v21 (some (aE 1)) none h12) v22 && true) (
 bnd (r 283 [x0, v17, v19, v22] h22) fun v23 h23 =>
 some (.t [], h23))))))
noncomputable abbrev c246 : Code := cf Tryz.f246
noncomputable abbrev r246 : K := aO CF Tryz.f246
noncomputable def D246 (r : RT) (n : Nat) (c : Code) (X : Nat → K) (k : K) : K := aP CF r 31 n c X r246 k
theorem cYh : D246 r n c246 x0 r246 = (K2 (s246 r n) 0 1) :=
 (by kernel_rfl)
theorem cJe : aG CF r n 246 args h = s246 r n (aR args 0) (aR args 1) h :=
 (by kernel_rfl : aG CF r n 246 args h = D246 r n c246 x0 r246 (aJ args) h).trans ((congrFun (congrFun (cYh r n) (aJ args)) h).trans (by kernel_rfl))
noncomputable def aGn (r : RT) (n : Nat) (x3 : DV) (h0 : Hp) : aH :=
 bnd (aB 5 x3 h0) fun v1 h1 =>
 bnd (aA v1 h1) fun v2 h2 =>
 bnd (bS v2 h2) fun v3 h3 =>
 bnd (aD .eql v3 (aE 1) h3) fun v4 h4 =>
 some (v4, h4)
noncomputable def tG (r : RT) (n : Nat) (x0 x3 : DV) (h0 : Hp) : aH :=
 bnd (aB 5 x3 h0) fun v1 h1 =>
 bnd (aA v1 h1) fun v2 h2 =>
 bnd (bS v2 h2) fun v3 h3 =>
 bnd (aD .neq v3 (aE 1) h3) fun v4 h4 =>
 aS v4 (
 bnd (r 241 [x0, (.s []), (aE 1)] h4) fun v5 h5 =>
  aGn r n x3 h5) (
  aGn r n x3 h4)
noncomputable def s250 (r : RT) (n : Nat) (x0 x1 : DV) (h0 : Hp) : aH :=
 bnd (bU x1 h0) fun v1 h1 =>
  tG r n x0 v1 h1
noncomputable abbrev c250 : Code := cf Tryz.f250
noncomputable abbrev aCw : Code := cR c250
noncomputable abbrev cRd : Code := cR aCw
noncomputable abbrev bGm : Code := cL aCw
noncomputable abbrev aPv : Code := cL c250
noncomputable abbrev r250 : K := aO CF Tryz.f250
noncomputable def D250 (r : RT) (n : Nat) (c : Code) (X : Nat → K) (k : K) : K := aP CF r 15 n c X r250 k
theorem bTk : D250 r n cRd x0 r250 = (K1 (aGn r n) 3) :=
 (by kernel_rfl)
theorem bOk : D250 r n aCw x0 r250 = D250 r n bGm x0 (K1 (aGn r n) 3) :=
 congrArg (fun k => D250 r n bGm x0 k) (bTk r n)
theorem bVr : D250 r n aCw x0 r250 = (K2 (tG r n) 0 3) :=
 (bOk r n).trans
 ((by kernel_rfl))
theorem cMs : D250 r n c250 x0 r250 = D250 r n aPv x0 (K2 (tG r n) 0 3) :=
 congrArg (fun k => D250 r n aPv x0 k) (bVr r n)
theorem cHw (q0 : gF) : D250 r n aPv x0 (K2 q0 0 3) = fun (env : aU) (h : Hp) =>
 bnd (bU (env 1) h) fun v1 h1 =>
  q0 (env 0) v1 h1 := by kernel_rfl
theorem bWf : (fun (env : aU) (h : Hp) =>
 bnd (bU (env 1) h) fun v1 h1 =>
  tG r n (env 0) v1 h1) = (K2 (s250 r n) 0 1) := by kernel_rfl
theorem cUd : D250 r n c250 x0 r250 = (K2 (s250 r n) 0 1) :=
 (cMs r n).trans
 ((cHw r n (tG r n)).trans (bWf r n))
theorem cKq : aG CF r n 250 args h = s250 r n (aR args 0) (aR args 1) h :=
 (by kernel_rfl : aG CF r n 250 args h = D250 r n c250 x0 r250 (aJ args) h).trans ((congrFun (congrFun (cUd r n) (aJ args)) h).trans (by kernel_rfl))
noncomputable def s267 (r : RT) (n : Nat) (x0 : DV) (h0 : Hp) : aH :=
 bnd (r 231 [x0] h0) fun v1 h1 =>
 bnd (gD v1 false (some (x0, h1)) h1) fun v2 h2 =>
 bnd (gD v1 false (r 234 [v2] h2) h2) fun v3 h3 =>
 bnd (aM v1 (.b true) v3 h3) fun v4 h4 =>
 some (v4, h4)
noncomputable abbrev c267 : Code := cf Tryz.f267
noncomputable abbrev r267 : K := aO CF Tryz.f267
noncomputable def D267 (r : RT) (n : Nat) (c : Code) (X : Nat → K) (k : K) : K := aP CF r 9 n c X r267 k
theorem cTv : D267 r n c267 x0 r267 = (K1 (s267 r n) 0) :=
 (by kernel_rfl)
theorem cMl : aG CF r n 267 args h = s267 r n (aR args 0) h :=
 (by kernel_rfl : aG CF r n 267 args h = D267 r n c267 x0 r267 (aJ args) h).trans ((congrFun (congrFun (cTv r n) (aJ args)) h).trans (by kernel_rfl))
end Go.Dd

namespace Go.Dd
open Go.Proofs
variable (r : RT) (n : Nat) (args : List DV) (h : Hp)
noncomputable def mL (r : RT) (n : Nat) (x2 : DV) (h0 : Hp) : aH :=
 bnd (aZ gC [] h0) fun v1 h1 =>
 bnd (aF 6 x2 v1 h1) fun _ h2 =>
 bnd (aK 6 x2 h2) fun v3 _ =>
 some (v3, h2)
noncomputable def pK (r : RT) (n : Nat) (x0 x2 : DV) (h0 : Hp) : aH :=
 bnd (r 205 [x0, (aE 0)] h0) fun v1 h1 =>
 bnd (bI [(aE 0), (.s []), (aE 0), (aE 0)] h1) fun v2 h2 =>
 bnd (aF 4 v2 v1 h2) fun _ h3 =>
 bnd (aQ x0 h3) fun v4 h4 =>
 bnd (aB 3 v4 h4) fun v5 h5 =>
 bnd (aA v5 h5) fun v6 h6 =>
 bnd (aD .neq v6 (aE 0) h6) fun v7 h7 =>
 aS v7 (
  mL r n x2 h7) (
 bnd (aB 0 v2 h7) fun v8 h8 =>
 bnd (aA v8 h8) fun v9 h9 =>
 bnd (aD .eql v9 (aE 1) h9) fun v10 h10 =>
 aS v10 (
 bnd (r 202 [x0] h10) fun v11 h11 =>
 bnd (eX 1 v11 h11) fun v12 h12 =>
 bnd (aZ gC [(0, 1, (aE 5)), (1, 1, v12)] h12) fun v13 h13 =>
 bnd (aF 6 x2 v13 h13) fun _ h14 =>
 bnd (aK 6 x2 h14) fun v15 _ =>
 some (v15, h14)) (
 bnd (aB 0 v2 h10) fun v16 h16 =>
 bnd (aA v16 h16) fun v17 h17 =>
 bnd (aD .eql v17 (aE 7) h17) fun v18 h18 =>
 aS v18 (
 bnd (r 296 [x0, (.f 297 [x0] [])] h18) fun v19 h19 =>
 bnd (aF 6 x2 v19 h19) fun _ h20 =>
 bnd (aK 6 x2 h20) fun v21 _ =>
 some (v21, h20)) (
 bnd (r 201 [x0, (aE 10), (.s [40])] h18) fun v22 h22 =>
 aS v22 (
 bnd (r 296 [x0, (.f 298 [x0] [])] h22) fun v23 h23 =>
 bnd (aF 6 x2 v23 h23) fun _ h24 =>
 bnd (aK 6 x2 h24) fun v25 _ =>
 some (v25, h24)) (
 bnd (r 201 [x0, (aE 10), (.s [91])] h22) fun v26 h26 =>
 aS v26 (
 bnd (r 296 [x0, (.f 299 [x0] [])] h26) fun v27 h27 =>
 bnd (aF 6 x2 v27 h27) fun _ h28 =>
 bnd (aK 6 x2 h28) fun v29 _ =>
 some (v29, h28)) (
 bnd (aK 4 v2 h26) fun v30 h30 =>
 bnd (r 204 [x0, v30, (aE 13)] h30) fun v31 h31 =>
      mL r n x2 h31)))))
noncomputable def pN (r : RT) (n : Nat) (x0 x2 : DV) (h0 : Hp) : aH :=
 bnd (r 295 [x0] h0) fun v1 h1 =>
 bnd (aC 0 v1 h1) fun v2 h2 =>
 bnd (aC 1 v1 h2) fun v3 h3 =>
 bnd (bI gC h3) fun v4 h4 =>
 bnd (aF 6 v4 v2 h4) fun _ h5 =>
 aS v3 (
 bnd (aK 6 v4 h5) fun v6 h6 =>
 bnd (aF 6 x2 v6 h6) fun _ h7 =>
 bnd (aK 6 x2 h7) fun v8 _ =>
 some (v8, h7)) (
  pK r n x0 x2 h5)
noncomputable def s272 (r : RT) (n : Nat) (x0 : DV) (h0 : Hp) : aH :=
 bnd (bI gC h0) fun v1 h1 =>
  pN r n x0 v1 h1
noncomputable abbrev c272 : Code := cf Tryz.f272
noncomputable abbrev aAf : Code := cR c272
noncomputable abbrev aGf : Code := cR aAf
noncomputable abbrev cHh : Code := cR aGf
noncomputable abbrev aPw : Code := cL aGf
noncomputable abbrev aOm : Code := cL aAf
noncomputable abbrev aPs : Code := cL c272
noncomputable abbrev r272 : K := aO CF Tryz.f272
noncomputable def D272 (r : RT) (n : Nat) (c : Code) (X : Nat → K) (k : K) : K := aP CF r 55 n c X r272 k
theorem bTc : D272 r n cHh x0 r272 = (K1 (mL r n) 2) :=
 (by kernel_rfl)
theorem bRh : D272 r n aGf x0 r272 = D272 r n aPw x0 (K1 (mL r n) 2) :=
 congrArg (fun k => D272 r n aPw x0 k) (bTc r n)
theorem bRm (q0 : TT1) : D272 r n aPw x0 (K1 q0 2) = fun (env : aU) (h : Hp) =>
 bnd (r 205 [(env 0), (aE 0)] h) fun v1 h1 =>
 bnd (bI [(aE 0), (.s []), (aE 0), (aE 0)] h1) fun v2 h2 =>
 bnd (aF 4 v2 v1 h2) fun _ h3 =>
 bnd (aQ (env 0) h3) fun v4 h4 =>
 bnd (aB 3 v4 h4) fun v5 h5 =>
 bnd (aA v5 h5) fun v6 h6 =>
 bnd (aD .neq v6 (aE 0) h6) fun v7 h7 =>
 aS v7 (
   q0 (env 2) h7) (
 bnd (aB 0 v2 h7) fun v8 h8 =>
 bnd (aA v8 h8) fun v9 h9 =>
 bnd (aD .eql v9 (aE 1) h9) fun v10 h10 =>
 aS v10 (
 bnd (r 202 [(env 0)] h10) fun v11 h11 =>
 bnd (eX 1 v11 h11) fun v12 h12 =>
 bnd (aZ gC [(0, 1, (aE 5)), (1, 1, v12)] h12) fun v13 h13 =>
 bnd (aF 6 (env 2) v13 h13) fun _ h14 =>
 bnd (aK 6 (env 2) h14) fun v15 _ =>
 some (v15, h14)) (
 bnd (aB 0 v2 h10) fun v16 h16 =>
 bnd (aA v16 h16) fun v17 h17 =>
 bnd (aD .eql v17 (aE 7) h17) fun v18 h18 =>
 aS v18 (
 bnd (r 296 [(env 0), (.f 297 [(env 0)] [])] h18) fun v19 h19 =>
 bnd (aF 6 (env 2) v19 h19) fun _ h20 =>
 bnd (aK 6 (env 2) h20) fun v21 _ =>
 some (v21, h20)) (
 bnd (r 201 [(env 0), (aE 10), (.s [40])] h18) fun v22 h22 =>
 aS v22 (
 bnd (r 296 [(env 0), (.f 298 [(env 0)] [])] h22) fun v23 h23 =>
 bnd (aF 6 (env 2) v23 h23) fun _ h24 =>
 bnd (aK 6 (env 2) h24) fun v25 _ =>
 some (v25, h24)) (
 bnd (r 201 [(env 0), (aE 10), (.s [91])] h22) fun v26 h26 =>
 aS v26 (
 bnd (r 296 [(env 0), (.f 299 [(env 0)] [])] h26) fun v27 h27 =>
 bnd (aF 6 (env 2) v27 h27) fun _ h28 =>
 bnd (aK 6 (env 2) h28) fun v29 _ =>
 some (v29, h28)) (
 bnd (aK 4 v2 h26) fun v30 h30 =>
 bnd (r 204 [(env 0), v30, (aE 13)] h30) fun v31 h31 =>
       q0 (env 2) h31))))) := by kernel_rfl
theorem aXf : (fun (env : aU) (h : Hp) =>
 bnd (r 205 [(env 0), (aE 0)] h) fun v1 h1 =>
 bnd (bI [(aE 0), (.s []), (aE 0), (aE 0)] h1) fun v2 h2 =>
 bnd (aF 4 v2 v1 h2) fun _ h3 =>
 bnd (aQ (env 0) h3) fun v4 h4 =>
 bnd (aB 3 v4 h4) fun v5 h5 =>
 bnd (aA v5 h5) fun v6 h6 =>
 bnd (aD .neq v6 (aE 0) h6) fun v7 h7 =>
 aS v7 (
   mL r n (env 2) h7) (
 bnd (aB 0 v2 h7) fun v8 h8 =>
 bnd (aA v8 h8) fun v9 h9 =>
 bnd (aD .eql v9 (aE 1) h9) fun v10 h10 =>
 aS v10 (
 bnd (r 202 [(env 0)] h10) fun v11 h11 =>
 bnd (eX 1 v11 h11) fun v12 h12 =>
 bnd (aZ gC [(0, 1, (aE 5)), (1, 1, v12)] h12) fun v13 h13 =>
 bnd (aF 6 (env 2) v13 h13) fun _ h14 =>
 bnd (aK 6 (env 2) h14) fun v15 _ =>
 some (v15, h14)) (
 bnd (aB 0 v2 h10) fun v16 h16 =>
 bnd (aA v16 h16) fun v17 h17 =>
 bnd (aD .eql v17 (aE 7) h17) fun v18 h18 =>
 aS v18 (
 bnd (r 296 [(env 0), (.f 297 [(env 0)] [])] h18) fun v19 h19 =>
 bnd (aF 6 (env 2) v19 h19) fun _ h20 =>
 bnd (aK 6 (env 2) h20) fun v21 _ =>
 some (v21, h20)) (
 bnd (r 201 [(env 0), (aE 10), (.s [40])] h18) fun v22 h22 =>
 aS v22 (
 bnd (r 296 [(env 0), (.f 298 [(env 0)] [])] h22) fun v23 h23 =>
 bnd (aF 6 (env 2) v23 h23) fun _ h24 =>
 bnd (aK 6 (env 2) h24) fun v25 _ =>
 some (v25, h24)) (
 bnd (r 201 [(env 0), (aE 10), (.s [91])] h22) fun v26 h26 =>
 aS v26 (
 bnd (r 296 [(env 0), (.f 299 [(env 0)] [])] h26) fun v27 h27 =>
 bnd (aF 6 (env 2) v27 h27) fun _ h28 =>
 bnd (aK 6 (env 2) h28) fun v29 _ =>
 some (v29, h28)) (
 bnd (aK 4 v2 h26) fun v30 h30 =>
 bnd (r 204 [(env 0), v30, (aE 13)] h30) fun v31 h31 =>
       mL r n (env 2) h31)))))) = (K2 (pK r n) 0 2) := by kernel_rfl
theorem cFq : D272 r n aGf x0 r272 = (K2 (pK r n) 0 2) :=
 (bRh r n).trans
 ((bRm r n (mL r n)).trans (aXf r n))
theorem bBd : D272 r n aAf x0 r272 = D272 r n aOm x0 (K2 (pK r n) 0 2) :=
 congrArg (fun k => D272 r n aOm x0 k) (cFq r n)
theorem bJo (q0 : gF) : D272 r n aOm x0 (K2 q0 0 2) = fun (env : aU) (h : Hp) =>
 bnd (r 295 [(env 0)] h) fun v1 h1 =>
 bnd (aC 0 v1 h1) fun v2 h2 =>
 bnd (aC 1 v1 h2) fun v3 h3 =>
 bnd (bI gC h3) fun v4 h4 =>
 bnd (aF 6 v4 v2 h4) fun _ h5 =>
 aS v3 (
 bnd (aK 6 v4 h5) fun v6 h6 =>
 bnd (aF 6 (env 2) v6 h6) fun _ h7 =>
 bnd (aK 6 (env 2) h7) fun v8 _ =>
 some (v8, h7)) (
   q0 (env 0) (env 2) h5) := by kernel_rfl
theorem aYo : (fun (env : aU) (h : Hp) =>
 bnd (r 295 [(env 0)] h) fun v1 h1 =>
 bnd (aC 0 v1 h1) fun v2 h2 =>
 bnd (aC 1 v1 h2) fun v3 h3 =>
 bnd (bI gC h3) fun v4 h4 =>
 bnd (aF 6 v4 v2 h4) fun _ h5 =>
 aS v3 (
 bnd (aK 6 v4 h5) fun v6 h6 =>
 bnd (aF 6 (env 2) v6 h6) fun _ h7 =>
 bnd (aK 6 (env 2) h7) fun v8 _ =>
 some (v8, h7)) (
   pK r n (env 0) (env 2) h5)) = (K2 (pN r n) 0 2) := by kernel_rfl
theorem bYu : D272 r n aAf x0 r272 = (K2 (pN r n) 0 2) :=
 (bBd r n).trans
 ((bJo r n (pK r n)).trans (aYo r n))
theorem cRf : D272 r n c272 x0 r272 = D272 r n aPs x0 (K2 (pN r n) 0 2) :=
 congrArg (fun k => D272 r n aPs x0 k) (bYu r n)
theorem cJd (q0 : gF) : D272 r n aPs x0 (K2 q0 0 2) = fun (env : aU) (h : Hp) =>
 bnd (bI gC h) fun v1 h1 =>
  q0 (env 0) v1 h1 := by kernel_rfl
theorem bUe : (fun (env : aU) (h : Hp) =>
 bnd (bI gC h) fun v1 h1 =>
  pN r n (env 0) v1 h1) = (K1 (s272 r n) 0) := by kernel_rfl
theorem cXd : D272 r n c272 x0 r272 = (K1 (s272 r n) 0) :=
 (cRf r n).trans
 ((cJd r n (pN r n)).trans (bUe r n))
theorem cOx : aG CF r n 272 args h = s272 r n (aR args 0) h :=
 (by kernel_rfl : aG CF r n 272 args h = D272 r n c272 x0 r272 (aJ args) h).trans ((congrFun (congrFun (cXd r n) (aJ args)) h).trans (by kernel_rfl))
noncomputable def eF (r : RT) (n : Nat) (h0 : Hp) : aH :=
 some ((.i .i64 (Int.negSucc 0)), h0)
noncomputable def aVm (r : RT) (n : Nat) (kk4 : dM) (x0 x1 x7 x8 : DV) (h0 : Hp) : aH :=
 bnd (aD .lss x8 x7 h0) fun v1 h1 =>
 aS v1 (
 bnd (aI 4 x0 x8 h1) fun v2 h2 =>
 bnd (aK 4 v2 h2) fun v3 h3 =>
 bnd (dE CF r x1 [v3] h3) fun v4 h4 =>
 aS v4 (
 some (x8, h4)) (
 bnd (aD .add x8 (aE 1) h4) fun v5 h5 =>
    kk4 x0 x1 x7 v5 h5)) (
      eF r n h1)
noncomputable def rT (r : RT) (n : Nat) (m : Nat) : dM :=
 Nat.rec (motive := fun _ => dM) (fun _ _ _ _ _ => none) (fun _ ih => aVm r n ih) m
noncomputable def bNx (r : RT) (n : Nat) : dM := rT r n n
noncomputable def aOl (r : RT) (n : Nat) (x0 x1 x7 x8 : DV) (h0 : Hp) : aH :=
 bNx r n x0 x1 x7 x8 h0
noncomputable def aPa (r : RT) (n : Nat) (x0 x1 : DV) (h0 : Hp) : aH :=
 bnd (bS x0 h0) fun v1 h1 =>
  aOl r n x0 x1 v1 (aE 0) h1
noncomputable def s275 (r : RT) (n : Nat) (x0 x1 : DV) (h0 : Hp) : aH :=
 aPa r n x0 x1 h0
noncomputable abbrev c275 : Code := cf Tryz.f275
noncomputable abbrev aGx : Code := cR c275
noncomputable abbrev cMp : Code := cR aGx
noncomputable abbrev tS : Code := cL aGx
noncomputable abbrev aOs : Code := cR tS
noncomputable abbrev aCn : Code := cL aOs
noncomputable abbrev mJ : Code := cL aCn
noncomputable abbrev bCd : Code := cL tS
noncomputable abbrev bEm : Code := cL c275
noncomputable abbrev r275 : K := aO CF Tryz.f275
noncomputable def D275 (r : RT) (n : Nat) (c : Code) (X : Nat → K) (k : K) : K := aP CF r 19 n c X r275 k
theorem bUa : D275 r n cMp x0 r275 = (K0 (eF r n)) :=
 (by kernel_rfl)
theorem bSa (kk4 : dM) : D275 r n mJ (xs x0 0 (K0 (eF r n))) (K4 kk4 0 1 7 8) = (K4 (aVm r n kk4) 0 1 7 8) :=
 (by kernel_rfl)
theorem bBh (m : Nat) : aN (fun kk => D275 r n mJ (xs x0 0 (K0 (eF r n))) kk) m = (K4 (rT r n m) 0 1 7 8) := by
 induction m with
 | zero => exact (by kernel_rfl : aN (fun kk => D275 r n mJ (xs x0 0 (K0 (eF r n))) kk) 0 = (K4 (rT r n 0) 0 1 7 8))
 | succ m ih =>
  refine (by kernel_rfl : aN (fun kk => D275 r n mJ (xs x0 0 (K0 (eF r n))) kk) (m + 1) = D275 r n mJ (xs x0 0 (K0 (eF r n))) (aN (fun kk => D275 r n mJ (xs x0 0 (K0 (eF r n))) kk) m)).trans ?_
  rw [ih]
  exact (bSa r n (rT r n m)).trans (by kernel_rfl)
theorem bYj : D275 r n aCn (xs x0 0 (K0 (eF r n))) (K0 (eF r n)) = (K4 (bNx r n) 0 1 7 8) :=
 (by kernel_rfl : D275 r n aCn (xs x0 0 (K0 (eF r n))) (K0 (eF r n)) = aN (fun kk => D275 r n mJ (xs x0 0 (K0 (eF r n))) kk) n).trans ((bBh r n n).trans (by kernel_rfl))
theorem cDu : D275 r n aOs x0 (K0 (eF r n)) = (K4 (aOl r n) 0 1 7 8) :=
 (by kernel_rfl : D275 r n aOs x0 (K0 (eF r n)) = D275 r n aCn (xs x0 0 (K0 (eF r n))) (K0 (eF r n))).trans
 ((bYj r n).trans (by kernel_rfl))
theorem bQn : D275 r n aGx x0 r275 = D275 r n tS x0 (K0 (eF r n)) :=
 congrArg (fun k => D275 r n tS x0 k) (bUa r n)
theorem bQw : D275 r n tS x0 (K0 (eF r n)) = D275 r n bCd x0 (K4 (aOl r n) 0 1 7 8) :=
 congrArg (fun k => D275 r n bCd x0 k) (cDu r n)
theorem cBk : D275 r n aGx x0 r275 = (K2 (aPa r n) 0 1) :=
 (bQn r n).trans
 ((bQw r n).trans
 ((by kernel_rfl)))
theorem cKz : D275 r n c275 x0 r275 = D275 r n bEm x0 (K2 (aPa r n) 0 1) :=
 congrArg (fun k => D275 r n bEm x0 k) (cBk r n)
theorem cWm : D275 r n c275 x0 r275 = (K2 (s275 r n) 0 1) :=
 (cKz r n).trans
 ((by kernel_rfl))
theorem cOy : aG CF r n 275 args h = s275 r n (aR args 0) (aR args 1) h :=
 (by kernel_rfl : aG CF r n 275 args h = D275 r n c275 x0 r275 (aJ args) h).trans ((congrFun (congrFun (cWm r n) (aJ args)) h).trans (by kernel_rfl))
noncomputable def s276 (r : RT) (n : Nat) (x0 x1 : DV) (h0 : Hp) : aH :=
 bnd (bU x0 h0) fun v1 h1 =>
 bnd (aB 0 v1 h1) fun v2 h2 =>
 bnd (aA v2 h2) fun v3 h3 =>
 bnd (aA x1 h3) fun v4 h4 =>
 bnd (eB .eql v3 v4 h4) fun v5 h5 =>
 some (v5, h5)
noncomputable abbrev c276 : Code := cf Tryz.f276
noncomputable abbrev r276 : K := aO CF Tryz.f276
noncomputable def D276 (r : RT) (n : Nat) (c : Code) (X : Nat → K) (k : K) : K := aP CF r 8 n c X r276 k
theorem cWe : D276 r n c276 x0 r276 = (K2 (s276 r n) 0 1) :=
 (by kernel_rfl)
theorem cNl : aG CF r n 276 args h = s276 r n (aR args 0) (aR args 1) h :=
 (by kernel_rfl : aG CF r n 276 args h = D276 r n c276 x0 r276 (aJ args) h).trans ((congrFun (congrFun (cWe r n) (aJ args)) h).trans (by kernel_rfl))
noncomputable def s277 (r : RT) (n : Nat) (x0 x1 : DV) (h0 : Hp) : aH :=
 bnd (bU x0 h0) fun v1 h1 =>
 bnd (aK 4 v1 h1) fun v2 h2 =>
 bnd (aK 4 x1 h2) fun v3 h3 =>
 bnd (r 278 [v2, v3] h3) fun v4 h4 =>
 some (v4, h4)
noncomputable abbrev c277 : Code := cf Tryz.f277
noncomputable abbrev r277 : K := aO CF Tryz.f277
noncomputable def D277 (r : RT) (n : Nat) (c : Code) (X : Nat → K) (k : K) : K := aP CF r 7 n c X r277 k
theorem cYe : D277 r n c277 x0 r277 = (K2 (s277 r n) 0 1) :=
 (by kernel_rfl)
theorem cOf : aG CF r n 277 args h = s277 r n (aR args 0) (aR args 1) h :=
 (by kernel_rfl : aG CF r n 277 args h = D277 r n c277 x0 r277 (aJ args) h).trans ((congrFun (congrFun (cYe r n) (aJ args)) h).trans (by kernel_rfl))
noncomputable def s278 (r : RT) (n : Nat) (x0 x1 : DV) (h0 : Hp) : aH :=
 bnd (bU x0 h0) fun v1 h1 =>
 bnd (bU x1 h1) fun v2 h2 =>
 bnd (aB 0 v1 h2) fun v3 h3 =>
 bnd (aA v3 h3) fun v4 h4 =>
 bnd (aB 0 v2 h4) fun v5 h5 =>
 bnd (aA v5 h5) fun v6 h6 =>
 bnd (aD .eql v4 v6 h6) fun v7 h7 =>
 bnd (gD v7 true (aB 1 v1 h7) h7) fun v8 h8 =>
 bnd (gD v7 true (aA v8 h8) h8) fun v9 h9 =>
 bnd (gD v7 true (aB 1 v2 h9) h9) fun v10 h10 =>
 bnd (gD v7 true (aA v10 h10) h10) fun v11 h11 =>
 bnd (gD v7 true (eB .eql v9 v11 h11) h11) fun v12 h12 =>
 bnd (aM v7 v12 (.b false) h12) fun v13 h13 =>
 bnd (gD v13 true (aB 2 v1 h13) h13) fun v14 h14 =>
 bnd (gD v13 true (aA v14 h14) h14) fun v15 h15 =>
 bnd (gD v13 true (aB 2 v2 h15) h15) fun v16 h16 =>
 bnd (gD v13 true (aA v16 h16) h16) fun v17 h17 =>
 bnd (gD v13 true (aD .eql v15 v17 h17) h17) fun v18 h18 =>
 bnd (aM v13 v18 (.b false) h18) fun v19 h19 =>
 bnd (gD v19 true (aB 3 v1 h19) h19) fun v20 h20 =>
 bnd (gD v19 true (aA v20 h20) h20) fun v21 h21 =>
 bnd (gD v19 true (aB 3 v2 h21) h21) fun v22 h22 =>
 bnd (gD v19 true (aA v22 h22) h22) fun v23 h23 =>
 bnd (gD v19 true (r 301 [v21, v23, (.f 278 [] [])] h23) h23) fun v24 h24 =>
 bnd (aM v19 v24 (.b false) h24) fun v25 h25 =>
 some (v25, h25)
noncomputable abbrev c278 : Code := cf Tryz.f278
noncomputable abbrev r278 : K := aO CF Tryz.f278
noncomputable def D278 (r : RT) (n : Nat) (c : Code) (X : Nat → K) (k : K) : K := aP CF r 31 n c X r278 k
theorem cUg : D278 r n c278 x0 r278 = (K2 (s278 r n) 0 1) :=
 (by kernel_rfl)
theorem cPx : aG CF r n 278 args h = s278 r n (aR args 0) (aR args 1) h :=
 (by kernel_rfl : aG CF r n 278 args h = D278 r n c278 x0 r278 (aJ args) h).trans ((congrFun (congrFun (cUg r n) (aJ args)) h).trans (by kernel_rfl))
noncomputable def s280 (r : RT) (n : Nat) (x0 x1 : DV) (h0 : Hp) : aH :=
 bnd (aZ [(aE 0), (.s []), (aE 0), .l0] [(0, 1, (aE 3)), (1, 1, x1)] h0) fun v1 h1 =>
 bnd (kF [x0, v1] h1) fun v2 h2 =>
 some (v2, h2)
noncomputable abbrev c280 : Code := cf Tryz.f280
noncomputable abbrev r280 : K := aO CF Tryz.f280
noncomputable def D280 (r : RT) (n : Nat) (c : Code) (X : Nat → K) (k : K) : K := aP CF r 9 n c X r280 k
theorem cUq : D280 r n c280 x0 r280 = (K2 (s280 r n) 0 1) :=
 (by kernel_rfl)
theorem cKs : aG CF r n 280 args h = s280 r n (aR args 0) (aR args 1) h :=
 (by kernel_rfl : aG CF r n 280 args h = D280 r n c280 x0 r280 (aJ args) h).trans ((congrFun (congrFun (cUq r n) (aJ args)) h).trans (by kernel_rfl))
noncomputable def kR (r : RT) (n : Nat) (x2 x3 x5 x6 x9 : DV) (h0 : Hp) : aH :=
 bnd (aB 5 x3 h0) fun v1 h1 =>
 bnd (aA v1 h1) fun v2 h2 =>
 bnd (bS v2 h2) fun v3 h3 =>
 bnd (aD .neq v3 x9 h3) fun v4 h4 =>
 bnd (gD v4 false (aB 5 x3 h4) h4) fun v5 h5 =>
 bnd (gD v4 false (aA v5 h5) h5) fun v6 h6 =>
 bnd (gD v4 false (cI 6 v6 (some (aE 1)) none h6) h6) fun v7 h7 =>
 bnd (gD v4 false (r 308 [v7, (.f 309 [] [])] h7) h7) fun v8 h8 =>
 bnd (aM v4 (.b true) v8 h8) fun v9 h9 =>
 aS v9 (
 some ((.b false), h9)) (
 bnd (aA x2 h9) fun v10 h10 =>
 bnd (aB 5 x3 h10) fun v11 h11 =>
 bnd (aA v11 h11) fun v12 h12 =>
 bnd (aI 6 v12 (aE 0) h12) fun v13 h13 =>
 bnd (aK 6 v13 h13) fun v14 h14 =>
 bnd (r 208 [v10, v14] h14) fun v15 h15 =>
 bnd (aA x2 h15) fun v16 h16 =>
 bnd (r 248 [v16, (aE 17)] h16) fun v17 h17 =>
 bnd (dE CF r x5 [] h17) fun v18 h18 =>
 bnd (aA x2 h18) fun v19 h19 =>
 bnd (r 248 [v19, (aE 16)] h19) fun v20 h20 =>
 bnd (dE CF r v17 [] h20) fun v21 h21 =>
 bnd (dE CF r x6 [] h21) fun v22 h22 =>
 bnd (dE CF r v20 [] h22) fun v23 h23 =>
 some ((.b true), h23))
noncomputable def aMr (r : RT) (n : Nat) (x2 x3 x7 x8 x9 : DV) (h0 : Hp) : aH :=
 bnd (aB 1 x3 h0) fun v1 h1 =>
 bnd (aA v1 h1) fun v2 h2 =>
 bnd (eB .eql v2 (.s [105, 102, 84, 114, 117, 101, 58]) h2) fun v3 h3 =>
 aS v3 (
 bnd (dE CF r x7 [(aE 1)] h3) fun v4 h4 =>
 bnd (dE CF r x8 [(aE 2)] h4) fun v5 h5 =>
  kR r n x2 x3 v4 v5 x9 h5) (
 bnd (eB .eql v2 (.s [105, 102, 70, 97, 108, 115, 101, 58]) h3) fun v6 h6 =>
 aS v6 (
 bnd (dE CF r x8 [(aE 2)] h6) fun v7 h7 =>
 bnd (dE CF r x7 [(aE 1)] h7) fun v8 h8 =>
      kR r n x2 x3 v7 v8 x9 h8) (
 bnd (eB .eql v2 (.s [97, 110, 100, 58]) h6) fun v9 h9 =>
 aS v9 (
 bnd (dE CF r x7 [(aE 1)] h9) fun v10 h10 =>
 bnd (dE CF r x8 [(aE 4)] h10) fun v11 h11 =>
    kR r n x2 x3 v10 v11 x9 h11) (
 bnd (eB .eql v2 (.s [111, 114, 58]) h9) fun v12 h12 =>
 aS v12 (
 bnd (dE CF r x8 [(aE 3)] h12) fun v13 h13 =>
 bnd (dE CF r x7 [(aE 1)] h13) fun v14 h14 =>
     kR r n x2 x3 v13 v14 x9 h14) (
 bnd (eB .eql v2 (.s [105, 102, 84, 114, 117, 101, 58, 105, 102, 70, 97, 108, 115, 101, 58]) h12) fun v15 h15 =>
 aS v15 (
 bnd (dE CF r x7 [(aE 1)] h15) fun v16 h16 =>
 bnd (dE CF r x7 [(aE 2)] h16) fun v17 h17 =>
      kR r n x2 x3 v16 v17 (aE 3) h17) (
 bnd (eB .eql v2 (.s [105, 102, 70, 97, 108, 115, 101, 58, 105, 102, 84, 114, 117, 101, 58]) h15) fun v18 h18 =>
 aS v18 (
 bnd (dE CF r x7 [(aE 2)] h18) fun v19 h19 =>
 bnd (dE CF r x7 [(aE 1)] h19) fun v20 h20 =>
       kR r n x2 x3 v19 v20 (aE 3) h20) (
 some ((.b false), h18)))))))
noncomputable def aMh (r : RT) (n : Nat) (x2 x3 x7 x8 : DV) (h0 : Hp) : aH :=
 aMr r n x2 x3 x7 x8 (aE 2) h0
noncomputable def aJn (r : RT) (n : Nat) (x2 x3 x7 : DV) (h0 : Hp) : aH :=
 aMh r n x2 x3 x7 (.f 306 [] [x2]) h0
noncomputable def aNe (r : RT) (n : Nat) (x2 x3 : DV) (h0 : Hp) : aH :=
 aJn r n x2 x3 (.f 304 [] [x2, x3]) h0
noncomputable def vM (r : RT) (n : Nat) (x2 x3 : DV) (h0 : Hp) : aH :=
 aNe r n x2 x3 h0
noncomputable def s281 (r : RT) (n : Nat) (x0 x1 : DV) (h0 : Hp) : aH :=
 bnd (bU x0 h0) fun v1 h1 =>
 bnd (bU x1 h1) fun v2 h2 =>
  vM r n v1 v2 h2
noncomputable abbrev c281 : Code := cf Tryz.f281
noncomputable abbrev aEd : Code := cR c281
noncomputable abbrev yW : Code := cR aEd
noncomputable abbrev zV : Code := cR yW
noncomputable abbrev aFo : Code := cR zV
noncomputable abbrev aBp : Code := cR aFo
noncomputable abbrev cMr : Code := cR aBp
noncomputable abbrev bPb : Code := cL aBp
noncomputable abbrev bKy : Code := cL aFo
noncomputable abbrev bOz : Code := cL zV
noncomputable abbrev aTg : Code := cL yW
noncomputable abbrev aVh : Code := cL aEd
noncomputable abbrev aEg : Code := cL c281
noncomputable abbrev r281 : K := aO CF Tryz.f281
noncomputable def D281 (r : RT) (n : Nat) (c : Code) (X : Nat → K) (k : K) : K := aP CF r 81 n c X r281 k
theorem bSm : D281 r n cMr x0 r281 = (K5 (kR r n) 2 3 5 6 9) :=
 (by kernel_rfl)
theorem bKk : D281 r n aBp x0 r281 = D281 r n bPb x0 (K5 (kR r n) 2 3 5 6 9) :=
 congrArg (fun k => D281 r n bPb x0 k) (bSm r n)
theorem bUv : D281 r n aBp x0 r281 = (K5 (aMr r n) 2 3 7 8 9) :=
 (bKk r n).trans
 ((by kernel_rfl))
theorem bQu : D281 r n aFo x0 r281 = D281 r n bKy x0 (K5 (aMr r n) 2 3 7 8 9) :=
 congrArg (fun k => D281 r n bKy x0 k) (bUv r n)
theorem bVn : D281 r n aFo x0 r281 = (K4 (aMh r n) 2 3 7 8) :=
 (bQu r n).trans
 ((by kernel_rfl))
theorem bNb : D281 r n zV x0 r281 = D281 r n bOz x0 (K4 (aMh r n) 2 3 7 8) :=
 congrArg (fun k => D281 r n bOz x0 k) (bVn r n)
theorem cCp : D281 r n zV x0 r281 = (K3 (aJn r n) 2 3 7) :=
 (bNb r n).trans
 ((by kernel_rfl))
theorem bMh : D281 r n yW x0 r281 = D281 r n aTg x0 (K3 (aJn r n) 2 3 7) :=
 congrArg (fun k => D281 r n aTg x0 k) (cCp r n)
theorem cCi : D281 r n yW x0 r281 = (K2 (aNe r n) 2 3) :=
 (bMh r n).trans
 ((by kernel_rfl))
theorem bNs : D281 r n aEd x0 r281 = D281 r n aVh x0 (K2 (aNe r n) 2 3) :=
 congrArg (fun k => D281 r n aVh x0 k) (cCi r n)
theorem bWp : D281 r n aEd x0 r281 = (K2 (vM r n) 2 3) :=
 (bNs r n).trans
 ((by kernel_rfl))
theorem cMb : D281 r n c281 x0 r281 = D281 r n aEg x0 (K2 (vM r n) 2 3) :=
 congrArg (fun k => D281 r n aEg x0 k) (bWp r n)
theorem cHr (q0 : gF) : D281 r n aEg x0 (K2 q0 2 3) = fun (env : aU) (h : Hp) =>
 bnd (bU (env 0) h) fun v1 h1 =>
 bnd (bU (env 1) h1) fun v2 h2 =>
  q0 v1 v2 h2 := by kernel_rfl
theorem bZx : (fun (env : aU) (h : Hp) =>
 bnd (bU (env 0) h) fun v1 h1 =>
 bnd (bU (env 1) h1) fun v2 h2 =>
  vM r n v1 v2 h2) = (K2 (s281 r n) 0 1) := by kernel_rfl
theorem cTs : D281 r n c281 x0 r281 = (K2 (s281 r n) 0 1) :=
 (cMb r n).trans
 ((cHr r n (vM r n)).trans (bZx r n))
theorem cOi : aG CF r n 281 args h = s281 r n (aR args 0) (aR args 1) h :=
 (by kernel_rfl : aG CF r n 281 args h = D281 r n c281 x0 r281 (aJ args) h).trans ((congrFun (congrFun (cTs r n) (aJ args)) h).trans (by kernel_rfl))
noncomputable def dQ (r : RT) (n : Nat) (x0 x1 x2 x3 : DV) (h0 : Hp) : aH :=
 bnd (r 280 [x0, x2] h0) fun v1 h1 =>
 bnd (bS x3 h1) fun v2 h2 =>
 bnd (r 209 [x0, x1, v1, v2] h2) fun v3 h3 =>
 some (.t [], h3)
noncomputable def aBw (r : RT) (n : Nat) (kk3 : TT7) (x0 x1 x2 x3 x10 x11 x12 : DV) (h0 : Hp) : aH :=
 bnd (aD .lss x12 x11 h0) fun v1 h1 =>
 aS v1 (
 bnd (aI 6 x10 x12 h1) fun v2 h2 =>
 bnd (aK 6 v2 h2) fun v3 h3 =>
 bnd (bI gC h3) fun v4 h4 =>
 bnd (aF 6 v4 v3 h4) fun _ h5 =>
 bnd (aK 6 v4 h5) fun v6 h6 =>
 bnd (r 208 [x0, v6] h6) fun v7 h7 =>
 bnd (aD .add x12 (aE 1) h7) fun v8 h8 =>
      kk3 x0 x1 x2 x3 x10 x11 v8 h8) (
      dQ r n x0 x1 x2 x3 h1)
noncomputable def rK (r : RT) (n : Nat) (m : Nat) : TT7 :=
 Nat.rec (motive := fun _ => TT7) (fun _ _ _ _ _ _ _ _ => none) (fun _ ih => aBw r n ih) m
noncomputable def bPv (r : RT) (n : Nat) : TT7 := rK r n n
noncomputable def aOe (r : RT) (n : Nat) (x0 x1 x2 x3 x10 x11 x12 : DV) (h0 : Hp) : aH :=
 bPv r n x0 x1 x2 x3 x10 x11 x12 h0
noncomputable def s283 (r : RT) (n : Nat) (x0 x1 x2 x3 : DV) (h0 : Hp) : aH :=
 bnd (bS x3 h0) fun v1 h1 =>
  aOe r n x0 x1 x2 x3 x3 v1 (aE 0) h1
noncomputable abbrev c283 : Code := cf Tryz.f283
noncomputable abbrev cJn : Code := cR c283
noncomputable abbrev tY : Code := cL c283
noncomputable abbrev aPc : Code := cR tY
noncomputable abbrev aHa : Code := cL aPc
noncomputable abbrev lF : Code := cL aHa
noncomputable abbrev bJt : Code := cL tY
noncomputable abbrev r283 : K := aO CF Tryz.f283
noncomputable def D283 (r : RT) (n : Nat) (c : Code) (X : Nat → K) (k : K) : K := aP CF r 28 n c X r283 k
theorem bYc : D283 r n cJn x0 r283 = (K4 (dQ r n) 0 1 2 3) :=
 (by kernel_rfl)
theorem bLv (kk3 : TT7) (q0 : dM) : D283 r n lF (xs x0 0 (K4 q0 0 1 2 3)) (K7 kk3 0 1 2 3 10 11 12) = fun (env : aU) (h : Hp) =>
 bnd (aD .lss (env 12) (env 11) h) fun v1 h1 =>
 aS v1 (
 bnd (aI 6 (env 10) (env 12) h1) fun v2 h2 =>
 bnd (aK 6 v2 h2) fun v3 h3 =>
 bnd (bI gC h3) fun v4 h4 =>
 bnd (aF 6 v4 v3 h4) fun _ h5 =>
 bnd (aK 6 v4 h5) fun v6 h6 =>
 bnd (r 208 [(env 0), v6] h6) fun v7 h7 =>
 bnd (aD .add (env 12) (aE 1) h7) fun v8 h8 =>
      kk3 (env 0) (env 1) (env 2) (env 3) (env 10) (env 11) v8 h8) (
      q0 (env 0) (env 1) (env 2) (env 3) h1) := by kernel_rfl
theorem aXq (kk3 : TT7) : (fun (env : aU) (h : Hp) =>
 bnd (aD .lss (env 12) (env 11) h) fun v1 h1 =>
 aS v1 (
 bnd (aI 6 (env 10) (env 12) h1) fun v2 h2 =>
 bnd (aK 6 v2 h2) fun v3 h3 =>
 bnd (bI gC h3) fun v4 h4 =>
 bnd (aF 6 v4 v3 h4) fun _ h5 =>
 bnd (aK 6 v4 h5) fun v6 h6 =>
 bnd (r 208 [(env 0), v6] h6) fun v7 h7 =>
 bnd (aD .add (env 12) (aE 1) h7) fun v8 h8 =>
      kk3 (env 0) (env 1) (env 2) (env 3) (env 10) (env 11) v8 h8) (
      dQ r n (env 0) (env 1) (env 2) (env 3) h1)) = (K7 (aBw r n kk3) 0 1 2 3 10 11 12) := by kernel_rfl
theorem bCi (kk3 : TT7) : D283 r n lF (xs x0 0 (K4 (dQ r n) 0 1 2 3)) (K7 kk3 0 1 2 3 10 11 12) = (K7 (aBw r n kk3) 0 1 2 3 10 11 12) :=
 (bLv r n kk3 (dQ r n)).trans (aXq r n kk3)
theorem bNt (m : Nat) : aN (fun kk => D283 r n lF (xs x0 0 (K4 (dQ r n) 0 1 2 3)) kk) m = (K7 (rK r n m) 0 1 2 3 10 11 12) := by
 induction m with
 | zero => exact (by kernel_rfl : aN (fun kk => D283 r n lF (xs x0 0 (K4 (dQ r n) 0 1 2 3)) kk) 0 = (K7 (rK r n 0) 0 1 2 3 10 11 12))
 | succ m ih =>
  refine (by kernel_rfl : aN (fun kk => D283 r n lF (xs x0 0 (K4 (dQ r n) 0 1 2 3)) kk) (m + 1) = D283 r n lF (xs x0 0 (K4 (dQ r n) 0 1 2 3)) (aN (fun kk => D283 r n lF (xs x0 0 (K4 (dQ r n) 0 1 2 3)) kk) m)).trans ?_
  rw [ih]
  exact (bCi r n (rK r n m)).trans (by kernel_rfl)
theorem bYr : D283 r n aHa (xs x0 0 (K4 (dQ r n) 0 1 2 3)) (K4 (dQ r n) 0 1 2 3) = (K7 (bPv r n) 0 1 2 3 10 11 12) :=
 (by kernel_rfl : D283 r n aHa (xs x0 0 (K4 (dQ r n) 0 1 2 3)) (K4 (dQ r n) 0 1 2 3) = aN (fun kk => D283 r n lF (xs x0 0 (K4 (dQ r n) 0 1 2 3)) kk) n).trans ((bNt r n n).trans (by kernel_rfl))
theorem cDj : D283 r n aPc x0 (K4 (dQ r n) 0 1 2 3) = (K7 (aOe r n) 0 1 2 3 10 11 12) :=
 (by kernel_rfl : D283 r n aPc x0 (K4 (dQ r n) 0 1 2 3) = D283 r n aHa (xs x0 0 (K4 (dQ r n) 0 1 2 3)) (K4 (dQ r n) 0 1 2 3)).trans
 ((bYr r n).trans (by kernel_rfl))
theorem cJc : D283 r n c283 x0 r283 = D283 r n tY x0 (K4 (dQ r n) 0 1 2 3) :=
 congrArg (fun k => D283 r n tY x0 k) (bYc r n)
theorem cRo : D283 r n tY x0 (K4 (dQ r n) 0 1 2 3) = D283 r n bJt x0 (K7 (aOe r n) 0 1 2 3 10 11 12) :=
 congrArg (fun k => D283 r n bJt x0 k) (cDj r n)
theorem cWg : D283 r n c283 x0 r283 = (K4 (s283 r n) 0 1 2 3) :=
 (cJc r n).trans
 ((cRo r n).trans
 ((by kernel_rfl)))
theorem cQq : aG CF r n 283 args h = s283 r n (aR args 0) (aR args 1) (aR args 2) (aR args 3) h :=
 (by kernel_rfl : aG CF r n 283 args h = D283 r n c283 x0 r283 (aJ args) h).trans ((congrFun (congrFun (cWg r n) (aJ args)) h).trans (by kernel_rfl))
noncomputable def s284 (r : RT) (n : Nat) (x0 x1 : DV) (h0 : Hp) : aH :=
 bnd (bU x1 h0) fun v1 h1 =>
 bnd (aK 6 v1 h1) fun v2 h2 =>
 bnd (r 311 [v2] h2) fun v3 h3 =>
 aS v3 (
 bnd (r 209 [x0, (aE 1), (aE 0), (aE 0)] h3) fun v4 h4 =>
 some ((aE 15), h4)) (
 bnd (aK 6 v1 h3) fun v5 h5 =>
 bnd (r 208 [x0, v5] h5) fun v6 h6 =>
 some ((aE 14), h6))
noncomputable abbrev c284 : Code := cf Tryz.f284
noncomputable abbrev r284 : K := aO CF Tryz.f284
noncomputable def D284 (r : RT) (n : Nat) (c : Code) (X : Nat → K) (k : K) : K := aP CF r 12 n c X r284 k
theorem cVm : D284 r n c284 x0 r284 = (K2 (s284 r n) 0 1) :=
 (by kernel_rfl)
theorem cPf : aG CF r n 284 args h = s284 r n (aR args 0) (aR args 1) h :=
 (by kernel_rfl : aG CF r n 284 args h = D284 r n c284 x0 r284 (aJ args) h).trans ((congrFun (congrFun (cVm r n) (aJ args)) h).trans (by kernel_rfl))
noncomputable def s285 (r : RT) (n : Nat) (x0 : DV) (h0 : Hp) : aH :=
 bnd (aQ x0 h0) fun v1 h1 =>
 bnd (aB 0 v1 h1) fun v2 h2 =>
 bnd (aB 5 v2 h2) fun v3 h3 =>
 bnd (aA v3 h3) fun v4 h4 =>
 bnd (bS v4 h4) fun v5 h5 =>
 some (v5, h5)
noncomputable abbrev c285 : Code := cf Tryz.f285
noncomputable abbrev r285 : K := aO CF Tryz.f285
noncomputable def D285 (r : RT) (n : Nat) (c : Code) (X : Nat → K) (k : K) : K := aP CF r 9 n c X r285 k
theorem cRu : D285 r n c285 x0 r285 = (K1 (s285 r n) 0) :=
 (by kernel_rfl)
theorem cKl : aG CF r n 285 args h = s285 r n (aR args 0) h :=
 (by kernel_rfl : aG CF r n 285 args h = D285 r n c285 x0 r285 (aJ args) h).trans ((congrFun (congrFun (cRu r n) (aJ args)) h).trans (by kernel_rfl))
noncomputable def s294 (r : RT) (n : Nat) (x0 x1 : DV) (h0 : Hp) : aH :=
 bnd (bI gC h0) fun v1 h1 =>
 bnd (aZ gC [(0, 1, (aE 7)), (1, 1, x0), (5, 1, x1)] h1) fun v2 h2 =>
 bnd (aF 6 v1 v2 h2) fun _ h3 =>
 bnd (aK 6 v1 h3) fun v4 _ =>
 some (v4, h3)
noncomputable abbrev c294 : Code := cf Tryz.f294
noncomputable abbrev r294 : K := aO CF Tryz.f294
noncomputable def D294 (r : RT) (n : Nat) (c : Code) (X : Nat → K) (k : K) : K := aP CF r 8 n c X r294 k
theorem cUr : D294 r n c294 x0 r294 = (K2 (s294 r n) 0 1) :=
 (by kernel_rfl)
theorem cJw : aG CF r n 294 args h = s294 r n (aR args 0) (aR args 1) h :=
 (by kernel_rfl : aG CF r n 294 args h = D294 r n c294 x0 r294 (aJ args) h).trans ((congrFun (congrFun (cUr r n) (aJ args)) h).trans (by kernel_rfl))
noncomputable def kD (r : RT) (n : Nat) (x0 x2 x5 : DV) (h0 : Hp) : aH :=
 bnd (r 202 [x0] h0) fun v1 h1 =>
 bnd (aK 6 x5 h1) fun v2 h2 =>
 bnd (aF 6 x2 v2 h2) fun _ h3 =>
 bnd (aK 6 x2 h3) fun v4 _ =>
 some (.t [v4, (.b true)], h3)
noncomputable def oR (r : RT) (n : Nat) (x0 x2 x4 x5 : DV) (h0 : Hp) : aH :=
 bnd (aQ x0 h0) fun v1 h1 =>
 bnd (aB 3 v1 h1) fun v2 h2 =>
 bnd (aA v2 h2) fun v3 h3 =>
 bnd (aD .neq v3 (aE 0) h3) fun v4 h4 =>
 aS v4 (
 bnd (aK 6 x5 h4) fun v5 h5 =>
 bnd (aF 6 x2 v5 h5) fun _ h6 =>
 bnd (aK 6 x2 h6) fun v7 _ =>
 some (.t [v7, (.b false)], h6)) (
 bnd (r 313 [x0] h4) fun v8 h8 =>
 aS v8 (
 bnd (r 202 [x0] h8) fun v9 h9 =>
 bnd (r 202 [x0] h9) fun v10 h10 =>
 bnd (eX 2 v10 h10) fun v11 h11 =>
 bnd (gG .neg v11 h11) fun v12 h12 =>
 bnd (aZ gC [(0, 1, (aE 1)), (2, 1, v12)] h12) fun v13 h13 =>
 bnd (aF 6 x2 v13 h13) fun _ h14 =>
 bnd (aK 6 x2 h14) fun v15 _ =>
 some (.t [v15, (.b true)], h14)) (
 bnd (aB 0 x4 h8) fun v16 h16 =>
 bnd (aA v16 h16) fun v17 h17 =>
 bnd (aD .eql v17 (aE 4) h17) fun v18 h18 =>
 aS v18 (
 bnd (aB 0 x5 h18) fun v19 h19 =>
 bnd (aF 1 v19 (aE 1) h19) fun _ h20 =>
    kD r n x0 x2 x5 h20) (
 bnd (aB 0 x4 h18) fun v21 h21 =>
 bnd (aA v21 h21) fun v22 h22 =>
 bnd (aD .eql v22 (aE 5) h22) fun v23 h23 =>
 aS v23 (
 bnd (aB 0 x5 h23) fun v24 h24 =>
 bnd (aF 1 v24 (aE 2) h24) fun _ h25 =>
     kD r n x0 x2 x5 h25) (
 bnd (aB 0 x4 h23) fun v26 h26 =>
 bnd (aA v26 h26) fun v27 h27 =>
 bnd (aD .eql v27 (aE 6) h27) fun v28 h28 =>
 aS v28 (
 bnd (aB 0 x5 h28) fun v29 h29 =>
 bnd (aF 1 v29 (aE 3) h29) fun _ h30 =>
      kD r n x0 x2 x5 h30) (
 bnd (aK 6 x5 h28) fun v31 h31 =>
 bnd (aF 6 x2 v31 h31) fun _ h32 =>
 bnd (aK 6 x2 h32) fun v33 _ =>
 some (.t [v33, (.b false)], h32))))))
noncomputable def oJ (r : RT) (n : Nat) (x0 x2 x4 : DV) (h0 : Hp) : aH :=
 bnd (aB 1 x4 h0) fun v1 h1 =>
 bnd (aA v1 h1) fun v2 h2 =>
 bnd (aB 2 x4 h2) fun v3 h3 =>
 bnd (aA v3 h3) fun v4 h4 =>
 bnd (aZ gC [(1, 1, v2), (2, 1, v4)] h4) fun v5 h5 =>
 bnd (bI gC h5) fun v6 h6 =>
 bnd (aF 6 v6 v5 h6) fun _ h7 =>
  oR r n x0 x2 x4 v6 h7
noncomputable def pT (r : RT) (n : Nat) (x0 x2 : DV) (h0 : Hp) : aH :=
 bnd (r 205 [x0, (aE 0)] h0) fun v1 h1 =>
 bnd (bI [(aE 0), (.s []), (aE 0), (aE 0)] h1) fun v2 h2 =>
 bnd (aF 4 v2 v1 h2) fun _ h3 =>
  oJ r n x0 x2 v2 h3
noncomputable def s295 (r : RT) (n : Nat) (x0 : DV) (h0 : Hp) : aH :=
 bnd (bI gC h0) fun v1 h1 =>
  pT r n x0 v1 h1
noncomputable abbrev c295 : Code := cf Tryz.f295
noncomputable abbrev aCk : Code := cR c295
noncomputable abbrev zC : Code := cR aCk
noncomputable abbrev aGs : Code := cR zC
noncomputable abbrev cHz : Code := cR aGs
noncomputable abbrev aLm : Code := cL aGs
noncomputable abbrev aPn : Code := cL zC
noncomputable abbrev aLi : Code := cL aCk
noncomputable abbrev aMv : Code := cL c295
noncomputable abbrev r295 : K := aO CF Tryz.f295
noncomputable def D295 (r : RT) (n : Nat) (c : Code) (X : Nat → K) (k : K) : K := aP CF r 49 n c X r295 k
theorem cDg : D295 r n cHz x0 r295 = (K3 (kD r n) 0 2 5) :=
 (by kernel_rfl)
theorem bNr : D295 r n aGs x0 r295 = D295 r n aLm x0 (K3 (kD r n) 0 2 5) :=
 congrArg (fun k => D295 r n aLm x0 k) (cDg r n)
theorem bOb (q0 : lO) : D295 r n aLm x0 (K3 q0 0 2 5) = fun (env : aU) (h : Hp) =>
 bnd (aQ (env 0) h) fun v1 h1 =>
 bnd (aB 3 v1 h1) fun v2 h2 =>
 bnd (aA v2 h2) fun v3 h3 =>
 bnd (aD .neq v3 (aE 0) h3) fun v4 h4 =>
 aS v4 (
 bnd (aK 6 (env 5) h4) fun v5 h5 =>
 bnd (aF 6 (env 2) v5 h5) fun _ h6 =>
 bnd (aK 6 (env 2) h6) fun v7 _ =>
 some (.t [v7, (.b false)], h6)) (
 bnd (r 313 [(env 0)] h4) fun v8 h8 =>
 aS v8 (
 bnd (r 202 [(env 0)] h8) fun v9 h9 =>
 bnd (r 202 [(env 0)] h9) fun v10 h10 =>
 bnd (eX 2 v10 h10) fun v11 h11 =>
 bnd (gG .neg v11 h11) fun v12 h12 =>
 bnd (aZ gC [(0, 1, (aE 1)), (2, 1, v12)] h12) fun v13 h13 =>
 bnd (aF 6 (env 2) v13 h13) fun _ h14 =>
 bnd (aK 6 (env 2) h14) fun v15 _ =>
 some (.t [v15, (.b true)], h14)) (
 bnd (aB 0 (env 4) h8) fun v16 h16 =>
 bnd (aA v16 h16) fun v17 h17 =>
 bnd (aD .eql v17 (aE 4) h17) fun v18 h18 =>
 aS v18 (
 bnd (aB 0 (env 5) h18) fun v19 h19 =>
 bnd (aF 1 v19 (aE 1) h19) fun _ h20 =>
     q0 (env 0) (env 2) (env 5) h20) (
 bnd (aB 0 (env 4) h18) fun v21 h21 =>
 bnd (aA v21 h21) fun v22 h22 =>
 bnd (aD .eql v22 (aE 5) h22) fun v23 h23 =>
 aS v23 (
 bnd (aB 0 (env 5) h23) fun v24 h24 =>
 bnd (aF 1 v24 (aE 2) h24) fun _ h25 =>
      q0 (env 0) (env 2) (env 5) h25) (
 bnd (aB 0 (env 4) h23) fun v26 h26 =>
 bnd (aA v26 h26) fun v27 h27 =>
 bnd (aD .eql v27 (aE 6) h27) fun v28 h28 =>
 aS v28 (
 bnd (aB 0 (env 5) h28) fun v29 h29 =>
 bnd (aF 1 v29 (aE 3) h29) fun _ h30 =>
       q0 (env 0) (env 2) (env 5) h30) (
 bnd (aK 6 (env 5) h28) fun v31 h31 =>
 bnd (aF 6 (env 2) v31 h31) fun _ h32 =>
 bnd (aK 6 (env 2) h32) fun v33 _ =>
 some (.t [v33, (.b false)], h32)))))) := by kernel_rfl
theorem bAu : (fun (env : aU) (h : Hp) =>
 bnd (aQ (env 0) h) fun v1 h1 =>
 bnd (aB 3 v1 h1) fun v2 h2 =>
 bnd (aA v2 h2) fun v3 h3 =>
 bnd (aD .neq v3 (aE 0) h3) fun v4 h4 =>
 aS v4 (
 bnd (aK 6 (env 5) h4) fun v5 h5 =>
 bnd (aF 6 (env 2) v5 h5) fun _ h6 =>
 bnd (aK 6 (env 2) h6) fun v7 _ =>
 some (.t [v7, (.b false)], h6)) (
 bnd (r 313 [(env 0)] h4) fun v8 h8 =>
 aS v8 (
 bnd (r 202 [(env 0)] h8) fun v9 h9 =>
 bnd (r 202 [(env 0)] h9) fun v10 h10 =>
 bnd (eX 2 v10 h10) fun v11 h11 =>
 bnd (gG .neg v11 h11) fun v12 h12 =>
 bnd (aZ gC [(0, 1, (aE 1)), (2, 1, v12)] h12) fun v13 h13 =>
 bnd (aF 6 (env 2) v13 h13) fun _ h14 =>
 bnd (aK 6 (env 2) h14) fun v15 _ =>
 some (.t [v15, (.b true)], h14)) (
 bnd (aB 0 (env 4) h8) fun v16 h16 =>
 bnd (aA v16 h16) fun v17 h17 =>
 bnd (aD .eql v17 (aE 4) h17) fun v18 h18 =>
 aS v18 (
 bnd (aB 0 (env 5) h18) fun v19 h19 =>
 bnd (aF 1 v19 (aE 1) h19) fun _ h20 =>
     kD r n (env 0) (env 2) (env 5) h20) (
 bnd (aB 0 (env 4) h18) fun v21 h21 =>
 bnd (aA v21 h21) fun v22 h22 =>
 bnd (aD .eql v22 (aE 5) h22) fun v23 h23 =>
 aS v23 (
 bnd (aB 0 (env 5) h23) fun v24 h24 =>
 bnd (aF 1 v24 (aE 2) h24) fun _ h25 =>
      kD r n (env 0) (env 2) (env 5) h25) (
 bnd (aB 0 (env 4) h23) fun v26 h26 =>
 bnd (aA v26 h26) fun v27 h27 =>
 bnd (aD .eql v27 (aE 6) h27) fun v28 h28 =>
 aS v28 (
 bnd (aB 0 (env 5) h28) fun v29 h29 =>
 bnd (aF 1 v29 (aE 3) h29) fun _ h30 =>
       kD r n (env 0) (env 2) (env 5) h30) (
 bnd (aK 6 (env 5) h28) fun v31 h31 =>
 bnd (aF 6 (env 2) v31 h31) fun _ h32 =>
 bnd (aK 6 (env 2) h32) fun v33 _ =>
 some (.t [v33, (.b false)], h32))))))) = (K4 (oR r n) 0 2 4 5) := by kernel_rfl
theorem bUl : D295 r n aGs x0 r295 = (K4 (oR r n) 0 2 4 5) :=
 (bNr r n).trans
 ((bOb r n (kD r n)).trans (bAu r n))
theorem bBs : D295 r n zC x0 r295 = D295 r n aPn x0 (K4 (oR r n) 0 2 4 5) :=
 congrArg (fun k => D295 r n aPn x0 k) (bUl r n)
theorem bGf (q0 : dM) : D295 r n aPn x0 (K4 q0 0 2 4 5) = fun (env : aU) (h : Hp) =>
 bnd (aB 1 (env 4) h) fun v1 h1 =>
 bnd (aA v1 h1) fun v2 h2 =>
 bnd (aB 2 (env 4) h2) fun v3 h3 =>
 bnd (aA v3 h3) fun v4 h4 =>
 bnd (aZ gC [(1, 1, v2), (2, 1, v4)] h4) fun v5 h5 =>
 bnd (bI gC h5) fun v6 h6 =>
 bnd (aF 6 v6 v5 h6) fun _ h7 =>
  q0 (env 0) (env 2) (env 4) v6 h7 := by kernel_rfl
theorem aYk : (fun (env : aU) (h : Hp) =>
 bnd (aB 1 (env 4) h) fun v1 h1 =>
 bnd (aA v1 h1) fun v2 h2 =>
 bnd (aB 2 (env 4) h2) fun v3 h3 =>
 bnd (aA v3 h3) fun v4 h4 =>
 bnd (aZ gC [(1, 1, v2), (2, 1, v4)] h4) fun v5 h5 =>
 bnd (bI gC h5) fun v6 h6 =>
 bnd (aF 6 v6 v5 h6) fun _ h7 =>
  oR r n (env 0) (env 2) (env 4) v6 h7) = (K3 (oJ r n) 0 2 4) := by kernel_rfl
theorem bVs : D295 r n zC x0 r295 = (K3 (oJ r n) 0 2 4) :=
 (bBs r n).trans
 ((bGf r n (oR r n)).trans (aYk r n))
theorem bKt : D295 r n aCk x0 r295 = D295 r n aLi x0 (K3 (oJ r n) 0 2 4) :=
 congrArg (fun k => D295 r n aLi x0 k) (bVs r n)
theorem bGd (q0 : lO) : D295 r n aLi x0 (K3 q0 0 2 4) = fun (env : aU) (h : Hp) =>
 bnd (r 205 [(env 0), (aE 0)] h) fun v1 h1 =>
 bnd (bI [(aE 0), (.s []), (aE 0), (aE 0)] h1) fun v2 h2 =>
 bnd (aF 4 v2 v1 h2) fun _ h3 =>
  q0 (env 0) (env 2) v2 h3 := by kernel_rfl
theorem bAm : (fun (env : aU) (h : Hp) =>
 bnd (r 205 [(env 0), (aE 0)] h) fun v1 h1 =>
 bnd (bI [(aE 0), (.s []), (aE 0), (aE 0)] h1) fun v2 h2 =>
 bnd (aF 4 v2 v1 h2) fun _ h3 =>
  oJ r n (env 0) (env 2) v2 h3) = (K2 (pT r n) 0 2) := by kernel_rfl
theorem bTj : D295 r n aCk x0 r295 = (K2 (pT r n) 0 2) :=
 (bKt r n).trans
 ((bGd r n (oJ r n)).trans (bAm r n))
theorem cPn : D295 r n c295 x0 r295 = D295 r n aMv x0 (K2 (pT r n) 0 2) :=
 congrArg (fun k => D295 r n aMv x0 k) (bTj r n)
theorem cKx (q0 : gF) : D295 r n aMv x0 (K2 q0 0 2) = fun (env : aU) (h : Hp) =>
 bnd (bI gC h) fun v1 h1 =>
  q0 (env 0) v1 h1 := by kernel_rfl
theorem bZv : (fun (env : aU) (h : Hp) =>
 bnd (bI gC h) fun v1 h1 =>
  pT r n (env 0) v1 h1) = (K1 (s295 r n) 0) := by kernel_rfl
theorem cYn : D295 r n c295 x0 r295 = (K1 (s295 r n) 0) :=
 (cPn r n).trans
 ((cKx r n (pT r n)).trans (bZv r n))
theorem cOz : aG CF r n 295 args h = s295 r n (aR args 0) h :=
 (by kernel_rfl : aG CF r n 295 args h = D295 r n c295 x0 r295 (aJ args) h).trans ((congrFun (congrFun (cYn r n) (aJ args)) h).trans (by kernel_rfl))
noncomputable def s296 (r : RT) (n : Nat) (x0 x1 : DV) (h0 : Hp) : aH :=
 bnd (bI gC h0) fun v1 h1 =>
 bnd (r 202 [x0] h1) fun v2 h2 =>
 bnd (bI [(aE 0), (.s []), (aE 0), (aE 0)] h2) fun v3 h3 =>
 bnd (aF 4 v3 v2 h3) fun _ h4 =>
 bnd (aQ x0 h4) fun v5 h5 =>
 bnd (aB 1 v5 h5) fun v6 h6 =>
 bnd (aA v6 h6) fun v7 h7 =>
 bnd (aD .eql v7 (aE 20) h7) fun v8 h8 =>
 aS v8 (
 bnd (aK 4 v3 h8) fun v9 h9 =>
 bnd (r 204 [x0, v9, (aE 14)] h9) fun v10 h10 =>
 bnd (aZ gC [] h10) fun v11 h11 =>
 bnd (aF 6 v1 v11 h11) fun _ h12 =>
 bnd (aK 6 v1 h12) fun v13 _ =>
 some (v13, h12)) (
 bnd (aQ x0 h8) fun v14 h14 =>
 bnd (aB 1 v14 h14) fun v15 h15 =>
 bnd (aA v15 h15) fun v16 h16 =>
 bnd (aD .add v16 (aE 1) h16) fun v17 h17 =>
 bnd (aQ x0 h17) fun v18 h18 =>
 bnd (aB 1 v18 h18) fun v19 h19 =>
 bnd (aF 1 v19 v17 h19) fun _ h20 =>
 bnd (dE CF r x1 [] h20) fun v21 h21 =>
 bnd (bI gC h21) fun v22 h22 =>
 bnd (aF 6 v22 v21 h22) fun _ h23 =>
 bnd (aQ x0 h23) fun v24 h24 =>
 bnd (aB 1 v24 h24) fun v25 h25 =>
 bnd (aA v25 h25) fun v26 h26 =>
 bnd (aD .sub v26 (aE 1) h26) fun v27 h27 =>
 bnd (aQ x0 h27) fun v28 h28 =>
 bnd (aB 1 v28 h28) fun v29 h29 =>
 bnd (aF 1 v29 v27 h29) fun _ h30 =>
 bnd (aK 6 v22 h30) fun v31 h31 =>
 bnd (aF 6 v1 v31 h31) fun _ h32 =>
 bnd (aK 6 v1 h32) fun v33 _ =>
 some (v33, h32))
noncomputable abbrev c296 : Code := cf Tryz.f296
noncomputable abbrev r296 : K := aO CF Tryz.f296
noncomputable def D296 (r : RT) (n : Nat) (c : Code) (X : Nat → K) (k : K) : K := aP CF r 35 n c X r296 k
theorem cSe : D296 r n c296 x0 r296 = (K2 (s296 r n) 0 1) :=
 (by kernel_rfl)
theorem cLd : aG CF r n 296 args h = s296 r n (aR args 0) (aR args 1) h :=
 (by kernel_rfl : aG CF r n 296 args h = D296 r n c296 x0 r296 (aJ args) h).trans ((congrFun (congrFun (cSe r n) (aJ args)) h).trans (by kernel_rfl))
end Go.Dd

namespace Go.Dd
open Go.Proofs
variable (r : RT) (n : Nat) (args : List DV) (h : Hp)
noncomputable def s311 (r : RT) (n : Nat) (x0 : DV) (h0 : Hp) : aH :=
 bnd (bU x0 h0) fun v1 h1 =>
 bnd (aB 0 v1 h1) fun v2 h2 =>
 bnd (aA v2 h2) fun v3 h3 =>
 bnd (aD .eql v3 (aE 5) h3) fun v4 h4 =>
 bnd (gD v4 true (aB 1 v1 h4) h4) fun v5 h5 =>
 bnd (gD v4 true (aA v5 h5) h5) fun v6 h6 =>
 bnd (gD v4 true (eB .eql v6 (.s [115, 117, 112, 101, 114]) h6) h6) fun v7 h7 =>
 bnd (aM v4 v7 (.b false) h7) fun v8 h8 =>
 some (v8, h8)
noncomputable abbrev c311 : Code := cf Tryz.f311
noncomputable abbrev r311 : K := aO CF Tryz.f311
noncomputable def D311 (r : RT) (n : Nat) (c : Code) (X : Nat → K) (k : K) : K := aP CF r 11 n c X r311 k
theorem cYy : D311 r n c311 x0 r311 = (K1 (s311 r n) 0) :=
 (by kernel_rfl)
theorem cIa : aG CF r n 311 args h = s311 r n (aR args 0) h :=
 (by kernel_rfl : aG CF r n 311 args h = D311 r n c311 x0 r311 (aJ args) h).trans ((congrFun (congrFun (cYy r n) (aJ args)) h).trans (by kernel_rfl))
noncomputable def s313 (r : RT) (n : Nat) (x0 : DV) (h0 : Hp) : aH :=
 bnd (r 205 [x0, (aE 1)] h0) fun v1 h1 =>
 bnd (bI [(aE 0), (.s []), (aE 0), (aE 0)] h1) fun v2 h2 =>
 bnd (aF 4 v2 v1 h2) fun _ h3 =>
 bnd (r 201 [x0, (aE 3), (.s [45])] h3) fun v4 h4 =>
 bnd (gD v4 true (aB 0 v2 h4) h4) fun v5 h5 =>
 bnd (gD v4 true (aA v5 h5) h5) fun v6 h6 =>
 bnd (gD v4 true (aD .eql v6 (aE 4) h6) h6) fun v7 h7 =>
 bnd (aM v4 v7 (.b false) h7) fun v8 h8 =>
 bnd (gD v8 true (aB 3 v2 h8) h8) fun v9 h9 =>
 bnd (gD v8 true (aA v9 h9) h9) fun v10 h10 =>
 bnd (gD v8 true (some (x0, h10)) h10) fun v11 h11 =>
 bnd (gD v8 true (r 205 [v11, (aE 0)] h11) h11) fun v12 h12 =>
 cnd (bJ (gD v8 true (aA v9 h12) h12) v10 && true) (
 bnd (gD v8 true (eX 3 v12 h12) h12) fun v13 h13 =>
 bnd (gD v8 true (aD .add v13 (aE 1) h13) h13) fun v14 h14 =>
 bnd (gD v8 true (aD .eql v10 v14 h14) h14) fun v15 h15 =>
 bnd (aM v8 v15 (.b false) h15) fun v16 h16 =>
 some (v16, h16))
noncomputable abbrev c313 : Code := cf Tryz.f313
noncomputable abbrev r313 : K := aO CF Tryz.f313
noncomputable def D313 (r : RT) (n : Nat) (c : Code) (X : Nat → K) (k : K) : K := aP CF r 22 n c X r313 k
theorem cUn : D313 r n c313 x0 r313 = (K1 (s313 r n) 0) :=
 (by kernel_rfl)
theorem cOo : aG CF r n 313 args h = s313 r n (aR args 0) h :=
 (by kernel_rfl : aG CF r n 313 args h = D313 r n c313 x0 r313 (aJ args) h).trans ((congrFun (congrFun (cUn r n) (aJ args)) h).trans (by kernel_rfl))
end Go.Dd

namespace Go.Dd
open Go.Proofs
section
variable (ih : RT) (m : Nat) (f : FuncId) (args : List DV) (h : Hp)
theorem cW {i : Nat} {s r : aH} (e1 : s = aG CF ih m i args h) (e2 : r = aG CF ih m f args h) : (bif Nat.beq f i then s else r) = aG CF ih m f args h := by
 cases e : Nat.beq f i with
 | false => exact e2
 | true => cases Nat.eq_of_beq_eq_true e; exact e1
theorem ndC {i : Nat} {a b : aH} (e1 : a = aG CF ih m f args h) (e2 : b = aG CF ih m f args h) : (bif Nat.blt f i then a else b) = aG CF ih m f args h := by
 cases Nat.blt f i with
 | false => exact e2
 | true => exact e1
noncomputable def qg0 : aH := bif Nat.beq f 10 then s10 ih m (aR args 0) h else bif Nat.beq f 11 then s11 ih m (aR args 0) (aR args 1) h else bif Nat.beq f 13 then s13 ih m (aR args 0) (aR args 1) h else bif Nat.beq f 14 then s14 ih m (aR args 0) (aR args 1) h else bif Nat.beq f 15 then s15 ih m (aR args 0) (aR args 1) h else bif Nat.beq f 16 then s16 ih m h else bif Nat.beq f 17 then s17 ih m (aR args 0) (aR args 1) h else bif Nat.beq f 34 then s34 ih m (aR args 0) (aR args 1) (aR args 2) h else aG CF ih m f args h
theorem dDj : qg0 ih m f args h = aG CF ih m f args h := cW ih m f args h (cRw ih m args h).symm (cW ih m f args h (cGl ih m args h).symm (cW ih m f args h (cGa ih m args h).symm (cW ih m f args h (cGk ih m args h).symm (cW ih m f args h (cGf ih m args h).symm (cW ih m f args h (cGc ih m args h).symm (cW ih m f args h (cYc ih m args h).symm (cW ih m f args h (cWx ih m args h).symm rfl)))))))
noncomputable def qg1 : aH := bif Nat.beq f 45 then s45 ih m (aR args 0) (aR args 1) h else bif Nat.beq f 46 then s46 ih m (aR args 0) h else bif Nat.beq f 48 then s48 ih m (aR args 0) (aR args 1) (aR args 2) h else bif Nat.beq f 49 then s49 ih m (aR args 0) (aR args 1) (aR args 2) h else bif Nat.beq f 53 then s53 ih m (aR args 0) (aR args 1) (aR args 2) h else bif Nat.beq f 55 then s55 ih m (aR args 0) (aR args 1) h else bif Nat.beq f 58 then s58 ih m (aR args 0) (aR args 1) h else bif Nat.beq f 61 then s61 ih m (aR args 0) (aR args 1) (aR args 2) (aR args 3) h else aG CF ih m f args h
theorem dCu : qg1 ih m f args h = aG CF ih m f args h := cW ih m f args h (cWr ih m args h).symm (cW ih m f args h (cVz ih m args h).symm (cW ih m f args h (cGd ih m args h).symm (cW ih m f args h (cGp ih m args h).symm (cW ih m f args h (cGb ih m args h).symm (cW ih m f args h (cSm ih m args h).symm (cW ih m f args h (cVj ih m args h).symm (cW ih m f args h (cGv ih m args h).symm rfl)))))))
noncomputable def qg2 : aH := bif Nat.beq f 65 then s65 ih m (aR args 0) (aR args 1) h else bif Nat.beq f 66 then s66 ih m (aR args 0) (aR args 1) h else bif Nat.beq f 74 then s74 ih m (aR args 0) (aR args 1) h else bif Nat.beq f 75 then s75 ih m (aR args 0) h else bif Nat.beq f 86 then s86 ih m (aR args 0) h else bif Nat.beq f 87 then s87 ih m (aR args 0) (aR args 1) h else bif Nat.beq f 88 then s88 ih m (aR args 0) (aR args 1) (aR args 2) h else bif Nat.beq f 92 then s92 ih m (aR args 0) (aR args 1) h else aG CF ih m f args h
theorem cZx : qg2 ih m f args h = aG CF ih m f args h := cW ih m f args h (cVa ih m args h).symm (cW ih m f args h (cYg ih m args h).symm (cW ih m f args h (cTk ih m args h).symm (cW ih m f args h (cWh ih m args h).symm (cW ih m f args h (cUt ih m args h).symm (cW ih m f args h (cVu ih m args h).symm (cW ih m f args h (cSw ih m args h).symm (cW ih m f args h (cUu ih m args h).symm rfl)))))))
noncomputable def qg3 : aH := bif Nat.beq f 93 then s93 ih m (aR args 0) (aR args 1) h else bif Nat.beq f 97 then s97 ih m (aR args 0) (aR args 1) h else bif Nat.beq f 106 then s106 ih m (aR args 0) (aR args 1) h else bif Nat.beq f 109 then s109 ih m (aR args 0) (aR args 1) h else bif Nat.beq f 114 then s114 ih m (aR args 0) (aR args 1) h else bif Nat.beq f 120 then s120 ih m (aR args 0) (aR args 1) h else bif Nat.beq f 121 then s121 ih m (aR args 0) h else bif Nat.beq f 122 then s122 ih m (aR args 0) (aR args 1) (aR args 2) h else aG CF ih m f args h
theorem cZz : qg3 ih m f args h = aG CF ih m f args h := cW ih m f args h (cWn ih m args h).symm (cW ih m f args h (cUx ih m args h).symm (cW ih m f args h (cPt ih m args h).symm (cW ih m f args h (cOb ih m args h).symm (cW ih m f args h (cQv ih m args h).symm (cW ih m f args h (cQf ih m args h).symm (cW ih m f args h (cOn ih m args h).symm (cW ih m f args h (cJi ih m args h).symm rfl)))))))
noncomputable def qg4 : aH := bif Nat.beq f 123 then s123 ih m (aR args 0) (aR args 1) (aR args 2) h else bif Nat.beq f 124 then s124 ih m (aR args 0) (aR args 1) (aR args 2) (aR args 3) h else bif Nat.beq f 135 then s135 ih m (aR args 0) (aR args 1) h else bif Nat.beq f 145 then s145 ih m (aR args 0) (aR args 1) (aR args 2) h else bif Nat.beq f 146 then s146 ih m (aR args 0) (aR args 1) h else bif Nat.beq f 147 then s147 ih m (aR args 0) h else bif Nat.beq f 148 then s148 ih m (aR args 0) (aR args 1) h else bif Nat.beq f 149 then s149 ih m (aR args 0) h else aG CF ih m f args h
theorem cZt : qg4 ih m f args h = aG CF ih m f args h := cW ih m f args h (cOw ih m args h).symm (cW ih m f args h (cPh ih m args h).symm (cW ih m f args h (cQd ih m args h).symm (cW ih m f args h (cIv ih m args h).symm (cW ih m f args h (cQh ih m args h).symm (cW ih m f args h (cOc ih m args h).symm (cW ih m f args h (cJq ih m args h).symm (cW ih m f args h (cLl ih m args h).symm rfl)))))))
noncomputable def qg5 : aH := bif Nat.beq f 150 then s150 ih m (aR args 0) (aR args 1) (aR args 2) h else bif Nat.beq f 151 then s151 ih m (aR args 0) h else bif Nat.beq f 152 then s152 ih m (aR args 0) (aR args 1) h else bif Nat.beq f 153 then s153 ih m (aR args 0) (aR args 1) h else bif Nat.beq f 154 then s154 ih m (aR args 0) h else bif Nat.beq f 156 then s156 ih m (aR args 0) h else bif Nat.beq f 157 then s157 ih m (aR args 0) (aR args 1) (aR args 2) h else bif Nat.beq f 158 then s158 ih m (aR args 0) (aR args 1) h else aG CF ih m f args h
theorem cZw : qg5 ih m f args h = aG CF ih m f args h := cW ih m f args h (cIy ih m args h).symm (cW ih m f args h (cPw ih m args h).symm (cW ih m f args h (cNf ih m args h).symm (cW ih m f args h (cJy ih m args h).symm (cW ih m f args h (cQp ih m args h).symm (cW ih m f args h (cPs ih m args h).symm (cW ih m f args h (cKw ih m args h).symm (cW ih m f args h (cHl ih m args h).symm rfl)))))))
noncomputable def qg6 : aH := bif Nat.beq f 159 then s159 ih m (aR args 0) h else bif Nat.beq f 160 then s160 ih m (aR args 0) (aR args 1) (aR args 2) h else bif Nat.beq f 161 then s161 ih m (aR args 0) h else bif Nat.beq f 162 then s162 ih m (aR args 0) (aR args 1) h else bif Nat.beq f 187 then s187 ih m (aR args 0) (aR args 1) h else bif Nat.beq f 189 then s189 ih m (aR args 0) h else bif Nat.beq f 190 then s190 ih m (aR args 0) (aR args 1) h else bif Nat.beq f 191 then s191 ih m (aR args 0) (aR args 1) h else aG CF ih m f args h
theorem dCo : qg6 ih m f args h = aG CF ih m f args h := cW ih m f args h (cPe ih m args h).symm (cW ih m f args h (cNs ih m args h).symm (cW ih m f args h (cKb ih m args h).symm (cW ih m f args h (cJa ih m args h).symm (cW ih m f args h (cJt ih m args h).symm (cW ih m f args h (cOp ih m args h).symm (cW ih m f args h (cNn ih m args h).symm (cW ih m f args h (cHg ih m args h).symm rfl)))))))
noncomputable def qg7 : aH := bif Nat.beq f 192 then s192 ih m (aR args 0) (aR args 1) h else bif Nat.beq f 193 then s193 ih m (aR args 0) h else bif Nat.beq f 194 then s194 ih m (aR args 0) (aR args 1) (aR args 2) (aR args 3) (aR args 4) (aR args 5) (aR args 6) (aR args 7) h else bif Nat.beq f 195 then s195 ih m (aR args 0) h else bif Nat.beq f 196 then s196 ih m (aR args 0) h else bif Nat.beq f 197 then s197 ih m (aR args 0) (aR args 1) (aR args 2) h else bif Nat.beq f 198 then s198 ih m (aR args 0) h else bif Nat.beq f 199 then s199 ih m (aR args 0) (aR args 1) h else aG CF ih m f args h
theorem dCt : qg7 ih m f args h = aG CF ih m f args h := cW ih m f args h (cNi ih m args h).symm (cW ih m f args h (cHj ih m args h).symm (cW ih m f args h (cMd ih m args h).symm (cW ih m f args h (cQm ih m args h).symm (cW ih m f args h (cIx ih m args h).symm (cW ih m f args h (cPi ih m args h).symm (cW ih m f args h (cJv ih m args h).symm (cW ih m f args h (cJm ih m args h).symm rfl)))))))
noncomputable def qg8 : aH := bif Nat.beq f 200 then s200 ih m (aR args 0) h else bif Nat.beq f 201 then s201 ih m (aR args 0) (aR args 1) (aR args 2) h else bif Nat.beq f 202 then s202 ih m (aR args 0) h else bif Nat.beq f 203 then s203 ih m (aR args 0) h else bif Nat.beq f 205 then s205 ih m (aR args 0) (aR args 1) h else bif Nat.beq f 206 then s206 ih m (aR args 0) (aR args 1) (aR args 2) h else bif Nat.beq f 207 then s207 ih m (aR args 0) (aR args 1) (aR args 2) h else bif Nat.beq f 208 then s208 ih m (aR args 0) (aR args 1) h else aG CF ih m f args h
theorem dCe : qg8 ih m f args h = aG CF ih m f args h := cW ih m f args h (cPl ih m args h).symm (cW ih m f args h (cNx ih m args h).symm (cW ih m f args h (cNu ih m args h).symm (cW ih m f args h (cKj ih m args h).symm (cW ih m f args h (cOu ih m args h).symm (cW ih m f args h (cJr ih m args h).symm (cW ih m f args h (cMv ih m args h).symm (cW ih m f args h (cNg ih m args h).symm rfl)))))))
noncomputable def qg9 : aH := bif Nat.beq f 209 then s209 ih m (aR args 0) (aR args 1) (aR args 2) (aR args 3) h else bif Nat.beq f 227 then s227 ih m (aR args 0) h else bif Nat.beq f 228 then s228 ih m (aR args 0) (aR args 1) h else bif Nat.beq f 229 then s229 ih m (aR args 0) (aR args 1) h else bif Nat.beq f 230 then s230 ih m (aR args 0) (aR args 1) h else bif Nat.beq f 231 then s231 ih m (aR args 0) h else bif Nat.beq f 232 then s232 ih m (aR args 0) h else bif Nat.beq f 233 then s233 ih m (aR args 0) h else aG CF ih m f args h
theorem dCb : qg9 ih m f args h = aG CF ih m f args h := cW ih m f args h (cGz ih m args h).symm (cW ih m f args h (cJl ih m args h).symm (cW ih m f args h (cRm ih m args h).symm (cW ih m f args h (cPb ih m args h).symm (cW ih m f args h (cJh ih m args h).symm (cW ih m f args h (cJf ih m args h).symm (cW ih m f args h (cLt ih m args h).symm (cW ih m f args h (cOg ih m args h).symm rfl)))))))
noncomputable def cYw : aH := bif Nat.beq f 234 then s234 ih m (aR args 0) h else bif Nat.beq f 235 then s235 ih m (aR args 0) h else bif Nat.beq f 239 then s239 ih m (aR args 0) (aR args 1) h else bif Nat.beq f 240 then s240 ih m (aR args 0) h else bif Nat.beq f 244 then s244 ih m (aR args 0) (aR args 1) h else bif Nat.beq f 246 then s246 ih m (aR args 0) (aR args 1) h else bif Nat.beq f 250 then s250 ih m (aR args 0) (aR args 1) h else bif Nat.beq f 267 then s267 ih m (aR args 0) h else aG CF ih m f args h
theorem cWu : cYw ih m f args h = aG CF ih m f args h := cW ih m f args h (cGx ih m args h).symm (cW ih m f args h (cQj ih m args h).symm (cW ih m f args h (cHc ih m args h).symm (cW ih m f args h (cPr ih m args h).symm (cW ih m f args h (cHo ih m args h).symm (cW ih m f args h (cJe ih m args h).symm (cW ih m f args h (cKq ih m args h).symm (cW ih m f args h (cMl ih m args h).symm rfl)))))))
noncomputable def cXg : aH := bif Nat.beq f 272 then s272 ih m (aR args 0) h else bif Nat.beq f 275 then s275 ih m (aR args 0) (aR args 1) h else bif Nat.beq f 276 then s276 ih m (aR args 0) (aR args 1) h else bif Nat.beq f 277 then s277 ih m (aR args 0) (aR args 1) h else bif Nat.beq f 278 then s278 ih m (aR args 0) (aR args 1) h else bif Nat.beq f 280 then s280 ih m (aR args 0) (aR args 1) h else bif Nat.beq f 281 then s281 ih m (aR args 0) (aR args 1) h else bif Nat.beq f 283 then s283 ih m (aR args 0) (aR args 1) (aR args 2) (aR args 3) h else aG CF ih m f args h
theorem cVk : cXg ih m f args h = aG CF ih m f args h := cW ih m f args h (cOx ih m args h).symm (cW ih m f args h (cOy ih m args h).symm (cW ih m f args h (cNl ih m args h).symm (cW ih m f args h (cOf ih m args h).symm (cW ih m f args h (cPx ih m args h).symm (cW ih m f args h (cKs ih m args h).symm (cW ih m f args h (cOi ih m args h).symm (cW ih m f args h (cQq ih m args h).symm rfl)))))))
noncomputable def cWq : aH := bif Nat.beq f 284 then s284 ih m (aR args 0) (aR args 1) h else bif Nat.beq f 285 then s285 ih m (aR args 0) h else bif Nat.beq f 294 then s294 ih m (aR args 0) (aR args 1) h else bif Nat.beq f 295 then s295 ih m (aR args 0) h else bif Nat.beq f 296 then s296 ih m (aR args 0) (aR args 1) h else bif Nat.beq f 311 then s311 ih m (aR args 0) h else bif Nat.beq f 313 then s313 ih m (aR args 0) h else aG CF ih m f args h
theorem cUp : cWq ih m f args h = aG CF ih m f args h := cW ih m f args h (cPf ih m args h).symm (cW ih m f args h (cKl ih m args h).symm (cW ih m f args h (cJw ih m args h).symm (cW ih m f args h (cOz ih m args h).symm (cW ih m f args h (cLd ih m args h).symm (cW ih m f args h (cIa ih m args h).symm (cW ih m f args h (cOo ih m args h).symm rfl))))))
noncomputable def qd0 : aH := bif Nat.blt f 65 then qg1 ih m f args h else qg2 ih m f args h
theorem dAf : qd0 ih m f args h = aG CF ih m f args h := ndC ih m f args h (dCu ih m f args h) (cZx ih m f args h)
noncomputable def qd1 : aH := bif Nat.blt f 45 then qg0 ih m f args h else qd0 ih m f args h
theorem dCw : qd1 ih m f args h = aG CF ih m f args h := ndC ih m f args h (dDj ih m f args h) (dAf ih m f args h)
noncomputable def qd2 : aH := bif Nat.blt f 150 then qg4 ih m f args h else qg5 ih m f args h
theorem cZr : qd2 ih m f args h = aG CF ih m f args h := ndC ih m f args h (cZt ih m f args h) (cZw ih m f args h)
noncomputable def qd3 : aH := bif Nat.blt f 123 then qg3 ih m f args h else qd2 ih m f args h
theorem dAh : qd3 ih m f args h = aG CF ih m f args h := ndC ih m f args h (cZz ih m f args h) (cZr ih m f args h)
noncomputable def qd4 : aH := bif Nat.blt f 93 then qd1 ih m f args h else qd3 ih m f args h
theorem dBi : qd4 ih m f args h = aG CF ih m f args h := ndC ih m f args h (dCw ih m f args h) (dAh ih m f args h)
noncomputable def qd5 : aH := bif Nat.blt f 200 then qg7 ih m f args h else qg8 ih m f args h
theorem cZg : qd5 ih m f args h = aG CF ih m f args h := ndC ih m f args h (dCt ih m f args h) (dCe ih m f args h)
noncomputable def qd6 : aH := bif Nat.blt f 192 then qg6 ih m f args h else qd5 ih m f args h
theorem dDl : qd6 ih m f args h = aG CF ih m f args h := ndC ih m f args h (dCo ih m f args h) (cZg ih m f args h)
noncomputable def qd7 : aH := bif Nat.blt f 234 then qg9 ih m f args h else cYw ih m f args h
theorem dAt : qd7 ih m f args h = aG CF ih m f args h := ndC ih m f args h (dCb ih m f args h) (cWu ih m f args h)
noncomputable def qd8 : aH := bif Nat.blt f 284 then cXg ih m f args h else cWq ih m f args h
theorem cZo : qd8 ih m f args h = aG CF ih m f args h := ndC ih m f args h (cVk ih m f args h) (cUp ih m f args h)
noncomputable def qd9 : aH := bif Nat.blt f 272 then qd7 ih m f args h else qd8 ih m f args h
theorem dBz : qd9 ih m f args h = aG CF ih m f args h := ndC ih m f args h (dAt ih m f args h) (cZo ih m f args h)
noncomputable def cWz : aH := bif Nat.blt f 209 then qd6 ih m f args h else qd9 ih m f args h
theorem cYi : cWz ih m f args h = aG CF ih m f args h := ndC ih m f args h (dDl ih m f args h) (dBz ih m f args h)
noncomputable def cTl : aH := bif Nat.blt f 159 then qd4 ih m f args h else cWz ih m f args h
theorem cUy : cTl ih m f args h = aG CF ih m f args h := ndC ih m f args h (dBi ih m f args h) (cYi ih m f args h)
end
noncomputable def shB (ih : RT) (m : Nat) (f : FuncId) (args : List DV) (h : Hp) : aH := cTl ih m f args h
theorem aPr (ih : RT) (m : Nat) (f : FuncId) (args : List DV) (h : Hp) : shB ih m f args h = aG CF ih m f args h := cUy ih m f args h
noncomputable def jR (n : Nat) : FuncId → List DV → Hp → aH :=
 Nat.rec (motive := fun _ => FuncId → List DV → Hp → aH) (fun _ _ _ => none) (fun m ih => shB ih m) n
theorem aGk : ∀ n, jR n = eA CF n
 | 0 => rfl
 | n + 1 => by
  have e : jR (n + 1) = shB (jR n) n := rfl
  have e' : eA CF (n + 1) = aG CF (eA CF n) n := rfl
  rw [e, e', ← aGk n]
  funext f args h
  exact aPr _ _ _ _ _
end Go.Dd

