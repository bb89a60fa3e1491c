/- A part of the proof: Q4 Q5 Q6 Q7 Q8 Q9 Qt: each text has a comment of its own. -/
import Derived.Test.YtdpdcbdfgfeoeaaGreatKn1
set_option linter.unusedVariables false
set_option linter.unusedSimpArgs false
set_option linter.constructorNameAsVariable false
set_option maxRecDepth 100000
namespace Go.Dd
open Go.Proofs
variable (r : RT) (n : Nat) (args : List DV) (h : Hp)
noncomputable def bE (r : RT) (n : Nat) (h0 : Hp) : aH :=
 some ((.b true), h0)
noncomputable def bZ (r : RT) (n : Nat) (kk4 : cA) (x0 x1 x11 x12 x13 : DV) (h0 : Hp) : aH :=
 bnd (aD .add x13 (aE 1) h0) fun v1 h1 =>
  kk4 x0 x1 x11 x12 v1 h1
noncomputable def eZ (r : RT) (n : Nat) (kk4 : cA) (x0 x1 x5 x6 x11 x12 x13 : DV) (h0 : Hp) : aH :=
 bnd (aK 3 x6 h0) fun v1 h1 =>
 bnd (r 193 [v1] h1) fun v2 h2 =>
 bnd (aD .geq v2 (aE 0) h2) fun v3 h3 =>
 bnd (gD v3 true (some (v2, h3)) h3) fun v4 h4 =>
 bnd (gD v3 true (some (x0, h4)) h4) fun v5 h5 =>
 bnd (gD v3 true (bQ v5 h5) h5) fun v6 h6 =>
 bnd (gD v3 true (aD .geq v4 v6 h6) h6) fun v7 h7 =>
 bnd (gD v3 true (some (v7, h7)) h7) fun v8 h8 =>
 bnd (gD v8 false (some (x1, h8)) h8) fun v9 h9 =>
 bnd (gD v8 false (some (v2, h9)) h9) fun v10 h10 =>
 bnd (gD v8 false (aI 1 v9 v10 h10) h10) fun v11 h11 =>
 bnd (gD v8 false (aA v11 h11) h11) fun v12 h12 =>
 bnd (gD v8 false (some (x1, h12)) h12) fun v13 h13 =>
 bnd (gD v8 false (some (x5, h13)) h13) fun v14 h14 =>
 bnd (gD v8 false (aI 1 v13 v14 h14) h14) fun v15 h15 =>
 bnd (gD v8 false (aA v15 h15) h15) fun v16 h16 =>
 bnd (gD v8 false (aD .neq v12 v16 h16) h16) fun v17 h17 =>
 bnd (gD v3 true (aL v8 (.b true) v17 h17) h17) fun v18 h18 =>
 bnd (aL v3 v18 (.b false) h18) fun v19 h19 =>
 aS v19 (
 some ((.b false), h19)) (
  bZ r n kk4 x0 x1 x11 x12 x13 h19)
noncomputable def sH (r : RT) (n : Nat) (kk4 : cA) (x0 x1 x5 x6 x7 x8 x9 x11 x12 x13 : DV) (h0 : Hp) : aH :=
 bnd (fY .not x8 h0) fun v1 h1 =>
 bnd (gD v1 false (some (x7, h1)) h1) fun v2 h2 =>
 bnd (gD v1 false (some (x9, h2)) h2) fun v3 h3 =>
 bnd (gD v1 false (aD .gtr v2 v3 h3) h3) fun v4 h4 =>
 bnd (aL v1 (.b true) v4 h4) fun v5 h5 =>
 aS v5 (
 some ((.b false), h5)) (
  eZ r n kk4 x0 x1 x5 x6 x11 x12 x13 h5)
noncomputable def aCl (r : RT) (n : Nat) (kk4 : cA) (x0 x1 x5 x6 x7 x8 x9 x11 x12 x13 : DV) (h0 : Hp) : aH :=
 bnd (aI 1 x1 x5 h0) fun v1 h1 =>
 bnd (aA v1 h1) fun v2 h2 =>
 bnd (aD .geq v2 (aE 0) h2) fun v3 h3 =>
 aS v3 (
 bnd (aI 1 x1 x5 h3) fun v4 h4 =>
 bnd (aA v4 h4) fun v5 h5 =>
 bnd (r 192 [x0, v5] h5) fun v6 h6 =>
 bnd (aC 0 v6 h6) fun v7 h7 =>
 bnd (aC 1 v6 h7) fun v8 h8 =>
  sH r n kk4 x0 x1 x5 x6 x7 x8 v7 x11 x12 x13 h8) (
  sH r n kk4 x0 x1 x5 x6 x7 x8 x9 x11 x12 x13 h3)
noncomputable def yX (r : RT) (n : Nat) (kk4 : cA) (x0 x1 x5 x6 x7 x8 x11 x12 x13 : DV) (h0 : Hp) : aH :=
 bnd (bQ x0 h0) fun v1 h1 =>
  aCl r n kk4 x0 x1 x5 x6 x7 x8 v1 x11 x12 x13 h1
noncomputable def aPz (r : RT) (n : Nat) (kk4 : cA) (x0 x1 x5 x6 x11 x12 x13 : DV) (h0 : Hp) : aH :=
 bnd (r 192 [x0, x5] h0) fun v1 h1 =>
 bnd (aC 0 v1 h1) fun v2 h2 =>
 bnd (aC 1 v1 h2) fun v3 h3 =>
  yX r n kk4 x0 x1 x5 x6 v2 v3 x11 x12 x13 h3
noncomputable def aAw (r : RT) (n : Nat) (kk4 : cA) (x0 x1 x5 x6 x11 x12 x13 x20 : DV) (h0 : Hp) : aH :=
 aS x20 (
  aPz r n kk4 x0 x1 x5 x6 x11 x12 x13 h0) (
  eZ r n kk4 x0 x1 x5 x6 x11 x12 x13 h0)
noncomputable def tO (r : RT) (n : Nat) (kk4 : cA) (x0 x1 x5 x6 x11 x12 x13 : DV) (h0 : Hp) : aH :=
 bnd (aB 0 x6 h0) fun v1 h1 =>
 bnd (aA v1 h1) fun v2 h2 =>
 bnd (aD .eql v2 (aE 18) h2) fun v3 h3 =>
  aAw r n kk4 x0 x1 x5 x6 x11 x12 x13 v3 h3
noncomputable def aCt (r : RT) (n : Nat) (kk4 : cA) (x0 x1 x11 x12 x13 : DV) (h0 : Hp) : aH :=
 bnd (aI 3 x11 x13 h0) fun v1 h1 =>
 bnd (aK 3 v1 h1) fun v2 h2 =>
 bnd (bH [(aE 0), (aE 0), (aE 0)] h2) fun v3 h3 =>
 bnd (aF 3 v3 v2 h3) fun _ h4 =>
  tO r n kk4 x0 x1 x13 v3 x11 x12 x13 h4
noncomputable def aLm (r : RT) (n : Nat) (kk4 : cA) (x0 x1 x11 x12 x13 x14 : DV) (h0 : Hp) : aH :=
 aS x14 (
  aCt r n kk4 x0 x1 x11 x12 x13 h0) (
  bE r n h0)
noncomputable def aUt (r : RT) (n : Nat) (kk4 : cA) (x0 x1 x11 x12 x13 : DV) (h0 : Hp) : aH :=
 bnd (aD .lss x13 x12 h0) fun v1 h1 =>
  aLm r n kk4 x0 x1 x11 x12 x13 v1 h1
noncomputable def qZ (r : RT) (n : Nat) (m : Nat) : cA :=
 Nat.rec (motive := fun _ => cA) (fun _ _ _ _ _ _ => none) (fun _ ih => aUt r n ih) m
noncomputable def bAi (r : RT) (n : Nat) : cA := qZ r n n
noncomputable def aPi (r : RT) (n : Nat) (x0 x1 x11 x12 x13 : DV) (h0 : Hp) : aH :=
 bAi r n x0 x1 x11 x12 x13 h0
noncomputable def aMz (r : RT) (n : Nat) (x0 x1 : DV) (h0 : Hp) : aH :=
 bnd (bQ x0 h0) fun v1 h1 =>
  aPi r n x0 x1 x0 v1 (aE 0) h1
noncomputable def s152 (r : RT) (n : Nat) (x0 x1 : DV) (h0 : Hp) : aH :=
 aMz r n x0 x1 h0
noncomputable abbrev c152 : Code := cf Tryz.f152
noncomputable abbrev aEl : Code := cR c152
noncomputable abbrev cHg : Code := cR aEl
noncomputable abbrev uU : Code := cL aEl
noncomputable abbrev aLf : Code := cR uU
noncomputable abbrev zS : Code := cL aLf
noncomputable abbrev iW : Code := cL zS
noncomputable abbrev aEk : Code := cR iW
noncomputable abbrev aEi : Code := cR aEk
noncomputable abbrev cIl : Code := cR aEi
noncomputable abbrev rV : Code := cL aEi
noncomputable abbrev qG : Code := cL rV
noncomputable abbrev qS : Code := cR qG
noncomputable abbrev cCc : Code := cR qS
noncomputable abbrev nU : Code := cL qS
noncomputable abbrev nW : Code := cR nU
noncomputable abbrev nO : Code := cL nW
noncomputable abbrev qH : Code := cR nO
noncomputable abbrev qI : Code := cR qH
noncomputable abbrev bZa : Code := cR qI
noncomputable abbrev aSp : Code := cL qI
noncomputable abbrev aUf : Code := cL qH
noncomputable abbrev aPs : Code := cL nO
noncomputable abbrev cBv : Code := cR nW
noncomputable abbrev aUe : Code := cL nU
noncomputable abbrev yV : Code := cL qG
noncomputable abbrev aRr : Code := cL aEk
noncomputable abbrev aRx : Code := cL iW
noncomputable abbrev aQl : Code := cL uU
noncomputable abbrev aVt : Code := cL c152
noncomputable abbrev r152 : K := aN CF Tryz.f152
noncomputable def D152 (r : RT) (n : Nat) (c : Code) (X : Nat → K) (k : K) : K := aO CF r 72 n c X r152 k
theorem bRu : D152 r n cHg x0 r152 = (K0 (bE r n)) :=
 (by kernel_rfl)
theorem cCb (kk4 : cA) : D152 r n cIl (xs x0 0 (K0 (bE r n))) (K5 kk4 0 1 11 12 13) = (K5 (bZ r n kk4) 0 1 11 12 13) :=
 (by kernel_rfl)
theorem cAw (kk4 : cA) : D152 r n cCc (xs (xs x0 0 (K0 (bE r n))) 1 (K5 (bZ r n kk4) 0 1 11 12 13)) (K5 (bZ r n kk4) 0 1 11 12 13) = (K7 (eZ r n kk4) 0 1 5 6 11 12 13) :=
 (by kernel_rfl)
theorem bAs (kk4 : cA) : D152 r n bZa (xs (xs x0 0 (K0 (bE r n))) 1 (K5 (bZ r n kk4) 0 1 11 12 13)) (K7 (eZ r n kk4) 0 1 5 6 11 12 13) = (K10 (sH r n kk4) 0 1 5 6 7 8 9 11 12 13) :=
 (by kernel_rfl)
theorem aXn (kk4 : cA) : D152 r n qI (xs (xs x0 0 (K0 (bE r n))) 1 (K5 (bZ r n kk4) 0 1 11 12 13)) (K7 (eZ r n kk4) 0 1 5 6 11 12 13) = D152 r n aSp (xs (xs x0 0 (K0 (bE r n))) 1 (K5 (bZ r n kk4) 0 1 11 12 13)) (K10 (sH r n kk4) 0 1 5 6 7 8 9 11 12 13) :=
 congrArg (fun k => D152 r n aSp (xs (xs x0 0 (K0 (bE r n))) 1 (K5 (bZ r n kk4) 0 1 11 12 13)) k) (bAs r n kk4)
theorem bQq (kk4 : cA) : D152 r n qI (xs (xs x0 0 (K0 (bE r n))) 1 (K5 (bZ r n kk4) 0 1 11 12 13)) (K7 (eZ r n kk4) 0 1 5 6 11 12 13) = (K10 (aCl r n kk4) 0 1 5 6 7 8 9 11 12 13) :=
 (aXn r n kk4).trans
 ((by kernel_rfl))
theorem aZz (kk4 : cA) : D152 r n qH (xs (xs x0 0 (K0 (bE r n))) 1 (K5 (bZ r n kk4) 0 1 11 12 13)) (K7 (eZ r n kk4) 0 1 5 6 11 12 13) = D152 r n aUf (xs (xs x0 0 (K0 (bE r n))) 1 (K5 (bZ r n kk4) 0 1 11 12 13)) (K10 (aCl r n kk4) 0 1 5 6 7 8 9 11 12 13) :=
 congrArg (fun k => D152 r n aUf (xs (xs x0 0 (K0 (bE r n))) 1 (K5 (bZ r n kk4) 0 1 11 12 13)) k) (bQq r n kk4)
theorem bKc (kk4 : cA) : D152 r n qH (xs (xs x0 0 (K0 (bE r n))) 1 (K5 (bZ r n kk4) 0 1 11 12 13)) (K7 (eZ r n kk4) 0 1 5 6 11 12 13) = (K9 (yX r n kk4) 0 1 5 6 7 8 11 12 13) :=
 (aZz r n kk4).trans
 ((by kernel_rfl))
theorem aZm (kk4 : cA) : D152 r n nO (xs (xs x0 0 (K0 (bE r n))) 1 (K5 (bZ r n kk4) 0 1 11 12 13)) (K7 (eZ r n kk4) 0 1 5 6 11 12 13) = D152 r n aPs (xs (xs x0 0 (K0 (bE r n))) 1 (K5 (bZ r n kk4) 0 1 11 12 13)) (K9 (yX r n kk4) 0 1 5 6 7 8 11 12 13) :=
 congrArg (fun k => D152 r n aPs (xs (xs x0 0 (K0 (bE r n))) 1 (K5 (bZ r n kk4) 0 1 11 12 13)) k) (bKc r n kk4)
theorem bOf (kk4 : cA) : D152 r n nO (xs (xs x0 0 (K0 (bE r n))) 1 (K5 (bZ r n kk4) 0 1 11 12 13)) (K7 (eZ r n kk4) 0 1 5 6 11 12 13) = (K7 (aPz r n kk4) 0 1 5 6 11 12 13) :=
 (aZm r n kk4).trans
 ((by kernel_rfl))
theorem bMh (kk4 : cA) : D152 r n nW (xs (xs x0 0 (K0 (bE r n))) 1 (K5 (bZ r n kk4) 0 1 11 12 13)) (K7 (eZ r n kk4) 0 1 5 6 11 12 13) = (K8 (aAw r n kk4) 0 1 5 6 11 12 13 20) :=
 (by kernel_rfl : D152 r n nW (xs (xs x0 0 (K0 (bE r n))) 1 (K5 (bZ r n kk4) 0 1 11 12 13)) (K7 (eZ r n kk4) 0 1 5 6 11 12 13) = (fun (env : aU) (h : Hp) => aS (opr env (cC nW)) (D152 r n nO (xs (xs x0 0 (K0 (bE r n))) 1 (K5 (bZ r n kk4) 0 1 11 12 13)) (K7 (eZ r n kk4) 0 1 5 6 11 12 13) env h) (D152 r n cBv (xs (xs x0 0 (K0 (bE r n))) 1 (K5 (bZ r n kk4) 0 1 11 12 13)) (K7 (eZ r n kk4) 0 1 5 6 11 12 13) env h))).trans (by rw [bOf r n kk4]; kernel_rfl)
theorem bIx (kk4 : cA) : D152 r n qS (xs (xs x0 0 (K0 (bE r n))) 1 (K5 (bZ r n kk4) 0 1 11 12 13)) (K5 (bZ r n kk4) 0 1 11 12 13) = D152 r n nU (xs (xs x0 0 (K0 (bE r n))) 1 (K5 (bZ r n kk4) 0 1 11 12 13)) (K7 (eZ r n kk4) 0 1 5 6 11 12 13) :=
 congrArg (fun k => D152 r n nU (xs (xs x0 0 (K0 (bE r n))) 1 (K5 (bZ r n kk4) 0 1 11 12 13)) k) (cAw r n kk4)
theorem bKq (kk4 : cA) : D152 r n nU (xs (xs x0 0 (K0 (bE r n))) 1 (K5 (bZ r n kk4) 0 1 11 12 13)) (K7 (eZ r n kk4) 0 1 5 6 11 12 13) = D152 r n aUe (xs (xs x0 0 (K0 (bE r n))) 1 (K5 (bZ r n kk4) 0 1 11 12 13)) (K8 (aAw r n kk4) 0 1 5 6 11 12 13 20) :=
 congrArg (fun k => D152 r n aUe (xs (xs x0 0 (K0 (bE r n))) 1 (K5 (bZ r n kk4) 0 1 11 12 13)) k) (bMh r n kk4)
theorem bYr (kk4 : cA) : D152 r n qS (xs (xs x0 0 (K0 (bE r n))) 1 (K5 (bZ r n kk4) 0 1 11 12 13)) (K5 (bZ r n kk4) 0 1 11 12 13) = (K7 (tO r n kk4) 0 1 5 6 11 12 13) :=
 (bIx r n kk4).trans
 ((bKq r n kk4).trans
 ((by kernel_rfl)))
theorem bOb (kk4 : cA) : D152 r n aEi (xs x0 0 (K0 (bE r n))) (K5 kk4 0 1 11 12 13) = D152 r n rV (xs x0 0 (K0 (bE r n))) (K5 (bZ r n kk4) 0 1 11 12 13) :=
 congrArg (fun k => D152 r n rV (xs x0 0 (K0 (bE r n))) k) (cCb r n kk4)
theorem bKk (kk4 : cA) : D152 r n qG (xs (xs x0 0 (K0 (bE r n))) 1 (K5 (bZ r n kk4) 0 1 11 12 13)) (K5 (bZ r n kk4) 0 1 11 12 13) = D152 r n yV (xs (xs x0 0 (K0 (bE r n))) 1 (K5 (bZ r n kk4) 0 1 11 12 13)) (K7 (tO r n kk4) 0 1 5 6 11 12 13) :=
 congrArg (fun k => D152 r n yV (xs (xs x0 0 (K0 (bE r n))) 1 (K5 (bZ r n kk4) 0 1 11 12 13)) k) (bYr r n kk4)
theorem bMx (kk4 : cA) (q0 : TT7) (q1 : Hp → aH) (q2 : cA) : D152 r n yV (xs (xs x0 0 (K0 q1)) 1 (K5 q2 0 1 11 12 13)) (K7 q0 0 1 5 6 11 12 13) = fun (env : aU) (h : Hp) =>
 bnd (aI 3 (env 11) (env 13) h) fun v1 h1 =>
 bnd (aK 3 v1 h1) fun v2 h2 =>
 bnd (bH [(aE 0), (aE 0), (aE 0)] h2) fun v3 h3 =>
 bnd (aF 3 v3 v2 h3) fun _ h4 =>
  q0 (env 0) (env 1) (env 13) v3 (env 11) (env 12) (env 13) h4 := by kernel_rfl
theorem aYh (kk4 : cA) : (fun (env : aU) (h : Hp) =>
 bnd (aI 3 (env 11) (env 13) h) fun v1 h1 =>
 bnd (aK 3 v1 h1) fun v2 h2 =>
 bnd (bH [(aE 0), (aE 0), (aE 0)] h2) fun v3 h3 =>
 bnd (aF 3 v3 v2 h3) fun _ h4 =>
  tO r n kk4 (env 0) (env 1) (env 13) v3 (env 11) (env 12) (env 13) h4) = (K5 (aCt r n kk4) 0 1 11 12 13) := by kernel_rfl
theorem bVg (kk4 : cA) : D152 r n aEi (xs x0 0 (K0 (bE r n))) (K5 kk4 0 1 11 12 13) = (K5 (aCt r n kk4) 0 1 11 12 13) :=
 (bOb r n kk4).trans
 ((by kernel_rfl : D152 r n rV (xs x0 0 (K0 (bE r n))) (K5 (bZ r n kk4) 0 1 11 12 13) = D152 r n qG (xs (xs x0 0 (K0 (bE r n))) 1 (K5 (bZ r n kk4) 0 1 11 12 13)) (K5 (bZ r n kk4) 0 1 11 12 13)).trans
 ((bKk r n kk4).trans
 ((bMx r n kk4 (tO r n kk4) (bE r n) (bZ r n kk4)).trans (aYh r n kk4))))
theorem bBa (kk4 : cA) : D152 r n aEk (xs x0 0 (K0 (bE r n))) (K5 kk4 0 1 11 12 13) = D152 r n aRr (xs x0 0 (K0 (bE r n))) (K5 (aCt r n kk4) 0 1 11 12 13) :=
 congrArg (fun k => D152 r n aRr (xs x0 0 (K0 (bE r n))) k) (bVg r n kk4)
theorem bTb (kk4 : cA) : D152 r n aEk (xs x0 0 (K0 (bE r n))) (K5 kk4 0 1 11 12 13) = (K6 (aLm r n kk4) 0 1 11 12 13 14) :=
 (bBa r n kk4).trans
 ((by kernel_rfl))
theorem aWn (kk4 : cA) : D152 r n iW (xs x0 0 (K0 (bE r n))) (K5 kk4 0 1 11 12 13) = D152 r n aRx (xs x0 0 (K0 (bE r n))) (K6 (aLm r n kk4) 0 1 11 12 13 14) :=
 congrArg (fun k => D152 r n aRx (xs x0 0 (K0 (bE r n))) k) (bTb r n kk4)
theorem bRn (kk4 : cA) : D152 r n iW (xs x0 0 (K0 (bE r n))) (K5 kk4 0 1 11 12 13) = (K5 (aUt r n kk4) 0 1 11 12 13) :=
 (aWn r n kk4).trans
 ((by kernel_rfl))
theorem bKi (m : Nat) : aM (fun kk => D152 r n iW (xs x0 0 (K0 (bE r n))) kk) m = (K5 (qZ r n m) 0 1 11 12 13) := by
 induction m with
 | zero => exact (by kernel_rfl : aM (fun kk => D152 r n iW (xs x0 0 (K0 (bE r n))) kk) 0 = (K5 (qZ r n 0) 0 1 11 12 13))
 | succ m ih =>
  refine (by kernel_rfl : aM (fun kk => D152 r n iW (xs x0 0 (K0 (bE r n))) kk) (m + 1) = D152 r n iW (xs x0 0 (K0 (bE r n))) (aM (fun kk => D152 r n iW (xs x0 0 (K0 (bE r n))) kk) m)).trans ?_
  rw [ih]
  exact (bRn r n (qZ r n m)).trans (by kernel_rfl)
theorem cDb : D152 r n zS (xs x0 0 (K0 (bE r n))) (K0 (bE r n)) = (K5 (bAi r n) 0 1 11 12 13) :=
 (by kernel_rfl : D152 r n zS (xs x0 0 (K0 (bE r n))) (K0 (bE r n)) = aM (fun kk => D152 r n iW (xs x0 0 (K0 (bE r n))) kk) n).trans ((bKi r n n).trans (by kernel_rfl))
theorem cDm : D152 r n aLf x0 (K0 (bE r n)) = (K5 (aPi r n) 0 1 11 12 13) :=
 (by kernel_rfl : D152 r n aLf x0 (K0 (bE r n)) = D152 r n zS (xs x0 0 (K0 (bE r n))) (K0 (bE r n))).trans
 ((cDb r n).trans (by kernel_rfl))
theorem bAb : D152 r n aEl x0 r152 = D152 r n uU x0 (K0 (bE r n)) :=
 congrArg (fun k => D152 r n uU x0 k) (bRu r n)
theorem aZw : D152 r n uU x0 (K0 (bE r n)) = D152 r n aQl x0 (K5 (aPi r n) 0 1 11 12 13) :=
 congrArg (fun k => D152 r n aQl x0 k) (cDm r n)
theorem bXi : D152 r n aEl x0 r152 = (K2 (aMz r n) 0 1) :=
 (bAb r n).trans
 ((aZw r n).trans
 ((by kernel_rfl)))
theorem cDn : D152 r n c152 x0 r152 = D152 r n aVt x0 (K2 (aMz r n) 0 1) :=
 congrArg (fun k => D152 r n aVt x0 k) (bXi r n)
theorem cWk : D152 r n c152 x0 r152 = (K2 (s152 r n) 0 1) :=
 (cDn r n).trans
 ((by kernel_rfl))
theorem cPa : aG CF r n 152 args h = s152 r n (aR args 0) (aR args 1) h :=
 (by kernel_rfl : aG CF r n 152 args h = D152 r n c152 x0 r152 (aJ args) h).trans ((congrFun (congrFun (cWk r n) (aJ args)) h).trans (by kernel_rfl))
noncomputable def bM (r : RT) (n : Nat) (x6 x9 : DV) (h0 : Hp) : aH :=
 bnd (aA x6 h0) fun v1 h1 =>
 bnd (aA x9 h1) fun v2 h2 =>
 some (.t [v1, v2], h2)
noncomputable def qP (r : RT) (n : Nat) (kk9 : eP) (x2 x3 x6 x7 x9 x10 x11 x14 : DV) (h0 : Hp) : aH :=
 bnd (aD .add x11 (aE 1) h0) fun v1 h1 =>
 bnd (aA x3 h1) fun v2 h2 =>
 bnd (aI 1 v2 x11 h2) fun v3 h3 =>
 bnd (aA v3 h3) fun v4 h4 =>
 bnd (cV CF r x10 [v1, v4, x14] h4) fun v5 h5 =>
  kk9 x2 x3 x6 x7 x9 x10 h5
noncomputable def aDn (r : RT) (n : Nat) (kk9 : eP) (x2 x3 x6 x7 x9 x10 x11 x12 x13 x14 : DV) (h0 : Hp) : aH :=
 bnd (aB 0 x12 h0) fun v1 h1 =>
 bnd (aA v1 h1) fun v2 h2 =>
 bnd (aD .eql v2 (aE 19) h2) fun v3 h3 =>
 aS v3 (
 bnd (aD .neq x13 (aE 1) h3) fun v4 h4 =>
 bnd (gD v4 false (aA x3 h4) h4) fun v5 h5 =>
 bnd (gD v4 false (some (x11, h5)) h5) fun v6 h6 =>
 bnd (gD v4 false (aI 1 v5 v6 h6) h6) fun v7 h7 =>
 bnd (gD v4 false (aA v7 h7) h7) fun v8 h8 =>
 bnd (gD v4 false (aD .lss v8 (aE 0) h8) h8) fun v9 h9 =>
 bnd (aL v4 (.b true) v9 h9) fun v10 h10 =>
 aS v10 (
 some (.t [.l0, (.b false)], h10)) (
   kk9 x2 x3 x6 x7 x9 x10 h10)) (
 bnd (aD .eql v2 (aE 20) h3) fun v11 h11 =>
 aS v11 (
   kk9 x2 x3 x6 x7 x9 x10 h11) (
 bnd (aD .eql v2 (aE 16) h11) fun v12 h12 =>
 aS v12 (
 bnd (aK 3 x12 h12) fun v13 h13 =>
 bnd (r 193 [v13] h13) fun v14 h14 =>
 bnd (aA x3 h14) fun v15 h15 =>
 cnd (bI (aA x3 h12) v15 && true) (
 bnd (aI 1 v15 x11 h15) fun v16 h16 =>
 bnd (aA v16 h16) fun v17 h17 =>
 cnd (bI (aA v16 h12) v17 && true) (
 bnd (cV CF r x10 [v14, v17, x14] h17) fun v18 h18 =>
    kk9 x2 x3 x6 x7 x9 x10 h18))) (
 bnd (aD .eql v2 (aE 17) h12) fun v19 h19 =>
 aS v19 (
 bnd (aK 3 x12 h19) fun v20 h20 =>
 bnd (r 193 [v20] h20) fun v21 h21 =>
 bnd (aA x3 h21) fun v22 h22 =>
 cnd (bI (aA x3 h19) v22 && true) (
 bnd (aI 1 v22 x11 h22) fun v23 h23 =>
 bnd (aA v23 h23) fun v24 h24 =>
 cnd (bI (aA v23 h19) v24 && true) (
 bnd (cV CF r x10 [v21, v24, x14] h24) fun v25 h25 =>
     qP r n kk9 x2 x3 x6 x7 x9 x10 x11 x14 h25))) (
     qP r n kk9 x2 x3 x6 x7 x9 x10 x11 x14 h19))))
noncomputable def aCe (r : RT) (n : Nat) (kk9 : eP) (x2 x3 x6 x7 x9 x10 x11 x12 x13 x14 : DV) (h0 : Hp) : aH :=
 bnd (aK 3 x12 h0) fun v1 h1 =>
 bnd (r 196 [v1] h1) fun v2 h2 =>
 bnd (aD .lss x13 v2 h2) fun v3 h3 =>
 bnd (gD v3 false (some (x14, h3)) h3) fun v4 h4 =>
 bnd (gD v3 false (aD .gtr v4 (aE 24) h4) h4) fun v5 h5 =>
 bnd (aL v3 (.b true) v5 h5) fun v6 h6 =>
 aS v6 (
 some (.t [.l0, (.b false)], h6)) (
  aDn r n kk9 x2 x3 x6 x7 x9 x10 x11 x12 x13 x14 h6)
noncomputable def xH (r : RT) (n : Nat) (kk9 : eP) (x2 x3 x6 x7 x9 x10 x11 x12 x13 : DV) (h0 : Hp) : aH :=
 bnd (aK 3 x12 h0) fun v1 h1 =>
 bnd (r 195 [v1] h1) fun v2 h2 =>
 bnd (aD .add x13 v2 h2) fun v3 h3 =>
  aCe r n kk9 x2 x3 x6 x7 x9 x10 x11 x12 x13 v3 h3
noncomputable def aFa (r : RT) (n : Nat) (kk9 : eP) (x2 x3 x6 x7 x9 x10 x11 : DV) (h0 : Hp) : aH :=
 bnd (aA x2 (resv 1 h0)) fun v1 h1 =>
 bnd (aI 3 v1 x11 h1) fun v2 h2 =>
 bnd (aK 3 v2 h2) fun v3 h3 =>
 bnd (aA x6 h3) fun v4 h4 =>
 bnd (aI 1 v4 x11 h4) fun v5 h5 =>
 bnd (aA v5 h5) fun v6 h6 =>
 bnd (jM (bS 0 h0.next) [(aE 0), (aE 0), (aE 0)] h6) fun v7 h7 =>
 bnd (aF 3 v7 v3 h7) fun v8 h8 =>
 cnd (bI (aA v5 h8) v6 && (bI (aA x6 h8) v4 && true)) (
  xH r n kk9 x2 x3 x6 x7 x9 x10 x11 v7 v6 h8)
noncomputable def aAb (r : RT) (n : Nat) (kk9 : eP) (x2 x3 x6 x7 x9 x10 x11 : DV) (h0 : Hp) : aH :=
 bnd (aA x7 h0) fun v1 h1 =>
 bnd (aA x7 h1) fun v2 h2 =>
 bnd (bQ v2 h2) fun v3 h3 =>
 bnd (aD .sub v3 (aE 1) h3) fun v4 h4 =>
 bnd (cJ 1 v1 none (some v4) h4) fun v5 h5 =>
 bnd (aF 1 x7 v5 h5) fun _ h6 =>
  aFa r n kk9 x2 x3 x6 x7 x9 x10 x11 h6
noncomputable def aBa (r : RT) (n : Nat) (kk9 : eP) (x2 x3 x6 x7 x9 x10 : DV) (h0 : Hp) : aH :=
 bnd (aA x7 h0) fun v1 h1 =>
 bnd (aA x7 h1) fun v2 h2 =>
 bnd (bQ v2 h2) fun v3 h3 =>
 bnd (aD .sub v3 (aE 1) h3) fun v4 h4 =>
 bnd (aI 1 v1 v4 h4) fun v5 h5 =>
 bnd (aA v5 h5) fun v6 h6 =>
  aAb r n kk9 x2 x3 x6 x7 x9 x10 v6 h6
noncomputable def aUk (r : RT) (n : Nat) (kk9 : eP) (x2 x3 x6 x7 x9 x10 : DV) (h0 : Hp) : aH :=
 bnd (aA x7 h0) fun v1 h1 =>
 bnd (bQ v1 h1) fun v2 h2 =>
 bnd (aD .gtr v2 (aE 0) h2) fun v3 h3 =>
 bnd (gD v3 true (aA x9 h3) h3) fun v4 h4 =>
 bnd (aL v3 v4 (.b false) h4) fun v5 h5 =>
 aS v5 (
   aBa r n kk9 x2 x3 x6 x7 x9 x10 h5) (
   bM r n x6 x9 h5)
noncomputable def qO (r : RT) (n : Nat) (m : Nat) : eP :=
 Nat.rec (motive := fun _ => eP) (fun _ _ _ _ _ _ _ => none) (fun _ ih => aUk r n ih) m
noncomputable def bIz (r : RT) (n : Nat) : eP := qO r n n
noncomputable def aKv (r : RT) (n : Nat) (x2 x3 x6 x7 x9 x10 : DV) (h0 : Hp) : aH :=
 bIz r n x2 x3 x6 x7 x9 x10 h0
noncomputable def aOr (r : RT) (n : Nat) (x2 x3 x6 x7 x9 x10 : DV) (h0 : Hp) : aH :=
 aKv r n x2 x3 x6 x7 x9 x10 h0
noncomputable def tV (r : RT) (n : Nat) (x2 x3 x6 x7 x9 : DV) (h0 : Hp) : aH :=
 aOr r n x2 x3 x6 x7 x9 (.f 194 [] [x2, x3, x6, x9, x7]) h0
noncomputable def cE (r : RT) (n : Nat) (x2 x3 x6 x7 : DV) (h0 : Hp) : aH :=
 bnd (bH [(.b false)] h0) fun v1 h1 =>
 bnd (aF 1 v1 (.b true) h1) fun _ h2 =>
  tV r n x2 x3 x6 x7 v1 h2
noncomputable def jX (r : RT) (n : Nat) (kk18 : eP) (x2 x3 x6 x7 x19 x20 : DV) (h0 : Hp) : aH :=
 bnd (aD .add x20 (aE 1) h0) fun v1 h1 =>
  kk18 x2 x3 x6 x7 x19 v1 h1
noncomputable def sG (r : RT) (n : Nat) (kk18 : eP) (x2 x3 x6 x7 x19 x20 : DV) (h0 : Hp) : aH :=
 bnd (aA x6 h0) fun v1 h1 =>
 bnd (aI 1 v1 x20 h1) fun v2 h2 =>
 bnd (aF 1 v2 (.i .i64 (Int.negSucc 0)) h2) fun _ h3 =>
 bnd (aD .eql x20 (aE 0) h3) fun v4 h4 =>
 bnd (gD v4 false (some (x20, h4)) h4) fun v5 h5 =>
 bnd (gD v4 false (aD .gtr v5 (aE 1) h5) h5) fun v6 h6 =>
 bnd (gD v4 false (some (v6, h6)) h6) fun v7 h7 =>
 bnd (gD v7 true (aA x2 h7) h7) fun v8 h8 =>
 bnd (gD v7 true (some (x20, h8)) h8) fun v9 h9 =>
 bnd (gD v7 true (aD .sub v9 (aE 2) h9) h9) fun v10 h10 =>
 bnd (gD v7 true (aI 3 v8 v10 h10) h10) fun v11 h11 =>
 bnd (gD v7 true (aB 0 v11 h11) h11) fun v12 h12 =>
 bnd (gD v7 true (aA v12 h12) h12) fun v13 h13 =>
 bnd (gD v7 true (aD .eql v13 (aE 18) h13) h13) fun v14 h14 =>
 bnd (gD v4 false (aL v7 v14 (.b false) h14) h14) fun v15 h15 =>
 bnd (gD v4 false (some (v15, h15)) h15) fun v16 h16 =>
 bnd (gD v16 true (aA x3 h16) h16) fun v17 h17 =>
 bnd (gD v16 true (some (x20, h17)) h17) fun v18 h18 =>
 bnd (gD v16 true (aI 1 v17 v18 h18) h18) fun v19 h19 =>
 bnd (gD v16 true (aA v19 h19) h19) fun v20 h20 =>
 bnd (gD v16 true (some (x20, h20)) h20) fun v21 h21 =>
 bnd (gD v16 true (aD .sub v21 (aE 2) h21) h21) fun v22 h22 =>
 bnd (gD v16 true (aD .eql v20 v22 h22) h22) fun v23 h23 =>
 bnd (gD v4 false (aL v16 v23 (.b false) h23) h23) fun v24 h24 =>
 bnd (aL v4 (.b true) v24 h24) fun v25 h25 =>
 aS v25 (
 bnd (aA x6 h25) fun v26 h26 =>
 bnd (aI 1 v26 x20 h26) fun v27 h27 =>
 bnd (aF 1 v27 (aE 0) h27) fun _ h28 =>
 bnd (aA x7 h28) fun v29 h29 =>
 bnd (aP [(aE 0)] 1 [(0, 1, x20)] h29) fun v30 h30 =>
 bnd (aZ 1 8 v29 v30 h30) fun v31 h31 =>
 bnd (aF 1 x7 v31 h31) fun _ h32 =>
  jX r n kk18 x2 x3 x6 x7 x19 x20 h32) (
  jX r n kk18 x2 x3 x6 x7 x19 x20 h25)
noncomputable def aDs (r : RT) (n : Nat) (kk18 : eP) (x2 x3 x6 x7 x19 x20 x21 : DV) (h0 : Hp) : aH :=
 aS x21 (
  sG r n kk18 x2 x3 x6 x7 x19 x20 h0) (
  cE r n x2 x3 x6 x7 h0)
noncomputable def aIo (r : RT) (n : Nat) (kk18 : eP) (x2 x3 x6 x7 x19 x20 : DV) (h0 : Hp) : aH :=
 bnd (aD .lss x20 x19 h0) fun v1 h1 =>
  aDs r n kk18 x2 x3 x6 x7 x19 x20 v1 h1
noncomputable def nD (r : RT) (n : Nat) (m : Nat) : eP :=
 Nat.rec (motive := fun _ => eP) (fun _ _ _ _ _ _ _ => none) (fun _ ih => aIo r n ih) m
noncomputable def aVf (r : RT) (n : Nat) : eP := nD r n n
noncomputable def zR (r : RT) (n : Nat) (x2 x3 x6 x7 x19 x20 : DV) (h0 : Hp) : aH :=
 aVf r n x2 x3 x6 x7 x19 x20 h0
noncomputable def vM (r : RT) (n : Nat) (x2 x3 x6 x7 : DV) (h0 : Hp) : aH :=
 bnd (aA x6 h0) fun v1 h1 =>
 bnd (bQ v1 h1) fun v2 h2 =>
  zR r n x2 x3 x6 x7 v2 (aE 0) h2
noncomputable def oJ (r : RT) (n : Nat) (x2 x3 x6 : DV) (h0 : Hp) : aH :=
 bnd (bH [.l0] h0) fun v1 h1 =>
  vM r n x2 x3 x6 v1 h1
noncomputable def pH (r : RT) (n : Nat) (x2 x3 : DV) (h0 : Hp) : aH :=
 bnd (aA x2 h0) fun v1 h1 =>
 bnd (bQ v1 h1) fun v2 h2 =>
 bnd (cB 1 8 [(aE 0)] v2 v2 h2) fun v3 h3 =>
 bnd (bH [.l0] h3) fun v4 h4 =>
 bnd (aF 1 v4 v3 h4) fun _ h5 =>
  oJ r n x2 x3 v4 h5
noncomputable def s153 (r : RT) (n : Nat) (x0 x1 : DV) (h0 : Hp) : aH :=
 bnd (bR x0 h0) fun v1 h1 =>
 bnd (bR x1 h1) fun v2 h2 =>
  pH r n v1 v2 h2
noncomputable abbrev c153 : Code := cf Tryz.f153
noncomputable abbrev aNx : Code := cR c153
noncomputable abbrev aCu : Code := cL aNx
noncomputable abbrev aGg : Code := cR aCu
noncomputable abbrev aFi : Code := cR aGg
noncomputable abbrev zT : Code := cR aFi
noncomputable abbrev aEa : Code := cR zT
noncomputable abbrev aAe : Code := cR aEa
noncomputable abbrev aCx : Code := cR aAe
noncomputable abbrev cMe : Code := cR aCx
noncomputable abbrev qW : Code := cL aCx
noncomputable abbrev qT : Code := cL qW
noncomputable abbrev gK : Code := cL qT
noncomputable abbrev aGb : Code := cR gK
noncomputable abbrev sD : Code := cL aGb
noncomputable abbrev sP : Code := cR sD
noncomputable abbrev sI : Code := cR sP
noncomputable abbrev rP : Code := cR sI
noncomputable abbrev rC : Code := cR rP
noncomputable abbrev qX : Code := cR rC
noncomputable abbrev bUc : Code := cR qX
noncomputable abbrev aTz : Code := cL qX
noncomputable abbrev aWb : Code := cL rC
noncomputable abbrev aTr : Code := cL rP
noncomputable abbrev aRe : Code := cL sI
noncomputable abbrev aWk : Code := cL sP
noncomputable abbrev aWj : Code := cL sD
noncomputable abbrev aRo : Code := cL gK
noncomputable abbrev aWg : Code := cL aAe
noncomputable abbrev aTu : Code := cL aEa
noncomputable abbrev zY : Code := cL zT
noncomputable abbrev nG : Code := cL aFi
noncomputable abbrev aDu : Code := cR nG
noncomputable abbrev rE : Code := cL aDu
noncomputable abbrev gL : Code := cL rE
noncomputable abbrev qK : Code := cR gL
noncomputable abbrev rH : Code := cR qK
noncomputable abbrev cDq : Code := cR rH
noncomputable abbrev aFc : Code := cL rH
noncomputable abbrev aSx : Code := cL qK
noncomputable abbrev aTe : Code := cL gL
noncomputable abbrev aQr : Code := cL nG
noncomputable abbrev xV : Code := cL aGg
noncomputable abbrev aAg : Code := cL aCu
noncomputable abbrev xG : Code := cL c153
noncomputable abbrev r153 : K := aN CF Tryz.f153
noncomputable def D153 (r : RT) (n : Nat) (c : Code) (X : Nat → K) (k : K) : K := aO CF r 144 n c X r153 k
theorem cDa : D153 r n cMe x0 r153 = (K2 (bM r n) 6 9) :=
 (by kernel_rfl)
theorem bCz (kk9 : eP) : D153 r n bUc (xs (xs x0 2 (K2 (bM r n) 6 9)) 3 (K6 kk9 2 3 6 7 9 10)) (K6 kk9 2 3 6 7 9 10) = (K8 (qP r n kk9) 2 3 6 7 9 10 11 14) :=
 (by kernel_rfl)
theorem aXm (kk9 : eP) : D153 r n qX (xs (xs x0 2 (K2 (bM r n) 6 9)) 3 (K6 kk9 2 3 6 7 9 10)) (K6 kk9 2 3 6 7 9 10) = D153 r n aTz (xs (xs x0 2 (K2 (bM r n) 6 9)) 3 (K6 kk9 2 3 6 7 9 10)) (K8 (qP r n kk9) 2 3 6 7 9 10 11 14) :=
 congrArg (fun k => D153 r n aTz (xs (xs x0 2 (K2 (bM r n) 6 9)) 3 (K6 kk9 2 3 6 7 9 10)) k) (bCz r n kk9)
theorem bPw (kk9 : eP) : D153 r n qX (xs (xs x0 2 (K2 (bM r n) 6 9)) 3 (K6 kk9 2 3 6 7 9 10)) (K6 kk9 2 3 6 7 9 10) = (K10 (aDn r n kk9) 2 3 6 7 9 10 11 12 13 14) :=
 (aXm r n kk9).trans
 ((by kernel_rfl))
theorem aXc (kk9 : eP) : D153 r n rC (xs (xs x0 2 (K2 (bM r n) 6 9)) 3 (K6 kk9 2 3 6 7 9 10)) (K6 kk9 2 3 6 7 9 10) = D153 r n aWb (xs (xs x0 2 (K2 (bM r n) 6 9)) 3 (K6 kk9 2 3 6 7 9 10)) (K10 (aDn r n kk9) 2 3 6 7 9 10 11 12 13 14) :=
 congrArg (fun k => D153 r n aWb (xs (xs x0 2 (K2 (bM r n) 6 9)) 3 (K6 kk9 2 3 6 7 9 10)) k) (bPw r n kk9)
theorem bQr (kk9 : eP) : D153 r n rC (xs (xs x0 2 (K2 (bM r n) 6 9)) 3 (K6 kk9 2 3 6 7 9 10)) (K6 kk9 2 3 6 7 9 10) = (K10 (aCe r n kk9) 2 3 6 7 9 10 11 12 13 14) :=
 (aXc r n kk9).trans
 ((by kernel_rfl))
theorem aYy (kk9 : eP) : D153 r n rP (xs (xs x0 2 (K2 (bM r n) 6 9)) 3 (K6 kk9 2 3 6 7 9 10)) (K6 kk9 2 3 6 7 9 10) = D153 r n aTr (xs (xs x0 2 (K2 (bM r n) 6 9)) 3 (K6 kk9 2 3 6 7 9 10)) (K10 (aCe r n kk9) 2 3 6 7 9 10 11 12 13 14) :=
 congrArg (fun k => D153 r n aTr (xs (xs x0 2 (K2 (bM r n) 6 9)) 3 (K6 kk9 2 3 6 7 9 10)) k) (bQr r n kk9)
theorem bKn (kk9 : eP) : D153 r n rP (xs (xs x0 2 (K2 (bM r n) 6 9)) 3 (K6 kk9 2 3 6 7 9 10)) (K6 kk9 2 3 6 7 9 10) = (K9 (xH r n kk9) 2 3 6 7 9 10 11 12 13) :=
 (aYy r n kk9).trans
 ((by kernel_rfl))
theorem aWx (kk9 : eP) : D153 r n sI (xs (xs x0 2 (K2 (bM r n) 6 9)) 3 (K6 kk9 2 3 6 7 9 10)) (K6 kk9 2 3 6 7 9 10) = D153 r n aRe (xs (xs x0 2 (K2 (bM r n) 6 9)) 3 (K6 kk9 2 3 6 7 9 10)) (K9 (xH r n kk9) 2 3 6 7 9 10 11 12 13) :=
 congrArg (fun k => D153 r n aRe (xs (xs x0 2 (K2 (bM r n) 6 9)) 3 (K6 kk9 2 3 6 7 9 10)) k) (bKn r n kk9)
theorem bKs (kk9 : eP) : D153 r n sI (xs (xs x0 2 (K2 (bM r n) 6 9)) 3 (K6 kk9 2 3 6 7 9 10)) (K6 kk9 2 3 6 7 9 10) = (K7 (aFa r n kk9) 2 3 6 7 9 10 11) :=
 (aWx r n kk9).trans
 ((by kernel_rfl))
theorem aZv (kk9 : eP) : D153 r n sP (xs (xs x0 2 (K2 (bM r n) 6 9)) 3 (K6 kk9 2 3 6 7 9 10)) (K6 kk9 2 3 6 7 9 10) = D153 r n aWk (xs (xs x0 2 (K2 (bM r n) 6 9)) 3 (K6 kk9 2 3 6 7 9 10)) (K7 (aFa r n kk9) 2 3 6 7 9 10 11) :=
 congrArg (fun k => D153 r n aWk (xs (xs x0 2 (K2 (bM r n) 6 9)) 3 (K6 kk9 2 3 6 7 9 10)) k) (bKs r n kk9)
theorem bLi (kk9 : eP) : D153 r n sP (xs (xs x0 2 (K2 (bM r n) 6 9)) 3 (K6 kk9 2 3 6 7 9 10)) (K6 kk9 2 3 6 7 9 10) = (K7 (aAb r n kk9) 2 3 6 7 9 10 11) :=
 (aZv r n kk9).trans
 ((by kernel_rfl))
theorem aZx (kk9 : eP) : D153 r n sD (xs (xs x0 2 (K2 (bM r n) 6 9)) 3 (K6 kk9 2 3 6 7 9 10)) (K6 kk9 2 3 6 7 9 10) = D153 r n aWj (xs (xs x0 2 (K2 (bM r n) 6 9)) 3 (K6 kk9 2 3 6 7 9 10)) (K7 (aAb r n kk9) 2 3 6 7 9 10 11) :=
 congrArg (fun k => D153 r n aWj (xs (xs x0 2 (K2 (bM r n) 6 9)) 3 (K6 kk9 2 3 6 7 9 10)) k) (bLi r n kk9)
theorem bMc (kk9 : eP) : D153 r n aGb (xs x0 2 (K2 (bM r n) 6 9)) (K6 kk9 2 3 6 7 9 10) = (K6 (aBa r n kk9) 2 3 6 7 9 10) :=
 (by kernel_rfl : D153 r n aGb (xs x0 2 (K2 (bM r n) 6 9)) (K6 kk9 2 3 6 7 9 10) = D153 r n sD (xs (xs x0 2 (K2 (bM r n) 6 9)) 3 (K6 kk9 2 3 6 7 9 10)) (K6 kk9 2 3 6 7 9 10)).trans
 ((aZx r n kk9).trans
 ((by kernel_rfl)))
theorem bJg (kk9 : eP) : D153 r n gK (xs x0 2 (K2 (bM r n) 6 9)) (K6 kk9 2 3 6 7 9 10) = D153 r n aRo (xs x0 2 (K2 (bM r n) 6 9)) (K6 (aBa r n kk9) 2 3 6 7 9 10) :=
 congrArg (fun k => D153 r n aRo (xs x0 2 (K2 (bM r n) 6 9)) k) (bMc r n kk9)
theorem bIb (kk9 : eP) : D153 r n gK (xs x0 2 (K2 (bM r n) 6 9)) (K6 kk9 2 3 6 7 9 10) = (K6 (aUk r n kk9) 2 3 6 7 9 10) :=
 (bJg r n kk9).trans
 ((by kernel_rfl))
theorem bGg (m : Nat) : aM (fun kk => D153 r n gK (xs x0 2 (K2 (bM r n) 6 9)) kk) m = (K6 (qO r n m) 2 3 6 7 9 10) := by
 induction m with
 | zero => exact (by kernel_rfl : aM (fun kk => D153 r n gK (xs x0 2 (K2 (bM r n) 6 9)) kk) 0 = (K6 (qO r n 0) 2 3 6 7 9 10))
 | succ m ih =>
  refine (by kernel_rfl : aM (fun kk => D153 r n gK (xs x0 2 (K2 (bM r n) 6 9)) kk) (m + 1) = D153 r n gK (xs x0 2 (K2 (bM r n) 6 9)) (aM (fun kk => D153 r n gK (xs x0 2 (K2 (bM r n) 6 9)) kk) m)).trans ?_
  rw [ih]
  exact (bIb r n (qO r n m)).trans (by kernel_rfl)
theorem cAi : D153 r n qT (xs x0 2 (K2 (bM r n) 6 9)) (K2 (bM r n) 6 9) = (K6 (bIz r n) 2 3 6 7 9 10) :=
 (by kernel_rfl : D153 r n qT (xs x0 2 (K2 (bM r n) 6 9)) (K2 (bM r n) 6 9) = aM (fun kk => D153 r n gK (xs x0 2 (K2 (bM r n) 6 9)) kk) n).trans ((bGg r n n).trans (by kernel_rfl))
theorem bGr : D153 r n aCx x0 r153 = D153 r n qW x0 (K2 (bM r n) 6 9) :=
 congrArg (fun k => D153 r n qW x0 k) (cDa r n)
theorem bSh : D153 r n aCx x0 r153 = (K6 (aKv r n) 2 3 6 7 9 10) :=
 (bGr r n).trans
 ((by kernel_rfl : D153 r n qW x0 (K2 (bM r n) 6 9) = D153 r n qT (xs x0 2 (K2 (bM r n) 6 9)) (K2 (bM r n) 6 9)).trans
 ((cAi r n).trans (by kernel_rfl)))
theorem bGn : D153 r n aAe x0 r153 = D153 r n aWg x0 (K6 (aKv r n) 2 3 6 7 9 10) :=
 congrArg (fun k => D153 r n aWg x0 k) (bSh r n)
theorem bXq : D153 r n aAe x0 r153 = (K6 (aOr r n) 2 3 6 7 9 10) :=
 (bGn r n).trans
 ((by kernel_rfl))
theorem aZr : D153 r n aEa x0 r153 = D153 r n aTu x0 (K6 (aOr r n) 2 3 6 7 9 10) :=
 congrArg (fun k => D153 r n aTu x0 k) (bXq r n)
theorem bWj : D153 r n aEa x0 r153 = (K5 (tV r n) 2 3 6 7 9) :=
 (aZr r n).trans
 ((by kernel_rfl))
theorem aYv : D153 r n zT x0 r153 = D153 r n zY x0 (K5 (tV r n) 2 3 6 7 9) :=
 congrArg (fun k => D153 r n zY x0 k) (bWj r n)
theorem aZg (q0 : cA) : D153 r n zY x0 (K5 q0 2 3 6 7 9) = fun (env : aU) (h : Hp) =>
 bnd (bH [(.b false)] h) fun v1 h1 =>
 bnd (aF 1 v1 (.b true) h1) fun _ h2 =>
  q0 (env 2) (env 3) (env 6) (env 7) v1 h2 := by kernel_rfl
theorem aLw : (fun (env : aU) (h : Hp) =>
 bnd (bH [(.b false)] h) fun v1 h1 =>
 bnd (aF 1 v1 (.b true) h1) fun _ h2 =>
  tV r n (env 2) (env 3) (env 6) (env 7) v1 h2) = (K4 (cE r n) 2 3 6 7) := by kernel_rfl
theorem cBl : D153 r n zT x0 r153 = (K4 (cE r n) 2 3 6 7) :=
 (aYv r n).trans
 ((aZg r n (tV r n)).trans (aLw r n))
theorem bPv (kk18 : eP) : D153 r n cDq (xs x0 0 (K4 (cE r n) 2 3 6 7)) (K6 kk18 2 3 6 7 19 20) = (K6 (jX r n kk18) 2 3 6 7 19 20) :=
 (by kernel_rfl)
theorem aMg (kk18 : eP) : D153 r n rH (xs x0 0 (K4 (cE r n) 2 3 6 7)) (K6 kk18 2 3 6 7 19 20) = D153 r n aFc (xs x0 0 (K4 (cE r n) 2 3 6 7)) (K6 (jX r n kk18) 2 3 6 7 19 20) :=
 congrArg (fun k => D153 r n aFc (xs x0 0 (K4 (cE r n) 2 3 6 7)) k) (bPv r n kk18)
theorem aJz (kk18 : eP) (q0 : eP) (q1 : dK) : D153 r n aFc (xs x0 0 (K4 q1 2 3 6 7)) (K6 q0 2 3 6 7 19 20) = fun (env : aU) (h : Hp) =>
 bnd (aA (env 6) h) fun v1 h1 =>
 bnd (aI 1 v1 (env 20) h1) fun v2 h2 =>
 bnd (aF 1 v2 (.i .i64 (Int.negSucc 0)) h2) fun _ h3 =>
 bnd (aD .eql (env 20) (aE 0) h3) fun v4 h4 =>
 bnd (gD v4 false (some ((env 20), h4)) h4) fun v5 h5 =>
 bnd (gD v4 false (aD .gtr v5 (aE 1) h5) h5) fun v6 h6 =>
 bnd (gD v4 false (some (v6, h6)) h6) fun v7 h7 =>
 bnd (gD v7 true (aA (env 2) h7) h7) fun v8 h8 =>
 bnd (gD v7 true (some ((env 20), h8)) h8) fun v9 h9 =>
 bnd (gD v7 true (aD .sub v9 (aE 2) h9) h9) fun v10 h10 =>
 bnd (gD v7 true (aI 3 v8 v10 h10) h10) fun v11 h11 =>
 bnd (gD v7 true (aB 0 v11 h11) h11) fun v12 h12 =>
 bnd (gD v7 true (aA v12 h12) h12) fun v13 h13 =>
 bnd (gD v7 true (aD .eql v13 (aE 18) h13) h13) fun v14 h14 =>
 bnd (gD v4 false (aL v7 v14 (.b false) h14) h14) fun v15 h15 =>
 bnd (gD v4 false (some (v15, h15)) h15) fun v16 h16 =>
 bnd (gD v16 true (aA (env 3) h16) h16) fun v17 h17 =>
 bnd (gD v16 true (some ((env 20), h17)) h17) fun v18 h18 =>
 bnd (gD v16 true (aI 1 v17 v18 h18) h18) fun v19 h19 =>
 bnd (gD v16 true (aA v19 h19) h19) fun v20 h20 =>
 bnd (gD v16 true (some ((env 20), h20)) h20) fun v21 h21 =>
 bnd (gD v16 true (aD .sub v21 (aE 2) h21) h21) fun v22 h22 =>
 bnd (gD v16 true (aD .eql v20 v22 h22) h22) fun v23 h23 =>
 bnd (gD v4 false (aL v16 v23 (.b false) h23) h23) fun v24 h24 =>
 bnd (aL v4 (.b true) v24 h24) fun v25 h25 =>
 aS v25 (
 bnd (aA (env 6) h25) fun v26 h26 =>
 bnd (aI 1 v26 (env 20) h26) fun v27 h27 =>
 bnd (aF 1 v27 (aE 0) h27) fun _ h28 =>
 bnd (aA (env 7) h28) fun v29 h29 =>
 bnd (aP [(aE 0)] 1 [(0, 1, (env 20))] h29) fun v30 h30 =>
 bnd (aZ 1 8 v29 v30 h30) fun v31 h31 =>
 bnd (aF 1 (env 7) v31 h31) fun _ h32 =>
      q0 (env 2) (env 3) (env 6) (env 7) (env 19) (env 20) h32) (
      q0 (env 2) (env 3) (env 6) (env 7) (env 19) (env 20) h25) := by kernel_rfl
theorem aHx (kk18 : eP) : (fun (env : aU) (h : Hp) =>
 bnd (aA (env 6) h) fun v1 h1 =>
 bnd (aI 1 v1 (env 20) h1) fun v2 h2 =>
 bnd (aF 1 v2 (.i .i64 (Int.negSucc 0)) h2) fun _ h3 =>
 bnd (aD .eql (env 20) (aE 0) h3) fun v4 h4 =>
 bnd (gD v4 false (some ((env 20), h4)) h4) fun v5 h5 =>
 bnd (gD v4 false (aD .gtr v5 (aE 1) h5) h5) fun v6 h6 =>
 bnd (gD v4 false (some (v6, h6)) h6) fun v7 h7 =>
 bnd (gD v7 true (aA (env 2) h7) h7) fun v8 h8 =>
 bnd (gD v7 true (some ((env 20), h8)) h8) fun v9 h9 =>
 bnd (gD v7 true (aD .sub v9 (aE 2) h9) h9) fun v10 h10 =>
 bnd (gD v7 true (aI 3 v8 v10 h10) h10) fun v11 h11 =>
 bnd (gD v7 true (aB 0 v11 h11) h11) fun v12 h12 =>
 bnd (gD v7 true (aA v12 h12) h12) fun v13 h13 =>
 bnd (gD v7 true (aD .eql v13 (aE 18) h13) h13) fun v14 h14 =>
 bnd (gD v4 false (aL v7 v14 (.b false) h14) h14) fun v15 h15 =>
 bnd (gD v4 false (some (v15, h15)) h15) fun v16 h16 =>
 bnd (gD v16 true (aA (env 3) h16) h16) fun v17 h17 =>
 bnd (gD v16 true (some ((env 20), h17)) h17) fun v18 h18 =>
 bnd (gD v16 true (aI 1 v17 v18 h18) h18) fun v19 h19 =>
 bnd (gD v16 true (aA v19 h19) h19) fun v20 h20 =>
 bnd (gD v16 true (some ((env 20), h20)) h20) fun v21 h21 =>
 bnd (gD v16 true (aD .sub v21 (aE 2) h21) h21) fun v22 h22 =>
 bnd (gD v16 true (aD .eql v20 v22 h22) h22) fun v23 h23 =>
 bnd (gD v4 false (aL v16 v23 (.b false) h23) h23) fun v24 h24 =>
 bnd (aL v4 (.b true) v24 h24) fun v25 h25 =>
 aS v25 (
 bnd (aA (env 6) h25) fun v26 h26 =>
 bnd (aI 1 v26 (env 20) h26) fun v27 h27 =>
 bnd (aF 1 v27 (aE 0) h27) fun _ h28 =>
 bnd (aA (env 7) h28) fun v29 h29 =>
 bnd (aP [(aE 0)] 1 [(0, 1, (env 20))] h29) fun v30 h30 =>
 bnd (aZ 1 8 v29 v30 h30) fun v31 h31 =>
 bnd (aF 1 (env 7) v31 h31) fun _ h32 =>
      jX r n kk18 (env 2) (env 3) (env 6) (env 7) (env 19) (env 20) h32) (
      jX r n kk18 (env 2) (env 3) (env 6) (env 7) (env 19) (env 20) h25)) = (K6 (sG r n kk18) 2 3 6 7 19 20) := by kernel_rfl
theorem bEq (kk18 : eP) : D153 r n rH (xs x0 0 (K4 (cE r n) 2 3 6 7)) (K6 kk18 2 3 6 7 19 20) = (K6 (sG r n kk18) 2 3 6 7 19 20) :=
 (aMg r n kk18).trans
 ((aJz r n kk18 (jX r n kk18) (cE r n)).trans (aHx r n kk18))
theorem aOp (kk18 : eP) : D153 r n qK (xs x0 0 (K4 (cE r n) 2 3 6 7)) (K6 kk18 2 3 6 7 19 20) = D153 r n aSx (xs x0 0 (K4 (cE r n) 2 3 6 7)) (K6 (sG r n kk18) 2 3 6 7 19 20) :=
 congrArg (fun k => D153 r n aSx (xs x0 0 (K4 (cE r n) 2 3 6 7)) k) (bEq r n kk18)
theorem bCd (kk18 : eP) : D153 r n qK (xs x0 0 (K4 (cE r n) 2 3 6 7)) (K6 kk18 2 3 6 7 19 20) = (K7 (aDs r n kk18) 2 3 6 7 19 20 21) :=
 (aOp r n kk18).trans
 ((by kernel_rfl))
theorem aNd (kk18 : eP) : D153 r n gL (xs x0 0 (K4 (cE r n) 2 3 6 7)) (K6 kk18 2 3 6 7 19 20) = D153 r n aTe (xs x0 0 (K4 (cE r n) 2 3 6 7)) (K7 (aDs r n kk18) 2 3 6 7 19 20 21) :=
 congrArg (fun k => D153 r n aTe (xs x0 0 (K4 (cE r n) 2 3 6 7)) k) (bCd r n kk18)
theorem aZo (kk18 : eP) : D153 r n gL (xs x0 0 (K4 (cE r n) 2 3 6 7)) (K6 kk18 2 3 6 7 19 20) = (K6 (aIo r n kk18) 2 3 6 7 19 20) :=
 (aNd r n kk18).trans
 ((by kernel_rfl))
theorem aWp (m : Nat) : aM (fun kk => D153 r n gL (xs x0 0 (K4 (cE r n) 2 3 6 7)) kk) m = (K6 (nD r n m) 2 3 6 7 19 20) := by
 induction m with
 | zero => exact (by kernel_rfl : aM (fun kk => D153 r n gL (xs x0 0 (K4 (cE r n) 2 3 6 7)) kk) 0 = (K6 (nD r n 0) 2 3 6 7 19 20))
 | succ m ih =>
  refine (by kernel_rfl : aM (fun kk => D153 r n gL (xs x0 0 (K4 (cE r n) 2 3 6 7)) kk) (m + 1) = D153 r n gL (xs x0 0 (K4 (cE r n) 2 3 6 7)) (aM (fun kk => D153 r n gL (xs x0 0 (K4 (cE r n) 2 3 6 7)) kk) m)).trans ?_
  rw [ih]
  exact (aZo r n (nD r n m)).trans (by kernel_rfl)
theorem bCv : D153 r n rE (xs x0 0 (K4 (cE r n) 2 3 6 7)) (K4 (cE r n) 2 3 6 7) = (K6 (aVf r n) 2 3 6 7 19 20) :=
 (by kernel_rfl : D153 r n rE (xs x0 0 (K4 (cE r n) 2 3 6 7)) (K4 (cE r n) 2 3 6 7) = aM (fun kk => D153 r n gL (xs x0 0 (K4 (cE r n) 2 3 6 7)) kk) n).trans ((aWp r n n).trans (by kernel_rfl))
theorem bCx : D153 r n aDu x0 (K4 (cE r n) 2 3 6 7) = (K6 (zR r n) 2 3 6 7 19 20) :=
 (by kernel_rfl : D153 r n aDu x0 (K4 (cE r n) 2 3 6 7) = D153 r n rE (xs x0 0 (K4 (cE r n) 2 3 6 7)) (K4 (cE r n) 2 3 6 7)).trans
 ((bCv r n).trans (by kernel_rfl))
theorem bAd : D153 r n aFi x0 r153 = D153 r n nG x0 (K4 (cE r n) 2 3 6 7) :=
 congrArg (fun k => D153 r n nG x0 k) (cBl r n)
theorem aYu : D153 r n nG x0 (K4 (cE r n) 2 3 6 7) = D153 r n aQr x0 (K6 (zR r n) 2 3 6 7 19 20) :=
 congrArg (fun k => D153 r n aQr x0 k) (bCx r n)
theorem bZj : D153 r n aFi x0 r153 = (K4 (vM r n) 2 3 6 7) :=
 (bAd r n).trans
 ((aYu r n).trans
 ((by kernel_rfl)))
theorem aXe : D153 r n aGg x0 r153 = D153 r n xV x0 (K4 (vM r n) 2 3 6 7) :=
 congrArg (fun k => D153 r n xV x0 k) (bZj r n)
theorem aXt (q0 : dK) : D153 r n xV x0 (K4 q0 2 3 6 7) = fun (env : aU) (h : Hp) =>
 bnd (bH [.l0] h) fun v1 h1 =>
  q0 (env 2) (env 3) (env 6) v1 h1 := by kernel_rfl
theorem aKo : (fun (env : aU) (h : Hp) =>
 bnd (bH [.l0] h) fun v1 h1 =>
  vM r n (env 2) (env 3) (env 6) v1 h1) = (K3 (oJ r n) 2 3 6) := by kernel_rfl
theorem bZx : D153 r n aGg x0 r153 = (K3 (oJ r n) 2 3 6) :=
 (aXe r n).trans
 ((aXt r n (vM r n)).trans (aKo r n))
theorem aZc : D153 r n aCu x0 r153 = D153 r n aAg x0 (K3 (oJ r n) 2 3 6) :=
 congrArg (fun k => D153 r n aAg x0 k) (bZx r n)
theorem aZp (q0 : lF) : D153 r n aAg x0 (K3 q0 2 3 6) = fun (env : aU) (h : Hp) =>
 bnd (aA (env 2) h) fun v1 h1 =>
 bnd (bQ v1 h1) fun v2 h2 =>
 bnd (cB 1 8 [(aE 0)] v2 v2 h2) fun v3 h3 =>
 bnd (bH [.l0] h3) fun v4 h4 =>
 bnd (aF 1 v4 v3 h4) fun _ h5 =>
  q0 (env 2) (env 3) v4 h5 := by kernel_rfl
theorem aMw : (fun (env : aU) (h : Hp) =>
 bnd (aA (env 2) h) fun v1 h1 =>
 bnd (bQ v1 h1) fun v2 h2 =>
 bnd (cB 1 8 [(aE 0)] v2 v2 h2) fun v3 h3 =>
 bnd (bH [.l0] h3) fun v4 h4 =>
 bnd (aF 1 v4 v3 h4) fun _ h5 =>
  oJ r n (env 2) (env 3) v4 h5) = (K2 (pH r n) 2 3) := by kernel_rfl
theorem bWr : D153 r n aNx x0 r153 = (K2 (pH r n) 2 3) :=
 (by kernel_rfl : D153 r n aNx x0 r153 = D153 r n aCu x0 r153).trans
 ((aZc r n).trans
 ((aZp r n (oJ r n)).trans (aMw r n)))
theorem bTi : D153 r n c153 x0 r153 = D153 r n xG x0 (K2 (pH r n) 2 3) :=
 congrArg (fun k => D153 r n xG x0 k) (bWr r n)
theorem bVj (q0 : fW) : D153 r n xG x0 (K2 q0 2 3) = fun (env : aU) (h : Hp) =>
 bnd (bR (env 0) h) fun v1 h1 =>
 bnd (bR (env 1) h1) fun v2 h2 =>
  q0 v1 v2 h2 := by kernel_rfl
theorem bNe : (fun (env : aU) (h : Hp) =>
 bnd (bR (env 0) h) fun v1 h1 =>
 bnd (bR (env 1) h1) fun v2 h2 =>
  pH r n v1 v2 h2) = (K2 (s153 r n) 0 1) := by kernel_rfl
theorem cUl : D153 r n c153 x0 r153 = (K2 (s153 r n) 0 1) :=
 (bTi r n).trans
 ((bVj r n (pH r n)).trans (bNe r n))
theorem cPo : aG CF r n 153 args h = s153 r n (aR args 0) (aR args 1) h :=
 (by kernel_rfl : aG CF r n 153 args h = D153 r n c153 x0 r153 (aJ args) h).trans ((congrFun (congrFun (cUl r n) (aJ args)) h).trans (by kernel_rfl))
noncomputable def eH (r : RT) (n : Nat) (x0 x6 : DV) (h0 : Hp) : aH :=
 bnd (dG x0 h0) fun v1 h1 =>
 bnd (aY [(aE 0), (.s []), (aE 0), (aE 0)] [(3, 1, v1)] h1) fun v2 h2 =>
 bnd (aP [(aE 0), (.s []), (aE 0), (aE 0)] 1 [(0, 4, v2)] h2) fun v3 h3 =>
 bnd (aZ 4 40 x6 v3 h3) fun v4 h4 =>
 some (.t [v4, (aE 0), (aE 0)], h4)
noncomputable def aGa (r : RT) (n : Nat) (kk7 : lF) (x0 x5 x6 : DV) (h0 : Hp) : aH :=
 bnd (r 198 [(.s [9, 10, 13, 32])] h0) fun v1 h1 =>
 bnd (dG x0 h1) fun v2 h2 =>
 bnd (r 197 [x5, v1, v2] h2) fun v3 h3 =>
 bnd (aQ x5 h3) fun v4 h4 =>
 bnd (aB 1 v4 h4) fun v5 h5 =>
 bnd (aA v5 h5) fun v6 h6 =>
 bnd (dG x0 h6) fun v7 h7 =>
 bnd (aD .geq v6 v7 h7) fun v8 h8 =>
 aS v8 (
   eH r n x0 x6 h8) (
 bnd (aQ x5 h8) fun v9 h9 =>
 bnd (aB 1 v9 h9) fun v10 h10 =>
 bnd (aA v10 h10) fun v11 h11 =>
 bnd (eX x0 v11 h11) fun v12 h12 =>
 bnd (aD .eql v12 (.i .u8 (Int.ofNat 34)) h12) fun v13 h13 =>
 aS v13 (
 bnd (aQ x5 h13) fun v14 h14 =>
 bnd (aB 1 v14 h14) fun v15 h15 =>
 bnd (aA v15 h15) fun v16 h16 =>
 bnd (aD .add v16 (aE 1) h16) fun v17 h17 =>
 bnd (fO x0 (some v17) none h17) fun v18 h18 =>
 bnd (r 199 [v18, (.i .u8 (Int.ofNat 34))] h18) fun v19 h19 =>
 bnd (aD .lss v19 (aE 0) h19) fun v20 h20 =>
 aS v20 (
 bnd (aQ x5 h20) fun v21 h21 =>
 bnd (aB 1 v21 h21) fun v22 h22 =>
 bnd (aA v22 h22) fun v23 h23 =>
 some (.t [.l0, v23, (aE 11)], h23)) (
 bnd (aQ x5 h20) fun v24 h24 =>
 bnd (aB 1 v24 h24) fun v25 h25 =>
 bnd (aA v25 h25) fun v26 h26 =>
 bnd (aD .add v19 (aE 2) h26) fun v27 h27 =>
 bnd (aD .add v26 v27 h27) fun v28 h28 =>
 bnd (aQ x5 h28) fun v29 h29 =>
 bnd (aB 1 v29 h29) fun v30 h30 =>
 bnd (aF 1 v30 v28 h30) fun _ h31 =>
     kk7 x0 x5 x6 h31)) (
 bnd (r 200 [x5] h13) fun v32 h32 =>
 bnd (aC 0 v32 h32) fun v33 h33 =>
 bnd (aC 1 v32 h33) fun v34 h34 =>
 bnd (bH [(aE 0), (.s []), (aE 0), (aE 0)] h34) fun v35 h35 =>
 bnd (aF 4 v35 v33 h35) fun _ h36 =>
 bnd (aD .neq v34 (aE 0) h36) fun v37 h37 =>
 aS v37 (
 bnd (aB 3 v35 h37) fun v38 h38 =>
 bnd (aA v38 h38) fun v39 h39 =>
 some (.t [.l0, v39, v34], h39)) (
 bnd (aK 4 v35 h37) fun v40 h40 =>
 bnd (aP [(aE 0), (.s []), (aE 0), (aE 0)] 1 [(0, 4, v40)] h40) fun v41 h41 =>
 bnd (aZ 4 40 x6 v41 h41) fun v42 h42 =>
     kk7 x0 x5 v42 h42)))
noncomputable def qF (r : RT) (n : Nat) (m : Nat) : lF :=
 Nat.rec (motive := fun _ => lF) (fun _ _ _ _ => none) (fun _ ih => aGa r n ih) m
noncomputable def bLm (r : RT) (n : Nat) : lF := qF r n n
noncomputable def aPb (r : RT) (n : Nat) (x0 x5 x6 : DV) (h0 : Hp) : aH :=
 bLm r n x0 x5 x6 h0
noncomputable def aMa (r : RT) (n : Nat) (x0 x5 x6 : DV) (h0 : Hp) : aH :=
 aPb r n x0 x5 x6 h0
noncomputable def uC (r : RT) (n : Nat) (x0 x5 : DV) (h0 : Hp) : aH :=
 aMa r n x0 x5 .l0 h0
noncomputable def aAr (r : RT) (n : Nat) (x0 : DV) (h0 : Hp) : aH :=
 bnd (aY [(.s []), (aE 0)] [(0, 1, x0)] h0) fun v1 h1 =>
 bnd (bR v1 h1) fun v2 h2 =>
  uC r n x0 v2 h2
noncomputable def aKu (r : RT) (n : Nat) (x0 : DV) (h0 : Hp) : aH :=
 bnd (dG x0 h0) fun v1 h1 =>
 bnd (aD .gtr v1 (aE 2000) h1) fun v2 h2 =>
 aS v2 (
 some (.t [.l0, (aE 0), (aE 12)], h2)) (
  aAr r n x0 h2)
noncomputable def s154 (r : RT) (n : Nat) (x0 : DV) (h0 : Hp) : aH :=
 aKu r n x0 h0
noncomputable abbrev c154 : Code := cf Tryz.f154
noncomputable abbrev aLn : Code := cR c154
noncomputable abbrev aEv : Code := cL aLn
noncomputable abbrev aAx : Code := cR aEv
noncomputable abbrev aFt : Code := cR aAx
noncomputable abbrev aEn : Code := cR aFt
noncomputable abbrev aEt : Code := cR aEn
noncomputable abbrev cMf : Code := cR aEt
noncomputable abbrev aCy : Code := cL aEt
noncomputable abbrev xY : Code := cL aCy
noncomputable abbrev iL : Code := cL xY
noncomputable abbrev aSq : Code := cL aEn
noncomputable abbrev aSl : Code := cL aFt
noncomputable abbrev yO : Code := cL aAx
noncomputable abbrev aQm : Code := cL aEv
noncomputable abbrev aVp : Code := cL c154
noncomputable abbrev r154 : K := aN CF Tryz.f154
noncomputable def D154 (r : RT) (n : Nat) (c : Code) (X : Nat → K) (k : K) : K := aO CF r 80 n c X r154 k
theorem cBb : D154 r n cMf x0 r154 = (K2 (eH r n) 0 6) :=
 (by kernel_rfl)
theorem bJb (kk7 : lF) (q0 : fW) : D154 r n iL (xs x0 0 (K2 q0 0 6)) (K3 kk7 0 5 6) = fun (env : aU) (h : Hp) =>
 bnd (r 198 [(.s [9, 10, 13, 32])] h) fun v1 h1 =>
 bnd (dG (env 0) h1) fun v2 h2 =>
 bnd (r 197 [(env 5), v1, v2] h2) fun v3 h3 =>
 bnd (aQ (env 5) h3) fun v4 h4 =>
 bnd (aB 1 v4 h4) fun v5 h5 =>
 bnd (aA v5 h5) fun v6 h6 =>
 bnd (dG (env 0) h6) fun v7 h7 =>
 bnd (aD .geq v6 v7 h7) fun v8 h8 =>
 aS v8 (
   q0 (env 0) (env 6) h8) (
 bnd (aQ (env 5) h8) fun v9 h9 =>
 bnd (aB 1 v9 h9) fun v10 h10 =>
 bnd (aA v10 h10) fun v11 h11 =>
 bnd (eX (env 0) v11 h11) fun v12 h12 =>
 bnd (aD .eql v12 (.i .u8 (Int.ofNat 34)) h12) fun v13 h13 =>
 aS v13 (
 bnd (aQ (env 5) h13) fun v14 h14 =>
 bnd (aB 1 v14 h14) fun v15 h15 =>
 bnd (aA v15 h15) fun v16 h16 =>
 bnd (aD .add v16 (aE 1) h16) fun v17 h17 =>
 bnd (fO (env 0) (some v17) none h17) fun v18 h18 =>
 bnd (r 199 [v18, (.i .u8 (Int.ofNat 34))] h18) fun v19 h19 =>
 bnd (aD .lss v19 (aE 0) h19) fun v20 h20 =>
 aS v20 (
 bnd (aQ (env 5) h20) fun v21 h21 =>
 bnd (aB 1 v21 h21) fun v22 h22 =>
 bnd (aA v22 h22) fun v23 h23 =>
 some (.t [.l0, v23, (aE 11)], h23)) (
 bnd (aQ (env 5) h20) fun v24 h24 =>
 bnd (aB 1 v24 h24) fun v25 h25 =>
 bnd (aA v25 h25) fun v26 h26 =>
 bnd (aD .add v19 (aE 2) h26) fun v27 h27 =>
 bnd (aD .add v26 v27 h27) fun v28 h28 =>
 bnd (aQ (env 5) h28) fun v29 h29 =>
 bnd (aB 1 v29 h29) fun v30 h30 =>
 bnd (aF 1 v30 v28 h30) fun _ h31 =>
     kk7 (env 0) (env 5) (env 6) h31)) (
 bnd (r 200 [(env 5)] h13) fun v32 h32 =>
 bnd (aC 0 v32 h32) fun v33 h33 =>
 bnd (aC 1 v32 h33) fun v34 h34 =>
 bnd (bH [(aE 0), (.s []), (aE 0), (aE 0)] h34) fun v35 h35 =>
 bnd (aF 4 v35 v33 h35) fun _ h36 =>
 bnd (aD .neq v34 (aE 0) h36) fun v37 h37 =>
 aS v37 (
 bnd (aB 3 v35 h37) fun v38 h38 =>
 bnd (aA v38 h38) fun v39 h39 =>
 some (.t [.l0, v39, v34], h39)) (
 bnd (aK 4 v35 h37) fun v40 h40 =>
 bnd (aP [(aE 0), (.s []), (aE 0), (aE 0)] 1 [(0, 4, v40)] h40) fun v41 h41 =>
 bnd (aZ 4 40 (env 6) v41 h41) fun v42 h42 =>
     kk7 (env 0) (env 5) v42 h42))) := by kernel_rfl
theorem aYd (kk7 : lF) : (fun (env : aU) (h : Hp) =>
 bnd (r 198 [(.s [9, 10, 13, 32])] h) fun v1 h1 =>
 bnd (dG (env 0) h1) fun v2 h2 =>
 bnd (r 197 [(env 5), v1, v2] h2) fun v3 h3 =>
 bnd (aQ (env 5) h3) fun v4 h4 =>
 bnd (aB 1 v4 h4) fun v5 h5 =>
 bnd (aA v5 h5) fun v6 h6 =>
 bnd (dG (env 0) h6) fun v7 h7 =>
 bnd (aD .geq v6 v7 h7) fun v8 h8 =>
 aS v8 (
   eH r n (env 0) (env 6) h8) (
 bnd (aQ (env 5) h8) fun v9 h9 =>
 bnd (aB 1 v9 h9) fun v10 h10 =>
 bnd (aA v10 h10) fun v11 h11 =>
 bnd (eX (env 0) v11 h11) fun v12 h12 =>
 bnd (aD .eql v12 (.i .u8 (Int.ofNat 34)) h12) fun v13 h13 =>
 aS v13 (
 bnd (aQ (env 5) h13) fun v14 h14 =>
 bnd (aB 1 v14 h14) fun v15 h15 =>
 bnd (aA v15 h15) fun v16 h16 =>
 bnd (aD .add v16 (aE 1) h16) fun v17 h17 =>
 bnd (fO (env 0) (some v17) none h17) fun v18 h18 =>
 bnd (r 199 [v18, (.i .u8 (Int.ofNat 34))] h18) fun v19 h19 =>
 bnd (aD .lss v19 (aE 0) h19) fun v20 h20 =>
 aS v20 (
 bnd (aQ (env 5) h20) fun v21 h21 =>
 bnd (aB 1 v21 h21) fun v22 h22 =>
 bnd (aA v22 h22) fun v23 h23 =>
 some (.t [.l0, v23, (aE 11)], h23)) (
 bnd (aQ (env 5) h20) fun v24 h24 =>
 bnd (aB 1 v24 h24) fun v25 h25 =>
 bnd (aA v25 h25) fun v26 h26 =>
 bnd (aD .add v19 (aE 2) h26) fun v27 h27 =>
 bnd (aD .add v26 v27 h27) fun v28 h28 =>
 bnd (aQ (env 5) h28) fun v29 h29 =>
 bnd (aB 1 v29 h29) fun v30 h30 =>
 bnd (aF 1 v30 v28 h30) fun _ h31 =>
     kk7 (env 0) (env 5) (env 6) h31)) (
 bnd (r 200 [(env 5)] h13) fun v32 h32 =>
 bnd (aC 0 v32 h32) fun v33 h33 =>
 bnd (aC 1 v32 h33) fun v34 h34 =>
 bnd (bH [(aE 0), (.s []), (aE 0), (aE 0)] h34) fun v35 h35 =>
 bnd (aF 4 v35 v33 h35) fun _ h36 =>
 bnd (aD .neq v34 (aE 0) h36) fun v37 h37 =>
 aS v37 (
 bnd (aB 3 v35 h37) fun v38 h38 =>
 bnd (aA v38 h38) fun v39 h39 =>
 some (.t [.l0, v39, v34], h39)) (
 bnd (aK 4 v35 h37) fun v40 h40 =>
 bnd (aP [(aE 0), (.s []), (aE 0), (aE 0)] 1 [(0, 4, v40)] h40) fun v41 h41 =>
 bnd (aZ 4 40 (env 6) v41 h41) fun v42 h42 =>
     kk7 (env 0) (env 5) v42 h42)))) = (K3 (aGa r n kk7) 0 5 6) := by kernel_rfl
theorem bQg (kk7 : lF) : D154 r n iL (xs x0 0 (K2 (eH r n) 0 6)) (K3 kk7 0 5 6) = (K3 (aGa r n kk7) 0 5 6) :=
 (bJb r n kk7 (eH r n)).trans (aYd r n kk7)
theorem bBh (m : Nat) : aM (fun kk => D154 r n iL (xs x0 0 (K2 (eH r n) 0 6)) kk) m = (K3 (qF r n m) 0 5 6) := by
 induction m with
 | zero => exact (by kernel_rfl : aM (fun kk => D154 r n iL (xs x0 0 (K2 (eH r n) 0 6)) kk) 0 = (K3 (qF r n 0) 0 5 6))
 | succ m ih =>
  refine (by kernel_rfl : aM (fun kk => D154 r n iL (xs x0 0 (K2 (eH r n) 0 6)) kk) (m + 1) = D154 r n iL (xs x0 0 (K2 (eH r n) 0 6)) (aM (fun kk => D154 r n iL (xs x0 0 (K2 (eH r n) 0 6)) kk) m)).trans ?_
  rw [ih]
  exact (bQg r n (qF r n m)).trans (by kernel_rfl)
theorem bRp : D154 r n xY (xs x0 0 (K2 (eH r n) 0 6)) (K2 (eH r n) 0 6) = (K3 (bLm r n) 0 5 6) :=
 (by kernel_rfl : D154 r n xY (xs x0 0 (K2 (eH r n) 0 6)) (K2 (eH r n) 0 6) = aM (fun kk => D154 r n iL (xs x0 0 (K2 (eH r n) 0 6)) kk) n).trans ((bBh r n n).trans (by kernel_rfl))
theorem bFo : D154 r n aEt x0 r154 = D154 r n aCy x0 (K2 (eH r n) 0 6) :=
 congrArg (fun k => D154 r n aCy x0 k) (cBb r n)
theorem bYj : D154 r n aEt x0 r154 = (K3 (aPb r n) 0 5 6) :=
 (bFo r n).trans
 ((by kernel_rfl : D154 r n aCy x0 (K2 (eH r n) 0 6) = D154 r n xY (xs x0 0 (K2 (eH r n) 0 6)) (K2 (eH r n) 0 6)).trans
 ((bRp r n).trans (by kernel_rfl)))
theorem bLl : D154 r n aEn x0 r154 = D154 r n aSq x0 (K3 (aPb r n) 0 5 6) :=
 congrArg (fun k => D154 r n aSq x0 k) (bYj r n)
theorem bSb : D154 r n aEn x0 r154 = (K3 (aMa r n) 0 5 6) :=
 (bLl r n).trans
 ((by kernel_rfl))
theorem bQa : D154 r n aFt x0 r154 = D154 r n aSl x0 (K3 (aMa r n) 0 5 6) :=
 congrArg (fun k => D154 r n aSl x0 k) (bSb r n)
theorem bVi : D154 r n aFt x0 r154 = (K2 (uC r n) 0 5) :=
 (bQa r n).trans
 ((by kernel_rfl))
theorem bOl : D154 r n aAx x0 r154 = D154 r n yO x0 (K2 (uC r n) 0 5) :=
 congrArg (fun k => D154 r n yO x0 k) (bVi r n)
theorem bOv (q0 : fW) : D154 r n yO x0 (K2 q0 0 5) = fun (env : aU) (h : Hp) =>
 bnd (aY [(.s []), (aE 0)] [(0, 1, (env 0))] h) fun v1 h1 =>
 bnd (bR v1 h1) fun v2 h2 =>
  q0 (env 0) v2 h2 := by kernel_rfl
theorem aZy : (fun (env : aU) (h : Hp) =>
 bnd (aY [(.s []), (aE 0)] [(0, 1, (env 0))] h) fun v1 h1 =>
 bnd (bR v1 h1) fun v2 h2 =>
  uC r n (env 0) v2 h2) = (K1 (aAr r n) 0) := by kernel_rfl
theorem cBf : D154 r n aAx x0 r154 = (K1 (aAr r n) 0) :=
 (bOl r n).trans
 ((bOv r n (uC r n)).trans (aZy r n))
theorem bRi : D154 r n aEv x0 r154 = D154 r n aQm x0 (K1 (aAr r n) 0) :=
 congrArg (fun k => D154 r n aQm x0 k) (cBf r n)
theorem bWd : D154 r n aLn x0 r154 = (K1 (aKu r n) 0) :=
 (by kernel_rfl : D154 r n aLn x0 r154 = D154 r n aEv x0 r154).trans
 ((bRi r n).trans
 ((by kernel_rfl)))
theorem cIo : D154 r n c154 x0 r154 = D154 r n aVp x0 (K1 (aKu r n) 0) :=
 congrArg (fun k => D154 r n aVp x0 k) (bWd r n)
theorem cWg : D154 r n c154 x0 r154 = (K1 (s154 r n) 0) :=
 (cIo r n).trans
 ((by kernel_rfl))
theorem cNx : aG CF r n 154 args h = s154 r n (aR args 0) h :=
 (by kernel_rfl : aG CF r n 154 args h = D154 r n c154 x0 r154 (aJ args) h).trans ((congrFun (congrFun (cWg r n) (aJ args)) h).trans (by kernel_rfl))
end Go.Dd

namespace Go.Dd
open Go.Proofs
variable (r : RT) (n : Nat) (args : List DV) (h : Hp)
noncomputable def bL (r : RT) (n : Nat) (x3 : DV) (h0 : Hp) : aH :=
 some (x3, h0)
noncomputable def fB (r : RT) (n : Nat) (kk4 : fW) (x0 x3 : DV) (h0 : Hp) : aH :=
 bnd (r 203 [x0] h0) fun v1 h1 =>
 bnd (aP fX 1 [(0, 6, v1)] h1) fun v2 h2 =>
 bnd (aZ 6 104 x3 v2 h2) fun v3 h3 =>
 bnd (r 201 [x0, (aE 10), (.s [46])] h3) fun v4 h4 =>
 bnd (fY .not v4 h4) fun v5 h5 =>
 aS v5 (
 some (v3, h5)) (
 bnd (r 202 [x0] h5) fun v6 h6 =>
  kk4 x0 v3 h6)
noncomputable def qL (r : RT) (n : Nat) (kk4 : fW) (x3 : DV) (h0 : Hp) : aH :=
 some (x3, h0)
noncomputable def nT (r : RT) (n : Nat) (kk4 : fW) (x0 x3 : DV) (h0 : Hp) : aH :=
 bnd (r 201 [x0, (aE 10), (.s [46])] h0) fun v1 h1 =>
 aS v1 (
 bnd (r 202 [x0] h1) fun v2 h2 =>
  qL r n kk4 x3 h2) (
  qL r n kk4 x3 h1)
noncomputable def zN (r : RT) (n : Nat) (kk4 : fW) (x0 x3 : DV) (h0 : Hp) : aH :=
 bnd (r 203 [x0] h0) fun v1 h1 =>
 bnd (aP fX 1 [(0, 6, v1)] h1) fun v2 h2 =>
 bnd (aY fX [(0, 1, (aE 10)), (5, 1, v2)] h2) fun v3 h3 =>
 bnd (aP fX 1 [(0, 6, v3)] h3) fun v4 h4 =>
 bnd (aZ 6 104 x3 v4 h4) fun v5 h5 =>
  nT r n kk4 x0 v5 h5
noncomputable def bGi (r : RT) (n : Nat) (kk4 : fW) (x0 x3 : DV) (h0 : Hp) : aH :=
 bnd (r 202 [x0] h0) fun v1 h1 =>
  zN r n kk4 x0 x3 h1
noncomputable def aNc (r : RT) (n : Nat) (kk4 : fW) (x0 x3 x20 : DV) (h0 : Hp) : aH :=
 aS x20 (
  bGi r n kk4 x0 x3 h0) (
  fB r n kk4 x0 x3 h0)
noncomputable def aJx (r : RT) (n : Nat) (kk4 : fW) (x0 x3 : DV) (h0 : Hp) : aH :=
 bnd (r 201 [x0, (aE 10), (.s [94])] h0) fun v1 h1 =>
  aNc r n kk4 x0 x3 v1 h1
noncomputable def aTy (r : RT) (n : Nat) (kk4 : fW) (x0 x3 : DV) (h0 : Hp) : aH :=
 bnd (aQ x0 h0) fun v1 h1 =>
 bnd (aB 3 v1 h1) fun v2 h2 =>
 bnd (aA v2 h2) fun v3 h3 =>
 bnd (aD .eql v3 (aE 0) h3) fun v4 h4 =>
 bnd (gD v4 true (some (x0, h4)) h4) fun v5 h5 =>
 bnd (gD v4 true (r 201 [v5, (aE 0), (.s [])] h5) h5) fun v6 h6 =>
 bnd (gD v4 true (fY .not v6 h6) h6) fun v7 h7 =>
 bnd (aL v4 v7 (.b false) h7) fun v8 h8 =>
 bnd (gD v8 true (some (x0, h8)) h8) fun v9 h9 =>
 bnd (gD v8 true (r 201 [v9, (aE 10), (.s [93])] h9) h9) fun v10 h10 =>
 bnd (gD v8 true (fY .not v10 h10) h10) fun v11 h11 =>
 bnd (aL v8 v11 (.b false) h11) fun v12 h12 =>
 aS v12 (
   aJx r n kk4 x0 x3 h12) (
   bL r n x3 h12)
noncomputable def qB (r : RT) (n : Nat) (m : Nat) : fW :=
 Nat.rec (motive := fun _ => fW) (fun _ _ _ => none) (fun _ ih => aTy r n ih) m
noncomputable def bPm (r : RT) (n : Nat) : fW := qB r n n
noncomputable def aMs (r : RT) (n : Nat) (x0 x3 : DV) (h0 : Hp) : aH :=
 bPm r n x0 x3 h0
noncomputable def aOe (r : RT) (n : Nat) (x0 : DV) (h0 : Hp) : aH :=
 aMs r n x0 .l0 h0
noncomputable def s156 (r : RT) (n : Nat) (x0 : DV) (h0 : Hp) : aH :=
 aOe r n x0 h0
noncomputable abbrev c156 : Code := cf Tryz.f156
noncomputable abbrev aCs : Code := cR c156
noncomputable abbrev aBz : Code := cR aCs
noncomputable abbrev cMs : Code := cR aBz
noncomputable abbrev aEs : Code := cL aBz
noncomputable abbrev xZ : Code := cL aEs
noncomputable abbrev iS : Code := cL xZ
noncomputable abbrev aNt : Code := cR iS
noncomputable abbrev aCm : Code := cL aNt
noncomputable abbrev bIa : Code := cR aCm
noncomputable abbrev nK : Code := cL aCm
noncomputable abbrev nM : Code := cR nK
noncomputable abbrev nA : Code := cL nM
noncomputable abbrev sJ : Code := cR nA
noncomputable abbrev rB : Code := cR sJ
noncomputable abbrev bZi : Code := cR rB
noncomputable abbrev aWc : Code := cL rB
noncomputable abbrev aBl : Code := cL sJ
noncomputable abbrev aRj : Code := cL nA
noncomputable abbrev bVf : Code := cR nM
noncomputable abbrev aSc : Code := cL nK
noncomputable abbrev aTh : Code := cL iS
noncomputable abbrev aVc : Code := cL aCs
noncomputable abbrev aWi : Code := cL c156
noncomputable abbrev r156 : K := aN CF Tryz.f156
noncomputable def D156 (r : RT) (n : Nat) (c : Code) (X : Nat → K) (k : K) : K := aO CF r 47 n c X r156 k
theorem cBk : D156 r n cMs x0 r156 = (K1 (bL r n) 3) :=
 (by kernel_rfl)
theorem bDr (kk4 : fW) (q0 : TT1) : D156 r n bIa (xs (xs x0 0 (K1 q0 3)) 1 (K2 kk4 0 3)) (K2 kk4 0 3) = fun (env : aU) (h : Hp) =>
 bnd (r 203 [(env 0)] h) fun v1 h1 =>
 bnd (aP fX 1 [(0, 6, v1)] h1) fun v2 h2 =>
 bnd (aZ 6 104 (env 3) v2 h2) fun v3 h3 =>
 bnd (r 201 [(env 0), (aE 10), (.s [46])] h3) fun v4 h4 =>
 bnd (fY .not v4 h4) fun v5 h5 =>
 aS v5 (
 some (v3, h5)) (
 bnd (r 202 [(env 0)] h5) fun v6 h6 =>
      kk4 (env 0) v3 h6) := by kernel_rfl
theorem aYx (kk4 : fW) : (fun (env : aU) (h : Hp) =>
 bnd (r 203 [(env 0)] h) fun v1 h1 =>
 bnd (aP fX 1 [(0, 6, v1)] h1) fun v2 h2 =>
 bnd (aZ 6 104 (env 3) v2 h2) fun v3 h3 =>
 bnd (r 201 [(env 0), (aE 10), (.s [46])] h3) fun v4 h4 =>
 bnd (fY .not v4 h4) fun v5 h5 =>
 aS v5 (
 some (v3, h5)) (
 bnd (r 202 [(env 0)] h5) fun v6 h6 =>
      kk4 (env 0) v3 h6)) = (K2 (fB r n kk4) 0 3) := by kernel_rfl
theorem bVv (kk4 : fW) : D156 r n bIa (xs (xs x0 0 (K1 (bL r n) 3)) 1 (K2 kk4 0 3)) (K2 kk4 0 3) = (K2 (fB r n kk4) 0 3) :=
 (bDr r n kk4 (bL r n)).trans (aYx r n kk4)
theorem bGp (kk4 : fW) : D156 r n bZi (xs (xs x0 0 (K1 (bL r n) 3)) 1 (K2 kk4 0 3)) (K2 (fB r n kk4) 0 3) = (K1 (qL r n kk4) 3) :=
 (by kernel_rfl)
theorem aYf (kk4 : fW) : D156 r n rB (xs (xs x0 0 (K1 (bL r n) 3)) 1 (K2 kk4 0 3)) (K2 (fB r n kk4) 0 3) = D156 r n aWc (xs (xs x0 0 (K1 (bL r n) 3)) 1 (K2 kk4 0 3)) (K1 (qL r n kk4) 3) :=
 congrArg (fun k => D156 r n aWc (xs (xs x0 0 (K1 (bL r n) 3)) 1 (K2 kk4 0 3)) k) (bGp r n kk4)
theorem bCa (kk4 : fW) : D156 r n rB (xs (xs x0 0 (K1 (bL r n) 3)) 1 (K2 kk4 0 3)) (K2 (fB r n kk4) 0 3) = (K2 (nT r n kk4) 0 3) :=
 (aYf r n kk4).trans
 ((by kernel_rfl))
theorem bMq (kk4 : fW) : D156 r n sJ (xs (xs x0 0 (K1 (bL r n) 3)) 1 (K2 kk4 0 3)) (K2 (fB r n kk4) 0 3) = D156 r n aBl (xs (xs x0 0 (K1 (bL r n) 3)) 1 (K2 kk4 0 3)) (K2 (nT r n kk4) 0 3) :=
 congrArg (fun k => D156 r n aBl (xs (xs x0 0 (K1 (bL r n) 3)) 1 (K2 kk4 0 3)) k) (bCa r n kk4)
theorem bNy (kk4 : fW) (q0 : fW) (q1 : TT1) : D156 r n aBl (xs (xs x0 0 (K1 q1 3)) 1 (K2 kk4 0 3)) (K2 q0 0 3) = fun (env : aU) (h : Hp) =>
 bnd (r 203 [(env 0)] h) fun v1 h1 =>
 bnd (aP fX 1 [(0, 6, v1)] h1) fun v2 h2 =>
 bnd (aY fX [(0, 1, (aE 10)), (5, 1, v2)] h2) fun v3 h3 =>
 bnd (aP fX 1 [(0, 6, v3)] h3) fun v4 h4 =>
 bnd (aZ 6 104 (env 3) v4 h4) fun v5 h5 =>
  q0 (env 0) v5 h5 := by kernel_rfl
theorem aYz (kk4 : fW) : (fun (env : aU) (h : Hp) =>
 bnd (r 203 [(env 0)] h) fun v1 h1 =>
 bnd (aP fX 1 [(0, 6, v1)] h1) fun v2 h2 =>
 bnd (aY fX [(0, 1, (aE 10)), (5, 1, v2)] h2) fun v3 h3 =>
 bnd (aP fX 1 [(0, 6, v3)] h3) fun v4 h4 =>
 bnd (aZ 6 104 (env 3) v4 h4) fun v5 h5 =>
  nT r n kk4 (env 0) v5 h5) = (K2 (zN r n kk4) 0 3) := by kernel_rfl
theorem cAg (kk4 : fW) : D156 r n sJ (xs (xs x0 0 (K1 (bL r n) 3)) 1 (K2 kk4 0 3)) (K2 (fB r n kk4) 0 3) = (K2 (zN r n kk4) 0 3) :=
 (bMq r n kk4).trans
 ((bNy r n kk4 (nT r n kk4) (bL r n)).trans (aYz r n kk4))
theorem bGj (kk4 : fW) : D156 r n nA (xs (xs x0 0 (K1 (bL r n) 3)) 1 (K2 kk4 0 3)) (K2 (fB r n kk4) 0 3) = D156 r n aRj (xs (xs x0 0 (K1 (bL r n) 3)) 1 (K2 kk4 0 3)) (K2 (zN r n kk4) 0 3) :=
 congrArg (fun k => D156 r n aRj (xs (xs x0 0 (K1 (bL r n) 3)) 1 (K2 kk4 0 3)) k) (cAg r n kk4)
theorem bXw (kk4 : fW) : D156 r n nA (xs (xs x0 0 (K1 (bL r n) 3)) 1 (K2 kk4 0 3)) (K2 (fB r n kk4) 0 3) = (K2 (bGi r n kk4) 0 3) :=
 (bGj r n kk4).trans
 ((by kernel_rfl))
theorem bXd (kk4 : fW) : D156 r n nM (xs (xs x0 0 (K1 (bL r n) 3)) 1 (K2 kk4 0 3)) (K2 (fB r n kk4) 0 3) = (K3 (aNc r n kk4) 0 3 20) :=
 (by kernel_rfl : D156 r n nM (xs (xs x0 0 (K1 (bL r n) 3)) 1 (K2 kk4 0 3)) (K2 (fB r n kk4) 0 3) = (fun (env : aU) (h : Hp) => aS (opr env (cC nM)) (D156 r n nA (xs (xs x0 0 (K1 (bL r n) 3)) 1 (K2 kk4 0 3)) (K2 (fB r n kk4) 0 3) env h) (D156 r n bVf (xs (xs x0 0 (K1 (bL r n) 3)) 1 (K2 kk4 0 3)) (K2 (fB r n kk4) 0 3) env h))).trans (by rw [bXw r n kk4]; kernel_rfl)
theorem bCu (kk4 : fW) : D156 r n aCm (xs (xs x0 0 (K1 (bL r n) 3)) 1 (K2 kk4 0 3)) (K2 kk4 0 3) = D156 r n nK (xs (xs x0 0 (K1 (bL r n) 3)) 1 (K2 kk4 0 3)) (K2 (fB r n kk4) 0 3) :=
 congrArg (fun k => D156 r n nK (xs (xs x0 0 (K1 (bL r n) 3)) 1 (K2 kk4 0 3)) k) (bVv r n kk4)
theorem bOo (kk4 : fW) : D156 r n nK (xs (xs x0 0 (K1 (bL r n) 3)) 1 (K2 kk4 0 3)) (K2 (fB r n kk4) 0 3) = D156 r n aSc (xs (xs x0 0 (K1 (bL r n) 3)) 1 (K2 kk4 0 3)) (K3 (aNc r n kk4) 0 3 20) :=
 congrArg (fun k => D156 r n aSc (xs (xs x0 0 (K1 (bL r n) 3)) 1 (K2 kk4 0 3)) k) (bXd r n kk4)
theorem cEz (kk4 : fW) : D156 r n aNt (xs x0 0 (K1 (bL r n) 3)) (K2 kk4 0 3) = (K2 (aJx r n kk4) 0 3) :=
 (by kernel_rfl : D156 r n aNt (xs x0 0 (K1 (bL r n) 3)) (K2 kk4 0 3) = D156 r n aCm (xs (xs x0 0 (K1 (bL r n) 3)) 1 (K2 kk4 0 3)) (K2 kk4 0 3)).trans
 ((bCu r n kk4).trans
 ((bOo r n kk4).trans
 ((by kernel_rfl))))
theorem bNc (kk4 : fW) : D156 r n iS (xs x0 0 (K1 (bL r n) 3)) (K2 kk4 0 3) = D156 r n aTh (xs x0 0 (K1 (bL r n) 3)) (K2 (aJx r n kk4) 0 3) :=
 congrArg (fun k => D156 r n aTh (xs x0 0 (K1 (bL r n) 3)) k) (cEz r n kk4)
theorem bIy (kk4 : fW) : D156 r n iS (xs x0 0 (K1 (bL r n) 3)) (K2 kk4 0 3) = (K2 (aTy r n kk4) 0 3) :=
 (bNc r n kk4).trans
 ((by kernel_rfl))
theorem bRj (m : Nat) : aM (fun kk => D156 r n iS (xs x0 0 (K1 (bL r n) 3)) kk) m = (K2 (qB r n m) 0 3) := by
 induction m with
 | zero => exact (by kernel_rfl : aM (fun kk => D156 r n iS (xs x0 0 (K1 (bL r n) 3)) kk) 0 = (K2 (qB r n 0) 0 3))
 | succ m ih =>
  refine (by kernel_rfl : aM (fun kk => D156 r n iS (xs x0 0 (K1 (bL r n) 3)) kk) (m + 1) = D156 r n iS (xs x0 0 (K1 (bL r n) 3)) (aM (fun kk => D156 r n iS (xs x0 0 (K1 (bL r n) 3)) kk) m)).trans ?_
  rw [ih]
  exact (bIy r n (qB r n m)).trans (by kernel_rfl)
theorem cCh : D156 r n xZ (xs x0 0 (K1 (bL r n) 3)) (K1 (bL r n) 3) = (K2 (bPm r n) 0 3) :=
 (by kernel_rfl : D156 r n xZ (xs x0 0 (K1 (bL r n) 3)) (K1 (bL r n) 3) = aM (fun kk => D156 r n iS (xs x0 0 (K1 (bL r n) 3)) kk) n).trans ((bRj r n n).trans (by kernel_rfl))
theorem bIn : D156 r n aBz x0 r156 = D156 r n aEs x0 (K1 (bL r n) 3) :=
 congrArg (fun k => D156 r n aEs x0 k) (cBk r n)
theorem bTm : D156 r n aBz x0 r156 = (K2 (aMs r n) 0 3) :=
 (bIn r n).trans
 ((by kernel_rfl : D156 r n aEs x0 (K1 (bL r n) 3) = D156 r n xZ (xs x0 0 (K1 (bL r n) 3)) (K1 (bL r n) 3)).trans
 ((cCh r n).trans (by kernel_rfl)))
theorem aXa : D156 r n aCs x0 r156 = D156 r n aVc x0 (K2 (aMs r n) 0 3) :=
 congrArg (fun k => D156 r n aVc x0 k) (bTm r n)
theorem bRt : D156 r n aCs x0 r156 = (K1 (aOe r n) 0) :=
 (aXa r n).trans
 ((by kernel_rfl))
theorem cDd : D156 r n c156 x0 r156 = D156 r n aWi x0 (K1 (aOe r n) 0) :=
 congrArg (fun k => D156 r n aWi x0 k) (bRt r n)
theorem cTu : D156 r n c156 x0 r156 = (K1 (s156 r n) 0) :=
 (cDd r n).trans
 ((by kernel_rfl))
theorem cNp : aG CF r n 156 args h = s156 r n (aR args 0) h :=
 (by kernel_rfl : aG CF r n 156 args h = D156 r n c156 x0 r156 (aJ args) h).trans ((congrFun (congrFun (cTu r n) (aJ args)) h).trans (by kernel_rfl))
noncomputable def s157 (r : RT) (n : Nat) (x0 x1 x2 : DV) (h0 : Hp) : aH :=
 bnd (bH [(aE 0), (.s []), (aE 0), (aE 0)] h0) fun v1 h1 =>
 bnd (r 201 [x0, x1, x2] h1) fun v2 h2 =>
 bnd (fY .not v2 h2) fun v3 h3 =>
 aS v3 (
 bnd (r 205 [x0, (aE 0)] h3) fun v4 h4 =>
 bnd (r 204 [x0, v4, (aE 13)] h4) fun v5 h5 =>
 bnd (aY [(aE 0), (.s []), (aE 0), (aE 0)] [] h5) fun v6 h6 =>
 bnd (aF 4 v1 v6 h6) fun _ h7 =>
 bnd (aK 4 v1 h7) fun v8 _ =>
 some (v8, h7)) (
 bnd (r 202 [x0] h3) fun v9 h9 =>
 bnd (aF 4 v1 v9 h9) fun _ h10 =>
 bnd (aK 4 v1 h10) fun v11 _ =>
 some (v11, h10))
noncomputable abbrev c157 : Code := cf Tryz.f157
noncomputable abbrev r157 : K := aN CF Tryz.f157
noncomputable def D157 (r : RT) (n : Nat) (c : Code) (X : Nat → K) (k : K) : K := aO CF r 19 n c X r157 k
theorem cTy : D157 r n c157 x0 r157 = (K3 (s157 r n) 0 1 2) :=
 (by kernel_rfl)
theorem cPq : aG CF r n 157 args h = s157 r n (aR args 0) (aR args 1) (aR args 2) h :=
 (by kernel_rfl : aG CF r n 157 args h = D157 r n c157 x0 r157 (aJ args) h).trans ((congrFun (congrFun (cTy r n) (aJ args)) h).trans (by kernel_rfl))
noncomputable def aRc (r : RT) (n : Nat) (kk6 : lF) (x0 x1 x4 : DV) (h0 : Hp) : aH :=
 bnd (gD x4 false (some (x0, h0)) h0) fun v1 h1 =>
 bnd (gD x4 false (r 201 [v1, (aE 2), (.s [])] h1) h1) fun v2 h2 =>
 bnd (aL x4 (.b true) v2 h2) fun v3 h3 =>
 aS v3 (
 bnd (aQ x1 h3) fun v4 h4 =>
 bnd (aB 1 v4 h4) fun v5 h5 =>
 bnd (aA v5 h5) fun v6 h6 =>
 bnd (r 157 [x0, (aE 2), (.s [])] h6) fun v7 h7 =>
 cnd (bI (aA v5 h7) v6 && true) (
 bnd (eT 1 v7 h7) fun v8 h8 =>
 bnd (dX .add v6 v8 h8) fun v9 h9 =>
 bnd (aQ x1 h9) fun v10 h10 =>
 bnd (aB 1 v10 h10) fun v11 h11 =>
 bnd (aF 1 v11 v9 h11) fun v12 h12 =>
 bnd (aQ x1 (resv 1 h12)) fun v13 h13 =>
 bnd (aB 3 v13 h13) fun v14 h14 =>
 bnd (aA v14 h14) fun v15 h15 =>
 bnd (aQ x1 h15) fun v16 h16 =>
 bnd (aB 3 v16 h16) fun v17 h17 =>
 bnd (aA v17 h17) fun v18 h18 =>
 bnd (r 206 [x0, (aE 1), v18] h18) fun v19 h19 =>
 cnd (bI (aA v14 h19) v15 && true) (
 bnd (bG (bS 0 h12.next) [(.s [])] 1 [(0, 1, v19)] h19) fun v20 h20 =>
 bnd (aZ 1 16 v15 v20 h20) fun v21 h21 =>
 bnd (aQ x1 h21) fun v22 h22 =>
 bnd (aB 3 v22 h22) fun v23 h23 =>
 bnd (aF 1 v23 v21 h23) fun v24 h24 =>
      kk6 x0 x1 (.b false) h24))) (
 some (.t [], h3))
noncomputable def rO (r : RT) (n : Nat) (m : Nat) : lF :=
 Nat.rec (motive := fun _ => lF) (fun _ _ _ _ => none) (fun _ ih => aRc r n ih) m
noncomputable def bEd (r : RT) (n : Nat) : lF := rO r n n
noncomputable def aJt (r : RT) (n : Nat) (x0 x1 x4 : DV) (h0 : Hp) : aH :=
 bEd r n x0 x1 x4 h0
noncomputable def bHc (r : RT) (n : Nat) (x0 x1 : DV) (h0 : Hp) : aH :=
 aJt r n x0 x1 (.b true) h0
noncomputable def aNn (r : RT) (n : Nat) (x0 x1 x44 : DV) (h0 : Hp) : aH :=
 aS x44 (
 bnd (r 202 [x0] h0) fun v1 h1 =>
 bnd (eT 1 v1 h1) fun v2 h2 =>
 bnd (aQ x1 h2) fun v3 h3 =>
 bnd (aB 1 v3 h3) fun v4 h4 =>
 bnd (aF 1 v4 v2 h4) fun _ h5 =>
 bnd (aQ x1 (resv 1 h5)) fun v6 h6 =>
 bnd (aB 3 v6 h6) fun v7 h7 =>
 bnd (aA v7 h7) fun v8 h8 =>
 bnd (aQ x1 h8) fun v9 h9 =>
 bnd (aB 3 v9 h9) fun v10 h10 =>
 bnd (aA v10 h10) fun v11 h11 =>
 bnd (r 206 [x0, (aE 1), v11] h11) fun v12 h12 =>
 cnd (bI (aA v7 h12) v8 && true) (
 bnd (bG (bS 0 h5.next) [(.s [])] 1 [(0, 1, v12)] h12) fun v13 h13 =>
 bnd (aZ 1 16 v8 v13 h13) fun v14 h14 =>
 bnd (aQ x1 h14) fun v15 h15 =>
 bnd (aB 3 v15 h15) fun v16 h16 =>
 bnd (aF 1 v16 v14 h16) fun v17 h17 =>
 some (.t [], h17))) (
  bHc r n x0 x1 h0)
noncomputable def bIt (r : RT) (n : Nat) (x0 x1 : DV) (h0 : Hp) : aH :=
 bnd (r 201 [x0, (aE 3), (.s [])] h0) fun v1 h1 =>
  aNn r n x0 x1 v1 h1
noncomputable def aOm (r : RT) (n : Nat) (x0 x1 x35 : DV) (h0 : Hp) : aH :=
 aS x35 (
 bnd (r 202 [x0] h0) fun v1 h1 =>
 bnd (eT 1 v1 h1) fun v2 h2 =>
 bnd (aQ x1 h2) fun v3 h3 =>
 bnd (aB 1 v3 h3) fun v4 h4 =>
 bnd (aF 1 v4 v2 h4) fun _ h5 =>
 some (.t [], h5)) (
  bIt r n x0 x1 h0)
noncomputable def s158 (r : RT) (n : Nat) (x0 x1 : DV) (h0 : Hp) : aH :=
 bnd (r 201 [x0, (aE 1), (.s [])] h0) fun v1 h1 =>
  aOm r n x0 x1 v1 h1
noncomputable abbrev c158 : Code := cf Tryz.f158
noncomputable abbrev xK : Code := cL c158
noncomputable abbrev wA : Code := cR xK
noncomputable abbrev uT : Code := cR wA
noncomputable abbrev sQ : Code := cR uT
noncomputable abbrev vU : Code := cR sQ
noncomputable abbrev aKk : Code := cR vU
noncomputable abbrev aAv : Code := cL aKk
noncomputable abbrev mP : Code := cL aAv
noncomputable abbrev bNg : Code := cL vU
noncomputable abbrev bZr : Code := cL sQ
noncomputable abbrev aSz : Code := cL uT
noncomputable abbrev cEa : Code := cL wA
noncomputable abbrev aQt : Code := cL xK
noncomputable abbrev r158 : K := aN CF Tryz.f158
noncomputable def D158 (r : RT) (n : Nat) (c : Code) (X : Nat → K) (k : K) : K := aO CF r 68 n c X r158 k
theorem bBc (kk6 : lF) : D158 r n mP (xs (xs x0 0 r158) 1 r158) (K3 kk6 0 1 4) = (K3 (aRc r n kk6) 0 1 4) :=
 (by kernel_rfl)
theorem bPp (m : Nat) : aM (fun kk => D158 r n mP (xs (xs x0 0 r158) 1 r158) kk) m = (K3 (rO r n m) 0 1 4) := by
 induction m with
 | zero => exact (by kernel_rfl : aM (fun kk => D158 r n mP (xs (xs x0 0 r158) 1 r158) kk) 0 = (K3 (rO r n 0) 0 1 4))
 | succ m ih =>
  refine (by kernel_rfl : aM (fun kk => D158 r n mP (xs (xs x0 0 r158) 1 r158) kk) (m + 1) = D158 r n mP (xs (xs x0 0 r158) 1 r158) (aM (fun kk => D158 r n mP (xs (xs x0 0 r158) 1 r158) kk) m)).trans ?_
  rw [ih]
  exact (bBc r n (rO r n m)).trans (by kernel_rfl)
theorem bUb : D158 r n aAv (xs (xs x0 0 r158) 1 r158) r158 = (K3 (bEd r n) 0 1 4) :=
 (by kernel_rfl : D158 r n aAv (xs (xs x0 0 r158) 1 r158) r158 = aM (fun kk => D158 r n mP (xs (xs x0 0 r158) 1 r158) kk) n).trans ((bPp r n n).trans (by kernel_rfl))
theorem bUe : D158 r n aKk (xs x0 0 r158) r158 = (K3 (aJt r n) 0 1 4) :=
 (by kernel_rfl : D158 r n aKk (xs x0 0 r158) r158 = D158 r n aAv (xs (xs x0 0 r158) 1 r158) r158).trans
 ((bUb r n).trans (by kernel_rfl))
theorem bIo : D158 r n vU (xs x0 0 r158) r158 = D158 r n bNg (xs x0 0 r158) (K3 (aJt r n) 0 1 4) :=
 congrArg (fun k => D158 r n bNg (xs x0 0 r158) k) (bUe r n)
theorem cBe : D158 r n vU (xs x0 0 r158) r158 = (K2 (bHc r n) 0 1) :=
 (bIo r n).trans
 ((by kernel_rfl))
theorem cEv : D158 r n sQ (xs x0 0 r158) r158 = (K3 (aNn r n) 0 1 44) :=
 (by kernel_rfl : D158 r n sQ (xs x0 0 r158) r158 = (fun (env : aU) (h : Hp) => aS (opr env (cC sQ)) (D158 r n bZr (xs x0 0 r158) r158 env h) (D158 r n vU (xs x0 0 r158) r158 env h))).trans (by rw [cBe r n]; kernel_rfl)
theorem bBw : D158 r n uT (xs x0 0 r158) r158 = D158 r n aSz (xs x0 0 r158) (K3 (aNn r n) 0 1 44) :=
 congrArg (fun k => D158 r n aSz (xs x0 0 r158) k) (cEv r n)
theorem bWf : D158 r n uT (xs x0 0 r158) r158 = (K2 (bIt r n) 0 1) :=
 (bBw r n).trans
 ((by kernel_rfl))
theorem bZn : D158 r n wA (xs x0 0 r158) r158 = (K3 (aOm r n) 0 1 35) :=
 (by kernel_rfl : D158 r n wA (xs x0 0 r158) r158 = (fun (env : aU) (h : Hp) => aS (opr env (cC wA)) (D158 r n cEa (xs x0 0 r158) r158 env h) (D158 r n uT (xs x0 0 r158) r158 env h))).trans (by rw [bWf r n]; kernel_rfl)
theorem cKy : D158 r n xK (xs x0 0 r158) r158 = D158 r n aQt (xs x0 0 r158) (K3 (aOm r n) 0 1 35) :=
 congrArg (fun k => D158 r n aQt (xs x0 0 r158) k) (bZn r n)
theorem cWx : D158 r n c158 x0 r158 = (K2 (s158 r n) 0 1) :=
 (by kernel_rfl : D158 r n c158 x0 r158 = D158 r n xK (xs x0 0 r158) r158).trans
 ((cKy r n).trans
 ((by kernel_rfl)))
theorem cMu : aG CF r n 158 args h = s158 r n (aR args 0) (aR args 1) h :=
 (by kernel_rfl : aG CF r n 158 args h = D158 r n c158 x0 r158 (aJ args) h).trans ((congrFun (congrFun (cWx r n) (aJ args)) h).trans (by kernel_rfl))
noncomputable def aGe (r : RT) (n : Nat) (x0 x3 : DV) (h0 : Hp) : aH :=
 bnd (r 157 [x0, (aE 3), (.s [62])] h0) fun v1 h1 =>
 bnd (aB 2 x3 h1) fun v2 h2 =>
 bnd (aA v2 h2) fun v3 h3 =>
 some (v3, h3)
noncomputable def uQ (r : RT) (n : Nat) (x0 x3 : DV) (h0 : Hp) : aH :=
 bnd (aB 2 x3 h0) fun v1 h1 =>
 bnd (aA v1 h1) fun v2 h2 =>
 bnd (aD .gtr v2 (aE 255) h2) fun v3 h3 =>
 aS v3 (
 bnd (aK 4 x3 h3) fun v4 h4 =>
 bnd (r 204 [x0, v4, (aE 2)] h4) fun v5 h5 =>
  aGe r n x0 x3 h5) (
  aGe r n x0 x3 h3)
noncomputable def aEd (r : RT) (n : Nat) (x0 : DV) (h0 : Hp) : aH :=
 bnd (r 157 [x0, (aE 4), (.s [])] h0) fun v1 h1 =>
 bnd (bH [(aE 0), (.s []), (aE 0), (aE 0)] h1) fun v2 h2 =>
 bnd (aF 4 v2 v1 h2) fun _ h3 =>
  uQ r n x0 v2 h3
noncomputable def aNl (r : RT) (n : Nat) (x0 : DV) (h0 : Hp) : aH :=
 bnd (r 157 [x0, (aE 2), (.s [112, 114, 105, 109, 105, 116, 105, 118, 101, 58])] h0) fun v1 h1 =>
  aEd r n x0 h1
noncomputable def aMu (r : RT) (n : Nat) (x0 : DV) (h0 : Hp) : aH :=
 bnd (r 202 [x0] h0) fun v1 h1 =>
  aNl r n x0 h1
noncomputable def aJp (r : RT) (n : Nat) (x0 : DV) (h0 : Hp) : aH :=
 bnd (r 201 [x0, (aE 3), (.s [60])] h0) fun v1 h1 =>
 bnd (fY .not v1 h1) fun v2 h2 =>
 aS v2 (
 some ((aE 0), h2)) (
  aMu r n x0 h2)
noncomputable def s159 (r : RT) (n : Nat) (x0 : DV) (h0 : Hp) : aH :=
 aJp r n x0 h0
noncomputable abbrev c159 : Code := cf Tryz.f159
noncomputable abbrev yC : Code := cR c159
noncomputable abbrev aCd : Code := cR yC
noncomputable abbrev aFh : Code := cR aCd
noncomputable abbrev aDx : Code := cR aFh
noncomputable abbrev aDp : Code := cR aDx
noncomputable abbrev cLn : Code := cR aDp
noncomputable abbrev bEb : Code := cL aDp
noncomputable abbrev aKt : Code := cL aDx
noncomputable abbrev bOz : Code := cL aFh
noncomputable abbrev aQj : Code := cL aCd
noncomputable abbrev aSu : Code := cL yC
noncomputable abbrev aRw : Code := cL c159
noncomputable abbrev r159 : K := aN CF Tryz.f159
noncomputable def D159 (r : RT) (n : Nat) (c : Code) (X : Nat → K) (k : K) : K := aO CF r 23 n c X r159 k
theorem bRy : D159 r n cLn x0 r159 = (K2 (aGe r n) 0 3) :=
 (by kernel_rfl)
theorem bKj : D159 r n aDp x0 r159 = D159 r n bEb x0 (K2 (aGe r n) 0 3) :=
 congrArg (fun k => D159 r n bEb x0 k) (bRy r n)
theorem bZu : D159 r n aDp x0 r159 = (K2 (uQ r n) 0 3) :=
 (bKj r n).trans
 ((by kernel_rfl))
theorem bOg : D159 r n aDx x0 r159 = D159 r n aKt x0 (K2 (uQ r n) 0 3) :=
 congrArg (fun k => D159 r n aKt x0 k) (bZu r n)
theorem bQj (q0 : fW) : D159 r n aKt x0 (K2 q0 0 3) = fun (env : aU) (h : Hp) =>
 bnd (r 157 [(env 0), (aE 4), (.s [])] h) fun v1 h1 =>
 bnd (bH [(aE 0), (.s []), (aE 0), (aE 0)] h1) fun v2 h2 =>
 bnd (aF 4 v2 v1 h2) fun _ h3 =>
  q0 (env 0) v2 h3 := by kernel_rfl
theorem aXw : (fun (env : aU) (h : Hp) =>
 bnd (r 157 [(env 0), (aE 4), (.s [])] h) fun v1 h1 =>
 bnd (bH [(aE 0), (.s []), (aE 0), (aE 0)] h1) fun v2 h2 =>
 bnd (aF 4 v2 v1 h2) fun _ h3 =>
  uQ r n (env 0) v2 h3) = (K1 (aEd r n) 0) := by kernel_rfl
theorem bXu : D159 r n aDx x0 r159 = (K1 (aEd r n) 0) :=
 (bOg r n).trans
 ((bQj r n (uQ r n)).trans (aXw r n))
theorem bBf : D159 r n aFh x0 r159 = D159 r n bOz x0 (K1 (aEd r n) 0) :=
 congrArg (fun k => D159 r n bOz x0 k) (bXu r n)
theorem bWb : D159 r n aFh x0 r159 = (K1 (aNl r n) 0) :=
 (bBf r n).trans
 ((by kernel_rfl))
theorem bCt : D159 r n aCd x0 r159 = D159 r n aQj x0 (K1 (aNl r n) 0) :=
 congrArg (fun k => D159 r n aQj x0 k) (bWb r n)
theorem bZl : D159 r n aCd x0 r159 = (K1 (aMu r n) 0) :=
 (bCt r n).trans
 ((by kernel_rfl))
theorem bOs : D159 r n yC x0 r159 = D159 r n aSu x0 (K1 (aMu r n) 0) :=
 congrArg (fun k => D159 r n aSu x0 k) (bZl r n)
theorem bUf : D159 r n yC x0 r159 = (K1 (aJp r n) 0) :=
 (bOs r n).trans
 ((by kernel_rfl))
theorem cOo : D159 r n c159 x0 r159 = D159 r n aRw x0 (K1 (aJp r n) 0) :=
 congrArg (fun k => D159 r n aRw x0 k) (bUf r n)
theorem cWj : D159 r n c159 x0 r159 = (K1 (s159 r n) 0) :=
 (cOo r n).trans
 ((by kernel_rfl))
theorem cHh : aG CF r n 159 args h = s159 r n (aR args 0) h :=
 (by kernel_rfl : aG CF r n 159 args h = D159 r n c159 x0 r159 (aJ args) h).trans ((congrFun (congrFun (cWj r n) (aJ args)) h).trans (by kernel_rfl))
noncomputable def aAs (r : RT) (n : Nat) (x0 : DV) (h0 : Hp) : aH :=
 bnd (r 209 [x0, (aE 20), (aE 0), (aE 0)] h0) fun v1 h1 =>
 some (.t [], h1)
noncomputable def cF (r : RT) (n : Nat) (x0 x2 : DV) (h0 : Hp) : aH :=
 aS x2 (
 bnd (r 209 [x0, (aE 2), (aE 0), (aE 0)] h0) fun v1 h1 =>
  aAs r n x0 h1) (
 bnd (r 209 [x0, (aE 1), (aE 0), (aE 0)] h0) fun v2 h2 =>
  aAs r n x0 h2)
noncomputable def jR (r : RT) (n : Nat) (kk8 : eP) (x0 x2 x6 x22 x23 x24 : DV) (h0 : Hp) : aH :=
 bnd (aD .add x24 (aE 1) h0) fun v1 h1 =>
  kk8 x0 x2 x6 x22 x23 v1 h1
noncomputable def sA (r : RT) (n : Nat) (kk8 : eP) (x0 x2 x6 x22 x23 x24 : DV) (h0 : Hp) : aH :=
 bnd (aI 6 x22 x24 h0) fun v1 h1 =>
 bnd (aK 6 v1 h1) fun v2 h2 =>
 bnd (bH fX h2) fun v3 h3 =>
 bnd (aF 6 v3 v2 h3) fun _ h4 =>
 bnd (aK 6 v3 h4) fun v5 h5 =>
 bnd (r 208 [x0, v5] h5) fun v6 h6 =>
 bnd (aD .eql x24 x6 h6) fun v7 h7 =>
 bnd (gD v7 true (aB 0 v3 h7) h7) fun v8 h8 =>
 bnd (gD v7 true (aA v8 h8) h8) fun v9 h9 =>
 bnd (gD v7 true (aD .eql v9 (aE 10) h9) h9) fun v10 h10 =>
 bnd (aL v7 v10 (.b false) h10) fun v11 h11 =>
 aS v11 (
 some (.t [], h11)) (
 bnd (aD .eql x24 x6 h11) fun v12 h12 =>
 bnd (gD v12 true (some (x2, h12)) h12) fun v13 h13 =>
 bnd (aL v12 v13 (.b false) h13) fun v14 h14 =>
 aS v14 (
 bnd (r 209 [x0, (aE 20), (aE 0), (aE 0)] h14) fun v15 h15 =>
 some (.t [], h15)) (
 bnd (aB 0 v3 h14) fun v16 h16 =>
 bnd (aA v16 h16) fun v17 h17 =>
 bnd (aD .eql v17 (aE 10) h17) fun v18 h18 =>
 aS v18 (
    jR r n kk8 x0 x2 x6 x22 x23 x24 h18) (
 bnd (r 209 [x0, (aE 12), (aE 0), (aE 0)] h18) fun v19 h19 =>
    jR r n kk8 x0 x2 x6 x22 x23 x24 h19)))
noncomputable def aNr (r : RT) (n : Nat) (kk8 : eP) (x0 x2 x6 x22 x23 x24 x25 : DV) (h0 : Hp) : aH :=
 aS x25 (
  sA r n kk8 x0 x2 x6 x22 x23 x24 h0) (
  cF r n x0 x2 h0)
noncomputable def aQs (r : RT) (n : Nat) (kk8 : eP) (x0 x2 x6 x22 x23 x24 : DV) (h0 : Hp) : aH :=
 bnd (aD .lss x24 x23 h0) fun v1 h1 =>
  aNr r n kk8 x0 x2 x6 x22 x23 x24 v1 h1
noncomputable def qV (r : RT) (n : Nat) (m : Nat) : eP :=
 Nat.rec (motive := fun _ => eP) (fun _ _ _ _ _ _ _ => none) (fun _ ih => aQs r n ih) m
noncomputable def bAz (r : RT) (n : Nat) : eP := qV r n n
noncomputable def aKs (r : RT) (n : Nat) (x0 x2 x6 x22 x23 x24 : DV) (h0 : Hp) : aH :=
 bAz r n x0 x2 x6 x22 x23 x24 h0
noncomputable def aKp (r : RT) (n : Nat) (x0 x2 x4 x6 : DV) (h0 : Hp) : aH :=
 bnd (aB 5 x4 h0) fun v1 h1 =>
 bnd (aA v1 h1) fun v2 h2 =>
 bnd (bQ v2 h2) fun v3 h3 =>
  aKs r n x0 x2 x6 v2 v3 (aE 0) h3
noncomputable def aOt (r : RT) (n : Nat) (x0 x2 x4 : DV) (h0 : Hp) : aH :=
 bnd (aB 5 x4 h0) fun v1 h1 =>
 bnd (aA v1 h1) fun v2 h2 =>
 bnd (bQ v2 h2) fun v3 h3 =>
 bnd (aD .sub v3 (aE 1) h3) fun v4 h4 =>
  aKp r n x0 x2 x4 v4 h4
noncomputable def aPg (r : RT) (n : Nat) (x0 x2 x4 : DV) (h0 : Hp) : aH :=
 bnd (aB 4 x4 h0) fun v1 h1 =>
 bnd (aA v1 h1) fun v2 h2 =>
 bnd (r 207 [x0, v2, (.b false)] h2) fun v3 h3 =>
  aOt r n x0 x2 x4 h3
noncomputable def tH (r : RT) (n : Nat) (x0 x2 x4 : DV) (h0 : Hp) : aH :=
 bnd (aB 3 x4 h0) fun v1 h1 =>
 bnd (aA v1 h1) fun v2 h2 =>
 bnd (r 207 [x0, v2, (.b true)] h2) fun v3 h3 =>
  aPg r n x0 x2 x4 h3
noncomputable def s160 (r : RT) (n : Nat) (x0 x1 x2 : DV) (h0 : Hp) : aH :=
 bnd (bR x1 h0) fun v1 h1 =>
  tH r n x0 x2 v1 h1
noncomputable abbrev c160 : Code := cf Tryz.f160
noncomputable abbrev zU : Code := cR c160
noncomputable abbrev aBy : Code := cR zU
noncomputable abbrev aEw : Code := cR aBy
noncomputable abbrev aCb : Code := cR aEw
noncomputable abbrev aCi : Code := cR aCb
noncomputable abbrev cMd : Code := cR aCi
noncomputable abbrev bGs : Code := cL aCi
noncomputable abbrev vE : Code := cL aCb
noncomputable abbrev aLu : Code := cR vE
noncomputable abbrev rX : Code := cL aLu
noncomputable abbrev gJ : Code := cL rX
noncomputable abbrev qE : Code := cR gJ
noncomputable abbrev sC : Code := cR qE
noncomputable abbrev cDr : Code := cR sC
noncomputable abbrev yN : Code := cL sC
noncomputable abbrev aTm : Code := cL qE
noncomputable abbrev aQk : Code := cL gJ
noncomputable abbrev aTo : Code := cL vE
noncomputable abbrev aUm : Code := cL aEw
noncomputable abbrev aQu : Code := cL aBy
noncomputable abbrev aUp : Code := cL zU
noncomputable abbrev yI : Code := cL c160
noncomputable abbrev r160 : K := aN CF Tryz.f160
noncomputable def D160 (r : RT) (n : Nat) (c : Code) (X : Nat → K) (k : K) : K := aO CF r 64 n c X r160 k
theorem bVl : D160 r n cMd x0 r160 = (K1 (aAs r n) 0) :=
 (by kernel_rfl)
theorem bFd : D160 r n aCi x0 r160 = D160 r n bGs x0 (K1 (aAs r n) 0) :=
 congrArg (fun k => D160 r n bGs x0 k) (bVl r n)
theorem cCf : D160 r n aCi x0 r160 = (K2 (cF r n) 0 2) :=
 (bFd r n).trans
 ((by kernel_rfl))
theorem bLt (kk8 : eP) : D160 r n cDr (xs x0 0 (K2 (cF r n) 0 2)) (K6 kk8 0 2 6 22 23 24) = (K6 (jR r n kk8) 0 2 6 22 23 24) :=
 (by kernel_rfl)
theorem bAa (kk8 : eP) : D160 r n sC (xs x0 0 (K2 (cF r n) 0 2)) (K6 kk8 0 2 6 22 23 24) = D160 r n yN (xs x0 0 (K2 (cF r n) 0 2)) (K6 (jR r n kk8) 0 2 6 22 23 24) :=
 congrArg (fun k => D160 r n yN (xs x0 0 (K2 (cF r n) 0 2)) k) (bLt r n kk8)
theorem aYb (kk8 : eP) (q0 : eP) (q1 : fW) : D160 r n yN (xs x0 0 (K2 q1 0 2)) (K6 q0 0 2 6 22 23 24) = fun (env : aU) (h : Hp) =>
 bnd (aI 6 (env 22) (env 24) h) fun v1 h1 =>
 bnd (aK 6 v1 h1) fun v2 h2 =>
 bnd (bH fX h2) fun v3 h3 =>
 bnd (aF 6 v3 v2 h3) fun _ h4 =>
 bnd (aK 6 v3 h4) fun v5 h5 =>
 bnd (r 208 [(env 0), v5] h5) fun v6 h6 =>
 bnd (aD .eql (env 24) (env 6) h6) fun v7 h7 =>
 bnd (gD v7 true (aB 0 v3 h7) h7) fun v8 h8 =>
 bnd (gD v7 true (aA v8 h8) h8) fun v9 h9 =>
 bnd (gD v7 true (aD .eql v9 (aE 10) h9) h9) fun v10 h10 =>
 bnd (aL v7 v10 (.b false) h10) fun v11 h11 =>
 aS v11 (
 some (.t [], h11)) (
 bnd (aD .eql (env 24) (env 6) h11) fun v12 h12 =>
 bnd (gD v12 true (some ((env 2), h12)) h12) fun v13 h13 =>
 bnd (aL v12 v13 (.b false) h13) fun v14 h14 =>
 aS v14 (
 bnd (r 209 [(env 0), (aE 20), (aE 0), (aE 0)] h14) fun v15 h15 =>
 some (.t [], h15)) (
 bnd (aB 0 v3 h14) fun v16 h16 =>
 bnd (aA v16 h16) fun v17 h17 =>
 bnd (aD .eql v17 (aE 10) h17) fun v18 h18 =>
 aS v18 (
     q0 (env 0) (env 2) (env 6) (env 22) (env 23) (env 24) h18) (
 bnd (r 209 [(env 0), (aE 12), (aE 0), (aE 0)] h18) fun v19 h19 =>
     q0 (env 0) (env 2) (env 6) (env 22) (env 23) (env 24) h19))) := by kernel_rfl
theorem aJc (kk8 : eP) : (fun (env : aU) (h : Hp) =>
 bnd (aI 6 (env 22) (env 24) h) fun v1 h1 =>
 bnd (aK 6 v1 h1) fun v2 h2 =>
 bnd (bH fX h2) fun v3 h3 =>
 bnd (aF 6 v3 v2 h3) fun _ h4 =>
 bnd (aK 6 v3 h4) fun v5 h5 =>
 bnd (r 208 [(env 0), v5] h5) fun v6 h6 =>
 bnd (aD .eql (env 24) (env 6) h6) fun v7 h7 =>
 bnd (gD v7 true (aB 0 v3 h7) h7) fun v8 h8 =>
 bnd (gD v7 true (aA v8 h8) h8) fun v9 h9 =>
 bnd (gD v7 true (aD .eql v9 (aE 10) h9) h9) fun v10 h10 =>
 bnd (aL v7 v10 (.b false) h10) fun v11 h11 =>
 aS v11 (
 some (.t [], h11)) (
 bnd (aD .eql (env 24) (env 6) h11) fun v12 h12 =>
 bnd (gD v12 true (some ((env 2), h12)) h12) fun v13 h13 =>
 bnd (aL v12 v13 (.b false) h13) fun v14 h14 =>
 aS v14 (
 bnd (r 209 [(env 0), (aE 20), (aE 0), (aE 0)] h14) fun v15 h15 =>
 some (.t [], h15)) (
 bnd (aB 0 v3 h14) fun v16 h16 =>
 bnd (aA v16 h16) fun v17 h17 =>
 bnd (aD .eql v17 (aE 10) h17) fun v18 h18 =>
 aS v18 (
     jR r n kk8 (env 0) (env 2) (env 6) (env 22) (env 23) (env 24) h18) (
 bnd (r 209 [(env 0), (aE 12), (aE 0), (aE 0)] h18) fun v19 h19 =>
     jR r n kk8 (env 0) (env 2) (env 6) (env 22) (env 23) (env 24) h19)))) = (K6 (sA r n kk8) 0 2 6 22 23 24) := by kernel_rfl
theorem bDj (kk8 : eP) : D160 r n sC (xs x0 0 (K2 (cF r n) 0 2)) (K6 kk8 0 2 6 22 23 24) = (K6 (sA r n kk8) 0 2 6 22 23 24) :=
 (bAa r n kk8).trans
 ((aYb r n kk8 (jR r n kk8) (cF r n)).trans (aJc r n kk8))
theorem bCm (kk8 : eP) : D160 r n qE (xs x0 0 (K2 (cF r n) 0 2)) (K6 kk8 0 2 6 22 23 24) = D160 r n aTm (xs x0 0 (K2 (cF r n) 0 2)) (K6 (sA r n kk8) 0 2 6 22 23 24) :=
 congrArg (fun k => D160 r n aTm (xs x0 0 (K2 (cF r n) 0 2)) k) (bDj r n kk8)
theorem bZs (kk8 : eP) : D160 r n qE (xs x0 0 (K2 (cF r n) 0 2)) (K6 kk8 0 2 6 22 23 24) = (K7 (aNr r n kk8) 0 2 6 22 23 24 25) :=
 (bCm r n kk8).trans
 ((by kernel_rfl))
theorem bAv (kk8 : eP) : D160 r n gJ (xs x0 0 (K2 (cF r n) 0 2)) (K6 kk8 0 2 6 22 23 24) = D160 r n aQk (xs x0 0 (K2 (cF r n) 0 2)) (K7 (aNr r n kk8) 0 2 6 22 23 24 25) :=
 congrArg (fun k => D160 r n aQk (xs x0 0 (K2 (cF r n) 0 2)) k) (bZs r n kk8)
theorem bEe (kk8 : eP) : D160 r n gJ (xs x0 0 (K2 (cF r n) 0 2)) (K6 kk8 0 2 6 22 23 24) = (K6 (aQs r n kk8) 0 2 6 22 23 24) :=
 (bAv r n kk8).trans
 ((by kernel_rfl))
theorem bKu (m : Nat) : aM (fun kk => D160 r n gJ (xs x0 0 (K2 (cF r n) 0 2)) kk) m = (K6 (qV r n m) 0 2 6 22 23 24) := by
 induction m with
 | zero => exact (by kernel_rfl : aM (fun kk => D160 r n gJ (xs x0 0 (K2 (cF r n) 0 2)) kk) 0 = (K6 (qV r n 0) 0 2 6 22 23 24))
 | succ m ih =>
  refine (by kernel_rfl : aM (fun kk => D160 r n gJ (xs x0 0 (K2 (cF r n) 0 2)) kk) (m + 1) = D160 r n gJ (xs x0 0 (K2 (cF r n) 0 2)) (aM (fun kk => D160 r n gJ (xs x0 0 (K2 (cF r n) 0 2)) kk) m)).trans ?_
  rw [ih]
  exact (bEe r n (qV r n m)).trans (by kernel_rfl)
theorem cCn : D160 r n rX (xs x0 0 (K2 (cF r n) 0 2)) (K2 (cF r n) 0 2) = (K6 (bAz r n) 0 2 6 22 23 24) :=
 (by kernel_rfl : D160 r n rX (xs x0 0 (K2 (cF r n) 0 2)) (K2 (cF r n) 0 2) = aM (fun kk => D160 r n gJ (xs x0 0 (K2 (cF r n) 0 2)) kk) n).trans ((bKu r n n).trans (by kernel_rfl))
theorem bWu : D160 r n aLu x0 (K2 (cF r n) 0 2) = (K6 (aKs r n) 0 2 6 22 23 24) :=
 (by kernel_rfl : D160 r n aLu x0 (K2 (cF r n) 0 2) = D160 r n rX (xs x0 0 (K2 (cF r n) 0 2)) (K2 (cF r n) 0 2)).trans
 ((cCn r n).trans (by kernel_rfl))
theorem bAq : D160 r n aCb x0 r160 = D160 r n vE x0 (K2 (cF r n) 0 2) :=
 congrArg (fun k => D160 r n vE x0 k) (cCf r n)
theorem bHl : D160 r n vE x0 (K2 (cF r n) 0 2) = D160 r n aTo x0 (K6 (aKs r n) 0 2 6 22 23 24) :=
 congrArg (fun k => D160 r n aTo x0 k) (bWu r n)
theorem bWz : D160 r n aCb x0 r160 = (K4 (aKp r n) 0 2 4 6) :=
 (bAq r n).trans
 ((bHl r n).trans
 ((by kernel_rfl)))
theorem bHd : D160 r n aEw x0 r160 = D160 r n aUm x0 (K4 (aKp r n) 0 2 4 6) :=
 congrArg (fun k => D160 r n aUm x0 k) (bWz r n)
theorem cEo : D160 r n aEw x0 r160 = (K3 (aOt r n) 0 2 4) :=
 (bHd r n).trans
 ((by kernel_rfl))
theorem bFi : D160 r n aBy x0 r160 = D160 r n aQu x0 (K3 (aOt r n) 0 2 4) :=
 congrArg (fun k => D160 r n aQu x0 k) (cEo r n)
theorem cDj : D160 r n aBy x0 r160 = (K3 (aPg r n) 0 2 4) :=
 (bFi r n).trans
 ((by kernel_rfl))
theorem aWs : D160 r n zU x0 r160 = D160 r n aUp x0 (K3 (aPg r n) 0 2 4) :=
 congrArg (fun k => D160 r n aUp x0 k) (cDj r n)
theorem bSf : D160 r n zU x0 r160 = (K3 (tH r n) 0 2 4) :=
 (aWs r n).trans
 ((by kernel_rfl))
theorem bVt : D160 r n c160 x0 r160 = D160 r n yI x0 (K3 (tH r n) 0 2 4) :=
 congrArg (fun k => D160 r n yI x0 k) (bSf r n)
theorem bYb (q0 : lF) : D160 r n yI x0 (K3 q0 0 2 4) = fun (env : aU) (h : Hp) =>
 bnd (bR (env 1) h) fun v1 h1 =>
  q0 (env 0) (env 2) v1 h1 := by kernel_rfl
theorem bFu : (fun (env : aU) (h : Hp) =>
 bnd (bR (env 1) h) fun v1 h1 =>
  tH r n (env 0) (env 2) v1 h1) = (K3 (s160 r n) 0 1 2) := by kernel_rfl
theorem cSz : D160 r n c160 x0 r160 = (K3 (s160 r n) 0 1 2) :=
 (bVt r n).trans
 ((bYb r n (tH r n)).trans (bFu r n))
theorem cQi : aG CF r n 160 args h = s160 r n (aR args 0) (aR args 1) (aR args 2) h :=
 (by kernel_rfl : aG CF r n 160 args h = D160 r n c160 x0 r160 (aJ args) h).trans ((congrFun (congrFun (cSz r n) (aJ args)) h).trans (by kernel_rfl))
noncomputable def dM (r : RT) (n : Nat) (x4 : DV) (h0 : Hp) : aH :=
 some (.t [x4, (aE 0)], h0)
noncomputable def aEj (r : RT) (n : Nat) (kk6 : dK) (x4 x10 x11 x12 : DV) (h0 : Hp) : aH :=
 bnd (aD .lss x12 x11 h0) fun v1 h1 =>
 aS v1 (
 bnd (aI 3 x10 x12 h1) fun v2 h2 =>
 bnd (aK 3 v2 h2) fun v3 h3 =>
 bnd (bH [(aE 0), (aE 0), (aE 0)] h3) fun v4 h4 =>
 bnd (aF 3 v4 v3 h4) fun _ h5 =>
 bnd (aK 3 v4 h5) fun v6 h6 =>
 bnd (r 149 [v6] h6) fun v7 h7 =>
 bnd (fY .not v7 h7) fun v8 h8 =>
 aS v8 (
 some (.t [.l0, (aE 19)], h8)) (
 bnd (aB 0 v4 h8) fun v9 h9 =>
 bnd (aA v9 h9) fun v10 h10 =>
 bnd (eS .u8 v10 h10) fun v11 h11 =>
 bnd (aB 1 v4 h11) fun v12 h12 =>
 bnd (aA v12 h12) fun v13 h13 =>
 bnd (eS .u8 v13 h13) fun v14 h14 =>
 bnd (aB 2 v4 h14) fun v15 h15 =>
 bnd (aA v15 h15) fun v16 h16 =>
 bnd (eS .u8 v16 h16) fun v17 h17 =>
 bnd (aP [(.i .u8 (Int.ofNat 0)), (.i .u8 (Int.ofNat 0)), (.i .u8 (Int.ofNat 0))] 3 [(0, 1, v11), (1, 1, v14), (2, 1, v17)] h17) fun v18 h18 =>
 bnd (aZ 1 1 x4 v18 h18) fun v19 h19 =>
 bnd (aD .add x12 (aE 1) h19) fun v20 h20 =>
    kk6 v19 x10 x11 v20 h20)) (
      dM r n x4 h1)
noncomputable def sL (r : RT) (n : Nat) (m : Nat) : dK :=
 Nat.rec (motive := fun _ => dK) (fun _ _ _ _ _ => none) (fun _ ih => aEj r n ih) m
noncomputable def bPk (r : RT) (n : Nat) : dK := sL r n n
noncomputable def aOb (r : RT) (n : Nat) (x4 x10 x11 x12 : DV) (h0 : Hp) : aH :=
 bPk r n x4 x10 x11 x12 h0
noncomputable def aPo (r : RT) (n : Nat) (x0 x4 : DV) (h0 : Hp) : aH :=
 bnd (bQ x0 h0) fun v1 h1 =>
  aOb r n x4 x0 v1 (aE 0) h1
noncomputable def aJb (r : RT) (n : Nat) (x0 : DV) (h0 : Hp) : aH :=
 aPo r n x0 .l0 h0
noncomputable def aPe (r : RT) (n : Nat) (x0 : DV) (h0 : Hp) : aH :=
 bnd (bQ x0 h0) fun v1 h1 =>
 bnd (aD .gtr v1 (aE 400) h1) fun v2 h2 =>
 aS v2 (
 some (.t [.l0, (aE 19)], h2)) (
  aJb r n x0 h2)
noncomputable def s161 (r : RT) (n : Nat) (x0 : DV) (h0 : Hp) : aH :=
 aPe r n x0 h0
noncomputable abbrev c161 : Code := cf Tryz.f161
noncomputable abbrev yJ : Code := cR c161
noncomputable abbrev aDw : Code := cR yJ
noncomputable abbrev aDz : Code := cR aDw
noncomputable abbrev cGv : Code := cR aDz
noncomputable abbrev uZ : Code := cL aDz
noncomputable abbrev aJm : Code := cR uZ
noncomputable abbrev aDm : Code := cL aJm
noncomputable abbrev kN : Code := cL aDm
noncomputable abbrev bHy : Code := cL uZ
noncomputable abbrev aQy : Code := cL aDw
noncomputable abbrev aVg : Code := cL yJ
noncomputable abbrev aSr : Code := cL c161
noncomputable abbrev r161 : K := aN CF Tryz.f161
noncomputable def D161 (r : RT) (n : Nat) (c : Code) (X : Nat → K) (k : K) : K := aO CF r 33 n c X r161 k
theorem cDc : D161 r n cGv x0 r161 = (K1 (dM r n) 4) :=
 (by kernel_rfl)
theorem bEh (kk6 : dK) (q0 : TT1) : D161 r n kN (xs x0 0 (K1 q0 4)) (K4 kk6 4 10 11 12) = fun (env : aU) (h : Hp) =>
 bnd (aD .lss (env 12) (env 11) h) fun v1 h1 =>
 aS v1 (
 bnd (aI 3 (env 10) (env 12) h1) fun v2 h2 =>
 bnd (aK 3 v2 h2) fun v3 h3 =>
 bnd (bH [(aE 0), (aE 0), (aE 0)] h3) fun v4 h4 =>
 bnd (aF 3 v4 v3 h4) fun _ h5 =>
 bnd (aK 3 v4 h5) fun v6 h6 =>
 bnd (r 149 [v6] h6) fun v7 h7 =>
 bnd (fY .not v7 h7) fun v8 h8 =>
 aS v8 (
 some (.t [.l0, (aE 19)], h8)) (
 bnd (aB 0 v4 h8) fun v9 h9 =>
 bnd (aA v9 h9) fun v10 h10 =>
 bnd (eS .u8 v10 h10) fun v11 h11 =>
 bnd (aB 1 v4 h11) fun v12 h12 =>
 bnd (aA v12 h12) fun v13 h13 =>
 bnd (eS .u8 v13 h13) fun v14 h14 =>
 bnd (aB 2 v4 h14) fun v15 h15 =>
 bnd (aA v15 h15) fun v16 h16 =>
 bnd (eS .u8 v16 h16) fun v17 h17 =>
 bnd (aP [(.i .u8 (Int.ofNat 0)), (.i .u8 (Int.ofNat 0)), (.i .u8 (Int.ofNat 0))] 3 [(0, 1, v11), (1, 1, v14), (2, 1, v17)] h17) fun v18 h18 =>
 bnd (aZ 1 1 (env 4) v18 h18) fun v19 h19 =>
 bnd (aD .add (env 12) (aE 1) h19) fun v20 h20 =>
    kk6 v19 (env 10) (env 11) v20 h20)) (
      q0 (env 4) h1) := by kernel_rfl
theorem aZe (kk6 : dK) : (fun (env : aU) (h : Hp) =>
 bnd (aD .lss (env 12) (env 11) h) fun v1 h1 =>
 aS v1 (
 bnd (aI 3 (env 10) (env 12) h1) fun v2 h2 =>
 bnd (aK 3 v2 h2) fun v3 h3 =>
 bnd (bH [(aE 0), (aE 0), (aE 0)] h3) fun v4 h4 =>
 bnd (aF 3 v4 v3 h4) fun _ h5 =>
 bnd (aK 3 v4 h5) fun v6 h6 =>
 bnd (r 149 [v6] h6) fun v7 h7 =>
 bnd (fY .not v7 h7) fun v8 h8 =>
 aS v8 (
 some (.t [.l0, (aE 19)], h8)) (
 bnd (aB 0 v4 h8) fun v9 h9 =>
 bnd (aA v9 h9) fun v10 h10 =>
 bnd (eS .u8 v10 h10) fun v11 h11 =>
 bnd (aB 1 v4 h11) fun v12 h12 =>
 bnd (aA v12 h12) fun v13 h13 =>
 bnd (eS .u8 v13 h13) fun v14 h14 =>
 bnd (aB 2 v4 h14) fun v15 h15 =>
 bnd (aA v15 h15) fun v16 h16 =>
 bnd (eS .u8 v16 h16) fun v17 h17 =>
 bnd (aP [(.i .u8 (Int.ofNat 0)), (.i .u8 (Int.ofNat 0)), (.i .u8 (Int.ofNat 0))] 3 [(0, 1, v11), (1, 1, v14), (2, 1, v17)] h17) fun v18 h18 =>
 bnd (aZ 1 1 (env 4) v18 h18) fun v19 h19 =>
 bnd (aD .add (env 12) (aE 1) h19) fun v20 h20 =>
    kk6 v19 (env 10) (env 11) v20 h20)) (
      dM r n (env 4) h1)) = (K4 (aEj r n kk6) 4 10 11 12) := by kernel_rfl
theorem bBv (kk6 : dK) : D161 r n kN (xs x0 0 (K1 (dM r n) 4)) (K4 kk6 4 10 11 12) = (K4 (aEj r n kk6) 4 10 11 12) :=
 (bEh r n kk6 (dM r n)).trans (aZe r n kk6)
theorem bKa (m : Nat) : aM (fun kk => D161 r n kN (xs x0 0 (K1 (dM r n) 4)) kk) m = (K4 (sL r n m) 4 10 11 12) := by
 induction m with
 | zero => exact (by kernel_rfl : aM (fun kk => D161 r n kN (xs x0 0 (K1 (dM r n) 4)) kk) 0 = (K4 (sL r n 0) 4 10 11 12))
 | succ m ih =>
  refine (by kernel_rfl : aM (fun kk => D161 r n kN (xs x0 0 (K1 (dM r n) 4)) kk) (m + 1) = D161 r n kN (xs x0 0 (K1 (dM r n) 4)) (aM (fun kk => D161 r n kN (xs x0 0 (K1 (dM r n) 4)) kk) m)).trans ?_
  rw [ih]
  exact (bBv r n (sL r n m)).trans (by kernel_rfl)
theorem cEj : D161 r n aDm (xs x0 0 (K1 (dM r n) 4)) (K1 (dM r n) 4) = (K4 (bPk r n) 4 10 11 12) :=
 (by kernel_rfl : D161 r n aDm (xs x0 0 (K1 (dM r n) 4)) (K1 (dM r n) 4) = aM (fun kk => D161 r n kN (xs x0 0 (K1 (dM r n) 4)) kk) n).trans ((bKa r n n).trans (by kernel_rfl))
theorem bUu : D161 r n aJm x0 (K1 (dM r n) 4) = (K4 (aOb r n) 4 10 11 12) :=
 (by kernel_rfl : D161 r n aJm x0 (K1 (dM r n) 4) = D161 r n aDm (xs x0 0 (K1 (dM r n) 4)) (K1 (dM r n) 4)).trans
 ((cEj r n).trans (by kernel_rfl))
theorem bNk : D161 r n aDz x0 r161 = D161 r n uZ x0 (K1 (dM r n) 4) :=
 congrArg (fun k => D161 r n uZ x0 k) (cDc r n)
theorem bOk : D161 r n uZ x0 (K1 (dM r n) 4) = D161 r n bHy x0 (K4 (aOb r n) 4 10 11 12) :=
 congrArg (fun k => D161 r n bHy x0 k) (bUu r n)
theorem bWs : D161 r n aDz x0 r161 = (K2 (aPo r n) 0 4) :=
 (bNk r n).trans
 ((bOk r n).trans
 ((by kernel_rfl)))
theorem bKm : D161 r n aDw x0 r161 = D161 r n aQy x0 (K2 (aPo r n) 0 4) :=
 congrArg (fun k => D161 r n aQy x0 k) (bWs r n)
theorem bSm : D161 r n aDw x0 r161 = (K1 (aJb r n) 0) :=
 (bKm r n).trans
 ((by kernel_rfl))
theorem bJc : D161 r n yJ x0 r161 = D161 r n aVg x0 (K1 (aJb r n) 0) :=
 congrArg (fun k => D161 r n aVg x0 k) (bSm r n)
theorem cCr : D161 r n yJ x0 r161 = (K1 (aPe r n) 0) :=
 (bJc r n).trans
 ((by kernel_rfl))
theorem cGb : D161 r n c161 x0 r161 = D161 r n aSr x0 (K1 (aPe r n) 0) :=
 congrArg (fun k => D161 r n aSr x0 k) (cCr r n)
theorem cXj : D161 r n c161 x0 r161 = (K1 (s161 r n) 0) :=
 (cGb r n).trans
 ((by kernel_rfl))
theorem cPp : aG CF r n 161 args h = s161 r n (aR args 0) h :=
 (by kernel_rfl : aG CF r n 161 args h = D161 r n c161 x0 r161 (aJ args) h).trans ((congrFun (congrFun (cXj r n) (aJ args)) h).trans (by kernel_rfl))
noncomputable def dY (r : RT) (n : Nat) (x0 x6 : DV) (h0 : Hp) : aH :=
 bnd (r 45 [x0, x6] h0) fun v1 h1 =>
 bnd (aC 0 v1 h1) fun v2 h2 =>
 bnd (aC 1 v1 h2) fun v3 h3 =>
 some (.t [v2, v3], h3)
noncomputable def aDh (r : RT) (n : Nat) (kk4 : lF) (x0 x1 x6 : DV) (h0 : Hp) : aH :=
 bnd (bQ x1 h0) fun v1 h1 =>
 bnd (aD .gtr v1 (aE 0) h1) fun v2 h2 =>
 aS v2 (
 bnd (bQ x1 h2) fun v3 h3 =>
 bnd (aMj v3 (aE 240) h3) fun v4 h4 =>
 bnd (r 15 [x0, (aE 10)] h4) fun v5 h5 =>
 bnd (cJ 1 x1 none (some v4) h5) fun v6 h6 =>
 cnd (bI (cJ 1 x1 none (some v4) h4) v6 && true) (
 bnd (gI v6 h6) fun v7 h7 =>
 cnd (bI (gI v6 h4) v7 && true) (
 bnd (r 49 [x0, v5, v7] h7) fun v8 h8 =>
 bnd (aC 0 v8 h8) fun v9 h9 =>
 bnd (aC 1 v8 h9) fun v10 h10 =>
 bnd (aD .neq v10 (aE 0) h10) fun v11 h11 =>
 aS v11 (
 some (.t [(aE 0), v10], h11)) (
 bnd (bG (bS 0 h11.next) [(aE 0)] 1 [(0, 1, v9)] (resv 1 h11)) fun v12 h12 =>
 bnd (aZ 1 8 x6 v12 h12) fun v13 h13 =>
 bnd (cJ 1 x1 (some v4) none h13) fun v14 h14 =>
 cnd (bI (cJ 1 x1 (some v4) none (resv 1 h11)) v14 && true) (
    kk4 x0 v14 v13 h14))))) (
      dY r n x0 x6 h2)
noncomputable def rK (r : RT) (n : Nat) (m : Nat) : lF :=
 Nat.rec (motive := fun _ => lF) (fun _ _ _ _ => none) (fun _ ih => aDh r n ih) m
noncomputable def bFy (r : RT) (n : Nat) : lF := rK r n n
noncomputable def aMh (r : RT) (n : Nat) (x0 x1 x6 : DV) (h0 : Hp) : aH :=
 bFy r n x0 x1 x6 h0
noncomputable def aNw (r : RT) (n : Nat) (x0 x1 : DV) (h0 : Hp) : aH :=
 aMh r n x0 x1 .l0 h0
noncomputable def s162 (r : RT) (n : Nat) (x0 x1 : DV) (h0 : Hp) : aH :=
 aNw r n x0 x1 h0
noncomputable abbrev c162 : Code := cf Tryz.f162
noncomputable abbrev xF : Code := cR c162
noncomputable abbrev aBn : Code := cR xF
noncomputable abbrev cLy : Code := cR aBn
noncomputable abbrev aFq : Code := cL aBn
noncomputable abbrev aAc : Code := cL aFq
noncomputable abbrev kV : Code := cL aAc
noncomputable abbrev bJu : Code := cL xF
noncomputable abbrev bDz : Code := cL c162
noncomputable abbrev r162 : K := aN CF Tryz.f162
noncomputable def D162 (r : RT) (n : Nat) (c : Code) (X : Nat → K) (k : K) : K := aO CF r 42 n c X r162 k
theorem cDg : D162 r n cLy x0 r162 = (K2 (dY r n) 0 6) :=
 (by kernel_rfl)
theorem bGt (kk4 : lF) (q0 : fW) : D162 r n kV (xs x0 0 (K2 q0 0 6)) (K3 kk4 0 1 6) = fun (env : aU) (h : Hp) =>
 bnd (bQ (env 1) h) fun v1 h1 =>
 bnd (aD .gtr v1 (aE 0) h1) fun v2 h2 =>
 aS v2 (
 bnd (bQ (env 1) h2) fun v3 h3 =>
 bnd (aMj v3 (aE 240) h3) fun v4 h4 =>
 bnd (r 15 [(env 0), (aE 10)] h4) fun v5 h5 =>
 bnd (cJ 1 (env 1) none (some v4) h5) fun v6 h6 =>
 cnd (bI (cJ 1 (env 1) none (some v4) h4) v6 && true) (
 bnd (gI v6 h6) fun v7 h7 =>
 cnd (bI (gI v6 h4) v7 && true) (
 bnd (r 49 [(env 0), v5, v7] h7) fun v8 h8 =>
 bnd (aC 0 v8 h8) fun v9 h9 =>
 bnd (aC 1 v8 h9) fun v10 h10 =>
 bnd (aD .neq v10 (aE 0) h10) fun v11 h11 =>
 aS v11 (
 some (.t [(aE 0), v10], h11)) (
 bnd (bG (bS 0 h11.next) [(aE 0)] 1 [(0, 1, v9)] (resv 1 h11)) fun v12 h12 =>
 bnd (aZ 1 8 (env 6) v12 h12) fun v13 h13 =>
 bnd (cJ 1 (env 1) (some v4) none h13) fun v14 h14 =>
 cnd (bI (cJ 1 (env 1) (some v4) none (resv 1 h11)) v14 && true) (
    kk4 (env 0) v14 v13 h14))))) (
      q0 (env 0) (env 6) h2) := by kernel_rfl
theorem aWu (kk4 : lF) : (fun (env : aU) (h : Hp) =>
 bnd (bQ (env 1) h) fun v1 h1 =>
 bnd (aD .gtr v1 (aE 0) h1) fun v2 h2 =>
 aS v2 (
 bnd (bQ (env 1) h2) fun v3 h3 =>
 bnd (aMj v3 (aE 240) h3) fun v4 h4 =>
 bnd (r 15 [(env 0), (aE 10)] h4) fun v5 h5 =>
 bnd (cJ 1 (env 1) none (some v4) h5) fun v6 h6 =>
 cnd (bI (cJ 1 (env 1) none (some v4) h4) v6 && true) (
 bnd (gI v6 h6) fun v7 h7 =>
 cnd (bI (gI v6 h4) v7 && true) (
 bnd (r 49 [(env 0), v5, v7] h7) fun v8 h8 =>
 bnd (aC 0 v8 h8) fun v9 h9 =>
 bnd (aC 1 v8 h9) fun v10 h10 =>
 bnd (aD .neq v10 (aE 0) h10) fun v11 h11 =>
 aS v11 (
 some (.t [(aE 0), v10], h11)) (
 bnd (bG (bS 0 h11.next) [(aE 0)] 1 [(0, 1, v9)] (resv 1 h11)) fun v12 h12 =>
 bnd (aZ 1 8 (env 6) v12 h12) fun v13 h13 =>
 bnd (cJ 1 (env 1) (some v4) none h13) fun v14 h14 =>
 cnd (bI (cJ 1 (env 1) (some v4) none (resv 1 h11)) v14 && true) (
    kk4 (env 0) v14 v13 h14))))) (
      dY r n (env 0) (env 6) h2)) = (K3 (aDh r n kk4) 0 1 6) := by kernel_rfl
theorem bNd (kk4 : lF) : D162 r n kV (xs x0 0 (K2 (dY r n) 0 6)) (K3 kk4 0 1 6) = (K3 (aDh r n kk4) 0 1 6) :=
 (bGt r n kk4 (dY r n)).trans (aWu r n kk4)
theorem bRk (m : Nat) : aM (fun kk => D162 r n kV (xs x0 0 (K2 (dY r n) 0 6)) kk) m = (K3 (rK r n m) 0 1 6) := by
 induction m with
 | zero => exact (by kernel_rfl : aM (fun kk => D162 r n kV (xs x0 0 (K2 (dY r n) 0 6)) kk) 0 = (K3 (rK r n 0) 0 1 6))
 | succ m ih =>
  refine (by kernel_rfl : aM (fun kk => D162 r n kV (xs x0 0 (K2 (dY r n) 0 6)) kk) (m + 1) = D162 r n kV (xs x0 0 (K2 (dY r n) 0 6)) (aM (fun kk => D162 r n kV (xs x0 0 (K2 (dY r n) 0 6)) kk) m)).trans ?_
  rw [ih]
  exact (bNd r n (rK r n m)).trans (by kernel_rfl)
theorem cBt : D162 r n aAc (xs x0 0 (K2 (dY r n) 0 6)) (K2 (dY r n) 0 6) = (K3 (bFy r n) 0 1 6) :=
 (by kernel_rfl : D162 r n aAc (xs x0 0 (K2 (dY r n) 0 6)) (K2 (dY r n) 0 6) = aM (fun kk => D162 r n kV (xs x0 0 (K2 (dY r n) 0 6)) kk) n).trans ((bRk r n n).trans (by kernel_rfl))
theorem bCe : D162 r n aBn x0 r162 = D162 r n aFq x0 (K2 (dY r n) 0 6) :=
 congrArg (fun k => D162 r n aFq x0 k) (cDg r n)
theorem bUs : D162 r n aBn x0 r162 = (K3 (aMh r n) 0 1 6) :=
 (bCe r n).trans
 ((by kernel_rfl : D162 r n aFq x0 (K2 (dY r n) 0 6) = D162 r n aAc (xs x0 0 (K2 (dY r n) 0 6)) (K2 (dY r n) 0 6)).trans
 ((cBt r n).trans (by kernel_rfl)))
theorem bFv : D162 r n xF x0 r162 = D162 r n bJu x0 (K3 (aMh r n) 0 1 6) :=
 congrArg (fun k => D162 r n bJu x0 k) (bUs r n)
theorem bYo : D162 r n xF x0 r162 = (K2 (aNw r n) 0 1) :=
 (bFv r n).trans
 ((by kernel_rfl))
theorem cKv : D162 r n c162 x0 r162 = D162 r n bDz x0 (K2 (aNw r n) 0 1) :=
 congrArg (fun k => D162 r n bDz x0 k) (bYo r n)
theorem cWv : D162 r n c162 x0 r162 = (K2 (s162 r n) 0 1) :=
 (cKv r n).trans
 ((by kernel_rfl))
theorem cQh : aG CF r n 162 args h = s162 r n (aR args 0) (aR args 1) h :=
 (by kernel_rfl : aG CF r n 162 args h = D162 r n c162 x0 r162 (aJ args) h).trans ((congrFun (congrFun (cWv r n) (aJ args)) h).trans (by kernel_rfl))
noncomputable def eC (r : RT) (n : Nat) (h0 : Hp) : aH :=
 some ((.i .i64 (Int.negSucc 0)), h0)
noncomputable def aVh (r : RT) (n : Nat) (kk4 : dK) (x0 x1 x7 x8 : DV) (h0 : Hp) : aH :=
 bnd (aD .lss x8 x7 h0) fun v1 h1 =>
 aS v1 (
 bnd (aI 4 x0 x8 h1) fun v2 h2 =>
 bnd (aK 4 v2 h2) fun v3 h3 =>
 bnd (cV CF r x1 [v3] h3) fun v4 h4 =>
 aS v4 (
 some (x8, h4)) (
 bnd (aD .add x8 (aE 1) h4) fun v5 h5 =>
    kk4 x0 x1 x7 v5 h5)) (
      eC r n h1)
noncomputable def qU (r : RT) (n : Nat) (m : Nat) : dK :=
 Nat.rec (motive := fun _ => dK) (fun _ _ _ _ _ => none) (fun _ ih => aVh r n ih) m
noncomputable def bLh (r : RT) (n : Nat) : dK := qU r n n
noncomputable def aKd (r : RT) (n : Nat) (x0 x1 x7 x8 : DV) (h0 : Hp) : aH :=
 bLh r n x0 x1 x7 x8 h0
noncomputable def aOn (r : RT) (n : Nat) (x0 x1 : DV) (h0 : Hp) : aH :=
 bnd (bQ x0 h0) fun v1 h1 =>
  aKd r n x0 x1 v1 (aE 0) h1
noncomputable def s187 (r : RT) (n : Nat) (x0 x1 : DV) (h0 : Hp) : aH :=
 aOn r n x0 x1 h0
noncomputable abbrev c187 : Code := cf Tryz.f187
noncomputable abbrev aAi : Code := cR c187
noncomputable abbrev cNj : Code := cR aAi
noncomputable abbrev sX : Code := cL aAi
noncomputable abbrev aJg : Code := cR sX
noncomputable abbrev aCv : Code := cL aJg
noncomputable abbrev mK : Code := cL aCv
noncomputable abbrev bMy : Code := cL sX
noncomputable abbrev bQw : Code := cL c187
noncomputable abbrev r187 : K := aN CF Tryz.f187
noncomputable def D187 (r : RT) (n : Nat) (c : Code) (X : Nat → K) (k : K) : K := aO CF r 19 n c X r187 k
theorem bWl : D187 r n cNj x0 r187 = (K0 (eC r n)) :=
 (by kernel_rfl)
theorem bCp (kk4 : dK) : D187 r n mK (xs x0 0 (K0 (eC r n))) (K4 kk4 0 1 7 8) = (K4 (aVh r n kk4) 0 1 7 8) :=
 (by kernel_rfl)
theorem bHq (m : Nat) : aM (fun kk => D187 r n mK (xs x0 0 (K0 (eC r n))) kk) m = (K4 (qU r n m) 0 1 7 8) := by
 induction m with
 | zero => exact (by kernel_rfl : aM (fun kk => D187 r n mK (xs x0 0 (K0 (eC r n))) kk) 0 = (K4 (qU r n 0) 0 1 7 8))
 | succ m ih =>
  refine (by kernel_rfl : aM (fun kk => D187 r n mK (xs x0 0 (K0 (eC r n))) kk) (m + 1) = D187 r n mK (xs x0 0 (K0 (eC r n))) (aM (fun kk => D187 r n mK (xs x0 0 (K0 (eC r n))) kk) m)).trans ?_
  rw [ih]
  exact (bCp r n (qU r n m)).trans (by kernel_rfl)
theorem bWa : D187 r n aCv (xs x0 0 (K0 (eC r n))) (K0 (eC r n)) = (K4 (bLh r n) 0 1 7 8) :=
 (by kernel_rfl : D187 r n aCv (xs x0 0 (K0 (eC r n))) (K0 (eC r n)) = aM (fun kk => D187 r n mK (xs x0 0 (K0 (eC r n))) kk) n).trans ((bHq r n n).trans (by kernel_rfl))
theorem bSi : D187 r n aJg x0 (K0 (eC r n)) = (K4 (aKd r n) 0 1 7 8) :=
 (by kernel_rfl : D187 r n aJg x0 (K0 (eC r n)) = D187 r n aCv (xs x0 0 (K0 (eC r n))) (K0 (eC r n))).trans
 ((bWa r n).trans (by kernel_rfl))
theorem bRh : D187 r n aAi x0 r187 = D187 r n sX x0 (K0 (eC r n)) :=
 congrArg (fun k => D187 r n sX x0 k) (bWl r n)
theorem bIv : D187 r n sX x0 (K0 (eC r n)) = D187 r n bMy x0 (K4 (aKd r n) 0 1 7 8) :=
 congrArg (fun k => D187 r n bMy x0 k) (bSi r n)
theorem bRv : D187 r n aAi x0 r187 = (K2 (aOn r n) 0 1) :=
 (bRh r n).trans
 ((bIv r n).trans
 ((by kernel_rfl)))
theorem cOj : D187 r n c187 x0 r187 = D187 r n bQw x0 (K2 (aOn r n) 0 1) :=
 congrArg (fun k => D187 r n bQw x0 k) (bRv r n)
theorem cSe : D187 r n c187 x0 r187 = (K2 (s187 r n) 0 1) :=
 (cOj r n).trans
 ((by kernel_rfl))
theorem cOv : aG CF r n 187 args h = s187 r n (aR args 0) (aR args 1) h :=
 (by kernel_rfl : aG CF r n 187 args h = D187 r n c187 x0 r187 (aJ args) h).trans ((congrFun (congrFun (cSe r n) (aJ args)) h).trans (by kernel_rfl))
noncomputable def bY (r : RT) (n : Nat) (x2 x3 : DV) (h0 : Hp) : aH :=
 some (.t [x2, x3], h0)
noncomputable def cH (r : RT) (n : Nat) (x3 : DV) (h0 : Hp) : aH :=
 bY r n (.b true) x3 h0
noncomputable def cZ (r : RT) (n : Nat) (h0 : Hp) : aH :=
 cH r n (.b true) h0
noncomputable def lU (r : RT) (n : Nat) (x2 x3 : DV) (h0 : Hp) : aH :=
 bY r n x2 x3 h0
noncomputable def kQ (r : RT) (n : Nat) (x2 x3 x11 : DV) (h0 : Hp) : aH :=
 aS x11 (
  cH r n x3 h0) (
  lU r n x2 x3 h0)
noncomputable def vL (r : RT) (n : Nat) (x2 x3 x4 : DV) (h0 : Hp) : aH :=
 bnd (aD .eql x4 (aE 6) h0) fun v1 h1 =>
 aS v1 (
  kQ r n x2 x3 v1 h1) (
 bnd (aD .eql x4 (aE 7) h1) fun v2 h2 =>
 aS v2 (
   kQ r n x2 x3 v2 h2) (
 bnd (aD .eql x4 (aE 8) h2) fun v3 h3 =>
 aS v3 (
    kQ r n x2 x3 v3 h3) (
 bnd (aD .eql x4 (aE 9) h3) fun v4 h4 =>
 aS v4 (
     kQ r n x2 x3 v4 h4) (
 bnd (aD .eql x4 (aE 10) h4) fun v5 h5 =>
 aS v5 (
      kQ r n x2 x3 v5 h5) (
 bnd (aD .eql x4 (aE 11) h5) fun v6 h6 =>
      kQ r n x2 x3 v6 h6)))))
noncomputable def lY (r : RT) (n : Nat) (x2 x3 x4 x5 : DV) (h0 : Hp) : aH :=
 aS x5 (
  cZ r n h0) (
  vL r n x2 x3 x4 h0)
noncomputable def aMr (r : RT) (n : Nat) (x2 x3 x4 : DV) (h0 : Hp) : aH :=
 bnd (aD .eql x4 (aE 14) h0) fun v1 h1 =>
 aS v1 (
  lY r n x2 x3 x4 v1 h1) (
 bnd (aD .eql x4 (aE 15) h1) fun v2 h2 =>
 aS v2 (
   lY r n x2 x3 x4 v2 h2) (
 bnd (aD .eql x4 (aE 16) h2) fun v3 h3 =>
 aS v3 (
    lY r n x2 x3 x4 v3 h3) (
 bnd (aD .eql x4 (aE 17) h3) fun v4 h4 =>
 aS v4 (
     lY r n x2 x3 x4 v4 h4) (
 bnd (aD .eql x4 (aE 18) h4) fun v5 h5 =>
     lY r n x2 x3 x4 v5 h5))))
noncomputable def aMm (r : RT) (n : Nat) (x0 x2 x3 : DV) (h0 : Hp) : aH :=
 aMr r n x2 x3 x0 h0
noncomputable def s189 (r : RT) (n : Nat) (x0 : DV) (h0 : Hp) : aH :=
 aMm r n x0 (.b false) (.b false) h0
noncomputable abbrev c189 : Code := cf Tryz.f189
noncomputable abbrev aFb : Code := cR c189
noncomputable abbrev cGp : Code := cR aFb
noncomputable abbrev vZ : Code := cL aFb
noncomputable abbrev aMx : Code := cR vZ
noncomputable abbrev xS : Code := cL aMx
noncomputable abbrev cNc : Code := cR xS
noncomputable abbrev xI : Code := cL xS
noncomputable abbrev aBq : Code := cL xI
noncomputable abbrev cPn : Code := cR aBq
noncomputable abbrev qY : Code := cL aBq
noncomputable abbrev qJ : Code := cL qY
noncomputable abbrev bVe : Code := cR qJ
noncomputable abbrev nR : Code := cL qJ
noncomputable abbrev sK : Code := cR nR
noncomputable abbrev bZf : Code := cR sK
noncomputable abbrev aTl : Code := cL sK
noncomputable abbrev nI : Code := cL nR
noncomputable abbrev bVb : Code := cR nI
noncomputable abbrev aVw : Code := cL nI
noncomputable abbrev aSy : Code := cL vZ
noncomputable abbrev aQz : Code := cL c189
noncomputable abbrev r189 : K := aN CF Tryz.f189
noncomputable def D189 (r : RT) (n : Nat) (c : Code) (X : Nat → K) (k : K) : K := aO CF r 20 n c X r189 k
theorem cBo : D189 r n cGp x0 r189 = (K2 (bY r n) 2 3) :=
 (by kernel_rfl)
theorem bXs : D189 r n cNc (xs x0 0 (K2 (bY r n) 2 3)) (K2 (bY r n) 2 3) = (K1 (cH r n) 3) :=
 (by kernel_rfl)
theorem cBx : D189 r n cPn (xs (xs x0 0 (K2 (bY r n) 2 3)) 2 (K1 (cH r n) 3)) (K1 (cH r n) 3) = (K0 (cZ r n)) :=
 (by kernel_rfl)
theorem bWe : D189 r n bVe (xs (xs (xs x0 0 (K2 (bY r n) 2 3)) 2 (K1 (cH r n) 3)) 1 (K0 (cZ r n))) (K0 (cZ r n)) = (K2 (lU r n) 2 3) :=
 (by kernel_rfl)
theorem bSd : D189 r n bZf (xs (xs (xs x0 0 (K2 (bY r n) 2 3)) 2 (K1 (cH r n) 3)) 1 (K0 (cZ r n))) (K2 (lU r n) 2 3) = (K3 (kQ r n) 2 3 11) :=
 (by kernel_rfl)
theorem bJh : D189 r n sK (xs (xs (xs x0 0 (K2 (bY r n) 2 3)) 2 (K1 (cH r n) 3)) 1 (K0 (cZ r n))) (K2 (lU r n) 2 3) = D189 r n aTl (xs (xs (xs x0 0 (K2 (bY r n) 2 3)) 2 (K1 (cH r n) 3)) 1 (K0 (cZ r n))) (K3 (kQ r n) 2 3 11) :=
 congrArg (fun k => D189 r n aTl (xs (xs (xs x0 0 (K2 (bY r n) 2 3)) 2 (K1 (cH r n) 3)) 1 (K0 (cZ r n))) k) (bSd r n)
theorem cEe : D189 r n sK (xs (xs (xs x0 0 (K2 (bY r n) 2 3)) 2 (K1 (cH r n) 3)) 1 (K0 (cZ r n))) (K2 (lU r n) 2 3) = (K3 (vL r n) 2 3 4) :=
 (bJh r n).trans
 ((by kernel_rfl))
theorem cDz : D189 r n bVb (xs (xs (xs x0 0 (K2 (bY r n) 2 3)) 2 (K1 (cH r n) 3)) 1 (K0 (cZ r n))) (K3 (vL r n) 2 3 4) = (K4 (lY r n) 2 3 4 5) :=
 (by kernel_rfl)
theorem bGh : D189 r n xS (xs x0 0 (K2 (bY r n) 2 3)) (K2 (bY r n) 2 3) = D189 r n xI (xs x0 0 (K2 (bY r n) 2 3)) (K1 (cH r n) 3) :=
 congrArg (fun k => D189 r n xI (xs x0 0 (K2 (bY r n) 2 3)) k) (bXs r n)
theorem bJx : D189 r n aBq (xs (xs x0 0 (K2 (bY r n) 2 3)) 2 (K1 (cH r n) 3)) (K1 (cH r n) 3) = D189 r n qY (xs (xs x0 0 (K2 (bY r n) 2 3)) 2 (K1 (cH r n) 3)) (K0 (cZ r n)) :=
 congrArg (fun k => D189 r n qY (xs (xs x0 0 (K2 (bY r n) 2 3)) 2 (K1 (cH r n) 3)) k) (cBx r n)
theorem bBi : D189 r n qJ (xs (xs (xs x0 0 (K2 (bY r n) 2 3)) 2 (K1 (cH r n) 3)) 1 (K0 (cZ r n))) (K0 (cZ r n)) = D189 r n nR (xs (xs (xs x0 0 (K2 (bY r n) 2 3)) 2 (K1 (cH r n) 3)) 1 (K0 (cZ r n))) (K2 (lU r n) 2 3) :=
 congrArg (fun k => D189 r n nR (xs (xs (xs x0 0 (K2 (bY r n) 2 3)) 2 (K1 (cH r n) 3)) 1 (K0 (cZ r n))) k) (bWe r n)
theorem bGl : D189 r n nR (xs (xs (xs x0 0 (K2 (bY r n) 2 3)) 2 (K1 (cH r n) 3)) 1 (K0 (cZ r n))) (K2 (lU r n) 2 3) = D189 r n nI (xs (xs (xs x0 0 (K2 (bY r n) 2 3)) 2 (K1 (cH r n) 3)) 1 (K0 (cZ r n))) (K3 (vL r n) 2 3 4) :=
 congrArg (fun k => D189 r n nI (xs (xs (xs x0 0 (K2 (bY r n) 2 3)) 2 (K1 (cH r n) 3)) 1 (K0 (cZ r n))) k) (cEe r n)
theorem bJq : D189 r n nI (xs (xs (xs x0 0 (K2 (bY r n) 2 3)) 2 (K1 (cH r n) 3)) 1 (K0 (cZ r n))) (K3 (vL r n) 2 3 4) = D189 r n aVw (xs (xs (xs x0 0 (K2 (bY r n) 2 3)) 2 (K1 (cH r n) 3)) 1 (K0 (cZ r n))) (K4 (lY r n) 2 3 4 5) :=
 congrArg (fun k => D189 r n aVw (xs (xs (xs x0 0 (K2 (bY r n) 2 3)) 2 (K1 (cH r n) 3)) 1 (K0 (cZ r n))) k) (cDz r n)
theorem bXa : D189 r n aMx x0 (K2 (bY r n) 2 3) = (K3 (aMr r n) 2 3 4) :=
 (by kernel_rfl : D189 r n aMx x0 (K2 (bY r n) 2 3) = D189 r n xS (xs x0 0 (K2 (bY r n) 2 3)) (K2 (bY r n) 2 3)).trans
 ((bGh r n).trans
 ((by kernel_rfl : D189 r n xI (xs x0 0 (K2 (bY r n) 2 3)) (K1 (cH r n) 3) = D189 r n aBq (xs (xs x0 0 (K2 (bY r n) 2 3)) 2 (K1 (cH r n) 3)) (K1 (cH r n) 3)).trans
 ((bJx r n).trans
 ((by kernel_rfl : D189 r n qY (xs (xs x0 0 (K2 (bY r n) 2 3)) 2 (K1 (cH r n) 3)) (K0 (cZ r n)) = D189 r n qJ (xs (xs (xs x0 0 (K2 (bY r n) 2 3)) 2 (K1 (cH r n) 3)) 1 (K0 (cZ r n))) (K0 (cZ r n))).trans
 ((bBi r n).trans
 ((bGl r n).trans
 ((bJq r n).trans
 ((by kernel_rfl)))))))))
theorem bJz : D189 r n aFb x0 r189 = D189 r n vZ x0 (K2 (bY r n) 2 3) :=
 congrArg (fun k => D189 r n vZ x0 k) (cBo r n)
theorem bAp : D189 r n vZ x0 (K2 (bY r n) 2 3) = D189 r n aSy x0 (K3 (aMr r n) 2 3 4) :=
 congrArg (fun k => D189 r n aSy x0 k) (bXa r n)
theorem bVr : D189 r n aFb x0 r189 = (K3 (aMm r n) 0 2 3) :=
 (bJz r n).trans
 ((bAp r n).trans
 ((by kernel_rfl)))
theorem cGn : D189 r n c189 x0 r189 = D189 r n aQz x0 (K3 (aMm r n) 0 2 3) :=
 congrArg (fun k => D189 r n aQz x0 k) (bVr r n)
theorem cSk : D189 r n c189 x0 r189 = (K1 (s189 r n) 0) :=
 (cGn r n).trans
 ((by kernel_rfl))
theorem cPt : aG CF r n 189 args h = s189 r n (aR args 0) h :=
 (by kernel_rfl : aG CF r n 189 args h = D189 r n c189 x0 r189 (aJ args) h).trans ((congrFun (congrFun (cSk r n) (aJ args)) h).trans (by kernel_rfl))
noncomputable def s190 (r : RT) (n : Nat) (x0 x1 : DV) (h0 : Hp) : aH :=
 bnd (aD .eql x0 (aE 0) h0) fun v1 h1 =>
 bnd (gD v1 false (some (x1, h1)) h1) fun v2 h2 =>
 bnd (gD v1 false (some (v2, h2)) h2) fun v3 h3 =>
 bnd (gD v3 true (some (x0, h3)) h3) fun v4 h4 =>
 bnd (gD v3 true (aD .gtr v4 (aE 0) h4) h4) fun v5 h5 =>
 bnd (gD v1 false (aL v3 v5 (.b false) h5) h5) fun v6 h6 =>
 bnd (gD v1 false (some (v6, h6)) h6) fun v7 h7 =>
 bnd (gD v7 true (some (x0, h7)) h7) fun v8 h8 =>
 bnd (gD v7 true (aD .leq v8 (aE 255) h8) h8) fun v9 h9 =>
 bnd (gD v1 false (aL v7 v9 (.b false) h9) h9) fun v10 h10 =>
 bnd (aL v1 (.b true) v10 h10) fun v11 h11 =>
 some (v11, h11)
noncomputable abbrev c190 : Code := cf Tryz.f190
noncomputable abbrev r190 : K := aN CF Tryz.f190
noncomputable def D190 (r : RT) (n : Nat) (c : Code) (X : Nat → K) (k : K) : K := aO CF r 18 n c X r190 k
theorem cWe : D190 r n c190 x0 r190 = (K2 (s190 r n) 0 1) :=
 (by kernel_rfl)
theorem cHp : aG CF r n 190 args h = s190 r n (aR args 0) (aR args 1) h :=
 (by kernel_rfl : aG CF r n 190 args h = D190 r n c190 x0 r190 (aJ args) h).trans ((congrFun (congrFun (cWe r n) (aJ args)) h).trans (by kernel_rfl))
noncomputable def cS (r : RT) (n : Nat) (x4 : DV) (h0 : Hp) : aH :=
 some (x4, h0)
noncomputable def aCf (r : RT) (n : Nat) (kk5 : dK) (x0 x1 x4 x5 : DV) (h0 : Hp) : aH :=
 bnd (aD .add x5 (aE 1) h0) fun v1 h1 =>
  kk5 x0 x1 x4 v1 h1
noncomputable def aLv (r : RT) (n : Nat) (kk5 : dK) (x0 x1 x4 x5 : DV) (h0 : Hp) : aH :=
 bnd (aA x1 h0) fun v1 h1 =>
 bnd (r 192 [v1, x5] h1) fun v2 h2 =>
 bnd (aC 0 v2 h2) fun v3 h3 =>
 bnd (aC 1 v2 h3) fun v4 h4 =>
 bnd (gD v4 true (some (x0, h4)) h4) fun v5 h5 =>
 bnd (gD v4 true (some (v3, h5)) h5) fun v6 h6 =>
 bnd (gD v4 true (aD .lss v5 v6 h6) h6) fun v7 h7 =>
 bnd (aL v4 v7 (.b false) h7) fun v8 h8 =>
 aS v8 (
  aCf r n kk5 x0 x1 x5 x5 h8) (
  aCf r n kk5 x0 x1 x4 x5 h8)
noncomputable def aUv (r : RT) (n : Nat) (kk5 : dK) (x0 x1 x4 x5 : DV) (h0 : Hp) : aH :=
 bnd (aD .add x5 (aE 2) h0) fun v1 h1 =>
 bnd (aD .leq v1 x0 h1) fun v2 h2 =>
 aS v2 (
   aLv r n kk5 x0 x1 x4 x5 h2) (
   cS r n x4 h2)
noncomputable def sN (r : RT) (n : Nat) (m : Nat) : dK :=
 Nat.rec (motive := fun _ => dK) (fun _ _ _ _ _ => none) (fun _ ih => aUv r n ih) m
noncomputable def bIj (r : RT) (n : Nat) : dK := sN r n n
noncomputable def aNp (r : RT) (n : Nat) (x0 x1 x4 x5 : DV) (h0 : Hp) : aH :=
 bIj r n x0 x1 x4 x5 h0
noncomputable def aIz (r : RT) (n : Nat) (x0 x1 x4 : DV) (h0 : Hp) : aH :=
 aNp r n x0 x1 x4 (aE 0) h0
noncomputable def aNb (r : RT) (n : Nat) (x0 x1 : DV) (h0 : Hp) : aH :=
 aIz r n x0 x1 (.i .i64 (Int.negSucc 0)) h0
noncomputable def s191 (r : RT) (n : Nat) (x0 x1 : DV) (h0 : Hp) : aH :=
 aNb r n x0 x1 h0
noncomputable abbrev c191 : Code := cf Tryz.f191
noncomputable abbrev aBc : Code := cR c191
noncomputable abbrev aAq : Code := cR aBc
noncomputable abbrev cId : Code := cR aAq
noncomputable abbrev tD : Code := cL aAq
noncomputable abbrev aOh : Code := cR tD
noncomputable abbrev zF : Code := cL aOh
noncomputable abbrev iP : Code := cL zF
noncomputable abbrev aBj : Code := cR iP
noncomputable abbrev cJd : Code := cR aBj
noncomputable abbrev aRn : Code := cL aBj
noncomputable abbrev aQf : Code := cL iP
noncomputable abbrev aSo : Code := cL tD
noncomputable abbrev aQw : Code := cL aBc
noncomputable abbrev aWd : Code := cL c191
noncomputable abbrev r191 : K := aN CF Tryz.f191
noncomputable def D191 (r : RT) (n : Nat) (c : Code) (X : Nat → K) (k : K) : K := aO CF r 28 n c X r191 k
theorem cAa : D191 r n cId x0 r191 = (K1 (cS r n) 4) :=
 (by kernel_rfl)
theorem bWm (kk5 : dK) : D191 r n cJd (xs x0 0 (K1 (cS r n) 4)) (K4 kk5 0 1 4 5) = (K4 (aCf r n kk5) 0 1 4 5) :=
 (by kernel_rfl)
theorem bDq (kk5 : dK) : D191 r n aBj (xs x0 0 (K1 (cS r n) 4)) (K4 kk5 0 1 4 5) = D191 r n aRn (xs x0 0 (K1 (cS r n) 4)) (K4 (aCf r n kk5) 0 1 4 5) :=
 congrArg (fun k => D191 r n aRn (xs x0 0 (K1 (cS r n) 4)) k) (bWm r n kk5)
theorem bWg (kk5 : dK) : D191 r n aBj (xs x0 0 (K1 (cS r n) 4)) (K4 kk5 0 1 4 5) = (K4 (aLv r n kk5) 0 1 4 5) :=
 (bDq r n kk5).trans
 ((by kernel_rfl))
theorem bIl (kk5 : dK) : D191 r n iP (xs x0 0 (K1 (cS r n) 4)) (K4 kk5 0 1 4 5) = D191 r n aQf (xs x0 0 (K1 (cS r n) 4)) (K4 (aLv r n kk5) 0 1 4 5) :=
 congrArg (fun k => D191 r n aQf (xs x0 0 (K1 (cS r n) 4)) k) (bWg r n kk5)
theorem bMv (kk5 : dK) : D191 r n iP (xs x0 0 (K1 (cS r n) 4)) (K4 kk5 0 1 4 5) = (K4 (aUv r n kk5) 0 1 4 5) :=
 (bIl r n kk5).trans
 ((by kernel_rfl))
theorem bDy (m : Nat) : aM (fun kk => D191 r n iP (xs x0 0 (K1 (cS r n) 4)) kk) m = (K4 (sN r n m) 0 1 4 5) := by
 induction m with
 | zero => exact (by kernel_rfl : aM (fun kk => D191 r n iP (xs x0 0 (K1 (cS r n) 4)) kk) 0 = (K4 (sN r n 0) 0 1 4 5))
 | succ m ih =>
  refine (by kernel_rfl : aM (fun kk => D191 r n iP (xs x0 0 (K1 (cS r n) 4)) kk) (m + 1) = D191 r n iP (xs x0 0 (K1 (cS r n) 4)) (aM (fun kk => D191 r n iP (xs x0 0 (K1 (cS r n) 4)) kk) m)).trans ?_
  rw [ih]
  exact (bMv r n (sN r n m)).trans (by kernel_rfl)
theorem bYc : D191 r n zF (xs x0 0 (K1 (cS r n) 4)) (K1 (cS r n) 4) = (K4 (bIj r n) 0 1 4 5) :=
 (by kernel_rfl : D191 r n zF (xs x0 0 (K1 (cS r n) 4)) (K1 (cS r n) 4) = aM (fun kk => D191 r n iP (xs x0 0 (K1 (cS r n) 4)) kk) n).trans ((bDy r n n).trans (by kernel_rfl))
theorem bZy : D191 r n aOh x0 (K1 (cS r n) 4) = (K4 (aNp r n) 0 1 4 5) :=
 (by kernel_rfl : D191 r n aOh x0 (K1 (cS r n) 4) = D191 r n zF (xs x0 0 (K1 (cS r n) 4)) (K1 (cS r n) 4)).trans
 ((bYc r n).trans (by kernel_rfl))
theorem bPh : D191 r n aAq x0 r191 = D191 r n tD x0 (K1 (cS r n) 4) :=
 congrArg (fun k => D191 r n tD x0 k) (cAa r n)
theorem bCy : D191 r n tD x0 (K1 (cS r n) 4) = D191 r n aSo x0 (K4 (aNp r n) 0 1 4 5) :=
 congrArg (fun k => D191 r n aSo x0 k) (bZy r n)
theorem cBu : D191 r n aAq x0 r191 = (K3 (aIz r n) 0 1 4) :=
 (bPh r n).trans
 ((bCy r n).trans
 ((by kernel_rfl)))
theorem bHv : D191 r n aBc x0 r191 = D191 r n aQw x0 (K3 (aIz r n) 0 1 4) :=
 congrArg (fun k => D191 r n aQw x0 k) (cBu r n)
theorem bTo : D191 r n aBc x0 r191 = (K2 (aNb r n) 0 1) :=
 (bHv r n).trans
 ((by kernel_rfl))
theorem cNq : D191 r n c191 x0 r191 = D191 r n aWd x0 (K2 (aNb r n) 0 1) :=
 congrArg (fun k => D191 r n aWd x0 k) (bTo r n)
theorem cWs : D191 r n c191 x0 r191 = (K2 (s191 r n) 0 1) :=
 (cNq r n).trans
 ((by kernel_rfl))
theorem cKx : aG CF r n 191 args h = s191 r n (aR args 0) (aR args 1) h :=
 (by kernel_rfl : aG CF r n 191 args h = D191 r n c191 x0 r191 (aJ args) h).trans ((congrFun (congrFun (cWs r n) (aJ args)) h).trans (by kernel_rfl))
noncomputable def s192 (r : RT) (n : Nat) (x0 x1 : DV) (h0 : Hp) : aH :=
 bnd (aI 3 x0 x1 h0) fun v1 h1 =>
 bnd (aB 0 v1 h1) fun v2 h2 =>
 bnd (aA v2 h2) fun v3 h3 =>
 bnd (aD .neq v3 (aE 18) h3) fun v4 h4 =>
 bnd (gD v4 false (some (x1, h4)) h4) fun v5 h5 =>
 bnd (gD v4 false (aD .add v5 (aE 1) h5) h5) fun v6 h6 =>
 bnd (gD v4 false (some (x0, h6)) h6) fun v7 h7 =>
 bnd (gD v4 false (bQ v7 h7) h7) fun v8 h8 =>
 bnd (gD v4 false (aD .geq v6 v8 h8) h8) fun v9 h9 =>
 bnd (aL v4 (.b true) v9 h9) fun v10 h10 =>
 bnd (gD v10 false (some (x0, h10)) h10) fun v11 h11 =>
 bnd (gD v10 false (some (x1, h11)) h11) fun v12 h12 =>
 bnd (gD v10 false (aD .add v12 (aE 1) h12) h12) fun v13 h13 =>
 bnd (gD v10 false (aI 3 v11 v13 h13) h13) fun v14 h14 =>
 bnd (gD v10 false (aB 0 v14 h14) h14) fun v15 h15 =>
 bnd (gD v10 false (aA v15 h15) h15) fun v16 h16 =>
 bnd (gD v10 false (aD .neq v16 (aE 16) h16) h16) fun v17 h17 =>
 bnd (aL v10 (.b true) v17 h17) fun v18 h18 =>
 aS v18 (
 some (.t [(aE 0), (.b false)], h18)) (
 bnd (aD .add x1 (aE 1) h18) fun v19 h19 =>
 bnd (aI 3 x0 v19 h19) fun v20 h20 =>
 bnd (aK 3 v20 h20) fun v21 h21 =>
 bnd (r 193 [v21] h21) fun v22 h22 =>
 bnd (aD .add x1 (aE 2) h22) fun v23 h23 =>
 bnd (aD .gtr v22 v23 h23) fun v24 h24 =>
 some (.t [v22, v24], h24))
noncomputable abbrev c192 : Code := cf Tryz.f192
noncomputable abbrev r192 : K := aN CF Tryz.f192
noncomputable def D192 (r : RT) (n : Nat) (c : Code) (X : Nat → K) (k : K) : K := aO CF r 40 n c X r192 k
theorem cUr : D192 r n c192 x0 r192 = (K2 (s192 r n) 0 1) :=
 (by kernel_rfl)
theorem cGs : aG CF r n 192 args h = s192 r n (aR args 0) (aR args 1) h :=
 (by kernel_rfl : aG CF r n 192 args h = D192 r n c192 x0 r192 (aJ args) h).trans ((congrFun (congrFun (cUr r n) (aJ args)) h).trans (by kernel_rfl))
end Go.Dd

namespace Go.Dd
open Go.Proofs
variable (r : RT) (n : Nat) (args : List DV) (h : Hp)
noncomputable def s193 (r : RT) (n : Nat) (x0 : DV) (h0 : Hp) : aH :=
 bnd (bR x0 h0) fun v1 h1 =>
 bnd (aB 0 v1 h1) fun v2 h2 =>
 bnd (aA v2 h2) fun v3 h3 =>
 bnd (r 227 [v3] h3) fun v4 h4 =>
 bnd (fY .not v4 h4) fun v5 h5 =>
 aS v5 (
 some ((.i .i64 (Int.negSucc 0)), h5)) (
 bnd (aB 1 v1 h5) fun v6 h6 =>
 bnd (aA v6 h6) fun v7 h7 =>
 bnd (aB 2 v1 h7) fun v8 h8 =>
 bnd (aA v8 h8) fun v9 h9 =>
 bnd (cX .shl v9 (.i .u64 (Int.ofNat 8)) h9) fun v10 h10 =>
 bnd (aD .add v7 v10 h10) fun v11 h11 =>
 some (v11, h11))
noncomputable abbrev c193 : Code := cf Tryz.f193
noncomputable abbrev r193 : K := aN CF Tryz.f193
noncomputable def D193 (r : RT) (n : Nat) (c : Code) (X : Nat → K) (k : K) : K := aO CF r 13 n c X r193 k
theorem cXe : D193 r n c193 x0 r193 = (K1 (s193 r n) 0) :=
 (by kernel_rfl)
theorem cOb : aG CF r n 193 args h = s193 r n (aR args 0) h :=
 (by kernel_rfl : aG CF r n 193 args h = D193 r n c193 x0 r193 (aJ args) h).trans ((congrFun (congrFun (cXe r n) (aJ args)) h).trans (by kernel_rfl))
noncomputable def s194 (r : RT) (n : Nat) (x0 x1 x2 x3 x4 x5 x6 x7 : DV) (h0 : Hp) : aH :=
 bnd (aA x3 h0) fun v1 h1 =>
 bnd (bQ v1 h1) fun v2 h2 =>
 bnd (aD .geq x0 v2 h2) fun v3 h3 =>
 bnd (gD v3 false (aA x4 h3) h3) fun v4 h4 =>
 bnd (gD v3 false (some (x0, h4)) h4) fun v5 h5 =>
 bnd (gD v3 false (aI 1 v4 v5 h5) h5) fun v6 h6 =>
 bnd (gD v3 false (aA v6 h6) h6) fun v7 h7 =>
 bnd (gD v3 false (some (x1, h7)) h7) fun v8 h8 =>
 bnd (gD v3 false (aD .neq v7 v8 h8) h8) fun v9 h9 =>
 bnd (aL v3 (.b true) v9 h9) fun v10 h10 =>
 bnd (gD v10 false (aA x5 h10) h10) fun v11 h11 =>
 bnd (gD v10 false (some (x0, h11)) h11) fun v12 h12 =>
 bnd (gD v10 false (aI 1 v11 v12 h12) h12) fun v13 h13 =>
 bnd (gD v10 false (aA v13 h13) h13) fun v14 h14 =>
 bnd (gD v10 false (aD .geq v14 (aE 0) h14) h14) fun v15 h15 =>
 bnd (gD v10 false (some (v15, h15)) h15) fun v16 h16 =>
 bnd (gD v16 true (aA x5 h16) h16) fun v17 h17 =>
 bnd (gD v16 true (some (x0, h17)) h17) fun v18 h18 =>
 bnd (gD v16 true (aI 1 v17 v18 h18) h18) fun v19 h19 =>
 bnd (gD v16 true (aA v19 h19) h19) fun v20 h20 =>
 bnd (gD v16 true (some (x2, h20)) h20) fun v21 h21 =>
 bnd (gD v16 true (aD .neq v20 v21 h21) h21) fun v22 h22 =>
 bnd (gD v10 false (aL v16 v22 (.b false) h22) h22) fun v23 h23 =>
 bnd (aL v10 (.b true) v23 h23) fun v24 h24 =>
 aS v24 (
 bnd (aF 1 x6 (.b false) h24) fun _ h25 =>
 some (.t [], h25)) (
 bnd (aA x5 h24) fun v26 h26 =>
 bnd (aI 1 v26 x0 h26) fun v27 h27 =>
 bnd (aA v27 h27) fun v28 h28 =>
 bnd (aD .lss v28 (aE 0) h28) fun v29 h29 =>
 aS v29 (
 bnd (aA x5 h29) fun v30 h30 =>
 bnd (aI 1 v30 x0 h30) fun v31 h31 =>
 bnd (aF 1 v31 x2 h31) fun _ h32 =>
 bnd (aA x7 h32) fun v33 h33 =>
 bnd (aP [(aE 0)] 1 [(0, 1, x0)] h33) fun v34 h34 =>
 bnd (aZ 1 8 v33 v34 h34) fun v35 h35 =>
 bnd (aF 1 x7 v35 h35) fun _ h36 =>
 some (.t [], h36)) (
 some (.t [], h29)))
noncomputable abbrev c194 : Code := cf Tryz.f194
noncomputable abbrev r194 : K := aN CF Tryz.f194
noncomputable def D194 (r : RT) (n : Nat) (c : Code) (X : Nat → K) (k : K) : K := aO CF r 53 n c X r194 k
theorem cVe : D194 r n c194 x0 r194 = (K8 (s194 r n) 0 1 2 3 4 5 6 7) :=
 (by kernel_rfl)
theorem cGo : aG CF r n 194 args h = s194 r n (aR args 0) (aR args 1) (aR args 2) (aR args 3) (aR args 4) (aR args 5) (aR args 6) (aR args 7) h :=
 (by kernel_rfl : aG CF r n 194 args h = D194 r n c194 x0 r194 (aJ args) h).trans ((congrFun (congrFun (cVe r n) (aJ args)) h).trans (by kernel_rfl))
noncomputable def bU (r : RT) (n : Nat) (h0 : Hp) : aH :=
 some ((aE 0), h0)
noncomputable def aDb (r : RT) (n : Nat) (x1 x22 : DV) (h0 : Hp) : aH :=
 aS x22 (
 bnd (aB 2 x1 h0) fun v1 h1 =>
 bnd (aA v1 h1) fun v2 h2 =>
 bnd (fY .neg v2 h2) fun v3 h3 =>
 some (v3, h3)) (
  bU r n h0)
noncomputable def bEt (r : RT) (n : Nat) (x1 x4 : DV) (h0 : Hp) : aH :=
 bnd (aD .eql x4 (aE 14) h0) fun v1 h1 =>
 aS v1 (
  aDb r n x1 v1 h1) (
 bnd (aD .eql x4 (aE 15) h1) fun v2 h2 =>
  aDb r n x1 v2 h2)
noncomputable def pJ (r : RT) (n : Nat) (x1 x4 x17 : DV) (h0 : Hp) : aH :=
 aS x17 (
 some ((.i .i64 (Int.negSucc 0)), h0)) (
  bEt r n x1 x4 h0)
noncomputable def bQd (r : RT) (n : Nat) (x1 x4 : DV) (h0 : Hp) : aH :=
 bnd (aD .eql x4 (aE 12) h0) fun v1 h1 =>
 aS v1 (
  pJ r n x1 x4 v1 h1) (
 bnd (aD .eql x4 (aE 17) h1) fun v2 h2 =>
 aS v2 (
   pJ r n x1 x4 v2 h2) (
 bnd (aD .eql x4 (aE 19) h2) fun v3 h3 =>
 aS v3 (
    pJ r n x1 x4 v3 h3) (
 bnd (aD .eql x4 (aE 20) h3) fun v4 h4 =>
    pJ r n x1 x4 v4 h4)))
noncomputable def gF (r : RT) (n : Nat) (x1 x4 x5 : DV) (h0 : Hp) : aH :=
 aS x5 (
 some ((aE 1), h0)) (
  bQd r n x1 x4 h0)
noncomputable def aNy (r : RT) (n : Nat) (x1 x4 : DV) (h0 : Hp) : aH :=
 bnd (aD .eql x4 (aE 1) h0) fun v1 h1 =>
 aS v1 (
  gF r n x1 x4 v1 h1) (
 bnd (aD .eql x4 (aE 2) h1) fun v2 h2 =>
 aS v2 (
   gF r n x1 x4 v2 h2) (
 bnd (aD .eql x4 (aE 3) h2) fun v3 h3 =>
 aS v3 (
    gF r n x1 x4 v3 h3) (
 bnd (aD .eql x4 (aE 4) h3) fun v4 h4 =>
 aS v4 (
     gF r n x1 x4 v4 h4) (
 bnd (aD .eql x4 (aE 5) h4) fun v5 h5 =>
 aS v5 (
      gF r n x1 x4 v5 h5) (
 bnd (aD .eql x4 (aE 6) h5) fun v6 h6 =>
 aS v6 (
       gF r n x1 x4 v6 h6) (
 bnd (aD .eql x4 (aE 7) h6) fun v7 h7 =>
 aS v7 (
        gF r n x1 x4 v7 h7) (
 bnd (aD .eql x4 (aE 8) h7) fun v8 h8 =>
 aS v8 (
         gF r n x1 x4 v8 h8) (
 bnd (aD .eql x4 (aE 9) h8) fun v9 h9 =>
 aS v9 (
          gF r n x1 x4 v9 h9) (
 bnd (aD .eql x4 (aE 13) h9) fun v10 h10 =>
 aS v10 (
           gF r n x1 x4 v10 h10) (
 bnd (aD .eql x4 (aE 18) h10) fun v11 h11 =>
           gF r n x1 x4 v11 h11))))))))))
noncomputable def tQ (r : RT) (n : Nat) (x1 : DV) (h0 : Hp) : aH :=
 bnd (aB 0 x1 h0) fun v1 h1 =>
 bnd (aA v1 h1) fun v2 h2 =>
  aNy r n x1 v2 h2
noncomputable def s195 (r : RT) (n : Nat) (x0 : DV) (h0 : Hp) : aH :=
 bnd (bR x0 h0) fun v1 h1 =>
  tQ r n v1 h1
noncomputable abbrev c195 : Code := cf Tryz.f195
noncomputable abbrev xM : Code := cR c195
noncomputable abbrev cMq : Code := cR xM
noncomputable abbrev tW : Code := cL xM
noncomputable abbrev aOy : Code := cR tW
noncomputable abbrev aGm : Code := cL aOy
noncomputable abbrev vI : Code := cR aGm
noncomputable abbrev uO : Code := cR vI
noncomputable abbrev sT : Code := cR uO
noncomputable abbrev vS : Code := cR sT
noncomputable abbrev cBa : Code := cR vS
noncomputable abbrev aRb : Code := cL vS
noncomputable abbrev bYe : Code := cL sT
noncomputable abbrev aVu : Code := cL uO
noncomputable abbrev bYh : Code := cL vI
noncomputable abbrev aUr : Code := cL aGm
noncomputable abbrev aVe : Code := cL tW
noncomputable abbrev aBw : Code := cL c195
noncomputable abbrev r195 : K := aN CF Tryz.f195
noncomputable def D195 (r : RT) (n : Nat) (c : Code) (X : Nat → K) (k : K) : K := aO CF r 28 n c X r195 k
theorem bTl : D195 r n cMq x0 r195 = (K0 (bU r n)) :=
 (by kernel_rfl)
theorem cAd : D195 r n cBa (xs x0 0 (K0 (bU r n))) (K0 (bU r n)) = (K2 (aDb r n) 1 22) :=
 (by kernel_rfl)
theorem bAy : D195 r n vS (xs x0 0 (K0 (bU r n))) (K0 (bU r n)) = D195 r n aRb (xs x0 0 (K0 (bU r n))) (K2 (aDb r n) 1 22) :=
 congrArg (fun k => D195 r n aRb (xs x0 0 (K0 (bU r n))) k) (cAd r n)
theorem bVn : D195 r n vS (xs x0 0 (K0 (bU r n))) (K0 (bU r n)) = (K2 (bEt r n) 1 4) :=
 (bAy r n).trans
 ((by kernel_rfl))
theorem bZd : D195 r n sT (xs x0 0 (K0 (bU r n))) (K0 (bU r n)) = (K3 (pJ r n) 1 4 17) :=
 (by kernel_rfl : D195 r n sT (xs x0 0 (K0 (bU r n))) (K0 (bU r n)) = (fun (env : aU) (h : Hp) => aS (opr env (cC sT)) (D195 r n bYe (xs x0 0 (K0 (bU r n))) (K0 (bU r n)) env h) (D195 r n vS (xs x0 0 (K0 (bU r n))) (K0 (bU r n)) env h))).trans (by rw [bVn r n]; kernel_rfl)
theorem bDv : D195 r n uO (xs x0 0 (K0 (bU r n))) (K0 (bU r n)) = D195 r n aVu (xs x0 0 (K0 (bU r n))) (K3 (pJ r n) 1 4 17) :=
 congrArg (fun k => D195 r n aVu (xs x0 0 (K0 (bU r n))) k) (bZd r n)
theorem bZg : D195 r n uO (xs x0 0 (K0 (bU r n))) (K0 (bU r n)) = (K2 (bQd r n) 1 4) :=
 (bDv r n).trans
 ((by kernel_rfl))
theorem bWc : D195 r n vI (xs x0 0 (K0 (bU r n))) (K0 (bU r n)) = (K3 (gF r n) 1 4 5) :=
 (by kernel_rfl : D195 r n vI (xs x0 0 (K0 (bU r n))) (K0 (bU r n)) = (fun (env : aU) (h : Hp) => aS (opr env (cC vI)) (D195 r n bYh (xs x0 0 (K0 (bU r n))) (K0 (bU r n)) env h) (D195 r n uO (xs x0 0 (K0 (bU r n))) (K0 (bU r n)) env h))).trans (by rw [bZg r n]; kernel_rfl)
theorem bPy : D195 r n aGm (xs x0 0 (K0 (bU r n))) (K0 (bU r n)) = D195 r n aUr (xs x0 0 (K0 (bU r n))) (K3 (gF r n) 1 4 5) :=
 congrArg (fun k => D195 r n aUr (xs x0 0 (K0 (bU r n))) k) (bWc r n)
theorem bWw : D195 r n aOy x0 (K0 (bU r n)) = (K2 (aNy r n) 1 4) :=
 (by kernel_rfl : D195 r n aOy x0 (K0 (bU r n)) = D195 r n aGm (xs x0 0 (K0 (bU r n))) (K0 (bU r n))).trans
 ((bPy r n).trans
 ((by kernel_rfl)))
theorem bEp : D195 r n xM x0 r195 = D195 r n tW x0 (K0 (bU r n)) :=
 congrArg (fun k => D195 r n tW x0 k) (bTl r n)
theorem bEm : D195 r n tW x0 (K0 (bU r n)) = D195 r n aVe x0 (K2 (aNy r n) 1 4) :=
 congrArg (fun k => D195 r n aVe x0 k) (bWw r n)
theorem cBi : D195 r n xM x0 r195 = (K1 (tQ r n) 1) :=
 (bEp r n).trans
 ((bEm r n).trans
 ((by kernel_rfl)))
theorem cKb : D195 r n c195 x0 r195 = D195 r n aBw x0 (K1 (tQ r n) 1) :=
 congrArg (fun k => D195 r n aBw x0 k) (cBi r n)
theorem cJn (q0 : TT1) : D195 r n aBw x0 (K1 q0 1) = fun (env : aU) (h : Hp) =>
 bnd (bR (env 0) h) fun v1 h1 =>
  q0 v1 h1 := by kernel_rfl
theorem cDl : (fun (env : aU) (h : Hp) =>
 bnd (bR (env 0) h) fun v1 h1 =>
  tQ r n v1 h1) = (K1 (s195 r n) 0) := by kernel_rfl
theorem cUa : D195 r n c195 x0 r195 = (K1 (s195 r n) 0) :=
 (cKb r n).trans
 ((cJn r n (tQ r n)).trans (cDl r n))
theorem cHy : aG CF r n 195 args h = s195 r n (aR args 0) h :=
 (by kernel_rfl : aG CF r n 195 args h = D195 r n c195 x0 r195 (aJ args) h).trans ((congrFun (congrFun (cUa r n) (aJ args)) h).trans (by kernel_rfl))
noncomputable def cO (r : RT) (n : Nat) (h0 : Hp) : aH :=
 some ((aE 0), h0)
noncomputable def yS (r : RT) (n : Nat) (x1 x13 : DV) (h0 : Hp) : aH :=
 aS x13 (
 bnd (aB 2 x1 h0) fun v1 h1 =>
 bnd (aA v1 h1) fun v2 h2 =>
 bnd (aD .add v2 (aE 1) h2) fun v3 h3 =>
 some (v3, h3)) (
  cO r n h0)
noncomputable def bHj (r : RT) (n : Nat) (x1 x4 : DV) (h0 : Hp) : aH :=
 bnd (aD .eql x4 (aE 14) h0) fun v1 h1 =>
 aS v1 (
  yS r n x1 v1 h1) (
 bnd (aD .eql x4 (aE 15) h1) fun v2 h2 =>
  yS r n x1 v2 h2)
noncomputable def jY (r : RT) (n : Nat) (x1 x4 x5 : DV) (h0 : Hp) : aH :=
 aS x5 (
 some ((aE 1), h0)) (
  bHj r n x1 x4 h0)
noncomputable def aKf (r : RT) (n : Nat) (x1 x4 : DV) (h0 : Hp) : aH :=
 bnd (aD .eql x4 (aE 12) h0) fun v1 h1 =>
 aS v1 (
  jY r n x1 x4 v1 h1) (
 bnd (aD .eql x4 (aE 13) h1) fun v2 h2 =>
 aS v2 (
   jY r n x1 x4 v2 h2) (
 bnd (aD .eql x4 (aE 10) h2) fun v3 h3 =>
 aS v3 (
    jY r n x1 x4 v3 h3) (
 bnd (aD .eql x4 (aE 11) h3) fun v4 h4 =>
 aS v4 (
     jY r n x1 x4 v4 h4) (
 bnd (aD .eql x4 (aE 17) h4) fun v5 h5 =>
 aS v5 (
      jY r n x1 x4 v5 h5) (
 bnd (aD .eql x4 (aE 20) h5) fun v6 h6 =>
 aS v6 (
       jY r n x1 x4 v6 h6) (
 bnd (aD .eql x4 (aE 19) h6) fun v7 h7 =>
       jY r n x1 x4 v7 h7))))))
noncomputable def tX (r : RT) (n : Nat) (x1 : DV) (h0 : Hp) : aH :=
 bnd (aB 0 x1 h0) fun v1 h1 =>
 bnd (aA v1 h1) fun v2 h2 =>
  aKf r n x1 v2 h2
noncomputable def s196 (r : RT) (n : Nat) (x0 : DV) (h0 : Hp) : aH :=
 bnd (bR x0 h0) fun v1 h1 =>
  tX r n v1 h1
noncomputable abbrev c196 : Code := cf Tryz.f196
noncomputable abbrev zK : Code := cR c196
noncomputable abbrev cIi : Code := cR zK
noncomputable abbrev sR : Code := cL zK
noncomputable abbrev aNg : Code := cR sR
noncomputable abbrev aFd : Code := cL aNg
noncomputable abbrev uX : Code := cR aFd
noncomputable abbrev tY : Code := cR uX
noncomputable abbrev cNy : Code := cR tY
noncomputable abbrev bKr : Code := cL tY
noncomputable abbrev bTy : Code := cL uX
noncomputable abbrev aSh : Code := cL aFd
noncomputable abbrev aUi : Code := cL sR
noncomputable abbrev xE : Code := cL c196
noncomputable abbrev r196 : K := aN CF Tryz.f196
noncomputable def D196 (r : RT) (n : Nat) (c : Code) (X : Nat → K) (k : K) : K := aO CF r 19 n c X r196 k
theorem cEq : D196 r n cIi x0 r196 = (K0 (cO r n)) :=
 (by kernel_rfl)
theorem bVh : D196 r n cNy (xs x0 0 (K0 (cO r n))) (K0 (cO r n)) = (K2 (yS r n) 1 13) :=
 (by kernel_rfl)
theorem bFx : D196 r n tY (xs x0 0 (K0 (cO r n))) (K0 (cO r n)) = D196 r n bKr (xs x0 0 (K0 (cO r n))) (K2 (yS r n) 1 13) :=
 congrArg (fun k => D196 r n bKr (xs x0 0 (K0 (cO r n))) k) (bVh r n)
theorem bVd : D196 r n tY (xs x0 0 (K0 (cO r n))) (K0 (cO r n)) = (K2 (bHj r n) 1 4) :=
 (bFx r n).trans
 ((by kernel_rfl))
theorem bTt : D196 r n uX (xs x0 0 (K0 (cO r n))) (K0 (cO r n)) = (K3 (jY r n) 1 4 5) :=
 (by kernel_rfl : D196 r n uX (xs x0 0 (K0 (cO r n))) (K0 (cO r n)) = (fun (env : aU) (h : Hp) => aS (opr env (cC uX)) (D196 r n bTy (xs x0 0 (K0 (cO r n))) (K0 (cO r n)) env h) (D196 r n tY (xs x0 0 (K0 (cO r n))) (K0 (cO r n)) env h))).trans (by rw [bVd r n]; kernel_rfl)
theorem bRc : D196 r n aFd (xs x0 0 (K0 (cO r n))) (K0 (cO r n)) = D196 r n aSh (xs x0 0 (K0 (cO r n))) (K3 (jY r n) 1 4 5) :=
 congrArg (fun k => D196 r n aSh (xs x0 0 (K0 (cO r n))) k) (bTt r n)
theorem bRx : D196 r n aNg x0 (K0 (cO r n)) = (K2 (aKf r n) 1 4) :=
 (by kernel_rfl : D196 r n aNg x0 (K0 (cO r n)) = D196 r n aFd (xs x0 0 (K0 (cO r n))) (K0 (cO r n))).trans
 ((bRc r n).trans
 ((by kernel_rfl)))
theorem bAt : D196 r n zK x0 r196 = D196 r n sR x0 (K0 (cO r n)) :=
 congrArg (fun k => D196 r n sR x0 k) (cEq r n)
theorem bDu : D196 r n sR x0 (K0 (cO r n)) = D196 r n aUi x0 (K2 (aKf r n) 1 4) :=
 congrArg (fun k => D196 r n aUi x0 k) (bRx r n)
theorem bZc : D196 r n zK x0 r196 = (K1 (tX r n) 1) :=
 (bAt r n).trans
 ((bDu r n).trans
 ((by kernel_rfl)))
theorem cHq : D196 r n c196 x0 r196 = D196 r n xE x0 (K1 (tX r n) 1) :=
 congrArg (fun k => D196 r n xE x0 k) (bZc r n)
theorem cFx (q0 : TT1) : D196 r n xE x0 (K1 q0 1) = fun (env : aU) (h : Hp) =>
 bnd (bR (env 0) h) fun v1 h1 =>
  q0 v1 h1 := by kernel_rfl
theorem bYx : (fun (env : aU) (h : Hp) =>
 bnd (bR (env 0) h) fun v1 h1 =>
  tX r n v1 h1) = (K1 (s196 r n) 0) := by kernel_rfl
theorem cVy : D196 r n c196 x0 r196 = (K1 (s196 r n) 0) :=
 (cHq r n).trans
 ((cFx r n (tX r n)).trans (bYx r n))
theorem cIy : aG CF r n 196 args h = s196 r n (aR args 0) h :=
 (by kernel_rfl : aG CF r n 196 args h = D196 r n c196 x0 r196 (aJ args) h).trans ((congrFun (congrFun (cVy r n) (aJ args)) h).trans (by kernel_rfl))
noncomputable def eR (r : RT) (n : Nat) (x0 x7 : DV) (h0 : Hp) : aH :=
 bnd (aQ x0 h0) fun v1 h1 =>
 bnd (aB 0 v1 h1) fun v2 h2 =>
 bnd (aA v2 h2) fun v3 h3 =>
 bnd (aQ x0 h3) fun v4 h4 =>
 bnd (aB 1 v4 h4) fun v5 h5 =>
 bnd (aA v5 h5) fun v6 h6 =>
 bnd (fO v3 (some x7) (some v6) h6) fun v7 h7 =>
 some (v7, h7)
noncomputable def aWe (r : RT) (n : Nat) (kk4 : dK) (x0 x1 x2 x7 : DV) (h0 : Hp) : aH :=
 bnd (aQ x0 h0) fun v1 h1 =>
 bnd (aB 1 v1 h1) fun v2 h2 =>
 bnd (aA v2 h2) fun v3 h3 =>
 bnd (aQ x0 h3) fun v4 h4 =>
 bnd (aB 0 v4 h4) fun v5 h5 =>
 bnd (aA v5 h5) fun v6 h6 =>
 bnd (dG v6 h6) fun v7 h7 =>
 bnd (aD .lss v3 v7 h7) fun v8 h8 =>
 bnd (gD v8 true (some (x0, h8)) h8) fun v9 h9 =>
 bnd (gD v8 true (aQ v9 h9) h9) fun v10 h10 =>
 bnd (gD v8 true (aB 1 v10 h10) h10) fun v11 h11 =>
 bnd (gD v8 true (aA v11 h11) h11) fun v12 h12 =>
 bnd (gD v8 true (some (x7, h12)) h12) fun v13 h13 =>
 bnd (gD v8 true (aD .sub v12 v13 h13) h13) fun v14 h14 =>
 bnd (gD v8 true (some (x2, h14)) h14) fun v15 h15 =>
 bnd (gD v8 true (aD .lss v14 v15 h15) h15) fun v16 h16 =>
 bnd (aL v8 v16 (.b false) h16) fun v17 h17 =>
 bnd (gD v17 true (some (x1, h17)) h17) fun v18 h18 =>
 bnd (gD v17 true (some (x0, h18)) h18) fun v19 h19 =>
 bnd (gD v17 true (aQ v19 h19) h19) fun v20 h20 =>
 bnd (gD v17 true (aB 0 v20 h20) h20) fun v21 h21 =>
 bnd (gD v17 true (aA v21 h21) h21) fun v22 h22 =>
 bnd (gD v17 true (some (x0, h22)) h22) fun v23 h23 =>
 bnd (gD v17 true (aQ v23 h23) h23) fun v24 h24 =>
 bnd (gD v17 true (aB 1 v24 h24) h24) fun v25 h25 =>
 bnd (gD v17 true (aA v25 h25) h25) fun v26 h26 =>
 bnd (gD v17 true (eX v22 v26 h26) h26) fun v27 h27 =>
 bnd (gD v17 true (cV CF r v18 [v27] h27) h27) fun v28 h28 =>
 bnd (aL v17 v28 (.b false) h28) fun v29 h29 =>
 aS v29 (
 bnd (aQ x0 h29) fun v30 h30 =>
 bnd (aB 1 v30 h30) fun v31 h31 =>
 bnd (aA v31 h31) fun v32 h32 =>
 bnd (aD .add v32 (aE 1) h32) fun v33 h33 =>
 bnd (aQ x0 h33) fun v34 h34 =>
 bnd (aB 1 v34 h34) fun v35 h35 =>
 bnd (aF 1 v35 v33 h35) fun _ h36 =>
      kk4 x0 x1 x2 x7 h36) (
      eR r n x0 x7 h29)
noncomputable def rD (r : RT) (n : Nat) (m : Nat) : dK :=
 Nat.rec (motive := fun _ => dK) (fun _ _ _ _ _ => none) (fun _ ih => aWe r n ih) m
noncomputable def bFp (r : RT) (n : Nat) : dK := rD r n n
noncomputable def aKj (r : RT) (n : Nat) (x0 x1 x2 x7 : DV) (h0 : Hp) : aH :=
 bFp r n x0 x1 x2 x7 h0
noncomputable def aNa (r : RT) (n : Nat) (x0 x1 x2 : DV) (h0 : Hp) : aH :=
 bnd (aQ x0 h0) fun v1 h1 =>
 bnd (aB 1 v1 h1) fun v2 h2 =>
 bnd (aA v2 h2) fun v3 h3 =>
  aKj r n x0 x1 x2 v3 h3
noncomputable def s197 (r : RT) (n : Nat) (x0 x1 x2 : DV) (h0 : Hp) : aH :=
 aNa r n x0 x1 x2 h0
noncomputable abbrev c197 : Code := cf Tryz.f197
noncomputable abbrev aDc : Code := cR c197
noncomputable abbrev zA : Code := cR aDc
noncomputable abbrev cPb : Code := cR zA
noncomputable abbrev yW : Code := cL zA
noncomputable abbrev aGn : Code := cL yW
noncomputable abbrev mG : Code := cL aGn
noncomputable abbrev bKf : Code := cL aDc
noncomputable abbrev bPj : Code := cL c197
noncomputable abbrev r197 : K := aN CF Tryz.f197
noncomputable def D197 (r : RT) (n : Nat) (c : Code) (X : Nat → K) (k : K) : K := aO CF r 62 n c X r197 k
theorem bXx : D197 r n cPb x0 r197 = (K2 (eR r n) 0 7) :=
 (by kernel_rfl)
theorem bFh (kk4 : dK) : D197 r n mG (xs x0 0 (K2 (eR r n) 0 7)) (K4 kk4 0 1 2 7) = (K4 (aWe r n kk4) 0 1 2 7) :=
 (by kernel_rfl)
theorem bNq (m : Nat) : aM (fun kk => D197 r n mG (xs x0 0 (K2 (eR r n) 0 7)) kk) m = (K4 (rD r n m) 0 1 2 7) := by
 induction m with
 | zero => exact (by kernel_rfl : aM (fun kk => D197 r n mG (xs x0 0 (K2 (eR r n) 0 7)) kk) 0 = (K4 (rD r n 0) 0 1 2 7))
 | succ m ih =>
  refine (by kernel_rfl : aM (fun kk => D197 r n mG (xs x0 0 (K2 (eR r n) 0 7)) kk) (m + 1) = D197 r n mG (xs x0 0 (K2 (eR r n) 0 7)) (aM (fun kk => D197 r n mG (xs x0 0 (K2 (eR r n) 0 7)) kk) m)).trans ?_
  rw [ih]
  exact (bFh r n (rD r n m)).trans (by kernel_rfl)
theorem bZh : D197 r n aGn (xs x0 0 (K2 (eR r n) 0 7)) (K2 (eR r n) 0 7) = (K4 (bFp r n) 0 1 2 7) :=
 (by kernel_rfl : D197 r n aGn (xs x0 0 (K2 (eR r n) 0 7)) (K2 (eR r n) 0 7) = aM (fun kk => D197 r n mG (xs x0 0 (K2 (eR r n) 0 7)) kk) n).trans ((bNq r n n).trans (by kernel_rfl))
theorem bAl : D197 r n zA x0 r197 = D197 r n yW x0 (K2 (eR r n) 0 7) :=
 congrArg (fun k => D197 r n yW x0 k) (bXx r n)
theorem bRw : D197 r n zA x0 r197 = (K4 (aKj r n) 0 1 2 7) :=
 (bAl r n).trans
 ((by kernel_rfl : D197 r n yW x0 (K2 (eR r n) 0 7) = D197 r n aGn (xs x0 0 (K2 (eR r n) 0 7)) (K2 (eR r n) 0 7)).trans
 ((bZh r n).trans (by kernel_rfl)))
theorem bCj : D197 r n aDc x0 r197 = D197 r n bKf x0 (K4 (aKj r n) 0 1 2 7) :=
 congrArg (fun k => D197 r n bKf x0 k) (bRw r n)
theorem bXg : D197 r n aDc x0 r197 = (K3 (aNa r n) 0 1 2) :=
 (bCj r n).trans
 ((by kernel_rfl))
theorem cOq : D197 r n c197 x0 r197 = D197 r n bPj x0 (K3 (aNa r n) 0 1 2) :=
 congrArg (fun k => D197 r n bPj x0 k) (bXg r n)
theorem cRz : D197 r n c197 x0 r197 = (K3 (s197 r n) 0 1 2) :=
 (cOq r n).trans
 ((by kernel_rfl))
theorem cHr : aG CF r n 197 args h = s197 r n (aR args 0) (aR args 1) (aR args 2) h :=
 (by kernel_rfl : aG CF r n 197 args h = D197 r n c197 x0 r197 (aJ args) h).trans ((congrFun (congrFun (cRz r n) (aJ args)) h).trans (by kernel_rfl))
noncomputable def s198 (r : RT) (n : Nat) (x0 : DV) (h0 : Hp) : aH :=
 bnd (bR x0 h0) fun v1 h1 =>
 some ((.f 228 [] [v1]), h1)
noncomputable abbrev c198 : Code := cf Tryz.f198
noncomputable abbrev r198 : K := aN CF Tryz.f198
noncomputable def D198 (r : RT) (n : Nat) (c : Code) (X : Nat → K) (k : K) : K := aO CF r 4 n c X r198 k
theorem cTx : D198 r n c198 x0 r198 = (K1 (s198 r n) 0) :=
 (by kernel_rfl)
theorem cJl : aG CF r n 198 args h = s198 r n (aR args 0) h :=
 (by kernel_rfl : aG CF r n 198 args h = D198 r n c198 x0 r198 (aJ args) h).trans ((congrFun (congrFun (cTx r n) (aJ args)) h).trans (by kernel_rfl))
noncomputable def s199 (r : RT) (n : Nat) (x0 x1 : DV) (h0 : Hp) : aH :=
 bnd (r 229 [x0, x1] h0) fun v1 h1 =>
 some (v1, h1)
noncomputable abbrev c199 : Code := cf Tryz.f199
noncomputable abbrev r199 : K := aN CF Tryz.f199
noncomputable def D199 (r : RT) (n : Nat) (c : Code) (X : Nat → K) (k : K) : K := aO CF r 8 n c X r199 k
theorem cXl : D199 r n c199 x0 r199 = (K2 (s199 r n) 0 1) :=
 (by kernel_rfl)
theorem cGy : aG CF r n 199 args h = s199 r n (aR args 0) (aR args 1) h :=
 (by kernel_rfl : aG CF r n 199 args h = D199 r n c199 x0 r199 (aJ args) h).trans ((congrFun (congrFun (cXl r n) (aJ args)) h).trans (by kernel_rfl))
noncomputable def gG (r : RT) (n : Nat) (x2 x4 x5 : DV) (h0 : Hp) : aH :=
 bnd (aK 4 x4 h0) fun v1 h1 =>
 bnd (aF 4 x2 v1 h1) fun _ h2 =>
 bnd (aK 4 x2 h2) fun v3 _ =>
 some (.t [v3, x5], h2)
noncomputable def aOj (r : RT) (n : Nat) (x0 x2 x4 x5 x6 : DV) (h0 : Hp) : aH :=
 bnd (r 231 [x6] h0) fun v1 h1 =>
 aS v1 (
 bnd (aB 0 x4 h1) fun v2 h2 =>
 bnd (aF 1 v2 (aE 1) h2) fun _ h3 =>
 bnd (r 232 [x0] h3) fun v4 h4 =>
 bnd (aC 0 v4 h4) fun v5 h5 =>
 bnd (aC 1 v4 h5) fun v6 h6 =>
 bnd (aB 1 x4 h6) fun v7 h7 =>
 bnd (aF 1 v7 v5 h7) fun _ h8 =>
 bnd (aD .eql v6 (aE 0) h8) fun v9 h9 =>
 bnd (gD v9 true (some (x0, h9)) h9) fun v10 h10 =>
 bnd (gD v9 true (r 233 [v10] h10) h10) fun v11 h11 =>
 bnd (aL v9 v11 (.b false) h11) fun v12 h12 =>
 aS v12 (
 bnd (aB 1 x4 h12) fun v13 h13 =>
 bnd (aA v13 h13) fun v14 h14 =>
 bnd (dX .add v14 (.s [58]) h14) fun v15 h15 =>
 bnd (aB 0 x4 h15) fun v16 h16 =>
 bnd (aF 1 v16 (aE 2) h16) fun _ h17 =>
 bnd (aB 1 x4 h17) fun v18 h18 =>
 bnd (aF 1 v18 v15 h18) fun _ h19 =>
      gG r n x2 x4 v6 h19) (
      gG r n x2 x4 v6 h12)) (
 bnd (r 234 [x6] h1) fun v20 h20 =>
 aS v20 (
 bnd (aB 0 x4 h20) fun v21 h21 =>
 bnd (aF 1 v21 (aE 4) h21) fun _ h22 =>
 bnd (r 235 [x0] h22) fun v23 h23 =>
 bnd (aC 0 v23 h23) fun v24 h24 =>
 bnd (aC 1 v23 h24) fun v25 h25 =>
 bnd (aB 2 x4 h25) fun v26 h26 =>
 bnd (aF 1 v26 v24 h26) fun _ h27 =>
      gG r n x2 x4 v25 h27) (
 bnd (aD .eql x6 (.i .u8 (Int.ofNat 39)) h20) fun v28 h28 =>
 aS v28 (
 bnd (aQ x0 h28) fun v29 h29 =>
 bnd (aB 1 v29 h29) fun v30 h30 =>
 bnd (aA v30 h30) fun v31 h31 =>
 bnd (aD .add v31 (aE 1) h31) fun v32 h32 =>
 bnd (aQ x0 h32) fun v33 h33 =>
 bnd (aB 1 v33 h33) fun v34 h34 =>
 bnd (aF 1 v34 v32 h34) fun _ h35 =>
 bnd (aB 0 x4 h35) fun v36 h36 =>
 bnd (aF 1 v36 (aE 5) h36) fun _ h37 =>
 bnd (r 236 [x0] h37) fun v38 h38 =>
 bnd (aC 0 v38 h38) fun v39 h39 =>
 bnd (aC 1 v38 h39) fun v40 h40 =>
 bnd (aB 1 x4 h40) fun v41 h41 =>
 bnd (aF 1 v41 v39 h41) fun _ h42 =>
    gG r n x2 x4 v40 h42) (
 bnd (aD .eql x6 (.i .u8 (Int.ofNat 35)) h28) fun v43 h43 =>
 bnd (gD v43 true (some (x0, h43)) h43) fun v44 h44 =>
 bnd (gD v43 true (r 230 [v44, (aE 1)] h44) h44) fun v45 h45 =>
 bnd (gD v43 true (aD .eql v45 (.i .u8 (Int.ofNat 40)) h45) h45) fun v46 h46 =>
 bnd (aL v43 v46 (.b false) h46) fun v47 h47 =>
 aS v47 (
 bnd (aQ x0 h47) fun v48 h48 =>
 bnd (aB 1 v48 h48) fun v49 h49 =>
 bnd (aA v49 h49) fun v50 h50 =>
 bnd (aD .add v50 (aE 2) h50) fun v51 h51 =>
 bnd (aQ x0 h51) fun v52 h52 =>
 bnd (aB 1 v52 h52) fun v53 h53 =>
 bnd (aF 1 v53 v51 h53) fun _ h54 =>
 bnd (aB 0 x4 h54) fun v55 h55 =>
 bnd (aF 1 v55 (aE 7) h55) fun _ h56 =>
     gG r n x2 x4 x5 h56) (
 bnd (aD .eql x6 (.i .u8 (Int.ofNat 35)) h47) fun v57 h57 =>
 aS v57 (
 bnd (aQ x0 h57) fun v58 h58 =>
 bnd (aB 1 v58 h58) fun v59 h59 =>
 bnd (aA v59 h59) fun v60 h60 =>
 bnd (aD .add v60 (aE 1) h60) fun v61 h61 =>
 bnd (aQ x0 h61) fun v62 h62 =>
 bnd (aB 1 v62 h62) fun v63 h63 =>
 bnd (aF 1 v63 v61 h63) fun _ h64 =>
 bnd (aB 0 x4 h64) fun v65 h65 =>
 bnd (aF 1 v65 (aE 6) h65) fun _ h66 =>
 bnd (r 237 [x0] h66) fun v67 h67 =>
 bnd (aC 0 v67 h67) fun v68 h68 =>
 bnd (aC 1 v67 h68) fun v69 h69 =>
 bnd (aB 1 x4 h69) fun v70 h70 =>
 bnd (aF 1 v70 v68 h70) fun _ h71 =>
      gG r n x2 x4 v69 h71) (
 bnd (aD .eql x6 (.i .u8 (Int.ofNat 58)) h57) fun v72 h72 =>
 bnd (gD v72 true (some (x0, h72)) h72) fun v73 h73 =>
 bnd (gD v72 true (r 230 [v73, (aE 1)] h73) h73) fun v74 h74 =>
 bnd (gD v72 true (aD .eql v74 (.i .u8 (Int.ofNat 61)) h74) h74) fun v75 h75 =>
 bnd (aL v72 v75 (.b false) h75) fun v76 h76 =>
 aS v76 (
 bnd (aQ x0 h76) fun v77 h77 =>
 bnd (aB 1 v77 h77) fun v78 h78 =>
 bnd (aA v78 h78) fun v79 h79 =>
 bnd (aD .add v79 (aE 2) h79) fun v80 h80 =>
 bnd (aQ x0 h80) fun v81 h81 =>
 bnd (aB 1 v81 h81) fun v82 h82 =>
 bnd (aF 1 v82 v80 h82) fun _ h83 =>
 bnd (aB 0 x4 h83) fun v84 h84 =>
 bnd (aF 1 v84 (aE 9) h84) fun _ h85 =>
       gG r n x2 x4 x5 h85) (
 bnd (aD .eql x6 (.i .u8 (Int.ofNat 58)) h76) fun v86 h86 =>
 bnd (gD v86 true (some (x0, h86)) h86) fun v87 h87 =>
 bnd (gD v86 true (r 230 [v87, (aE 1)] h87) h87) fun v88 h88 =>
 bnd (gD v86 true (r 231 [v88] h88) h88) fun v89 h89 =>
 bnd (aL v86 v89 (.b false) h89) fun v90 h90 =>
 aS v90 (
 bnd (aQ x0 h90) fun v91 h91 =>
 bnd (aB 1 v91 h91) fun v92 h92 =>
 bnd (aA v92 h92) fun v93 h93 =>
 bnd (aD .add v93 (aE 1) h93) fun v94 h94 =>
 bnd (aQ x0 h94) fun v95 h95 =>
 bnd (aB 1 v95 h95) fun v96 h96 =>
 bnd (aF 1 v96 v94 h96) fun _ h97 =>
 bnd (aB 0 x4 h97) fun v98 h98 =>
 bnd (aF 1 v98 (aE 8) h98) fun _ h99 =>
 bnd (r 232 [x0] h99) fun v100 h100 =>
 bnd (aC 0 v100 h100) fun v101 h101 =>
 bnd (aC 1 v100 h101) fun v102 h102 =>
 bnd (aB 1 x4 h102) fun v103 h103 =>
 bnd (aF 1 v103 v101 h103) fun _ h104 =>
        gG r n x2 x4 v102 h104) (
 bnd (r 198 [(.s [43, 45, 42, 47, 60, 62, 61, 126, 44, 64, 38, 37])] h90) fun v105 h105 =>
 bnd (cV CF r v105 [x6] h105) fun v106 h106 =>
 aS v106 (
 bnd (r 198 [(.s [43, 45, 42, 47, 60, 62, 61, 126, 44, 64, 38, 37])] h106) fun v107 h107 =>
 bnd (r 197 [x0, v107, (aE 2)] h107) fun v108 h108 =>
 bnd (aB 0 x4 h108) fun v109 h109 =>
 bnd (aF 1 v109 (aE 3) h109) fun _ h110 =>
 bnd (aB 1 x4 h110) fun v111 h111 =>
 bnd (aF 1 v111 v108 h111) fun _ h112 =>
         gG r n x2 x4 x5 h112) (
 bnd (r 198 [(.s [94, 46, 59, 40, 41, 91, 93, 124])] h106) fun v113 h113 =>
 bnd (cV CF r v113 [x6] h113) fun v114 h114 =>
 aS v114 (
 bnd (r 198 [(.s [94, 46, 59, 40, 41, 91, 93, 124])] h114) fun v115 h115 =>
 bnd (r 197 [x0, v115, (aE 1)] h115) fun v116 h116 =>
 bnd (aB 0 x4 h116) fun v117 h117 =>
 bnd (aF 1 v117 (aE 10) h117) fun _ h118 =>
 bnd (aB 1 x4 h118) fun v119 h119 =>
 bnd (aF 1 v119 v116 h119) fun _ h120 =>
          gG r n x2 x4 x5 h120) (
          gG r n x2 x4 (aE 10) h114)))))))))
noncomputable def aOx (r : RT) (n : Nat) (x0 x2 x4 x5 : DV) (h0 : Hp) : aH :=
 bnd (r 230 [x0, (aE 0)] h0) fun v1 h1 =>
  aOj r n x0 x2 x4 x5 v1 h1
noncomputable def vD (r : RT) (n : Nat) (x0 x2 x4 : DV) (h0 : Hp) : aH :=
 aOx r n x0 x2 x4 (aE 0) h0
noncomputable def oW (r : RT) (n : Nat) (x0 x2 : DV) (h0 : Hp) : aH :=
 bnd (aQ x0 h0) fun v1 h1 =>
 bnd (aB 1 v1 h1) fun v2 h2 =>
 bnd (aA v2 h2) fun v3 h3 =>
 bnd (aY [(aE 0), (.s []), (aE 0), (aE 0)] [(3, 1, v3)] h3) fun v4 h4 =>
 bnd (bH [(aE 0), (.s []), (aE 0), (aE 0)] h4) fun v5 h5 =>
 bnd (aF 4 v5 v4 h5) fun _ h6 =>
  vD r n x0 x2 v5 h6
noncomputable def s200 (r : RT) (n : Nat) (x0 : DV) (h0 : Hp) : aH :=
 bnd (bH [(aE 0), (.s []), (aE 0), (aE 0)] h0) fun v1 h1 =>
  oW r n x0 v1 h1
noncomputable abbrev c200 : Code := cf Tryz.f200
noncomputable abbrev aAz : Code := cR c200
noncomputable abbrev zB : Code := cR aAz
noncomputable abbrev aCq : Code := cR zB
noncomputable abbrev aAo : Code := cR aCq
noncomputable abbrev cIc : Code := cR aAo
noncomputable abbrev bLr : Code := cL aAo
noncomputable abbrev bQy : Code := cL aCq
noncomputable abbrev bAn : Code := cL zB
noncomputable abbrev aNm : Code := cL aAz
noncomputable abbrev zJ : Code := cL c200
noncomputable abbrev r200 : K := aN CF Tryz.f200
noncomputable def D200 (r : RT) (n : Nat) (c : Code) (X : Nat → K) (k : K) : K := aO CF r 153 n c X r200 k
theorem bXh : D200 r n cIc x0 r200 = (K3 (gG r n) 2 4 5) :=
 (by kernel_rfl)
theorem bHk : D200 r n aAo x0 r200 = D200 r n bLr x0 (K3 (gG r n) 2 4 5) :=
 congrArg (fun k => D200 r n bLr x0 k) (bXh r n)
theorem cEt : D200 r n aAo x0 r200 = (K5 (aOj r n) 0 2 4 5 6) :=
 (bHk r n).trans
 ((by kernel_rfl))
theorem bKt : D200 r n aCq x0 r200 = D200 r n bQy x0 (K5 (aOj r n) 0 2 4 5 6) :=
 congrArg (fun k => D200 r n bQy x0 k) (cEt r n)
theorem cBy : D200 r n aCq x0 r200 = (K4 (aOx r n) 0 2 4 5) :=
 (bKt r n).trans
 ((by kernel_rfl))
theorem bNi : D200 r n zB x0 r200 = D200 r n bAn x0 (K4 (aOx r n) 0 2 4 5) :=
 congrArg (fun k => D200 r n bAn x0 k) (cBy r n)
theorem bZb : D200 r n zB x0 r200 = (K3 (vD r n) 0 2 4) :=
 (bNi r n).trans
 ((by kernel_rfl))
theorem bBl : D200 r n aAz x0 r200 = D200 r n aNm x0 (K3 (vD r n) 0 2 4) :=
 congrArg (fun k => D200 r n aNm x0 k) (bZb r n)
theorem bKo (q0 : lF) : D200 r n aNm x0 (K3 q0 0 2 4) = fun (env : aU) (h : Hp) =>
 bnd (aQ (env 0) h) fun v1 h1 =>
 bnd (aB 1 v1 h1) fun v2 h2 =>
 bnd (aA v2 h2) fun v3 h3 =>
 bnd (aY [(aE 0), (.s []), (aE 0), (aE 0)] [(3, 1, v3)] h3) fun v4 h4 =>
 bnd (bH [(aE 0), (.s []), (aE 0), (aE 0)] h4) fun v5 h5 =>
 bnd (aF 4 v5 v4 h5) fun _ h6 =>
  q0 (env 0) (env 2) v5 h6 := by kernel_rfl
theorem bAh : (fun (env : aU) (h : Hp) =>
 bnd (aQ (env 0) h) fun v1 h1 =>
 bnd (aB 1 v1 h1) fun v2 h2 =>
 bnd (aA v2 h2) fun v3 h3 =>
 bnd (aY [(aE 0), (.s []), (aE 0), (aE 0)] [(3, 1, v3)] h3) fun v4 h4 =>
 bnd (bH [(aE 0), (.s []), (aE 0), (aE 0)] h4) fun v5 h5 =>
 bnd (aF 4 v5 v4 h5) fun _ h6 =>
  vD r n (env 0) (env 2) v5 h6) = (K2 (oW r n) 0 2) := by kernel_rfl
theorem cEh : D200 r n aAz x0 r200 = (K2 (oW r n) 0 2) :=
 (bBl r n).trans
 ((bKo r n (vD r n)).trans (bAh r n))
theorem cOm : D200 r n c200 x0 r200 = D200 r n zJ x0 (K2 (oW r n) 0 2) :=
 congrArg (fun k => D200 r n zJ x0 k) (cEh r n)
theorem cMb (q0 : fW) : D200 r n zJ x0 (K2 q0 0 2) = fun (env : aU) (h : Hp) =>
 bnd (bH [(aE 0), (.s []), (aE 0), (aE 0)] h) fun v1 h1 =>
  q0 (env 0) v1 h1 := by kernel_rfl
theorem bXc : (fun (env : aU) (h : Hp) =>
 bnd (bH [(aE 0), (.s []), (aE 0), (aE 0)] h) fun v1 h1 =>
  oW r n (env 0) v1 h1) = (K1 (s200 r n) 0) := by kernel_rfl
theorem cXq : D200 r n c200 x0 r200 = (K1 (s200 r n) 0) :=
 (cOm r n).trans
 ((cMb r n (oW r n)).trans (bXc r n))
theorem cMn : aG CF r n 200 args h = s200 r n (aR args 0) h :=
 (by kernel_rfl : aG CF r n 200 args h = D200 r n c200 x0 r200 (aJ args) h).trans ((congrFun (congrFun (cXq r n) (aJ args)) h).trans (by kernel_rfl))
noncomputable def s201 (r : RT) (n : Nat) (x0 x1 x2 : DV) (h0 : Hp) : aH :=
 bnd (r 205 [x0, (aE 0)] h0) fun v1 h1 =>
 bnd (bH [(aE 0), (.s []), (aE 0), (aE 0)] h1) fun v2 h2 =>
 bnd (aF 4 v2 v1 h2) fun _ h3 =>
 bnd (aQ x0 h3) fun v4 h4 =>
 bnd (aB 3 v4 h4) fun v5 h5 =>
 bnd (aA v5 h5) fun v6 h6 =>
 bnd (aD .eql v6 (aE 0) h6) fun v7 h7 =>
 bnd (gD v7 true (aB 0 v2 h7) h7) fun v8 h8 =>
 bnd (gD v7 true (aA v8 h8) h8) fun v9 h9 =>
 bnd (gD v7 true (some (x1, h9)) h9) fun v10 h10 =>
 bnd (gD v7 true (aD .eql v9 v10 h10) h10) fun v11 h11 =>
 bnd (aL v7 v11 (.b false) h11) fun v12 h12 =>
 bnd (gD v12 true (some (x2, h12)) h12) fun v13 h13 =>
 bnd (gD v12 true (dX .eql v13 (.s []) h13) h13) fun v14 h14 =>
 bnd (gD v12 true (some (v14, h14)) h14) fun v15 h15 =>
 bnd (gD v15 false (aB 1 v2 h15) h15) fun v16 h16 =>
 bnd (gD v15 false (aA v16 h16) h16) fun v17 h17 =>
 bnd (gD v15 false (some (x2, h17)) h17) fun v18 h18 =>
 bnd (gD v15 false (dX .eql v17 v18 h18) h18) fun v19 h19 =>
 bnd (gD v12 true (aL v15 (.b true) v19 h19) h19) fun v20 h20 =>
 bnd (aL v12 v20 (.b false) h20) fun v21 h21 =>
 some (v21, h21)
noncomputable abbrev c201 : Code := cf Tryz.f201
noncomputable abbrev r201 : K := aN CF Tryz.f201
noncomputable def D201 (r : RT) (n : Nat) (c : Code) (X : Nat → K) (k : K) : K := aO CF r 31 n c X r201 k
theorem cSn : D201 r n c201 x0 r201 = (K3 (s201 r n) 0 1 2) :=
 (by kernel_rfl)
theorem cOg : aG CF r n 201 args h = s201 r n (aR args 0) (aR args 1) (aR args 2) h :=
 (by kernel_rfl : aG CF r n 201 args h = D201 r n c201 x0 r201 (aJ args) h).trans ((congrFun (congrFun (cSn r n) (aJ args)) h).trans (by kernel_rfl))
noncomputable def aAn (r : RT) (n : Nat) (x2 x3 : DV) (h0 : Hp) : aH :=
 bnd (aK 4 x3 h0) fun v1 h1 =>
 bnd (aF 4 x2 v1 h1) fun _ h2 =>
 bnd (aK 4 x2 h2) fun v3 _ =>
 some (v3, h2)
noncomputable def tR (r : RT) (n : Nat) (x0 x2 x3 : DV) (h0 : Hp) : aH :=
 bnd (aB 0 x3 h0) fun v1 h1 =>
 bnd (aA v1 h1) fun v2 h2 =>
 bnd (aD .neq v2 (aE 0) h2) fun v3 h3 =>
 aS v3 (
 bnd (aQ x0 h3) fun v4 h4 =>
 bnd (aB 0 v4 h4) fun v5 h5 =>
 bnd (aA v5 h5) fun v6 h6 =>
 bnd (cJ 4 v6 (some (aE 1)) none h6) fun v7 h7 =>
 bnd (aQ x0 h7) fun v8 h8 =>
 bnd (aB 0 v8 h8) fun v9 h9 =>
 bnd (aF 1 v9 v7 h9) fun _ h10 =>
  aAn r n x2 x3 h10) (
  aAn r n x2 x3 h3)
noncomputable def oI (r : RT) (n : Nat) (x0 x2 : DV) (h0 : Hp) : aH :=
 bnd (r 205 [x0, (aE 0)] h0) fun v1 h1 =>
 bnd (bH [(aE 0), (.s []), (aE 0), (aE 0)] h1) fun v2 h2 =>
 bnd (aF 4 v2 v1 h2) fun _ h3 =>
  tR r n x0 x2 v2 h3
noncomputable def s202 (r : RT) (n : Nat) (x0 : DV) (h0 : Hp) : aH :=
 bnd (bH [(aE 0), (.s []), (aE 0), (aE 0)] h0) fun v1 h1 =>
  oI r n x0 v1 h1
noncomputable abbrev c202 : Code := cf Tryz.f202
noncomputable abbrev aBg : Code := cR c202
noncomputable abbrev aFj : Code := cR aBg
noncomputable abbrev cOl : Code := cR aFj
noncomputable abbrev bNo : Code := cL aFj
noncomputable abbrev aNq : Code := cL aBg
noncomputable abbrev aKy : Code := cL c202
noncomputable abbrev r202 : K := aN CF Tryz.f202
noncomputable def D202 (r : RT) (n : Nat) (c : Code) (X : Nat → K) (k : K) : K := aO CF r 18 n c X r202 k
theorem cBm : D202 r n cOl x0 r202 = (K2 (aAn r n) 2 3) :=
 (by kernel_rfl)
theorem bGq : D202 r n aFj x0 r202 = D202 r n bNo x0 (K2 (aAn r n) 2 3) :=
 congrArg (fun k => D202 r n bNo x0 k) (cBm r n)
theorem bWy : D202 r n aFj x0 r202 = (K3 (tR r n) 0 2 3) :=
 (bGq r n).trans
 ((by kernel_rfl))
theorem bOu : D202 r n aBg x0 r202 = D202 r n aNq x0 (K3 (tR r n) 0 2 3) :=
 congrArg (fun k => D202 r n aNq x0 k) (bWy r n)
theorem bOj (q0 : lF) : D202 r n aNq x0 (K3 q0 0 2 3) = fun (env : aU) (h : Hp) =>
 bnd (r 205 [(env 0), (aE 0)] h) fun v1 h1 =>
 bnd (bH [(aE 0), (.s []), (aE 0), (aE 0)] h1) fun v2 h2 =>
 bnd (aF 4 v2 v1 h2) fun _ h3 =>
  q0 (env 0) (env 2) v2 h3 := by kernel_rfl
theorem aXf : (fun (env : aU) (h : Hp) =>
 bnd (r 205 [(env 0), (aE 0)] h) fun v1 h1 =>
 bnd (bH [(aE 0), (.s []), (aE 0), (aE 0)] h1) fun v2 h2 =>
 bnd (aF 4 v2 v1 h2) fun _ h3 =>
  tR r n (env 0) (env 2) v2 h3) = (K2 (oI r n) 0 2) := by kernel_rfl
theorem cEf : D202 r n aBg x0 r202 = (K2 (oI r n) 0 2) :=
 (bOu r n).trans
 ((bOj r n (tR r n)).trans (aXf r n))
theorem cKo : D202 r n c202 x0 r202 = D202 r n aKy x0 (K2 (oI r n) 0 2) :=
 congrArg (fun k => D202 r n aKy x0 k) (cEf r n)
theorem cOt (q0 : fW) : D202 r n aKy x0 (K2 q0 0 2) = fun (env : aU) (h : Hp) =>
 bnd (bH [(aE 0), (.s []), (aE 0), (aE 0)] h) fun v1 h1 =>
  q0 (env 0) v1 h1 := by kernel_rfl
theorem cBg : (fun (env : aU) (h : Hp) =>
 bnd (bH [(aE 0), (.s []), (aE 0), (aE 0)] h) fun v1 h1 =>
  oI r n (env 0) v1 h1) = (K1 (s202 r n) 0) := by kernel_rfl
theorem cUy : D202 r n c202 x0 r202 = (K1 (s202 r n) 0) :=
 (cKo r n).trans
 ((cOt r n (oI r n)).trans (cBg r n))
theorem cHl : aG CF r n 202 args h = s202 r n (aR args 0) h :=
 (by kernel_rfl : aG CF r n 202 args h = D202 r n c202 x0 r202 (aJ args) h).trans ((congrFun (congrFun (cUy r n) (aJ args)) h).trans (by kernel_rfl))
noncomputable def s203 (r : RT) (n : Nat) (x0 : DV) (h0 : Hp) : aH :=
 bnd (bH fX h0) fun v1 h1 =>
 bnd (r 201 [x0, (aE 1), (.s [])] h1) fun v2 h2 =>
 bnd (gD v2 true (some (x0, h2)) h2) fun v3 h3 =>
 bnd (gD v2 true (r 205 [v3, (aE 1)] h3) h3) fun v4 h4 =>
 bnd (gD v2 true (eT 0 v4 h4) h4) fun v5 h5 =>
 bnd (gD v2 true (aD .eql v5 (aE 9) h5) h5) fun v6 h6 =>
 bnd (aL v2 v6 (.b false) h6) fun v7 h7 =>
 aS v7 (
 bnd (r 202 [x0] h7) fun v8 h8 =>
 bnd (eT 1 v8 h8) fun v9 h9 =>
 bnd (aY fX [(0, 1, (aE 6)), (1, 1, v9)] h9) fun v10 h10 =>
 bnd (bH fX h10) fun v11 h11 =>
 bnd (aF 6 v11 v10 h11) fun _ h12 =>
 bnd (r 202 [x0] h12) fun v13 h13 =>
 bnd (r 203 [x0] h13) fun v14 h14 =>
 bnd (aP fX 1 [(0, 6, v14)] h14) fun v15 h15 =>
 bnd (aB 5 v11 h15) fun v16 h16 =>
 bnd (aF 1 v16 v15 h16) fun _ h17 =>
 bnd (aK 6 v11 h17) fun v18 h18 =>
 bnd (aF 6 v1 v18 h18) fun _ h19 =>
 bnd (aK 6 v1 h19) fun v20 _ =>
 some (v20, h19)) (
 bnd (r 238 [x0] h7) fun v21 h21 =>
 bnd (aF 6 v1 v21 h21) fun _ h22 =>
 bnd (aK 6 v1 h22) fun v23 _ =>
 some (v23, h22))
noncomputable abbrev c203 : Code := cf Tryz.f203
noncomputable abbrev r203 : K := aN CF Tryz.f203
noncomputable def D203 (r : RT) (n : Nat) (c : Code) (X : Nat → K) (k : K) : K := aO CF r 25 n c X r203 k
theorem cRi : D203 r n c203 x0 r203 = (K1 (s203 r n) 0) :=
 (by kernel_rfl)
theorem cNt : aG CF r n 203 args h = s203 r n (aR args 0) h :=
 (by kernel_rfl : aG CF r n 203 args h = D203 r n c203 x0 r203 (aJ args) h).trans ((congrFun (congrFun (cRi r n) (aJ args)) h).trans (by kernel_rfl))
noncomputable def s205 (r : RT) (n : Nat) (x0 x1 : DV) (h0 : Hp) : aH :=
 bnd (bH [(aE 0), (.s []), (aE 0), (aE 0)] h0) fun v1 h1 =>
 bnd (aQ x0 h1) fun v2 h2 =>
 bnd (aB 0 v2 h2) fun v3 h3 =>
 bnd (aA v3 h3) fun v4 h4 =>
 bnd (aQ x0 h4) fun v5 h5 =>
 bnd (aB 0 v5 h5) fun v6 h6 =>
 bnd (aA v6 h6) fun v7 h7 =>
 bnd (bQ v7 h7) fun v8 h8 =>
 bnd (aD .sub v8 (aE 1) h8) fun v9 h9 =>
 bnd (aMj x1 v9 h9) fun v10 h10 =>
 bnd (aI 4 v4 v10 h10) fun v11 h11 =>
 bnd (aK 4 v11 h11) fun v12 h12 =>
 bnd (aF 4 v1 v12 h12) fun v13 h13 =>
 bnd (aK 4 v1 h13) fun v14 _ =>
 some (v14, h13)
noncomputable abbrev c205 : Code := cf Tryz.f205
noncomputable abbrev r205 : K := aN CF Tryz.f205
noncomputable def D205 (r : RT) (n : Nat) (c : Code) (X : Nat → K) (k : K) : K := aO CF r 19 n c X r205 k
theorem cUz : D205 r n c205 x0 r205 = (K2 (s205 r n) 0 1) :=
 (by kernel_rfl)
theorem cOw : aG CF r n 205 args h = s205 r n (aR args 0) (aR args 1) h :=
 (by kernel_rfl : aG CF r n 205 args h = D205 r n c205 x0 r205 (aJ args) h).trans ((congrFun (congrFun (cUz r n) (aJ args)) h).trans (by kernel_rfl))
noncomputable def aBd (r : RT) (n : Nat) (x7 : DV) (h0 : Hp) : aH :=
 bnd (aB 1 x7 h0) fun v1 h1 =>
 bnd (aA v1 h1) fun v2 h2 =>
 some (v2, h2)
noncomputable def tZ (r : RT) (n : Nat) (x0 x2 x7 : DV) (h0 : Hp) : aH :=
 bnd (bQ x2 h0) fun v1 h1 =>
 bnd (aD .eql v1 (aE 4) h1) fun v2 h2 =>
 aS v2 (
 bnd (aK 4 x7 h2) fun v3 h3 =>
 bnd (r 204 [x0, v3, (aE 18)] h3) fun v4 h4 =>
  aBd r n x7 h4) (
  aBd r n x7 h2)
noncomputable def aAu (r : RT) (n : Nat) (x0 x1 x2 : DV) (h0 : Hp) : aH :=
 bnd (r 157 [x0, x1, (.s [])] h0) fun v1 h1 =>
 bnd (bH [(aE 0), (.s []), (aE 0), (aE 0)] h1) fun v2 h2 =>
 bnd (aF 4 v2 v1 h2) fun _ h3 =>
  tZ r n x0 x2 v2 h3
noncomputable def s206 (r : RT) (n : Nat) (x0 x1 x2 : DV) (h0 : Hp) : aH :=
 aAu r n x0 x1 x2 h0
noncomputable abbrev c206 : Code := cf Tryz.f206
noncomputable abbrev aCz : Code := cR c206
noncomputable abbrev zV : Code := cR aCz
noncomputable abbrev cIq : Code := cR zV
noncomputable abbrev bQn : Code := cL zV
noncomputable abbrev aJq : Code := cL aCz
noncomputable abbrev bDb : Code := cL c206
noncomputable abbrev r206 : K := aN CF Tryz.f206
noncomputable def D206 (r : RT) (n : Nat) (c : Code) (X : Nat → K) (k : K) : K := aO CF r 19 n c X r206 k
theorem bSl : D206 r n cIq x0 r206 = (K1 (aBd r n) 7) :=
 (by kernel_rfl)
theorem bMs : D206 r n zV x0 r206 = D206 r n bQn x0 (K1 (aBd r n) 7) :=
 congrArg (fun k => D206 r n bQn x0 k) (bSl r n)
theorem cAp : D206 r n zV x0 r206 = (K3 (tZ r n) 0 2 7) :=
 (bMs r n).trans
 ((by kernel_rfl))
theorem bCh : D206 r n aCz x0 r206 = D206 r n aJq x0 (K3 (tZ r n) 0 2 7) :=
 congrArg (fun k => D206 r n aJq x0 k) (cAp r n)
theorem bNr (q0 : lF) : D206 r n aJq x0 (K3 q0 0 2 7) = fun (env : aU) (h : Hp) =>
 bnd (r 157 [(env 0), (env 1), (.s [])] h) fun v1 h1 =>
 bnd (bH [(aE 0), (.s []), (aE 0), (aE 0)] h1) fun v2 h2 =>
 bnd (aF 4 v2 v1 h2) fun _ h3 =>
  q0 (env 0) (env 2) v2 h3 := by kernel_rfl
theorem aXg : (fun (env : aU) (h : Hp) =>
 bnd (r 157 [(env 0), (env 1), (.s [])] h) fun v1 h1 =>
 bnd (bH [(aE 0), (.s []), (aE 0), (aE 0)] h1) fun v2 h2 =>
 bnd (aF 4 v2 v1 h2) fun _ h3 =>
  tZ r n (env 0) (env 2) v2 h3) = (K3 (aAu r n) 0 1 2) := by kernel_rfl
theorem bXo : D206 r n aCz x0 r206 = (K3 (aAu r n) 0 1 2) :=
 (bCh r n).trans
 ((bNr r n (tZ r n)).trans (aXg r n))
theorem cOh : D206 r n c206 x0 r206 = D206 r n bDb x0 (K3 (aAu r n) 0 1 2) :=
 congrArg (fun k => D206 r n bDb x0 k) (bXo r n)
theorem cQx : D206 r n c206 x0 r206 = (K3 (s206 r n) 0 1 2) :=
 (cOh r n).trans
 ((by kernel_rfl))
theorem cMz : aG CF r n 206 args h = s206 r n (aR args 0) (aR args 1) (aR args 2) h :=
 (by kernel_rfl : aG CF r n 206 args h = D206 r n c206 x0 r206 (aJ args) h).trans ((congrFun (congrFun (cQx r n) (aJ args)) h).trans (by kernel_rfl))
noncomputable def cP (r : RT) (n : Nat) (kk2 : cA) (x0 x2 x10 x11 x12 : DV) (h0 : Hp) : aH :=
 bnd (aD .add x12 (aE 1) h0) fun v1 h1 =>
  kk2 x0 x2 x10 x11 v1 h1
noncomputable def uB (r : RT) (n : Nat) (kk2 : cA) (x0 x2 x7 x10 x11 x12 : DV) (h0 : Hp) : aH :=
 bnd (aQ x0 h0) fun v1 h1 =>
 bnd (aB 8 v1 h1) fun v2 h2 =>
 bnd (aA v2 h2) fun v3 h3 =>
 bnd (aD .neq v3 (aE 0) h3) fun v4 h4 =>
 aS v4 (
 some (.t [], h4)) (
 bnd (aQ x0 (resv 1 h4)) fun v5 h5 =>
 bnd (aB 6 v5 h5) fun v6 h6 =>
 bnd (aA v6 h6) fun v7 h7 =>
 bnd (aQ x0 h7) fun v8 h8 =>
 bnd (aB 0 v8 h8) fun v9 h9 =>
 bnd (aB 2 v9 h9) fun v10 h10 =>
 bnd (aA v10 h10) fun v11 h11 =>
 bnd (aY [(.s []), (.b false), (.b false), (aE 0)] [(0, 1, x7), (1, 1, (.b false)), (2, 1, x2), (3, 1, v11)] h11) fun v12 h12 =>
 bnd (bG (bS 0 h4.next) [(.s []), (.b false), (.b false), (aE 0)] 1 [(0, 4, v12)] h12) fun v13 h13 =>
 bnd (aZ 4 32 v7 v13 h13) fun v14 h14 =>
 bnd (aQ x0 h14) fun v15 h15 =>
 bnd (aB 6 v15 h15) fun v16 h16 =>
 bnd (aF 1 v16 v14 h16) fun v17 h17 =>
 bnd (aQ x0 h17) fun v18 h18 =>
 bnd (aB 0 v18 h18) fun v19 h19 =>
 bnd (aB 2 v19 h19) fun v20 h20 =>
 bnd (aA v20 h20) fun v21 h21 =>
 bnd (aD .add v21 (aE 1) h21) fun v22 h22 =>
 bnd (aQ x0 h22) fun v23 h23 =>
 bnd (aB 0 v23 h23) fun v24 h24 =>
 bnd (aB 2 v24 h24) fun v25 h25 =>
 bnd (aF 1 v25 v22 h25) fun _ h26 =>
  cP r n kk2 x0 x2 x10 x11 x12 h26)
noncomputable def mS (r : RT) (n : Nat) (kk2 : cA) (x0 x2 x7 x10 x11 x12 : DV) (h0 : Hp) : aH :=
 bnd (aQ x0 h0) fun v1 h1 =>
 bnd (aB 0 v1 h1) fun v2 h2 =>
 bnd (aB 2 v2 h2) fun v3 h3 =>
 bnd (aA v3 h3) fun v4 h4 =>
 bnd (aD .eql v4 (aE 24) h4) fun v5 h5 =>
 aS v5 (
 bnd (r 241 [x0, x7, (aE 18)] h5) fun v6 h6 =>
  uB r n kk2 x0 x2 x7 x10 x11 x12 h6) (
  uB r n kk2 x0 x2 x7 x10 x11 x12 h5)
noncomputable def zH (r : RT) (n : Nat) (kk2 : cA) (x0 x2 x7 x10 x11 x12 : DV) (h0 : Hp) : aH :=
 bnd (r 239 [x0, x7] h0) fun v1 h1 =>
 bnd (aC 0 v1 h1) fun v2 h2 =>
 bnd (aC 1 v1 h2) fun v3 h3 =>
 bnd (bH [(.s []), (.b false), (.b false), (aE 0)] h3) fun v4 h4 =>
 bnd (aF 4 v4 v2 h4) fun _ h5 =>
 bnd (gD v3 false (some (x7, h5)) h5) fun v6 h6 =>
 bnd (gD v3 false (r 240 [v6] h6) h6) fun v7 h7 =>
 bnd (aL v3 (.b true) v7 h7) fun v8 h8 =>
 aS v8 (
 bnd (r 241 [x0, x7, (aE 16)] h8) fun v9 h9 =>
  mS r n kk2 x0 x2 x7 x10 x11 x12 h9) (
  mS r n kk2 x0 x2 x7 x10 x11 x12 h8)
noncomputable def aMl (r : RT) (n : Nat) (kk2 : cA) (x0 x2 x10 x11 x12 : DV) (h0 : Hp) : aH :=
 bnd (aI 1 x10 x12 h0) fun v1 h1 =>
 bnd (aA v1 h1) fun v2 h2 =>
  zH r n kk2 x0 x2 v2 x10 x11 x12 h2
noncomputable def aLd (r : RT) (n : Nat) (kk2 : cA) (x0 x2 x10 x11 x12 x13 : DV) (h0 : Hp) : aH :=
 aS x13 (
  aMl r n kk2 x0 x2 x10 x11 x12 h0) (
 some (.t [], h0))
noncomputable def aTc (r : RT) (n : Nat) (kk2 : cA) (x0 x2 x10 x11 x12 : DV) (h0 : Hp) : aH :=
 bnd (aD .lss x12 x11 h0) fun v1 h1 =>
  aLd r n kk2 x0 x2 x10 x11 x12 v1 h1
noncomputable def rQ (r : RT) (n : Nat) (m : Nat) : cA :=
 Nat.rec (motive := fun _ => cA) (fun _ _ _ _ _ _ => none) (fun _ ih => aTc r n ih) m
noncomputable def bDg (r : RT) (n : Nat) : cA := rQ r n n
noncomputable def aOs (r : RT) (n : Nat) (x0 x2 x10 x11 x12 : DV) (h0 : Hp) : aH :=
 bDg r n x0 x2 x10 x11 x12 h0
noncomputable def s207 (r : RT) (n : Nat) (x0 x1 x2 : DV) (h0 : Hp) : aH :=
 bnd (bQ x1 h0) fun v1 h1 =>
  aOs r n x0 x2 x1 v1 (aE 0) h1
noncomputable abbrev c207 : Code := cf Tryz.f207
noncomputable abbrev aLz : Code := cR c207
noncomputable abbrev aAt : Code := cL aLz
noncomputable abbrev iY : Code := cL aAt
noncomputable abbrev yD : Code := cR iY
noncomputable abbrev xQ : Code := cR yD
noncomputable abbrev cLr : Code := cR xQ
noncomputable abbrev aFs : Code := cL xQ
noncomputable abbrev aBo : Code := cL aFs
noncomputable abbrev aEf : Code := cR aBo
noncomputable abbrev rF : Code := cR aEf
noncomputable abbrev aQc : Code := cR rF
noncomputable abbrev aSg : Code := cL rF
noncomputable abbrev aCw : Code := cL aEf
noncomputable abbrev aQn : Code := cL aBo
noncomputable abbrev aUc : Code := cL yD
noncomputable abbrev aWh : Code := cL iY
noncomputable abbrev aRt : Code := cL c207
noncomputable abbrev r207 : K := aN CF Tryz.f207
noncomputable def D207 (r : RT) (n : Nat) (c : Code) (X : Nat → K) (k : K) : K := aO CF r 71 n c X r207 k
theorem bSq (kk2 : cA) : D207 r n cLr (xs x0 0 r207) (K5 kk2 0 2 10 11 12) = (K5 (cP r n kk2) 0 2 10 11 12) :=
 (by kernel_rfl)
theorem bGc (kk2 : cA) (q0 : cA) : D207 r n aQc (xs (xs x0 0 r207) 1 (K5 q0 0 2 10 11 12)) (K5 q0 0 2 10 11 12) = fun (env : aU) (h : Hp) =>
 bnd (aQ (env 0) h) fun v1 h1 =>
 bnd (aB 8 v1 h1) fun v2 h2 =>
 bnd (aA v2 h2) fun v3 h3 =>
 bnd (aD .neq v3 (aE 0) h3) fun v4 h4 =>
 aS v4 (
 some (.t [], h4)) (
 bnd (aQ (env 0) (resv 1 h4)) fun v5 h5 =>
 bnd (aB 6 v5 h5) fun v6 h6 =>
 bnd (aA v6 h6) fun v7 h7 =>
 bnd (aQ (env 0) h7) fun v8 h8 =>
 bnd (aB 0 v8 h8) fun v9 h9 =>
 bnd (aB 2 v9 h9) fun v10 h10 =>
 bnd (aA v10 h10) fun v11 h11 =>
 bnd (aY [(.s []), (.b false), (.b false), (aE 0)] [(0, 1, (env 7)), (1, 1, (.b false)), (2, 1, (env 2)), (3, 1, v11)] h11) fun v12 h12 =>
 bnd (bG (bS 0 h4.next) [(.s []), (.b false), (.b false), (aE 0)] 1 [(0, 4, v12)] h12) fun v13 h13 =>
 bnd (aZ 4 32 v7 v13 h13) fun v14 h14 =>
 bnd (aQ (env 0) h14) fun v15 h15 =>
 bnd (aB 6 v15 h15) fun v16 h16 =>
 bnd (aF 1 v16 v14 h16) fun v17 h17 =>
 bnd (aQ (env 0) h17) fun v18 h18 =>
 bnd (aB 0 v18 h18) fun v19 h19 =>
 bnd (aB 2 v19 h19) fun v20 h20 =>
 bnd (aA v20 h20) fun v21 h21 =>
 bnd (aD .add v21 (aE 1) h21) fun v22 h22 =>
 bnd (aQ (env 0) h22) fun v23 h23 =>
 bnd (aB 0 v23 h23) fun v24 h24 =>
 bnd (aB 2 v24 h24) fun v25 h25 =>
 bnd (aF 1 v25 v22 h25) fun _ h26 =>
      q0 (env 0) (env 2) (env 10) (env 11) (env 12) h26) := by kernel_rfl
theorem aZk (kk2 : cA) : (fun (env : aU) (h : Hp) =>
 bnd (aQ (env 0) h) fun v1 h1 =>
 bnd (aB 8 v1 h1) fun v2 h2 =>
 bnd (aA v2 h2) fun v3 h3 =>
 bnd (aD .neq v3 (aE 0) h3) fun v4 h4 =>
 aS v4 (
 some (.t [], h4)) (
 bnd (aQ (env 0) (resv 1 h4)) fun v5 h5 =>
 bnd (aB 6 v5 h5) fun v6 h6 =>
 bnd (aA v6 h6) fun v7 h7 =>
 bnd (aQ (env 0) h7) fun v8 h8 =>
 bnd (aB 0 v8 h8) fun v9 h9 =>
 bnd (aB 2 v9 h9) fun v10 h10 =>
 bnd (aA v10 h10) fun v11 h11 =>
 bnd (aY [(.s []), (.b false), (.b false), (aE 0)] [(0, 1, (env 7)), (1, 1, (.b false)), (2, 1, (env 2)), (3, 1, v11)] h11) fun v12 h12 =>
 bnd (bG (bS 0 h4.next) [(.s []), (.b false), (.b false), (aE 0)] 1 [(0, 4, v12)] h12) fun v13 h13 =>
 bnd (aZ 4 32 v7 v13 h13) fun v14 h14 =>
 bnd (aQ (env 0) h14) fun v15 h15 =>
 bnd (aB 6 v15 h15) fun v16 h16 =>
 bnd (aF 1 v16 v14 h16) fun v17 h17 =>
 bnd (aQ (env 0) h17) fun v18 h18 =>
 bnd (aB 0 v18 h18) fun v19 h19 =>
 bnd (aB 2 v19 h19) fun v20 h20 =>
 bnd (aA v20 h20) fun v21 h21 =>
 bnd (aD .add v21 (aE 1) h21) fun v22 h22 =>
 bnd (aQ (env 0) h22) fun v23 h23 =>
 bnd (aB 0 v23 h23) fun v24 h24 =>
 bnd (aB 2 v24 h24) fun v25 h25 =>
 bnd (aF 1 v25 v22 h25) fun _ h26 =>
      cP r n kk2 (env 0) (env 2) (env 10) (env 11) (env 12) h26)) = (K6 (uB r n kk2) 0 2 7 10 11 12) := by kernel_rfl
theorem bZv (kk2 : cA) : D207 r n aQc (xs (xs x0 0 r207) 1 (K5 (cP r n kk2) 0 2 10 11 12)) (K5 (cP r n kk2) 0 2 10 11 12) = (K6 (uB r n kk2) 0 2 7 10 11 12) :=
 (bGc r n kk2 (cP r n kk2)).trans (aZk r n kk2)
theorem bKh (kk2 : cA) : D207 r n rF (xs (xs x0 0 r207) 1 (K5 (cP r n kk2) 0 2 10 11 12)) (K5 (cP r n kk2) 0 2 10 11 12) = D207 r n aSg (xs (xs x0 0 r207) 1 (K5 (cP r n kk2) 0 2 10 11 12)) (K6 (uB r n kk2) 0 2 7 10 11 12) :=
 congrArg (fun k => D207 r n aSg (xs (xs x0 0 r207) 1 (K5 (cP r n kk2) 0 2 10 11 12)) k) (bZv r n kk2)
theorem cCj (kk2 : cA) : D207 r n rF (xs (xs x0 0 r207) 1 (K5 (cP r n kk2) 0 2 10 11 12)) (K5 (cP r n kk2) 0 2 10 11 12) = (K6 (mS r n kk2) 0 2 7 10 11 12) :=
 (bKh r n kk2).trans
 ((by kernel_rfl))
theorem bRe (kk2 : cA) : D207 r n aEf (xs (xs x0 0 r207) 1 (K5 (cP r n kk2) 0 2 10 11 12)) (K5 (cP r n kk2) 0 2 10 11 12) = D207 r n aCw (xs (xs x0 0 r207) 1 (K5 (cP r n kk2) 0 2 10 11 12)) (K6 (mS r n kk2) 0 2 7 10 11 12) :=
 congrArg (fun k => D207 r n aCw (xs (xs x0 0 r207) 1 (K5 (cP r n kk2) 0 2 10 11 12)) k) (cCj r n kk2)
theorem bEv (kk2 : cA) (q0 : eP) (q1 : cA) : D207 r n aCw (xs (xs x0 0 r207) 1 (K5 q1 0 2 10 11 12)) (K6 q0 0 2 7 10 11 12) = fun (env : aU) (h : Hp) =>
 bnd (r 239 [(env 0), (env 7)] h) fun v1 h1 =>
 bnd (aC 0 v1 h1) fun v2 h2 =>
 bnd (aC 1 v1 h2) fun v3 h3 =>
 bnd (bH [(.s []), (.b false), (.b false), (aE 0)] h3) fun v4 h4 =>
 bnd (aF 4 v4 v2 h4) fun _ h5 =>
 bnd (gD v3 false (some ((env 7), h5)) h5) fun v6 h6 =>
 bnd (gD v3 false (r 240 [v6] h6) h6) fun v7 h7 =>
 bnd (aL v3 (.b true) v7 h7) fun v8 h8 =>
 aS v8 (
 bnd (r 241 [(env 0), (env 7), (aE 16)] h8) fun v9 h9 =>
      q0 (env 0) (env 2) (env 7) (env 10) (env 11) (env 12) h9) (
      q0 (env 0) (env 2) (env 7) (env 10) (env 11) (env 12) h8) := by kernel_rfl
theorem aZj (kk2 : cA) : (fun (env : aU) (h : Hp) =>
 bnd (r 239 [(env 0), (env 7)] h) fun v1 h1 =>
 bnd (aC 0 v1 h1) fun v2 h2 =>
 bnd (aC 1 v1 h2) fun v3 h3 =>
 bnd (bH [(.s []), (.b false), (.b false), (aE 0)] h3) fun v4 h4 =>
 bnd (aF 4 v4 v2 h4) fun _ h5 =>
 bnd (gD v3 false (some ((env 7), h5)) h5) fun v6 h6 =>
 bnd (gD v3 false (r 240 [v6] h6) h6) fun v7 h7 =>
 bnd (aL v3 (.b true) v7 h7) fun v8 h8 =>
 aS v8 (
 bnd (r 241 [(env 0), (env 7), (aE 16)] h8) fun v9 h9 =>
      mS r n kk2 (env 0) (env 2) (env 7) (env 10) (env 11) (env 12) h9) (
      mS r n kk2 (env 0) (env 2) (env 7) (env 10) (env 11) (env 12) h8)) = (K6 (zH r n kk2) 0 2 7 10 11 12) := by kernel_rfl
theorem cEd (kk2 : cA) : D207 r n aEf (xs (xs x0 0 r207) 1 (K5 (cP r n kk2) 0 2 10 11 12)) (K5 (cP r n kk2) 0 2 10 11 12) = (K6 (zH r n kk2) 0 2 7 10 11 12) :=
 (bRe r n kk2).trans
 ((bEv r n kk2 (mS r n kk2) (cP r n kk2)).trans (aZj r n kk2))
theorem bHz (kk2 : cA) : D207 r n xQ (xs x0 0 r207) (K5 kk2 0 2 10 11 12) = D207 r n aFs (xs x0 0 r207) (K5 (cP r n kk2) 0 2 10 11 12) :=
 congrArg (fun k => D207 r n aFs (xs x0 0 r207) k) (bSq r n kk2)
theorem bOa (kk2 : cA) : D207 r n aBo (xs (xs x0 0 r207) 1 (K5 (cP r n kk2) 0 2 10 11 12)) (K5 (cP r n kk2) 0 2 10 11 12) = D207 r n aQn (xs (xs x0 0 r207) 1 (K5 (cP r n kk2) 0 2 10 11 12)) (K6 (zH r n kk2) 0 2 7 10 11 12) :=
 congrArg (fun k => D207 r n aQn (xs (xs x0 0 r207) 1 (K5 (cP r n kk2) 0 2 10 11 12)) k) (cEd r n kk2)
theorem cEy (kk2 : cA) : D207 r n xQ (xs x0 0 r207) (K5 kk2 0 2 10 11 12) = (K5 (aMl r n kk2) 0 2 10 11 12) :=
 (bHz r n kk2).trans
 ((by kernel_rfl : D207 r n aFs (xs x0 0 r207) (K5 (cP r n kk2) 0 2 10 11 12) = D207 r n aBo (xs (xs x0 0 r207) 1 (K5 (cP r n kk2) 0 2 10 11 12)) (K5 (cP r n kk2) 0 2 10 11 12)).trans
 ((bOa r n kk2).trans
 ((by kernel_rfl))))
theorem bMr (kk2 : cA) : D207 r n yD (xs x0 0 r207) (K5 kk2 0 2 10 11 12) = D207 r n aUc (xs x0 0 r207) (K5 (aMl r n kk2) 0 2 10 11 12) :=
 congrArg (fun k => D207 r n aUc (xs x0 0 r207) k) (cEy r n kk2)
theorem bWp (kk2 : cA) : D207 r n yD (xs x0 0 r207) (K5 kk2 0 2 10 11 12) = (K6 (aLd r n kk2) 0 2 10 11 12 13) :=
 (bMr r n kk2).trans
 ((by kernel_rfl))
theorem bAu (kk2 : cA) : D207 r n iY (xs x0 0 r207) (K5 kk2 0 2 10 11 12) = D207 r n aWh (xs x0 0 r207) (K6 (aLd r n kk2) 0 2 10 11 12 13) :=
 congrArg (fun k => D207 r n aWh (xs x0 0 r207) k) (bWp r n kk2)
theorem bRf (kk2 : cA) : D207 r n iY (xs x0 0 r207) (K5 kk2 0 2 10 11 12) = (K5 (aTc r n kk2) 0 2 10 11 12) :=
 (bAu r n kk2).trans
 ((by kernel_rfl))
theorem bOh (m : Nat) : aM (fun kk => D207 r n iY (xs x0 0 r207) kk) m = (K5 (rQ r n m) 0 2 10 11 12) := by
 induction m with
 | zero => exact (by kernel_rfl : aM (fun kk => D207 r n iY (xs x0 0 r207) kk) 0 = (K5 (rQ r n 0) 0 2 10 11 12))
 | succ m ih =>
  refine (by kernel_rfl : aM (fun kk => D207 r n iY (xs x0 0 r207) kk) (m + 1) = D207 r n iY (xs x0 0 r207) (aM (fun kk => D207 r n iY (xs x0 0 r207) kk) m)).trans ?_
  rw [ih]
  exact (bRf r n (rQ r n m)).trans (by kernel_rfl)
theorem bYt : D207 r n aAt (xs x0 0 r207) r207 = (K5 (bDg r n) 0 2 10 11 12) :=
 (by kernel_rfl : D207 r n aAt (xs x0 0 r207) r207 = aM (fun kk => D207 r n iY (xs x0 0 r207) kk) n).trans ((bOh r n n).trans (by kernel_rfl))
theorem cEl : D207 r n aLz x0 r207 = (K5 (aOs r n) 0 2 10 11 12) :=
 (by kernel_rfl : D207 r n aLz x0 r207 = D207 r n aAt (xs x0 0 r207) r207).trans
 ((bYt r n).trans (by kernel_rfl))
theorem cOk : D207 r n c207 x0 r207 = D207 r n aRt x0 (K5 (aOs r n) 0 2 10 11 12) :=
 congrArg (fun k => D207 r n aRt x0 k) (cEl r n)
theorem cXm : D207 r n c207 x0 r207 = (K3 (s207 r n) 0 1 2) :=
 (cOk r n).trans
 ((by kernel_rfl))
theorem cOa : aG CF r n 207 args h = s207 r n (aR args 0) (aR args 1) (aR args 2) h :=
 (by kernel_rfl : aG CF r n 207 args h = D207 r n c207 x0 r207 (aJ args) h).trans ((congrFun (congrFun (cXm r n) (aJ args)) h).trans (by kernel_rfl))
noncomputable def oL (r : RT) (n : Nat) (x0 x3 x11 x14 : DV) (h0 : Hp) : aH :=
 aS x14 (
 bnd (aK 6 x3 h0) fun v1 h1 =>
 bnd (r 243 [x0, v1] h1) fun v2 h2 =>
 bnd (jQ [x0, v2] h2) fun v3 h3 =>
 bnd (r 209 [x0, (aE 6), v3, (aE 0)] h3) fun v4 h4 =>
 some (.t [], h4)) (
 bnd (aD .eql x11 (aE 5) h0) fun v5 h5 =>
 aS v5 (
 bnd (aB 1 x3 h5) fun v6 h6 =>
 bnd (aA v6 h6) fun v7 h7 =>
 bnd (r 244 [x0, v7] h7) fun v8 h8 =>
 some (.t [], h8)) (
 bnd (aD .eql x11 (aE 6) h5) fun v9 h9 =>
 aS v9 (
 bnd (aK 6 x3 h9) fun v10 h10 =>
 bnd (r 245 [x0, v10] h10) fun v11 h11 =>
 some (.t [], h11)) (
 bnd (aD .eql x11 (aE 7) h9) fun v12 h12 =>
 aS v12 (
 bnd (aK 6 x3 h12) fun v13 h13 =>
 bnd (r 246 [x0, v13] h13) fun v14 h14 =>
 some (.t [], h14)) (
 bnd (aD .eql x11 (aE 8) h12) fun v15 h15 =>
 aS v15 (
 bnd (aK 6 x3 h15) fun v16 h16 =>
 bnd (r 247 [x0, v16] h16) fun v17 h17 =>
 some (.t [], h17)) (
 bnd (aD .eql x11 (aE 9) h15) fun v18 h18 =>
 aS v18 (
 bnd (aQ x0 h18) fun v19 h19 =>
 bnd (aB 0 v19 h19) fun v20 h20 =>
 bnd (aB 2 v20 h20) fun v21 h21 =>
 bnd (aA v21 h21) fun v22 h22 =>
 bnd (aB 3 x3 h22) fun v23 h23 =>
 bnd (aA v23 h23) fun v24 h24 =>
 bnd (bQ v24 h24) fun v25 h25 =>
 bnd (r 209 [x0, (aE 18), v22, v25] h25) fun v26 h26 =>
 bnd (r 248 [x0, (aE 16)] h26) fun v27 h27 =>
 bnd (aK 6 x3 h27) fun v28 h28 =>
 bnd (r 249 [x0, v28] h28) fun v29 h29 =>
 bnd (r 209 [x0, (aE 19), (aE 0), (aE 0)] h29) fun v30 h30 =>
 bnd (cV CF r v27 [] h30) fun v31 h31 =>
 some (.t [], h31)) (
 bnd (aD .eql x11 (aE 10) h18) fun v32 h32 =>
 aS v32 (
 bnd (aK 6 x3 h32) fun v33 h33 =>
 bnd (r 250 [x0, v33] h33) fun v34 h34 =>
 aS v34 (
 bnd (aB 5 x3 h34) fun v35 h35 =>
 bnd (aA v35 h35) fun v36 h36 =>
 bnd (aI 6 v36 (aE 0) h36) fun v37 h37 =>
 bnd (aK 6 v37 h37) fun v38 h38 =>
 bnd (r 208 [x0, v38] h38) fun v39 h39 =>
 bnd (r 209 [x0, (aE 20), (aE 0), (aE 0)] h39) fun v40 h40 =>
 some (.t [], h40)) (
 some (.t [], h34))) (
 bnd (r 241 [x0, (.s []), (aE 1)] h32) fun v41 h41 =>
 some (.t [], h41))))))))
noncomputable def aJv (r : RT) (n : Nat) (x0 x3 x11 : DV) (h0 : Hp) : aH :=
 bnd (aD .eql x11 (aE 1) h0) fun v1 h1 =>
 aS v1 (
  oL r n x0 x3 x11 v1 h1) (
 bnd (aD .eql x11 (aE 2) h1) fun v2 h2 =>
 aS v2 (
   oL r n x0 x3 x11 v2 h2) (
 bnd (aD .eql x11 (aE 3) h2) fun v3 h3 =>
 aS v3 (
    oL r n x0 x3 x11 v3 h3) (
 bnd (aD .eql x11 (aE 4) h3) fun v4 h4 =>
    oL r n x0 x3 x11 v4 h4)))
noncomputable def aMd (r : RT) (n : Nat) (x0 x3 : DV) (h0 : Hp) : aH :=
 bnd (aB 0 x3 h0) fun v1 h1 =>
 bnd (aA v1 h1) fun v2 h2 =>
  aJv r n x0 x3 v2 h2
noncomputable def vP (r : RT) (n : Nat) (x0 x3 : DV) (h0 : Hp) : aH :=
 bnd (aQ x0 h0) fun v1 h1 =>
 bnd (aB 8 v1 h1) fun v2 h2 =>
 bnd (aA v2 h2) fun v3 h3 =>
 bnd (aD .neq v3 (aE 0) h3) fun v4 h4 =>
 aS v4 (
 some (.t [], h4)) (
  aMd r n x0 x3 h4)
noncomputable def s208 (r : RT) (n : Nat) (x0 x1 : DV) (h0 : Hp) : aH :=
 bnd (bR x1 h0) fun v1 h1 =>
  vP r n x0 v1 h1
noncomputable abbrev c208 : Code := cf Tryz.f208
noncomputable abbrev xN : Code := cR c208
noncomputable abbrev aCr : Code := cR xN
noncomputable abbrev aPa : Code := cR aCr
noncomputable abbrev aCh : Code := cL aPa
noncomputable abbrev cMm : Code := cR aCh
noncomputable abbrev bEc : Code := cL aCh
noncomputable abbrev bIg : Code := cL aCr
noncomputable abbrev bEa : Code := cL xN
noncomputable abbrev aOf : Code := cL c208
noncomputable abbrev r208 : K := aN CF Tryz.f208
noncomputable def D208 (r : RT) (n : Nat) (c : Code) (X : Nat → K) (k : K) : K := aO CF r 81 n c X r208 k
theorem bSs : D208 r n cMm (xs x0 0 r208) r208 = (K4 (oL r n) 0 3 11 14) :=
 (by kernel_rfl)
theorem bQl : D208 r n aCh (xs x0 0 r208) r208 = D208 r n bEc (xs x0 0 r208) (K4 (oL r n) 0 3 11 14) :=
 congrArg (fun k => D208 r n bEc (xs x0 0 r208) k) (bSs r n)
theorem cBh : D208 r n aPa x0 r208 = (K3 (aJv r n) 0 3 11) :=
 (by kernel_rfl : D208 r n aPa x0 r208 = D208 r n aCh (xs x0 0 r208) r208).trans
 ((bQl r n).trans
 ((by kernel_rfl)))
theorem bEl : D208 r n aCr x0 r208 = D208 r n bIg x0 (K3 (aJv r n) 0 3 11) :=
 congrArg (fun k => D208 r n bIg x0 k) (cBh r n)
theorem bUl : D208 r n aCr x0 r208 = (K2 (aMd r n) 0 3) :=
 (bEl r n).trans
 ((by kernel_rfl))
theorem bGx : D208 r n xN x0 r208 = D208 r n bEa x0 (K2 (aMd r n) 0 3) :=
 congrArg (fun k => D208 r n bEa x0 k) (bUl r n)
theorem bUk : D208 r n xN x0 r208 = (K2 (vP r n) 0 3) :=
 (bGx r n).trans
 ((by kernel_rfl))
theorem cPj : D208 r n c208 x0 r208 = D208 r n aOf x0 (K2 (vP r n) 0 3) :=
 congrArg (fun k => D208 r n aOf x0 k) (bUk r n)
theorem cMi (q0 : fW) : D208 r n aOf x0 (K2 q0 0 3) = fun (env : aU) (h : Hp) =>
 bnd (bR (env 1) h) fun v1 h1 =>
  q0 (env 0) v1 h1 := by kernel_rfl
theorem bUy : (fun (env : aU) (h : Hp) =>
 bnd (bR (env 1) h) fun v1 h1 =>
  vP r n (env 0) v1 h1) = (K2 (s208 r n) 0 1) := by kernel_rfl
theorem cQq : D208 r n c208 x0 r208 = (K2 (s208 r n) 0 1) :=
 (cPj r n).trans
 ((cMi r n (vP r n)).trans (bUy r n))
theorem cJo : aG CF r n 208 args h = s208 r n (aR args 0) (aR args 1) h :=
 (by kernel_rfl : aG CF r n 208 args h = D208 r n c208 x0 r208 (aJ args) h).trans ((congrFun (congrFun (cQq r n) (aJ args)) h).trans (by kernel_rfl))
noncomputable def s209 (r : RT) (n : Nat) (x0 x1 x2 x3 : DV) (h0 : Hp) : aH :=
 bnd (aQ x0 h0) fun v1 h1 =>
 bnd (aB 0 v1 h1) fun v2 h2 =>
 bnd (aB 5 v2 h2) fun v3 h3 =>
 bnd (aA v3 h3) fun v4 h4 =>
 bnd (aY [(aE 0), (aE 0), (aE 0)] [(0, 1, x1), (1, 1, x2), (2, 1, x3)] h4) fun v5 h5 =>
 bnd (aP [(aE 0), (aE 0), (aE 0)] 1 [(0, 3, v5)] h5) fun v6 h6 =>
 bnd (aZ 3 24 v4 v6 h6) fun v7 h7 =>
 bnd (aQ x0 h7) fun v8 h8 =>
 bnd (aB 0 v8 h8) fun v9 h9 =>
 bnd (aB 5 v9 h9) fun v10 h10 =>
 bnd (aF 1 v10 v7 h10) fun _ h11 =>
 some (.t [], h11)
noncomputable abbrev c209 : Code := cf Tryz.f209
noncomputable abbrev r209 : K := aN CF Tryz.f209
noncomputable def D209 (r : RT) (n : Nat) (c : Code) (X : Nat → K) (k : K) : K := aO CF r 23 n c X r209 k
theorem cXh : D209 r n c209 x0 r209 = (K4 (s209 r n) 0 1 2 3) :=
 (by kernel_rfl)
theorem cKh : aG CF r n 209 args h = s209 r n (aR args 0) (aR args 1) (aR args 2) (aR args 3) h :=
 (by kernel_rfl : aG CF r n 209 args h = D209 r n c209 x0 r209 (aJ args) h).trans ((congrFun (congrFun (cXh r n) (aJ args)) h).trans (by kernel_rfl))
noncomputable def s227 (r : RT) (n : Nat) (x0 : DV) (h0 : Hp) : aH :=
 bnd (aD .eql x0 (aE 16) h0) fun v1 h1 =>
 bnd (gD v1 false (some (x0, h1)) h1) fun v2 h2 =>
 bnd (gD v1 false (aD .eql v2 (aE 17) h2) h2) fun v3 h3 =>
 bnd (aL v1 (.b true) v3 h3) fun v4 h4 =>
 some (v4, h4)
noncomputable abbrev c227 : Code := cf Tryz.f227
noncomputable abbrev r227 : K := aN CF Tryz.f227
noncomputable def D227 (r : RT) (n : Nat) (c : Code) (X : Nat → K) (k : K) : K := aO CF r 9 n c X r227 k
theorem cWq : D227 r n c227 x0 r227 = (K1 (s227 r n) 0) :=
 (by kernel_rfl)
theorem cLw : aG CF r n 227 args h = s227 r n (aR args 0) h :=
 (by kernel_rfl : aG CF r n 227 args h = D227 r n c227 x0 r227 (aJ args) h).trans ((congrFun (congrFun (cWq r n) (aJ args)) h).trans (by kernel_rfl))
noncomputable def s228 (r : RT) (n : Nat) (x0 x1 : DV) (h0 : Hp) : aH :=
 bnd (aA x1 h0) fun v1 h1 =>
 bnd (r 199 [v1, x0] h1) fun v2 h2 =>
 bnd (aD .geq v2 (aE 0) h2) fun v3 h3 =>
 some (v3, h3)
noncomputable abbrev c228 : Code := cf Tryz.f228
noncomputable abbrev r228 : K := aN CF Tryz.f228
noncomputable def D228 (r : RT) (n : Nat) (c : Code) (X : Nat → K) (k : K) : K := aO CF r 8 n c X r228 k
theorem cRo : D228 r n c228 x0 r228 = (K2 (s228 r n) 0 1) :=
 (by kernel_rfl)
theorem cMp : aG CF r n 228 args h = s228 r n (aR args 0) (aR args 1) h :=
 (by kernel_rfl : aG CF r n 228 args h = D228 r n c228 x0 r228 (aJ args) h).trans ((congrFun (congrFun (cRo r n) (aJ args)) h).trans (by kernel_rfl))
noncomputable def s229 (r : RT) (n : Nat) (x0 x1 : DV) (h0 : Hp) : aH :=
 bnd (kI [x0, x1] h0) fun v1 h1 =>
 some (v1, h1)
noncomputable abbrev c229 : Code := cf Tryz.f229
noncomputable abbrev r229 : K := aN CF Tryz.f229
noncomputable def D229 (r : RT) (n : Nat) (c : Code) (X : Nat → K) (k : K) : K := aO CF r 8 n c X r229 k
theorem cXf : D229 r n c229 x0 r229 = (K2 (s229 r n) 0 1) :=
 (by kernel_rfl)
theorem cHo : aG CF r n 229 args h = s229 r n (aR args 0) (aR args 1) h :=
 (by kernel_rfl : aG CF r n 229 args h = D229 r n c229 x0 r229 (aJ args) h).trans ((congrFun (congrFun (cXf r n) (aJ args)) h).trans (by kernel_rfl))
noncomputable def s230 (r : RT) (n : Nat) (x0 x1 : DV) (h0 : Hp) : aH :=
 bnd (aQ x0 h0) fun v1 h1 =>
 bnd (aB 1 v1 h1) fun v2 h2 =>
 bnd (aA v2 h2) fun v3 h3 =>
 bnd (aD .add v3 x1 h3) fun v4 h4 =>
 bnd (aQ x0 h4) fun v5 h5 =>
 bnd (aB 0 v5 h5) fun v6 h6 =>
 bnd (aA v6 h6) fun v7 h7 =>
 bnd (dG v7 h7) fun v8 h8 =>
 bnd (aD .geq v4 v8 h8) fun v9 h9 =>
 aS v9 (
 some ((.i .u8 (Int.ofNat 0)), h9)) (
 bnd (aQ x0 h9) fun v10 h10 =>
 bnd (aB 0 v10 h10) fun v11 h11 =>
 bnd (aA v11 h11) fun v12 h12 =>
 bnd (aQ x0 h12) fun v13 h13 =>
 bnd (aB 1 v13 h13) fun v14 h14 =>
 bnd (aA v14 h14) fun v15 h15 =>
 bnd (aD .add v15 x1 h15) fun v16 h16 =>
 bnd (eX v12 v16 h16) fun v17 h17 =>
 some (v17, h17))
noncomputable abbrev c230 : Code := cf Tryz.f230
noncomputable abbrev r230 : K := aN CF Tryz.f230
noncomputable def D230 (r : RT) (n : Nat) (c : Code) (X : Nat → K) (k : K) : K := aO CF r 28 n c X r230 k
theorem cRf : D230 r n c230 x0 r230 = (K2 (s230 r n) 0 1) :=
 (by kernel_rfl)
theorem cLu : aG CF r n 230 args h = s230 r n (aR args 0) (aR args 1) h :=
 (by kernel_rfl : aG CF r n 230 args h = D230 r n c230 x0 r230 (aJ args) h).trans ((congrFun (congrFun (cRf r n) (aJ args)) h).trans (by kernel_rfl))
noncomputable def s231 (r : RT) (n : Nat) (x0 : DV) (h0 : Hp) : aH :=
 bnd (aD .geq x0 (.i .u8 (Int.ofNat 97)) h0) fun v1 h1 =>
 bnd (gD v1 true (some (x0, h1)) h1) fun v2 h2 =>
 bnd (gD v1 true (aD .leq v2 (.i .u8 (Int.ofNat 122)) h2) h2) fun v3 h3 =>
 bnd (aL v1 v3 (.b false) h3) fun v4 h4 =>
 bnd (gD v4 false (some (x0, h4)) h4) fun v5 h5 =>
 bnd (gD v4 false (aD .geq v5 (.i .u8 (Int.ofNat 65)) h5) h5) fun v6 h6 =>
 bnd (gD v4 false (some (v6, h6)) h6) fun v7 h7 =>
 bnd (gD v7 true (some (x0, h7)) h7) fun v8 h8 =>
 bnd (gD v7 true (aD .leq v8 (.i .u8 (Int.ofNat 90)) h8) h8) fun v9 h9 =>
 bnd (gD v4 false (aL v7 v9 (.b false) h9) h9) fun v10 h10 =>
 bnd (aL v4 (.b true) v10 h10) fun v11 h11 =>
 some (v11, h11)
noncomputable abbrev c231 : Code := cf Tryz.f231
noncomputable abbrev r231 : K := aN CF Tryz.f231
noncomputable def D231 (r : RT) (n : Nat) (c : Code) (X : Nat → K) (k : K) : K := aO CF r 17 n c X r231 k
theorem cTt : D231 r n c231 x0 r231 = (K1 (s231 r n) 0) :=
 (by kernel_rfl)
theorem cPv : aG CF r n 231 args h = s231 r n (aR args 0) h :=
 (by kernel_rfl : aG CF r n 231 args h = D231 r n c231 x0 r231 (aJ args) h).trans ((congrFun (congrFun (cTt r n) (aJ args)) h).trans (by kernel_rfl))
noncomputable def s232 (r : RT) (n : Nat) (x0 : DV) (h0 : Hp) : aH :=
 bnd (aQ x0 h0) fun v1 h1 =>
 bnd (aB 0 v1 h1) fun v2 h2 =>
 bnd (aA v2 h2) fun v3 h3 =>
 bnd (dG v3 h3) fun v4 h4 =>
 bnd (r 197 [x0, (.f 267 [] []), v4] h4) fun v5 h5 =>
 bnd (dG v5 h5) fun v6 h6 =>
 bnd (aD .gtr v6 (aE 24) h6) fun v7 h7 =>
 aS v7 (
 some (.t [(.s []), (aE 12)], h7)) (
 some (.t [v5, (aE 0)], h7))
noncomputable abbrev c232 : Code := cf Tryz.f232
noncomputable abbrev r232 : K := aN CF Tryz.f232
noncomputable def D232 (r : RT) (n : Nat) (c : Code) (X : Nat → K) (k : K) : K := aO CF r 16 n c X r232 k
theorem cQm : D232 r n c232 x0 r232 = (K1 (s232 r n) 0) :=
 (by kernel_rfl)
theorem cKw : aG CF r n 232 args h = s232 r n (aR args 0) h :=
 (by kernel_rfl : aG CF r n 232 args h = D232 r n c232 x0 r232 (aJ args) h).trans ((congrFun (congrFun (cQm r n) (aJ args)) h).trans (by kernel_rfl))
noncomputable def s233 (r : RT) (n : Nat) (x0 : DV) (h0 : Hp) : aH :=
 bnd (r 230 [x0, (aE 0)] h0) fun v1 h1 =>
 bnd (aD .neq v1 (.i .u8 (Int.ofNat 58)) h1) fun v2 h2 =>
 bnd (gD v2 false (some (x0, h2)) h2) fun v3 h3 =>
 bnd (gD v2 false (r 230 [v3, (aE 1)] h3) h3) fun v4 h4 =>
 bnd (gD v2 false (aD .eql v4 (.i .u8 (Int.ofNat 61)) h4) h4) fun v5 h5 =>
 bnd (aL v2 (.b true) v5 h5) fun v6 h6 =>
 aS v6 (
 some ((.b false), h6)) (
 bnd (aQ x0 h6) fun v7 h7 =>
 bnd (aB 1 v7 h7) fun v8 h8 =>
 bnd (aA v8 h8) fun v9 h9 =>
 bnd (aD .add v9 (aE 1) h9) fun v10 h10 =>
 bnd (aQ x0 h10) fun v11 h11 =>
 bnd (aB 1 v11 h11) fun v12 h12 =>
 bnd (aF 1 v12 v10 h12) fun _ h13 =>
 some ((.b true), h13))
noncomputable abbrev c233 : Code := cf Tryz.f233
noncomputable abbrev r233 : K := aN CF Tryz.f233
noncomputable def D233 (r : RT) (n : Nat) (c : Code) (X : Nat → K) (k : K) : K := aO CF r 18 n c X r233 k
theorem cRu : D233 r n c233 x0 r233 = (K1 (s233 r n) 0) :=
 (by kernel_rfl)
theorem cPy : aG CF r n 233 args h = s233 r n (aR args 0) h :=
 (by kernel_rfl : aG CF r n 233 args h = D233 r n c233 x0 r233 (aJ args) h).trans ((congrFun (congrFun (cRu r n) (aJ args)) h).trans (by kernel_rfl))
noncomputable def s234 (r : RT) (n : Nat) (x0 : DV) (h0 : Hp) : aH :=
 bnd (aD .geq x0 (.i .u8 (Int.ofNat 48)) h0) fun v1 h1 =>
 bnd (gD v1 true (some (x0, h1)) h1) fun v2 h2 =>
 bnd (gD v1 true (aD .leq v2 (.i .u8 (Int.ofNat 57)) h2) h2) fun v3 h3 =>
 bnd (aL v1 v3 (.b false) h3) fun v4 h4 =>
 some (v4, h4)
noncomputable abbrev c234 : Code := cf Tryz.f234
noncomputable abbrev r234 : K := aN CF Tryz.f234
noncomputable def D234 (r : RT) (n : Nat) (c : Code) (X : Nat → K) (k : K) : K := aO CF r 9 n c X r234 k
theorem cTo : D234 r n c234 x0 r234 = (K1 (s234 r n) 0) :=
 (by kernel_rfl)
theorem cMv : aG CF r n 234 args h = s234 r n (aR args 0) h :=
 (by kernel_rfl : aG CF r n 234 args h = D234 r n c234 x0 r234 (aJ args) h).trans ((congrFun (congrFun (cTo r n) (aJ args)) h).trans (by kernel_rfl))
noncomputable def eI (r : RT) (n : Nat) (x4 : DV) (h0 : Hp) : aH :=
 some (.t [x4, (aE 0)], h0)
noncomputable def aVi (r : RT) (n : Nat) (kk5 : fW) (x4 x14 : DV) (h0 : Hp) : aH :=
 bnd (uK x14 h0) fun v1 h1 =>
 bnd (aC 0 v1 h1) fun v2 h2 =>
 aS v2 (
 bnd (aC 2 v1 h2) fun v3 h3 =>
 bnd (aD .gtr x4 (aE 115292150460684697) h3) fun v4 h4 =>
 aS v4 (
 some (.t [(aE 0), (aE 2)], h4)) (
 bnd (aD .mul x4 (aE 10) h4) fun v5 h5 =>
 bnd (aD .sub v3 (.i .i32 (Int.ofNat 48)) h5) fun v6 h6 =>
 bnd (eS .i64 v6 h6) fun v7 h7 =>
 bnd (aD .add v5 v7 h7) fun v8 h8 =>
 bnd (aD .gtr v8 (aE 1152921504606846976) h8) fun v9 h9 =>
 aS v9 (
 some (.t [(aE 0), (aE 2)], h9)) (
     kk5 v8 x14 h9))) (
   eI r n x4 h2)
noncomputable def rL (r : RT) (n : Nat) (m : Nat) : fW :=
 Nat.rec (motive := fun _ => fW) (fun _ _ _ => none) (fun _ ih => aVi r n ih) m
noncomputable def bMo (r : RT) (n : Nat) : fW := rL r n n
noncomputable def aMv (r : RT) (n : Nat) (x4 x14 : DV) (h0 : Hp) : aH :=
 bMo r n x4 x14 h0
noncomputable def aJn (r : RT) (n : Nat) (x0 x4 : DV) (h0 : Hp) : aH :=
 bnd (aQ x0 h0) fun v1 h1 =>
 bnd (aB 0 v1 h1) fun v2 h2 =>
 bnd (aA v2 h2) fun v3 h3 =>
 bnd (dG v3 h3) fun v4 h4 =>
 bnd (r 197 [x0, (.f 234 [] []), v4] h4) fun v5 h5 =>
 bnd (mO v5 h5) fun v6 h6 =>
  aMv r n x4 v6 h6
noncomputable def aPq (r : RT) (n : Nat) (x0 : DV) (h0 : Hp) : aH :=
 aJn r n x0 (aE 0) h0
noncomputable def s235 (r : RT) (n : Nat) (x0 : DV) (h0 : Hp) : aH :=
 aPq r n x0 h0
noncomputable abbrev c235 : Code := cf Tryz.f235
noncomputable abbrev aFg : Code := cR c235
noncomputable abbrev aDr : Code := cR aFg
noncomputable abbrev cGm : Code := cR aDr
noncomputable abbrev uD : Code := cL aDr
noncomputable abbrev aJh : Code := cR uD
noncomputable abbrev aDv : Code := cL aJh
noncomputable abbrev mQ : Code := cL aDv
noncomputable abbrev bMk : Code := cL uD
noncomputable abbrev bHg : Code := cL aFg
noncomputable abbrev aVy : Code := cL c235
noncomputable abbrev r235 : K := aN CF Tryz.f235
noncomputable def D235 (r : RT) (n : Nat) (c : Code) (X : Nat → K) (k : K) : K := aO CF r 29 n c X r235 k
theorem cEb : D235 r n cGm x0 r235 = (K1 (eI r n) 4) :=
 (by kernel_rfl)
theorem bMa (kk5 : fW) : D235 r n mQ (xs x0 0 (K1 (eI r n) 4)) (K2 kk5 4 14) = (K2 (aVi r n kk5) 4 14) :=
 (by kernel_rfl)
theorem bDk (m : Nat) : aM (fun kk => D235 r n mQ (xs x0 0 (K1 (eI r n) 4)) kk) m = (K2 (rL r n m) 4 14) := by
 induction m with
 | zero => exact (by kernel_rfl : aM (fun kk => D235 r n mQ (xs x0 0 (K1 (eI r n) 4)) kk) 0 = (K2 (rL r n 0) 4 14))
 | succ m ih =>
  refine (by kernel_rfl : aM (fun kk => D235 r n mQ (xs x0 0 (K1 (eI r n) 4)) kk) (m + 1) = D235 r n mQ (xs x0 0 (K1 (eI r n) 4)) (aM (fun kk => D235 r n mQ (xs x0 0 (K1 (eI r n) 4)) kk) m)).trans ?_
  rw [ih]
  exact (bMa r n (rL r n m)).trans (by kernel_rfl)
theorem bVc : D235 r n aDv (xs x0 0 (K1 (eI r n) 4)) (K1 (eI r n) 4) = (K2 (bMo r n) 4 14) :=
 (by kernel_rfl : D235 r n aDv (xs x0 0 (K1 (eI r n) 4)) (K1 (eI r n) 4) = aM (fun kk => D235 r n mQ (xs x0 0 (K1 (eI r n) 4)) kk) n).trans ((bDk r n n).trans (by kernel_rfl))
theorem cAf : D235 r n aJh x0 (K1 (eI r n) 4) = (K2 (aMv r n) 4 14) :=
 (by kernel_rfl : D235 r n aJh x0 (K1 (eI r n) 4) = D235 r n aDv (xs x0 0 (K1 (eI r n) 4)) (K1 (eI r n) 4)).trans
 ((bVc r n).trans (by kernel_rfl))
theorem bLy : D235 r n aDr x0 r235 = D235 r n uD x0 (K1 (eI r n) 4) :=
 congrArg (fun k => D235 r n uD x0 k) (cEb r n)
theorem bBp : D235 r n uD x0 (K1 (eI r n) 4) = D235 r n bMk x0 (K2 (aMv r n) 4 14) :=
 congrArg (fun k => D235 r n bMk x0 k) (cAf r n)
theorem cEk : D235 r n aDr x0 r235 = (K2 (aJn r n) 0 4) :=
 (bLy r n).trans
 ((bBp r n).trans
 ((by kernel_rfl)))
theorem bLv : D235 r n aFg x0 r235 = D235 r n bHg x0 (K2 (aJn r n) 0 4) :=
 congrArg (fun k => D235 r n bHg x0 k) (cEk r n)
theorem cDv : D235 r n aFg x0 r235 = (K1 (aPq r n) 0) :=
 (bLv r n).trans
 ((by kernel_rfl))
theorem cIw : D235 r n c235 x0 r235 = D235 r n aVy x0 (K1 (aPq r n) 0) :=
 congrArg (fun k => D235 r n aVy x0 k) (cDv r n)
theorem cWy : D235 r n c235 x0 r235 = (K1 (s235 r n) 0) :=
 (cIw r n).trans
 ((by kernel_rfl))
theorem cGk : aG CF r n 235 args h = s235 r n (aR args 0) h :=
 (by kernel_rfl : aG CF r n 235 args h = D235 r n c235 x0 r235 (aJ args) h).trans ((congrFun (congrFun (cWy r n) (aJ args)) h).trans (by kernel_rfl))
end Go.Dd

namespace Go.Dd
open Go.Proofs
variable (r : RT) (n : Nat) (args : List DV) (h : Hp)
noncomputable def s239 (r : RT) (n : Nat) (x0 x1 : DV) (h0 : Hp) : aH :=
 bnd (bR x1 h0) fun v1 h1 =>
 bnd (bH [(.s []), (.b false), (.b false), (aE 0)] h1) fun v2 h2 =>
 bnd (aQ x0 h2) fun v3 h3 =>
 bnd (aB 6 v3 h3) fun v4 h4 =>
 bnd (aA v4 h4) fun v5 h5 =>
 bnd (r 275 [v5, (.f 276 [] [v1])] h5) fun v6 h6 =>
 bnd (aD .lss v6 (aE 0) h6) fun v7 h7 =>
 aS v7 (
 bnd (aY [(.s []), (.b false), (.b false), (aE 0)] [] h7) fun v8 h8 =>
 bnd (aF 4 v2 v8 h8) fun _ h9 =>
 bnd (aK 4 v2 h9) fun v10 _ =>
 some (.t [v10, (.b false)], h9)) (
 bnd (aQ x0 h7) fun v11 h11 =>
 bnd (aB 6 v11 h11) fun v12 h12 =>
 bnd (aA v12 h12) fun v13 h13 =>
 bnd (aI 4 v13 v6 h13) fun v14 h14 =>
 bnd (aK 4 v14 h14) fun v15 h15 =>
 bnd (aF 4 v2 v15 h15) fun _ h16 =>
 bnd (aK 4 v2 h16) fun v17 _ =>
 some (.t [v17, (.b true)], h16))
noncomputable abbrev c239 : Code := cf Tryz.f239
noncomputable abbrev r239 : K := aN CF Tryz.f239
noncomputable def D239 (r : RT) (n : Nat) (c : Code) (X : Nat → K) (k : K) : K := aO CF r 23 n c X r239 k
theorem cUc : D239 r n c239 x0 r239 = (K2 (s239 r n) 0 1) :=
 (by kernel_rfl)
theorem cGf : aG CF r n 239 args h = s239 r n (aR args 0) (aR args 1) h :=
 (by kernel_rfl : aG CF r n 239 args h = D239 r n c239 x0 r239 (aJ args) h).trans ((congrFun (congrFun (cUc r n) (aJ args)) h).trans (by kernel_rfl))
noncomputable def fV (r : RT) (n : Nat) (h0 : Hp) : aH :=
 some ((.b false), h0)
noncomputable def kU (r : RT) (n : Nat) (x4 : DV) (h0 : Hp) : aH :=
 aS x4 (
 some ((.b true), h0)) (
  fV r n h0)
noncomputable def aIx (r : RT) (n : Nat) (x3 : DV) (h0 : Hp) : aH :=
 bnd (dX .eql x3 (.s [115, 101, 108, 102]) h0) fun v1 h1 =>
 aS v1 (
  kU r n v1 h1) (
 bnd (dX .eql x3 (.s [115, 117, 112, 101, 114]) h1) fun v2 h2 =>
 aS v2 (
   kU r n v2 h2) (
 bnd (dX .eql x3 (.s [110, 105, 108]) h2) fun v3 h3 =>
 aS v3 (
    kU r n v3 h3) (
 bnd (dX .eql x3 (.s [116, 114, 117, 101]) h3) fun v4 h4 =>
 aS v4 (
     kU r n v4 h4) (
 bnd (dX .eql x3 (.s [102, 97, 108, 115, 101]) h4) fun v5 h5 =>
 aS v5 (
      kU r n v5 h5) (
 bnd (dX .eql x3 (.s [116, 104, 105, 115, 67, 111, 110, 116, 101, 120, 116]) h5) fun v6 h6 =>
      kU r n v6 h6)))))
noncomputable def aOg (r : RT) (n : Nat) (x0 : DV) (h0 : Hp) : aH :=
 aIx r n x0 h0
noncomputable def s240 (r : RT) (n : Nat) (x0 : DV) (h0 : Hp) : aH :=
 aOg r n x0 h0
noncomputable abbrev c240 : Code := cf Tryz.f240
noncomputable abbrev aEz : Code := cR c240
noncomputable abbrev cNl : Code := cR aEz
noncomputable abbrev sV : Code := cL aEz
noncomputable abbrev aLl : Code := cR sV
noncomputable abbrev yL : Code := cL aLl
noncomputable abbrev cLv : Code := cR yL
noncomputable abbrev bPf : Code := cL yL
noncomputable abbrev bIw : Code := cL sV
noncomputable abbrev bQi : Code := cL c240
noncomputable abbrev r240 : K := aN CF Tryz.f240
noncomputable def D240 (r : RT) (n : Nat) (c : Code) (X : Nat → K) (k : K) : K := aO CF r 11 n c X r240 k
theorem bSr : D240 r n cNl x0 r240 = (K0 (fV r n)) :=
 (by kernel_rfl)
theorem cCq : D240 r n cLv (xs x0 0 (K0 (fV r n))) (K0 (fV r n)) = (K1 (kU r n) 4) :=
 (by kernel_rfl)
theorem bOx : D240 r n yL (xs x0 0 (K0 (fV r n))) (K0 (fV r n)) = D240 r n bPf (xs x0 0 (K0 (fV r n))) (K1 (kU r n) 4) :=
 congrArg (fun k => D240 r n bPf (xs x0 0 (K0 (fV r n))) k) (cCq r n)
theorem bXm : D240 r n aLl x0 (K0 (fV r n)) = (K1 (aIx r n) 3) :=
 (by kernel_rfl : D240 r n aLl x0 (K0 (fV r n)) = D240 r n yL (xs x0 0 (K0 (fV r n))) (K0 (fV r n))).trans
 ((bOx r n).trans
 ((by kernel_rfl)))
theorem bDa : D240 r n aEz x0 r240 = D240 r n sV x0 (K0 (fV r n)) :=
 congrArg (fun k => D240 r n sV x0 k) (bSr r n)
theorem bGo : D240 r n sV x0 (K0 (fV r n)) = D240 r n bIw x0 (K1 (aIx r n) 3) :=
 congrArg (fun k => D240 r n bIw x0 k) (bXm r n)
theorem bXf : D240 r n aEz x0 r240 = (K1 (aOg r n) 0) :=
 (bDa r n).trans
 ((bGo r n).trans
 ((by kernel_rfl)))
theorem cHk : D240 r n c240 x0 r240 = D240 r n bQi x0 (K1 (aOg r n) 0) :=
 congrArg (fun k => D240 r n bQi x0 k) (bXf r n)
theorem cRx : D240 r n c240 x0 r240 = (K1 (s240 r n) 0) :=
 (cHk r n).trans
 ((by kernel_rfl))
theorem cHm : aG CF r n 240 args h = s240 r n (aR args 0) h :=
 (by kernel_rfl : aG CF r n 240 args h = D240 r n c240 x0 r240 (aJ args) h).trans ((congrFun (congrFun (cRx r n) (aJ args)) h).trans (by kernel_rfl))
noncomputable def aBe (r : RT) (n : Nat) (x0 x1 : DV) (h0 : Hp) : aH :=
 bnd (r 239 [x0, x1] h0) fun v1 h1 =>
 bnd (aC 0 v1 h1) fun v2 h2 =>
 bnd (aC 1 v1 h2) fun v3 h3 =>
 bnd (bH [(.s []), (.b false), (.b false), (aE 0)] h3) fun v4 h4 =>
 bnd (aF 4 v4 v2 h4) fun _ h5 =>
 bnd (gD v3 true (aB 1 v4 h5) h5) fun v6 h6 =>
 bnd (gD v3 true (aA v6 h6) h6) fun v7 h7 =>
 bnd (aL v3 v7 (.b false) h7) fun v8 h8 =>
 aS v8 (
 bnd (aB 3 v4 h8) fun v9 h9 =>
 bnd (aA v9 h9) fun v10 h10 =>
 bnd (r 209 [x0, (aE 8), v10, (aE 0)] h10) fun v11 h11 =>
 some (.t [], h11)) (
 aS v3 (
 bnd (aB 3 v4 h8) fun v12 h12 =>
 bnd (aA v12 h12) fun v13 h13 =>
 bnd (r 209 [x0, (aE 7), v13, (aE 0)] h13) fun v14 h14 =>
 some (.t [], h14)) (
 bnd (r 279 [x1] h8) fun v15 h15 =>
 aS v15 (
 bnd (r 280 [x0, x1] h15) fun v16 h16 =>
 bnd (r 209 [x0, (aE 9), v16, (aE 0)] h16) fun v17 h17 =>
 some (.t [], h17)) (
 bnd (r 241 [x0, x1, (aE 15)] h15) fun v18 h18 =>
 some (.t [], h18))))
noncomputable def s244 (r : RT) (n : Nat) (x0 x1 : DV) (h0 : Hp) : aH :=
 bnd (dX .eql x1 (.s [115, 101, 108, 102]) h0) fun v1 h1 =>
 aS v1 (
 bnd (r 209 [x0, (aE 1), (aE 0), (aE 0)] h1) fun v2 h2 =>
 some (.t [], h2)) (
 bnd (dX .eql x1 (.s [110, 105, 108]) h1) fun v3 h3 =>
 aS v3 (
 bnd (r 209 [x0, (aE 2), (aE 0), (aE 0)] h3) fun v4 h4 =>
 some (.t [], h4)) (
 bnd (dX .eql x1 (.s [116, 114, 117, 101]) h3) fun v5 h5 =>
 aS v5 (
 bnd (r 209 [x0, (aE 3), (aE 0), (aE 0)] h5) fun v6 h6 =>
 some (.t [], h6)) (
 bnd (dX .eql x1 (.s [102, 97, 108, 115, 101]) h5) fun v7 h7 =>
 aS v7 (
 bnd (r 209 [x0, (aE 4), (aE 0), (aE 0)] h7) fun v8 h8 =>
 some (.t [], h8)) (
 bnd (dX .eql x1 (.s [116, 104, 105, 115, 67, 111, 110, 116, 101, 120, 116]) h7) fun v9 h9 =>
 aS v9 (
 bnd (r 209 [x0, (aE 5), (aE 0), (aE 0)] h9) fun v10 h10 =>
 some (.t [], h10)) (
 bnd (dX .eql x1 (.s [115, 117, 112, 101, 114]) h9) fun v11 h11 =>
 aS v11 (
 bnd (r 241 [x0, x1, (aE 15)] h11) fun v12 h12 =>
       aBe r n x0 x1 h12) (
       aBe r n x0 x1 h11))))))
noncomputable abbrev c244 : Code := cf Tryz.f244
noncomputable abbrev cPs : Code := cR c244
noncomputable abbrev bKe : Code := cL c244
noncomputable abbrev r244 : K := aN CF Tryz.f244
noncomputable def D244 (r : RT) (n : Nat) (c : Code) (X : Nat → K) (k : K) : K := aO CF r 65 n c X r244 k
theorem cEw : D244 r n cPs x0 r244 = (K2 (aBe r n) 0 1) :=
 (by kernel_rfl)
theorem cIz : D244 r n c244 x0 r244 = D244 r n bKe x0 (K2 (aBe r n) 0 1) :=
 congrArg (fun k => D244 r n bKe x0 k) (cEw r n)
theorem cUf : D244 r n c244 x0 r244 = (K2 (s244 r n) 0 1) :=
 (cIz r n).trans
 ((by kernel_rfl))
theorem cOc : aG CF r n 244 args h = s244 r n (aR args 0) (aR args 1) h :=
 (by kernel_rfl : aG CF r n 244 args h = D244 r n c244 x0 r244 (aJ args) h).trans ((congrFun (congrFun (cUf r n) (aJ args)) h).trans (by kernel_rfl))
noncomputable def s246 (r : RT) (n : Nat) (x0 x1 : DV) (h0 : Hp) : aH :=
 bnd (bR x1 h0) fun v1 h1 =>
 bnd (aB 5 v1 h1) fun v2 h2 =>
 bnd (aA v2 h2) fun v3 h3 =>
 bnd (bQ v3 h3) fun v4 h4 =>
 bnd (aD .eql v4 (aE 0) h4) fun v5 h5 =>
 aS v5 (
 bnd (r 241 [x0, (.s []), (aE 1)] h5) fun v6 h6 =>
 some (.t [], h6)) (
 bnd (aK 6 v1 h5) fun v7 h7 =>
 bnd (r 281 [x0, v7] h7) fun v8 h8 =>
 bnd (gD v8 false (some (x0, h8)) h8) fun v9 h9 =>
 bnd (gD v8 false (aK 6 v1 h9) h9) fun v10 h10 =>
 bnd (gD v8 false (r 282 [v9, v10] h10) h10) fun v11 h11 =>
 bnd (aL v8 (.b true) v11 h11) fun v12 h12 =>
 aS v12 (
 some (.t [], h12)) (
 bnd (aB 5 v1 h12) fun v13 h13 =>
 bnd (aA v13 h13) fun v14 h14 =>
 bnd (aI 6 v14 (aE 0) h14) fun v15 h15 =>
 bnd (aK 6 v15 h15) fun v16 h16 =>
 bnd (r 284 [x0, v16] h16) fun v17 h17 =>
 bnd (aB 1 v1 h17) fun v18 h18 =>
 bnd (aA v18 h18) fun v19 h19 =>
 cnd (bI (aA v18 h12) v19 && true) (
 bnd (aB 5 v1 h19) fun v20 h20 =>
 bnd (aA v20 h20) fun v21 h21 =>
 cnd (bI (aA v20 h12) v21 && true) (
 bnd (cJ 6 v21 (some (aE 1)) none h21) fun v22 h22 =>
 cnd (bI (cJ 6 v21 (some (aE 1)) none h12) v22 && true) (
 bnd (r 283 [x0, v17, v19, v22] h22) fun v23 h23 =>
 some (.t [], h23))))))
noncomputable abbrev c246 : Code := cf Tryz.f246
noncomputable abbrev r246 : K := aN CF Tryz.f246
noncomputable def D246 (r : RT) (n : Nat) (c : Code) (X : Nat → K) (k : K) : K := aO CF r 31 n c X r246 k
theorem cWp : D246 r n c246 x0 r246 = (K2 (s246 r n) 0 1) :=
 (by kernel_rfl)
theorem cJp : aG CF r n 246 args h = s246 r n (aR args 0) (aR args 1) h :=
 (by kernel_rfl : aG CF r n 246 args h = D246 r n c246 x0 r246 (aJ args) h).trans ((congrFun (congrFun (cWp r n) (aJ args)) h).trans (by kernel_rfl))
noncomputable def zX (r : RT) (n : Nat) (x3 : DV) (h0 : Hp) : aH :=
 bnd (aB 5 x3 h0) fun v1 h1 =>
 bnd (aA v1 h1) fun v2 h2 =>
 bnd (bQ v2 h2) fun v3 h3 =>
 bnd (aD .eql v3 (aE 1) h3) fun v4 h4 =>
 some (v4, h4)
noncomputable def vX (r : RT) (n : Nat) (x0 x3 : DV) (h0 : Hp) : aH :=
 bnd (aB 5 x3 h0) fun v1 h1 =>
 bnd (aA v1 h1) fun v2 h2 =>
 bnd (bQ v2 h2) fun v3 h3 =>
 bnd (aD .neq v3 (aE 1) h3) fun v4 h4 =>
 aS v4 (
 bnd (r 241 [x0, (.s []), (aE 1)] h4) fun v5 h5 =>
  zX r n x3 h5) (
  zX r n x3 h4)
noncomputable def s250 (r : RT) (n : Nat) (x0 x1 : DV) (h0 : Hp) : aH :=
 bnd (bR x1 h0) fun v1 h1 =>
  vX r n x0 v1 h1
noncomputable abbrev c250 : Code := cf Tryz.f250
noncomputable abbrev aGq : Code := cR c250
noncomputable abbrev cNo : Code := cR aGq
noncomputable abbrev bFa : Code := cL aGq
noncomputable abbrev aOw : Code := cL c250
noncomputable abbrev r250 : K := aN CF Tryz.f250
noncomputable def D250 (r : RT) (n : Nat) (c : Code) (X : Nat → K) (k : K) : K := aO CF r 15 n c X r250 k
theorem bRr : D250 r n cNo x0 r250 = (K1 (zX r n) 3) :=
 (by kernel_rfl)
theorem bHu : D250 r n aGq x0 r250 = D250 r n bFa x0 (K1 (zX r n) 3) :=
 congrArg (fun k => D250 r n bFa x0 k) (bRr r n)
theorem bZz : D250 r n aGq x0 r250 = (K2 (vX r n) 0 3) :=
 (bHu r n).trans
 ((by kernel_rfl))
theorem cJk : D250 r n c250 x0 r250 = D250 r n aOw x0 (K2 (vX r n) 0 3) :=
 congrArg (fun k => D250 r n aOw x0 k) (bZz r n)
theorem cKp (q0 : fW) : D250 r n aOw x0 (K2 q0 0 3) = fun (env : aU) (h : Hp) =>
 bnd (bR (env 1) h) fun v1 h1 =>
  q0 (env 0) v1 h1 := by kernel_rfl
theorem cAm : (fun (env : aU) (h : Hp) =>
 bnd (bR (env 1) h) fun v1 h1 =>
  vX r n (env 0) v1 h1) = (K2 (s250 r n) 0 1) := by kernel_rfl
theorem cSi : D250 r n c250 x0 r250 = (K2 (s250 r n) 0 1) :=
 (cJk r n).trans
 ((cKp r n (vX r n)).trans (cAm r n))
theorem cPm : aG CF r n 250 args h = s250 r n (aR args 0) (aR args 1) h :=
 (by kernel_rfl : aG CF r n 250 args h = D250 r n c250 x0 r250 (aJ args) h).trans ((congrFun (congrFun (cSi r n) (aJ args)) h).trans (by kernel_rfl))
noncomputable def s267 (r : RT) (n : Nat) (x0 : DV) (h0 : Hp) : aH :=
 bnd (r 231 [x0] h0) fun v1 h1 =>
 bnd (gD v1 false (some (x0, h1)) h1) fun v2 h2 =>
 bnd (gD v1 false (r 234 [v2] h2) h2) fun v3 h3 =>
 bnd (aL v1 (.b true) v3 h3) fun v4 h4 =>
 some (v4, h4)
noncomputable abbrev c267 : Code := cf Tryz.f267
noncomputable abbrev r267 : K := aN CF Tryz.f267
noncomputable def D267 (r : RT) (n : Nat) (c : Code) (X : Nat → K) (k : K) : K := aO CF r 9 n c X r267 k
theorem cUq : D267 r n c267 x0 r267 = (K1 (s267 r n) 0) :=
 (by kernel_rfl)
theorem cKg : aG CF r n 267 args h = s267 r n (aR args 0) h :=
 (by kernel_rfl : aG CF r n 267 args h = D267 r n c267 x0 r267 (aJ args) h).trans ((congrFun (congrFun (cUq r n) (aJ args)) h).trans (by kernel_rfl))
end Go.Dd

namespace Go.Dd
open Go.Proofs
variable (r : RT) (n : Nat) (args : List DV) (h : Hp)
noncomputable def mL (r : RT) (n : Nat) (x2 : DV) (h0 : Hp) : aH :=
 bnd (aY fX [] h0) fun v1 h1 =>
 bnd (aF 6 x2 v1 h1) fun _ h2 =>
 bnd (aK 6 x2 h2) fun v3 _ =>
 some (v3, h2)
noncomputable def oU (r : RT) (n : Nat) (x0 x2 : DV) (h0 : Hp) : aH :=
 bnd (r 205 [x0, (aE 0)] h0) fun v1 h1 =>
 bnd (bH [(aE 0), (.s []), (aE 0), (aE 0)] h1) fun v2 h2 =>
 bnd (aF 4 v2 v1 h2) fun _ h3 =>
 bnd (aQ x0 h3) fun v4 h4 =>
 bnd (aB 3 v4 h4) fun v5 h5 =>
 bnd (aA v5 h5) fun v6 h6 =>
 bnd (aD .neq v6 (aE 0) h6) fun v7 h7 =>
 aS v7 (
  mL r n x2 h7) (
 bnd (aB 0 v2 h7) fun v8 h8 =>
 bnd (aA v8 h8) fun v9 h9 =>
 bnd (aD .eql v9 (aE 1) h9) fun v10 h10 =>
 aS v10 (
 bnd (r 202 [x0] h10) fun v11 h11 =>
 bnd (eT 1 v11 h11) fun v12 h12 =>
 bnd (aY fX [(0, 1, (aE 5)), (1, 1, v12)] h12) fun v13 h13 =>
 bnd (aF 6 x2 v13 h13) fun _ h14 =>
 bnd (aK 6 x2 h14) fun v15 _ =>
 some (v15, h14)) (
 bnd (aB 0 v2 h10) fun v16 h16 =>
 bnd (aA v16 h16) fun v17 h17 =>
 bnd (aD .eql v17 (aE 7) h17) fun v18 h18 =>
 aS v18 (
 bnd (r 296 [x0, (.f 297 [x0] [])] h18) fun v19 h19 =>
 bnd (aF 6 x2 v19 h19) fun _ h20 =>
 bnd (aK 6 x2 h20) fun v21 _ =>
 some (v21, h20)) (
 bnd (r 201 [x0, (aE 10), (.s [40])] h18) fun v22 h22 =>
 aS v22 (
 bnd (r 296 [x0, (.f 298 [x0] [])] h22) fun v23 h23 =>
 bnd (aF 6 x2 v23 h23) fun _ h24 =>
 bnd (aK 6 x2 h24) fun v25 _ =>
 some (v25, h24)) (
 bnd (r 201 [x0, (aE 10), (.s [91])] h22) fun v26 h26 =>
 aS v26 (
 bnd (r 296 [x0, (.f 299 [x0] [])] h26) fun v27 h27 =>
 bnd (aF 6 x2 v27 h27) fun _ h28 =>
 bnd (aK 6 x2 h28) fun v29 _ =>
 some (v29, h28)) (
 bnd (aK 4 v2 h26) fun v30 h30 =>
 bnd (r 204 [x0, v30, (aE 13)] h30) fun v31 h31 =>
      mL r n x2 h31)))))
noncomputable def pB (r : RT) (n : Nat) (x0 x2 : DV) (h0 : Hp) : aH :=
 bnd (r 295 [x0] h0) fun v1 h1 =>
 bnd (aC 0 v1 h1) fun v2 h2 =>
 bnd (aC 1 v1 h2) fun v3 h3 =>
 bnd (bH fX h3) fun v4 h4 =>
 bnd (aF 6 v4 v2 h4) fun _ h5 =>
 aS v3 (
 bnd (aK 6 v4 h5) fun v6 h6 =>
 bnd (aF 6 x2 v6 h6) fun _ h7 =>
 bnd (aK 6 x2 h7) fun v8 _ =>
 some (v8, h7)) (
  oU r n x0 x2 h5)
noncomputable def s272 (r : RT) (n : Nat) (x0 : DV) (h0 : Hp) : aH :=
 bnd (bH fX h0) fun v1 h1 =>
  pB r n x0 v1 h1
noncomputable abbrev c272 : Code := cf Tryz.f272
noncomputable abbrev yE : Code := cR c272
noncomputable abbrev aFl : Code := cR yE
noncomputable abbrev cPk : Code := cR aFl
noncomputable abbrev aOc : Code := cL aFl
noncomputable abbrev aMn : Code := cL yE
noncomputable abbrev aJr : Code := cL c272
noncomputable abbrev r272 : K := aN CF Tryz.f272
noncomputable def D272 (r : RT) (n : Nat) (c : Code) (X : Nat → K) (k : K) : K := aO CF r 55 n c X r272 k
theorem bVp : D272 r n cPk x0 r272 = (K1 (mL r n) 2) :=
 (by kernel_rfl)
theorem bEw : D272 r n aFl x0 r272 = D272 r n aOc x0 (K1 (mL r n) 2) :=
 congrArg (fun k => D272 r n aOc x0 k) (bVp r n)
theorem bPx (q0 : TT1) : D272 r n aOc x0 (K1 q0 2) = fun (env : aU) (h : Hp) =>
 bnd (r 205 [(env 0), (aE 0)] h) fun v1 h1 =>
 bnd (bH [(aE 0), (.s []), (aE 0), (aE 0)] h1) fun v2 h2 =>
 bnd (aF 4 v2 v1 h2) fun _ h3 =>
 bnd (aQ (env 0) h3) fun v4 h4 =>
 bnd (aB 3 v4 h4) fun v5 h5 =>
 bnd (aA v5 h5) fun v6 h6 =>
 bnd (aD .neq v6 (aE 0) h6) fun v7 h7 =>
 aS v7 (
   q0 (env 2) h7) (
 bnd (aB 0 v2 h7) fun v8 h8 =>
 bnd (aA v8 h8) fun v9 h9 =>
 bnd (aD .eql v9 (aE 1) h9) fun v10 h10 =>
 aS v10 (
 bnd (r 202 [(env 0)] h10) fun v11 h11 =>
 bnd (eT 1 v11 h11) fun v12 h12 =>
 bnd (aY fX [(0, 1, (aE 5)), (1, 1, v12)] h12) fun v13 h13 =>
 bnd (aF 6 (env 2) v13 h13) fun _ h14 =>
 bnd (aK 6 (env 2) h14) fun v15 _ =>
 some (v15, h14)) (
 bnd (aB 0 v2 h10) fun v16 h16 =>
 bnd (aA v16 h16) fun v17 h17 =>
 bnd (aD .eql v17 (aE 7) h17) fun v18 h18 =>
 aS v18 (
 bnd (r 296 [(env 0), (.f 297 [(env 0)] [])] h18) fun v19 h19 =>
 bnd (aF 6 (env 2) v19 h19) fun _ h20 =>
 bnd (aK 6 (env 2) h20) fun v21 _ =>
 some (v21, h20)) (
 bnd (r 201 [(env 0), (aE 10), (.s [40])] h18) fun v22 h22 =>
 aS v22 (
 bnd (r 296 [(env 0), (.f 298 [(env 0)] [])] h22) fun v23 h23 =>
 bnd (aF 6 (env 2) v23 h23) fun _ h24 =>
 bnd (aK 6 (env 2) h24) fun v25 _ =>
 some (v25, h24)) (
 bnd (r 201 [(env 0), (aE 10), (.s [91])] h22) fun v26 h26 =>
 aS v26 (
 bnd (r 296 [(env 0), (.f 299 [(env 0)] [])] h26) fun v27 h27 =>
 bnd (aF 6 (env 2) v27 h27) fun _ h28 =>
 bnd (aK 6 (env 2) h28) fun v29 _ =>
 some (v29, h28)) (
 bnd (aK 4 v2 h26) fun v30 h30 =>
 bnd (r 204 [(env 0), v30, (aE 13)] h30) fun v31 h31 =>
       q0 (env 2) h31))))) := by kernel_rfl
theorem aZu : (fun (env : aU) (h : Hp) =>
 bnd (r 205 [(env 0), (aE 0)] h) fun v1 h1 =>
 bnd (bH [(aE 0), (.s []), (aE 0), (aE 0)] h1) fun v2 h2 =>
 bnd (aF 4 v2 v1 h2) fun _ h3 =>
 bnd (aQ (env 0) h3) fun v4 h4 =>
 bnd (aB 3 v4 h4) fun v5 h5 =>
 bnd (aA v5 h5) fun v6 h6 =>
 bnd (aD .neq v6 (aE 0) h6) fun v7 h7 =>
 aS v7 (
   mL r n (env 2) h7) (
 bnd (aB 0 v2 h7) fun v8 h8 =>
 bnd (aA v8 h8) fun v9 h9 =>
 bnd (aD .eql v9 (aE 1) h9) fun v10 h10 =>
 aS v10 (
 bnd (r 202 [(env 0)] h10) fun v11 h11 =>
 bnd (eT 1 v11 h11) fun v12 h12 =>
 bnd (aY fX [(0, 1, (aE 5)), (1, 1, v12)] h12) fun v13 h13 =>
 bnd (aF 6 (env 2) v13 h13) fun _ h14 =>
 bnd (aK 6 (env 2) h14) fun v15 _ =>
 some (v15, h14)) (
 bnd (aB 0 v2 h10) fun v16 h16 =>
 bnd (aA v16 h16) fun v17 h17 =>
 bnd (aD .eql v17 (aE 7) h17) fun v18 h18 =>
 aS v18 (
 bnd (r 296 [(env 0), (.f 297 [(env 0)] [])] h18) fun v19 h19 =>
 bnd (aF 6 (env 2) v19 h19) fun _ h20 =>
 bnd (aK 6 (env 2) h20) fun v21 _ =>
 some (v21, h20)) (
 bnd (r 201 [(env 0), (aE 10), (.s [40])] h18) fun v22 h22 =>
 aS v22 (
 bnd (r 296 [(env 0), (.f 298 [(env 0)] [])] h22) fun v23 h23 =>
 bnd (aF 6 (env 2) v23 h23) fun _ h24 =>
 bnd (aK 6 (env 2) h24) fun v25 _ =>
 some (v25, h24)) (
 bnd (r 201 [(env 0), (aE 10), (.s [91])] h22) fun v26 h26 =>
 aS v26 (
 bnd (r 296 [(env 0), (.f 299 [(env 0)] [])] h26) fun v27 h27 =>
 bnd (aF 6 (env 2) v27 h27) fun _ h28 =>
 bnd (aK 6 (env 2) h28) fun v29 _ =>
 some (v29, h28)) (
 bnd (aK 4 v2 h26) fun v30 h30 =>
 bnd (r 204 [(env 0), v30, (aE 13)] h30) fun v31 h31 =>
       mL r n (env 2) h31)))))) = (K2 (oU r n) 0 2) := by kernel_rfl
theorem bUj : D272 r n aFl x0 r272 = (K2 (oU r n) 0 2) :=
 (bEw r n).trans
 ((bPx r n (mL r n)).trans (aZu r n))
theorem bRo : D272 r n yE x0 r272 = D272 r n aMn x0 (K2 (oU r n) 0 2) :=
 congrArg (fun k => D272 r n aMn x0 k) (bUj r n)
theorem bLn (q0 : fW) : D272 r n aMn x0 (K2 q0 0 2) = fun (env : aU) (h : Hp) =>
 bnd (r 295 [(env 0)] h) fun v1 h1 =>
 bnd (aC 0 v1 h1) fun v2 h2 =>
 bnd (aC 1 v1 h2) fun v3 h3 =>
 bnd (bH fX h3) fun v4 h4 =>
 bnd (aF 6 v4 v2 h4) fun _ h5 =>
 aS v3 (
 bnd (aK 6 v4 h5) fun v6 h6 =>
 bnd (aF 6 (env 2) v6 h6) fun _ h7 =>
 bnd (aK 6 (env 2) h7) fun v8 _ =>
 some (v8, h7)) (
   q0 (env 0) (env 2) h5) := by kernel_rfl
theorem aYw : (fun (env : aU) (h : Hp) =>
 bnd (r 295 [(env 0)] h) fun v1 h1 =>
 bnd (aC 0 v1 h1) fun v2 h2 =>
 bnd (aC 1 v1 h2) fun v3 h3 =>
 bnd (bH fX h3) fun v4 h4 =>
 bnd (aF 6 v4 v2 h4) fun _ h5 =>
 aS v3 (
 bnd (aK 6 v4 h5) fun v6 h6 =>
 bnd (aF 6 (env 2) v6 h6) fun _ h7 =>
 bnd (aK 6 (env 2) h7) fun v8 _ =>
 some (v8, h7)) (
   oU r n (env 0) (env 2) h5)) = (K2 (pB r n) 0 2) := by kernel_rfl
theorem cCp : D272 r n yE x0 r272 = (K2 (pB r n) 0 2) :=
 (bRo r n).trans
 ((bLn r n (oU r n)).trans (aYw r n))
theorem cPw : D272 r n c272 x0 r272 = D272 r n aJr x0 (K2 (pB r n) 0 2) :=
 congrArg (fun k => D272 r n aJr x0 k) (cCp r n)
theorem cQc (q0 : fW) : D272 r n aJr x0 (K2 q0 0 2) = fun (env : aU) (h : Hp) =>
 bnd (bH fX h) fun v1 h1 =>
  q0 (env 0) v1 h1 := by kernel_rfl
theorem cDi : (fun (env : aU) (h : Hp) =>
 bnd (bH fX h) fun v1 h1 =>
  pB r n (env 0) v1 h1) = (K1 (s272 r n) 0) := by kernel_rfl
theorem cTw : D272 r n c272 x0 r272 = (K1 (s272 r n) 0) :=
 (cPw r n).trans
 ((cQc r n (pB r n)).trans (cDi r n))
theorem cOe : aG CF r n 272 args h = s272 r n (aR args 0) h :=
 (by kernel_rfl : aG CF r n 272 args h = D272 r n c272 x0 r272 (aJ args) h).trans ((congrFun (congrFun (cTw r n) (aJ args)) h).trans (by kernel_rfl))
noncomputable def dZ (r : RT) (n : Nat) (h0 : Hp) : aH :=
 some ((.i .i64 (Int.negSucc 0)), h0)
noncomputable def aSi (r : RT) (n : Nat) (kk4 : dK) (x0 x1 x7 x8 : DV) (h0 : Hp) : aH :=
 bnd (aD .lss x8 x7 h0) fun v1 h1 =>
 aS v1 (
 bnd (aI 4 x0 x8 h1) fun v2 h2 =>
 bnd (aK 4 v2 h2) fun v3 h3 =>
 bnd (cV CF r x1 [v3] h3) fun v4 h4 =>
 aS v4 (
 some (x8, h4)) (
 bnd (aD .add x8 (aE 1) h4) fun v5 h5 =>
    kk4 x0 x1 x7 v5 h5)) (
      dZ r n h1)
noncomputable def rY (r : RT) (n : Nat) (m : Nat) : dK :=
 Nat.rec (motive := fun _ => dK) (fun _ _ _ _ _ => none) (fun _ ih => aSi r n ih) m
noncomputable def bOi (r : RT) (n : Nat) : dK := rY r n n
noncomputable def aPl (r : RT) (n : Nat) (x0 x1 x7 x8 : DV) (h0 : Hp) : aH :=
 bOi r n x0 x1 x7 x8 h0
noncomputable def aLa (r : RT) (n : Nat) (x0 x1 : DV) (h0 : Hp) : aH :=
 bnd (bQ x0 h0) fun v1 h1 =>
  aPl r n x0 x1 v1 (aE 0) h1
noncomputable def s275 (r : RT) (n : Nat) (x0 x1 : DV) (h0 : Hp) : aH :=
 aLa r n x0 x1 h0
noncomputable abbrev c275 : Code := cf Tryz.f275
noncomputable abbrev aCj : Code := cR c275
noncomputable abbrev cPd : Code := cR aCj
noncomputable abbrev sW : Code := cL aCj
noncomputable abbrev aIv : Code := cR sW
noncomputable abbrev aEq : Code := cL aIv
noncomputable abbrev mI : Code := cL aEq
noncomputable abbrev bHh : Code := cL sW
noncomputable abbrev bMi : Code := cL c275
noncomputable abbrev r275 : K := aN CF Tryz.f275
noncomputable def D275 (r : RT) (n : Nat) (c : Code) (X : Nat → K) (k : K) : K := aO CF r 19 n c X r275 k
theorem cCe : D275 r n cPd x0 r275 = (K0 (dZ r n)) :=
 (by kernel_rfl)
theorem bJo (kk4 : dK) : D275 r n mI (xs x0 0 (K0 (dZ r n))) (K4 kk4 0 1 7 8) = (K4 (aSi r n kk4) 0 1 7 8) :=
 (by kernel_rfl)
theorem bIc (m : Nat) : aM (fun kk => D275 r n mI (xs x0 0 (K0 (dZ r n))) kk) m = (K4 (rY r n m) 0 1 7 8) := by
 induction m with
 | zero => exact (by kernel_rfl : aM (fun kk => D275 r n mI (xs x0 0 (K0 (dZ r n))) kk) 0 = (K4 (rY r n 0) 0 1 7 8))
 | succ m ih =>
  refine (by kernel_rfl : aM (fun kk => D275 r n mI (xs x0 0 (K0 (dZ r n))) kk) (m + 1) = D275 r n mI (xs x0 0 (K0 (dZ r n))) (aM (fun kk => D275 r n mI (xs x0 0 (K0 (dZ r n))) kk) m)).trans ?_
  rw [ih]
  exact (bJo r n (rY r n m)).trans (by kernel_rfl)
theorem bTe : D275 r n aEq (xs x0 0 (K0 (dZ r n))) (K0 (dZ r n)) = (K4 (bOi r n) 0 1 7 8) :=
 (by kernel_rfl : D275 r n aEq (xs x0 0 (K0 (dZ r n))) (K0 (dZ r n)) = aM (fun kk => D275 r n mI (xs x0 0 (K0 (dZ r n))) kk) n).trans ((bIc r n n).trans (by kernel_rfl))
theorem bUq : D275 r n aIv x0 (K0 (dZ r n)) = (K4 (aPl r n) 0 1 7 8) :=
 (by kernel_rfl : D275 r n aIv x0 (K0 (dZ r n)) = D275 r n aEq (xs x0 0 (K0 (dZ r n))) (K0 (dZ r n))).trans
 ((bTe r n).trans (by kernel_rfl))
theorem bGv : D275 r n aCj x0 r275 = D275 r n sW x0 (K0 (dZ r n)) :=
 congrArg (fun k => D275 r n sW x0 k) (cCe r n)
theorem bDs : D275 r n sW x0 (K0 (dZ r n)) = D275 r n bHh x0 (K4 (aPl r n) 0 1 7 8) :=
 congrArg (fun k => D275 r n bHh x0 k) (bUq r n)
theorem bZk : D275 r n aCj x0 r275 = (K2 (aLa r n) 0 1) :=
 (bGv r n).trans
 ((bDs r n).trans
 ((by kernel_rfl)))
theorem cKq : D275 r n c275 x0 r275 = D275 r n bMi x0 (K2 (aLa r n) 0 1) :=
 congrArg (fun k => D275 r n bMi x0 k) (bZk r n)
theorem cWa : D275 r n c275 x0 r275 = (K2 (s275 r n) 0 1) :=
 (cKq r n).trans
 ((by kernel_rfl))
theorem cIv : aG CF r n 275 args h = s275 r n (aR args 0) (aR args 1) h :=
 (by kernel_rfl : aG CF r n 275 args h = D275 r n c275 x0 r275 (aJ args) h).trans ((congrFun (congrFun (cWa r n) (aJ args)) h).trans (by kernel_rfl))
noncomputable def s276 (r : RT) (n : Nat) (x0 x1 : DV) (h0 : Hp) : aH :=
 bnd (bR x0 h0) fun v1 h1 =>
 bnd (aB 0 v1 h1) fun v2 h2 =>
 bnd (aA v2 h2) fun v3 h3 =>
 bnd (aA x1 h3) fun v4 h4 =>
 bnd (dX .eql v3 v4 h4) fun v5 h5 =>
 some (v5, h5)
noncomputable abbrev c276 : Code := cf Tryz.f276
noncomputable abbrev r276 : K := aN CF Tryz.f276
noncomputable def D276 (r : RT) (n : Nat) (c : Code) (X : Nat → K) (k : K) : K := aO CF r 8 n c X r276 k
theorem cVa : D276 r n c276 x0 r276 = (K2 (s276 r n) 0 1) :=
 (by kernel_rfl)
theorem cJm : aG CF r n 276 args h = s276 r n (aR args 0) (aR args 1) h :=
 (by kernel_rfl : aG CF r n 276 args h = D276 r n c276 x0 r276 (aJ args) h).trans ((congrFun (congrFun (cVa r n) (aJ args)) h).trans (by kernel_rfl))
noncomputable def s277 (r : RT) (n : Nat) (x0 x1 : DV) (h0 : Hp) : aH :=
 bnd (bR x0 h0) fun v1 h1 =>
 bnd (aK 4 v1 h1) fun v2 h2 =>
 bnd (aK 4 x1 h2) fun v3 h3 =>
 bnd (r 278 [v2, v3] h3) fun v4 h4 =>
 some (v4, h4)
noncomputable abbrev c277 : Code := cf Tryz.f277
noncomputable abbrev r277 : K := aN CF Tryz.f277
noncomputable def D277 (r : RT) (n : Nat) (c : Code) (X : Nat → K) (k : K) : K := aO CF r 7 n c X r277 k
theorem cVi : D277 r n c277 x0 r277 = (K2 (s277 r n) 0 1) :=
 (by kernel_rfl)
theorem cNk : aG CF r n 277 args h = s277 r n (aR args 0) (aR args 1) h :=
 (by kernel_rfl : aG CF r n 277 args h = D277 r n c277 x0 r277 (aJ args) h).trans ((congrFun (congrFun (cVi r n) (aJ args)) h).trans (by kernel_rfl))
noncomputable def s278 (r : RT) (n : Nat) (x0 x1 : DV) (h0 : Hp) : aH :=
 bnd (bR x0 h0) fun v1 h1 =>
 bnd (bR x1 h1) fun v2 h2 =>
 bnd (aB 0 v1 h2) fun v3 h3 =>
 bnd (aA v3 h3) fun v4 h4 =>
 bnd (aB 0 v2 h4) fun v5 h5 =>
 bnd (aA v5 h5) fun v6 h6 =>
 bnd (aD .eql v4 v6 h6) fun v7 h7 =>
 bnd (gD v7 true (aB 1 v1 h7) h7) fun v8 h8 =>
 bnd (gD v7 true (aA v8 h8) h8) fun v9 h9 =>
 bnd (gD v7 true (aB 1 v2 h9) h9) fun v10 h10 =>
 bnd (gD v7 true (aA v10 h10) h10) fun v11 h11 =>
 bnd (gD v7 true (dX .eql v9 v11 h11) h11) fun v12 h12 =>
 bnd (aL v7 v12 (.b false) h12) fun v13 h13 =>
 bnd (gD v13 true (aB 2 v1 h13) h13) fun v14 h14 =>
 bnd (gD v13 true (aA v14 h14) h14) fun v15 h15 =>
 bnd (gD v13 true (aB 2 v2 h15) h15) fun v16 h16 =>
 bnd (gD v13 true (aA v16 h16) h16) fun v17 h17 =>
 bnd (gD v13 true (aD .eql v15 v17 h17) h17) fun v18 h18 =>
 bnd (aL v13 v18 (.b false) h18) fun v19 h19 =>
 bnd (gD v19 true (aB 3 v1 h19) h19) fun v20 h20 =>
 bnd (gD v19 true (aA v20 h20) h20) fun v21 h21 =>
 bnd (gD v19 true (aB 3 v2 h21) h21) fun v22 h22 =>
 bnd (gD v19 true (aA v22 h22) h22) fun v23 h23 =>
 bnd (gD v19 true (r 301 [v21, v23, (.f 278 [] [])] h23) h23) fun v24 h24 =>
 bnd (aL v19 v24 (.b false) h24) fun v25 h25 =>
 some (v25, h25)
noncomputable abbrev c278 : Code := cf Tryz.f278
noncomputable abbrev r278 : K := aN CF Tryz.f278
noncomputable def D278 (r : RT) (n : Nat) (c : Code) (X : Nat → K) (k : K) : K := aO CF r 31 n c X r278 k
theorem cSa : D278 r n c278 x0 r278 = (K2 (s278 r n) 0 1) :=
 (by kernel_rfl)
theorem cHj : aG CF r n 278 args h = s278 r n (aR args 0) (aR args 1) h :=
 (by kernel_rfl : aG CF r n 278 args h = D278 r n c278 x0 r278 (aJ args) h).trans ((congrFun (congrFun (cSa r n) (aJ args)) h).trans (by kernel_rfl))
noncomputable def s280 (r : RT) (n : Nat) (x0 x1 : DV) (h0 : Hp) : aH :=
 bnd (aY [(aE 0), (.s []), (aE 0), .l0] [(0, 1, (aE 3)), (1, 1, x1)] h0) fun v1 h1 =>
 bnd (jQ [x0, v1] h1) fun v2 h2 =>
 some (v2, h2)
noncomputable abbrev c280 : Code := cf Tryz.f280
noncomputable abbrev r280 : K := aN CF Tryz.f280
noncomputable def D280 (r : RT) (n : Nat) (c : Code) (X : Nat → K) (k : K) : K := aO CF r 9 n c X r280 k
theorem cQv : D280 r n c280 x0 r280 = (K2 (s280 r n) 0 1) :=
 (by kernel_rfl)
theorem cPi : aG CF r n 280 args h = s280 r n (aR args 0) (aR args 1) h :=
 (by kernel_rfl : aG CF r n 280 args h = D280 r n c280 x0 r280 (aJ args) h).trans ((congrFun (congrFun (cQv r n) (aJ args)) h).trans (by kernel_rfl))
noncomputable def kZ (r : RT) (n : Nat) (x2 x3 x5 x6 x9 : DV) (h0 : Hp) : aH :=
 bnd (aB 5 x3 h0) fun v1 h1 =>
 bnd (aA v1 h1) fun v2 h2 =>
 bnd (bQ v2 h2) fun v3 h3 =>
 bnd (aD .neq v3 x9 h3) fun v4 h4 =>
 bnd (gD v4 false (aB 5 x3 h4) h4) fun v5 h5 =>
 bnd (gD v4 false (aA v5 h5) h5) fun v6 h6 =>
 bnd (gD v4 false (cJ 6 v6 (some (aE 1)) none h6) h6) fun v7 h7 =>
 bnd (gD v4 false (r 308 [v7, (.f 309 [] [])] h7) h7) fun v8 h8 =>
 bnd (aL v4 (.b true) v8 h8) fun v9 h9 =>
 aS v9 (
 some ((.b false), h9)) (
 bnd (aA x2 h9) fun v10 h10 =>
 bnd (aB 5 x3 h10) fun v11 h11 =>
 bnd (aA v11 h11) fun v12 h12 =>
 bnd (aI 6 v12 (aE 0) h12) fun v13 h13 =>
 bnd (aK 6 v13 h13) fun v14 h14 =>
 bnd (r 208 [v10, v14] h14) fun v15 h15 =>
 bnd (aA x2 h15) fun v16 h16 =>
 bnd (r 248 [v16, (aE 17)] h16) fun v17 h17 =>
 bnd (cV CF r x5 [] h17) fun v18 h18 =>
 bnd (aA x2 h18) fun v19 h19 =>
 bnd (r 248 [v19, (aE 16)] h19) fun v20 h20 =>
 bnd (cV CF r v17 [] h20) fun v21 h21 =>
 bnd (cV CF r x6 [] h21) fun v22 h22 =>
 bnd (cV CF r v20 [] h22) fun v23 h23 =>
 some ((.b true), h23))
noncomputable def aOo (r : RT) (n : Nat) (x2 x3 x7 x8 x9 : DV) (h0 : Hp) : aH :=
 bnd (aB 1 x3 h0) fun v1 h1 =>
 bnd (aA v1 h1) fun v2 h2 =>
 bnd (dX .eql v2 (.s [105, 102, 84, 114, 117, 101, 58]) h2) fun v3 h3 =>
 aS v3 (
 bnd (cV CF r x7 [(aE 1)] h3) fun v4 h4 =>
 bnd (cV CF r x8 [(aE 2)] h4) fun v5 h5 =>
  kZ r n x2 x3 v4 v5 x9 h5) (
 bnd (dX .eql v2 (.s [105, 102, 70, 97, 108, 115, 101, 58]) h3) fun v6 h6 =>
 aS v6 (
 bnd (cV CF r x8 [(aE 2)] h6) fun v7 h7 =>
 bnd (cV CF r x7 [(aE 1)] h7) fun v8 h8 =>
      kZ r n x2 x3 v7 v8 x9 h8) (
 bnd (dX .eql v2 (.s [97, 110, 100, 58]) h6) fun v9 h9 =>
 aS v9 (
 bnd (cV CF r x7 [(aE 1)] h9) fun v10 h10 =>
 bnd (cV CF r x8 [(aE 4)] h10) fun v11 h11 =>
    kZ r n x2 x3 v10 v11 x9 h11) (
 bnd (dX .eql v2 (.s [111, 114, 58]) h9) fun v12 h12 =>
 aS v12 (
 bnd (cV CF r x8 [(aE 3)] h12) fun v13 h13 =>
 bnd (cV CF r x7 [(aE 1)] h13) fun v14 h14 =>
     kZ r n x2 x3 v13 v14 x9 h14) (
 bnd (dX .eql v2 (.s [105, 102, 84, 114, 117, 101, 58, 105, 102, 70, 97, 108, 115, 101, 58]) h12) fun v15 h15 =>
 aS v15 (
 bnd (cV CF r x7 [(aE 1)] h15) fun v16 h16 =>
 bnd (cV CF r x7 [(aE 2)] h16) fun v17 h17 =>
      kZ r n x2 x3 v16 v17 (aE 3) h17) (
 bnd (dX .eql v2 (.s [105, 102, 70, 97, 108, 115, 101, 58, 105, 102, 84, 114, 117, 101, 58]) h15) fun v18 h18 =>
 aS v18 (
 bnd (cV CF r x7 [(aE 2)] h18) fun v19 h19 =>
 bnd (cV CF r x7 [(aE 1)] h19) fun v20 h20 =>
       kZ r n x2 x3 v19 v20 (aE 3) h20) (
 some ((.b false), h18)))))))
noncomputable def aPp (r : RT) (n : Nat) (x2 x3 x7 x8 : DV) (h0 : Hp) : aH :=
 aOo r n x2 x3 x7 x8 (aE 2) h0
noncomputable def aPf (r : RT) (n : Nat) (x2 x3 x7 : DV) (h0 : Hp) : aH :=
 aPp r n x2 x3 x7 (.f 306 [] [x2]) h0
noncomputable def aOk (r : RT) (n : Nat) (x2 x3 : DV) (h0 : Hp) : aH :=
 aPf r n x2 x3 (.f 304 [] [x2, x3]) h0
noncomputable def uY (r : RT) (n : Nat) (x2 x3 : DV) (h0 : Hp) : aH :=
 aOk r n x2 x3 h0
noncomputable def s281 (r : RT) (n : Nat) (x0 x1 : DV) (h0 : Hp) : aH :=
 bnd (bR x0 h0) fun v1 h1 =>
 bnd (bR x1 h1) fun v2 h2 =>
  uY r n v1 v2 h2
noncomputable abbrev c281 : Code := cf Tryz.f281
noncomputable abbrev xO : Code := cR c281
noncomputable abbrev aFn : Code := cR xO
noncomputable abbrev yT : Code := cR aFn
noncomputable abbrev aGh : Code := cR yT
noncomputable abbrev xT : Code := cR aGh
noncomputable abbrev cNi : Code := cR xT
noncomputable abbrev bMl : Code := cL xT
noncomputable abbrev bKg : Code := cL aGh
noncomputable abbrev bCs : Code := cL yT
noncomputable abbrev aVk : Code := cL aFn
noncomputable abbrev aTw : Code := cL xO
noncomputable abbrev aDk : Code := cL c281
noncomputable abbrev r281 : K := aN CF Tryz.f281
noncomputable def D281 (r : RT) (n : Nat) (c : Code) (X : Nat → K) (k : K) : K := aO CF r 81 n c X r281 k
theorem bTn : D281 r n cNi x0 r281 = (K5 (kZ r n) 2 3 5 6 9) :=
 (by kernel_rfl)
theorem bLk : D281 r n xT x0 r281 = D281 r n bMl x0 (K5 (kZ r n) 2 3 5 6 9) :=
 congrArg (fun k => D281 r n bMl x0 k) (bTn r n)
theorem bXj : D281 r n xT x0 r281 = (K5 (aOo r n) 2 3 7 8 9) :=
 (bLk r n).trans
 ((by kernel_rfl))
theorem bEx : D281 r n aGh x0 r281 = D281 r n bKg x0 (K5 (aOo r n) 2 3 7 8 9) :=
 congrArg (fun k => D281 r n bKg x0 k) (bXj r n)
theorem cEr : D281 r n aGh x0 r281 = (K4 (aPp r n) 2 3 7 8) :=
 (bEx r n).trans
 ((by kernel_rfl))
theorem bJj : D281 r n yT x0 r281 = D281 r n bCs x0 (K4 (aPp r n) 2 3 7 8) :=
 congrArg (fun k => D281 r n bCs x0 k) (cEr r n)
theorem bXp : D281 r n yT x0 r281 = (K3 (aPf r n) 2 3 7) :=
 (bJj r n).trans
 ((by kernel_rfl))
theorem bLq : D281 r n aFn x0 r281 = D281 r n aVk x0 (K3 (aPf r n) 2 3 7) :=
 congrArg (fun k => D281 r n aVk x0 k) (bXp r n)
theorem cAz : D281 r n aFn x0 r281 = (K2 (aOk r n) 2 3) :=
 (bLq r n).trans
 ((by kernel_rfl))
theorem bFb : D281 r n xO x0 r281 = D281 r n aTw x0 (K2 (aOk r n) 2 3) :=
 congrArg (fun k => D281 r n aTw x0 k) (cAz r n)
theorem bUa : D281 r n xO x0 r281 = (K2 (uY r n) 2 3) :=
 (bFb r n).trans
 ((by kernel_rfl))
theorem cHz : D281 r n c281 x0 r281 = D281 r n aDk x0 (K2 (uY r n) 2 3) :=
 congrArg (fun k => D281 r n aDk x0 k) (bUa r n)
theorem cGz (q0 : fW) : D281 r n aDk x0 (K2 q0 2 3) = fun (env : aU) (h : Hp) =>
 bnd (bR (env 0) h) fun v1 h1 =>
 bnd (bR (env 1) h1) fun v2 h2 =>
  q0 v1 v2 h2 := by kernel_rfl
theorem bSp : (fun (env : aU) (h : Hp) =>
 bnd (bR (env 0) h) fun v1 h1 =>
 bnd (bR (env 1) h1) fun v2 h2 =>
  uY r n v1 v2 h2) = (K2 (s281 r n) 0 1) := by kernel_rfl
theorem cTh : D281 r n c281 x0 r281 = (K2 (s281 r n) 0 1) :=
 (cHz r n).trans
 ((cGz r n (uY r n)).trans (bSp r n))
theorem cGe : aG CF r n 281 args h = s281 r n (aR args 0) (aR args 1) h :=
 (by kernel_rfl : aG CF r n 281 args h = D281 r n c281 x0 r281 (aJ args) h).trans ((congrFun (congrFun (cTh r n) (aJ args)) h).trans (by kernel_rfl))
noncomputable def zW (r : RT) (n : Nat) (x0 x3 x6 x7 : DV) (h0 : Hp) : aH :=
 bnd (aB 5 x3 h0) fun v1 h1 =>
 bnd (aA v1 h1) fun v2 h2 =>
 bnd (aI 6 v2 (aE 1) h2) fun v3 h3 =>
 bnd (aK 6 v3 h3) fun v4 h4 =>
 bnd (r 249 [x0, v4] h4) fun v5 h5 =>
 bnd (r 209 [x0, (aE 12), (aE 0), (aE 0)] h5) fun v6 h6 =>
 bnd (r 285 [x0] h6) fun v7 h7 =>
 bnd (r 209 [x0, (aE 16), (aE 0), (aE 0)] h7) fun v8 h8 =>
 bnd (r 287 [x0, v7, (aE 16), x6] h8) fun v9 h9 =>
 bnd (cV CF r x7 [] h9) fun v10 h10 =>
 bnd (r 209 [x0, (aE 2), (aE 0), (aE 0)] h10) fun v11 h11 =>
 some ((.b true), h11)
noncomputable def aKr (r : RT) (n : Nat) (x0 x3 x5 x6 x7 : DV) (h0 : Hp) : aH :=
 bnd (fY .not x5 h0) fun v1 h1 =>
 aS v1 (
 bnd (r 248 [x0, (aE 16)] h1) fun v2 h2 =>
 bnd (cV CF r x7 [] h2) fun v3 h3 =>
  zW r n x0 x3 x6 v2 h3) (
  zW r n x0 x3 x6 x7 h1)
noncomputable def aJa (r : RT) (n : Nat) (x0 x3 x5 x6 : DV) (h0 : Hp) : aH :=
 bnd (r 248 [x0, (aE 17)] h0) fun v1 h1 =>
  aKr r n x0 x3 x5 x6 v1 h1
noncomputable def aLt (r : RT) (n : Nat) (x0 x3 x5 x6 : DV) (h0 : Hp) : aH :=
 bnd (aB 5 x3 h0) fun v1 h1 =>
 bnd (aA v1 h1) fun v2 h2 =>
 bnd (aI 6 v2 (aE 0) h2) fun v3 h3 =>
 bnd (aK 6 v3 h3) fun v4 h4 =>
 bnd (r 249 [x0, v4] h4) fun v5 h5 =>
  aJa r n x0 x3 x5 x6 h5
noncomputable def aNu (r : RT) (n : Nat) (x0 x3 x5 : DV) (h0 : Hp) : aH :=
 bnd (r 285 [x0] h0) fun v1 h1 =>
  aLt r n x0 x3 x5 v1 h1
noncomputable def aNj (r : RT) (n : Nat) (x0 x3 x5 : DV) (h0 : Hp) : aH :=
 bnd (fY .not x5 h0) fun v1 h1 =>
 bnd (gD v1 true (aB 1 x3 h1) h1) fun v2 h2 =>
 bnd (gD v1 true (aA v2 h2) h2) fun v3 h3 =>
 bnd (gD v1 true (dX .neq v3 (.s [119, 104, 105, 108, 101, 70, 97, 108, 115, 101, 58]) h3) h3) fun v4 h4 =>
 bnd (aL v1 v4 (.b false) h4) fun v5 h5 =>
 bnd (gD v5 false (aB 5 x3 h5) h5) fun v6 h6 =>
 bnd (gD v5 false (aA v6 h6) h6) fun v7 h7 =>
 bnd (gD v5 false (bQ v7 h7) h7) fun v8 h8 =>
 bnd (gD v5 false (aD .neq v8 (aE 2) h8) h8) fun v9 h9 =>
 bnd (aL v5 (.b true) v9 h9) fun v10 h10 =>
 bnd (gD v10 false (aB 5 x3 h10) h10) fun v11 h11 =>
 bnd (gD v10 false (aA v11 h11) h11) fun v12 h12 =>
 bnd (gD v10 false (aI 6 v12 (aE 0) h12) h12) fun v13 h13 =>
 bnd (gD v10 false (aK 6 v13 h13) h13) fun v14 h14 =>
 bnd (gD v10 false (r 310 [v14] h14) h14) fun v15 h15 =>
 bnd (gD v10 false (fY .not v15 h15) h15) fun v16 h16 =>
 bnd (aL v10 (.b true) v16 h16) fun v17 h17 =>
 bnd (gD v17 false (aB 5 x3 h17) h17) fun v18 h18 =>
 bnd (gD v17 false (aA v18 h18) h18) fun v19 h19 =>
 bnd (gD v17 false (aI 6 v19 (aE 1) h19) h19) fun v20 h20 =>
 bnd (gD v17 false (aK 6 v20 h20) h20) fun v21 h21 =>
 bnd (gD v17 false (r 310 [v21] h21) h21) fun v22 h22 =>
 bnd (gD v17 false (fY .not v22 h22) h22) fun v23 h23 =>
 bnd (aL v17 (.b true) v23 h23) fun v24 h24 =>
 aS v24 (
 some ((.b false), h24)) (
  aNu r n x0 x3 x5 h24)
noncomputable def uG (r : RT) (n : Nat) (x0 x3 : DV) (h0 : Hp) : aH :=
 bnd (aB 1 x3 h0) fun v1 h1 =>
 bnd (aA v1 h1) fun v2 h2 =>
 bnd (dX .eql v2 (.s [119, 104, 105, 108, 101, 84, 114, 117, 101, 58]) h2) fun v3 h3 =>
  aNj r n x0 x3 v3 h3
noncomputable def s282 (r : RT) (n : Nat) (x0 x1 : DV) (h0 : Hp) : aH :=
 bnd (bR x1 h0) fun v1 h1 =>
  uG r n x0 v1 h1
noncomputable abbrev c282 : Code := cf Tryz.f282
noncomputable abbrev aEo : Code := cR c282
noncomputable abbrev xX : Code := cR aEo
noncomputable abbrev aFv : Code := cR xX
noncomputable abbrev aDt : Code := cR aFv
noncomputable abbrev zG : Code := cR aDt
noncomputable abbrev xR : Code := cR zG
noncomputable abbrev cIu : Code := cR xR
noncomputable abbrev bGf : Code := cL xR
noncomputable abbrev bNz : Code := cL zG
noncomputable abbrev aWf : Code := cL aDt
noncomputable abbrev aUs : Code := cL aFv
noncomputable abbrev aUh : Code := cL xX
noncomputable abbrev aTd : Code := cL aEo
noncomputable abbrev aBh : Code := cL c282
noncomputable abbrev r282 : K := aN CF Tryz.f282
noncomputable def D282 (r : RT) (n : Nat) (c : Code) (X : Nat → K) (k : K) : K := aO CF r 79 n c X r282 k
theorem cAe : D282 r n cIu x0 r282 = (K4 (zW r n) 0 3 6 7) :=
 (by kernel_rfl)
theorem bDi : D282 r n xR x0 r282 = D282 r n bGf x0 (K4 (zW r n) 0 3 6 7) :=
 congrArg (fun k => D282 r n bGf x0 k) (cAe r n)
theorem cDy : D282 r n xR x0 r282 = (K5 (aKr r n) 0 3 5 6 7) :=
 (bDi r n).trans
 ((by kernel_rfl))
theorem bPs : D282 r n zG x0 r282 = D282 r n bNz x0 (K5 (aKr r n) 0 3 5 6 7) :=
 congrArg (fun k => D282 r n bNz x0 k) (cDy r n)
theorem cFa : D282 r n zG x0 r282 = (K4 (aJa r n) 0 3 5 6) :=
 (bPs r n).trans
 ((by kernel_rfl))
theorem bNh : D282 r n aDt x0 r282 = D282 r n aWf x0 (K4 (aJa r n) 0 3 5 6) :=
 congrArg (fun k => D282 r n aWf x0 k) (cFa r n)
theorem bUn : D282 r n aDt x0 r282 = (K4 (aLt r n) 0 3 5 6) :=
 (bNh r n).trans
 ((by kernel_rfl))
theorem bMz : D282 r n aFv x0 r282 = D282 r n aUs x0 (K4 (aLt r n) 0 3 5 6) :=
 congrArg (fun k => D282 r n aUs x0 k) (bUn r n)
theorem bTr : D282 r n aFv x0 r282 = (K3 (aNu r n) 0 3 5) :=
 (bMz r n).trans
 ((by kernel_rfl))
theorem bIs : D282 r n xX x0 r282 = D282 r n aUh x0 (K3 (aNu r n) 0 3 5) :=
 congrArg (fun k => D282 r n aUh x0 k) (bTr r n)
theorem bSt : D282 r n xX x0 r282 = (K3 (aNj r n) 0 3 5) :=
 (bIs r n).trans
 ((by kernel_rfl))
theorem bFn : D282 r n aEo x0 r282 = D282 r n aTd x0 (K3 (aNj r n) 0 3 5) :=
 congrArg (fun k => D282 r n aTd x0 k) (bSt r n)
theorem cBp : D282 r n aEo x0 r282 = (K2 (uG r n) 0 3) :=
 (bFn r n).trans
 ((by kernel_rfl))
theorem cIp : D282 r n c282 x0 r282 = D282 r n aBh x0 (K2 (uG r n) 0 3) :=
 congrArg (fun k => D282 r n aBh x0 k) (cBp r n)
theorem cMo (q0 : fW) : D282 r n aBh x0 (K2 q0 0 3) = fun (env : aU) (h : Hp) =>
 bnd (bR (env 1) h) fun v1 h1 =>
  q0 (env 0) v1 h1 := by kernel_rfl
theorem cCa : (fun (env : aU) (h : Hp) =>
 bnd (bR (env 1) h) fun v1 h1 =>
  uG r n (env 0) v1 h1) = (K2 (s282 r n) 0 1) := by kernel_rfl
theorem cVf : D282 r n c282 x0 r282 = (K2 (s282 r n) 0 1) :=
 (cIp r n).trans
 ((cMo r n (uG r n)).trans (cCa r n))
theorem cJi : aG CF r n 282 args h = s282 r n (aR args 0) (aR args 1) h :=
 (by kernel_rfl : aG CF r n 282 args h = D282 r n c282 x0 r282 (aJ args) h).trans ((congrFun (congrFun (cVf r n) (aJ args)) h).trans (by kernel_rfl))
noncomputable def dN (r : RT) (n : Nat) (x0 x1 x2 x3 : DV) (h0 : Hp) : aH :=
 bnd (r 280 [x0, x2] h0) fun v1 h1 =>
 bnd (bQ x3 h1) fun v2 h2 =>
 bnd (r 209 [x0, x1, v1, v2] h2) fun v3 h3 =>
 some (.t [], h3)
noncomputable def aDq (r : RT) (n : Nat) (kk3 : TT7) (x0 x1 x2 x3 x10 x11 x12 : DV) (h0 : Hp) : aH :=
 bnd (aD .lss x12 x11 h0) fun v1 h1 =>
 aS v1 (
 bnd (aI 6 x10 x12 h1) fun v2 h2 =>
 bnd (aK 6 v2 h2) fun v3 h3 =>
 bnd (bH fX h3) fun v4 h4 =>
 bnd (aF 6 v4 v3 h4) fun _ h5 =>
 bnd (aK 6 v4 h5) fun v6 h6 =>
 bnd (r 208 [x0, v6] h6) fun v7 h7 =>
 bnd (aD .add x12 (aE 1) h7) fun v8 h8 =>
      kk3 x0 x1 x2 x3 x10 x11 v8 h8) (
      dN r n x0 x1 x2 x3 h1)
noncomputable def rG (r : RT) (n : Nat) (m : Nat) : TT7 :=
 Nat.rec (motive := fun _ => TT7) (fun _ _ _ _ _ _ _ _ => none) (fun _ ih => aDq r n ih) m
noncomputable def bPo (r : RT) (n : Nat) : TT7 := rG r n n
noncomputable def aLs (r : RT) (n : Nat) (x0 x1 x2 x3 x10 x11 x12 : DV) (h0 : Hp) : aH :=
 bPo r n x0 x1 x2 x3 x10 x11 x12 h0
noncomputable def s283 (r : RT) (n : Nat) (x0 x1 x2 x3 : DV) (h0 : Hp) : aH :=
 bnd (bQ x3 h0) fun v1 h1 =>
  aLs r n x0 x1 x2 x3 x3 v1 (aE 0) h1
noncomputable abbrev c283 : Code := cf Tryz.f283
noncomputable abbrev cPh : Code := cR c283
noncomputable abbrev tM : Code := cL c283
noncomputable abbrev aNi : Code := cR tM
noncomputable abbrev aBf : Code := cL aNi
noncomputable abbrev kL : Code := cL aBf
noncomputable abbrev bQx : Code := cL tM
noncomputable abbrev r283 : K := aN CF Tryz.f283
noncomputable def D283 (r : RT) (n : Nat) (c : Code) (X : Nat → K) (k : K) : K := aO CF r 28 n c X r283 k
theorem bWx : D283 r n cPh x0 r283 = (K4 (dN r n) 0 1 2 3) :=
 (by kernel_rfl)
theorem bLu (kk3 : TT7) (q0 : dK) : D283 r n kL (xs x0 0 (K4 q0 0 1 2 3)) (K7 kk3 0 1 2 3 10 11 12) = fun (env : aU) (h : Hp) =>
 bnd (aD .lss (env 12) (env 11) h) fun v1 h1 =>
 aS v1 (
 bnd (aI 6 (env 10) (env 12) h1) fun v2 h2 =>
 bnd (aK 6 v2 h2) fun v3 h3 =>
 bnd (bH fX h3) fun v4 h4 =>
 bnd (aF 6 v4 v3 h4) fun _ h5 =>
 bnd (aK 6 v4 h5) fun v6 h6 =>
 bnd (r 208 [(env 0), v6] h6) fun v7 h7 =>
 bnd (aD .add (env 12) (aE 1) h7) fun v8 h8 =>
      kk3 (env 0) (env 1) (env 2) (env 3) (env 10) (env 11) v8 h8) (
      q0 (env 0) (env 1) (env 2) (env 3) h1) := by kernel_rfl
theorem aYp (kk3 : TT7) : (fun (env : aU) (h : Hp) =>
 bnd (aD .lss (env 12) (env 11) h) fun v1 h1 =>
 aS v1 (
 bnd (aI 6 (env 10) (env 12) h1) fun v2 h2 =>
 bnd (aK 6 v2 h2) fun v3 h3 =>
 bnd (bH fX h3) fun v4 h4 =>
 bnd (aF 6 v4 v3 h4) fun _ h5 =>
 bnd (aK 6 v4 h5) fun v6 h6 =>
 bnd (r 208 [(env 0), v6] h6) fun v7 h7 =>
 bnd (aD .add (env 12) (aE 1) h7) fun v8 h8 =>
      kk3 (env 0) (env 1) (env 2) (env 3) (env 10) (env 11) v8 h8) (
      dN r n (env 0) (env 1) (env 2) (env 3) h1)) = (K7 (aDq r n kk3) 0 1 2 3 10 11 12) := by kernel_rfl
theorem bHi (kk3 : TT7) : D283 r n kL (xs x0 0 (K4 (dN r n) 0 1 2 3)) (K7 kk3 0 1 2 3 10 11 12) = (K7 (aDq r n kk3) 0 1 2 3 10 11 12) :=
 (bLu r n kk3 (dN r n)).trans (aYp r n kk3)
theorem bKx (m : Nat) : aM (fun kk => D283 r n kL (xs x0 0 (K4 (dN r n) 0 1 2 3)) kk) m = (K7 (rG r n m) 0 1 2 3 10 11 12) := by
 induction m with
 | zero => exact (by kernel_rfl : aM (fun kk => D283 r n kL (xs x0 0 (K4 (dN r n) 0 1 2 3)) kk) 0 = (K7 (rG r n 0) 0 1 2 3 10 11 12))
 | succ m ih =>
  refine (by kernel_rfl : aM (fun kk => D283 r n kL (xs x0 0 (K4 (dN r n) 0 1 2 3)) kk) (m + 1) = D283 r n kL (xs x0 0 (K4 (dN r n) 0 1 2 3)) (aM (fun kk => D283 r n kL (xs x0 0 (K4 (dN r n) 0 1 2 3)) kk) m)).trans ?_
  rw [ih]
  exact (bHi r n (rG r n m)).trans (by kernel_rfl)
theorem bZm : D283 r n aBf (xs x0 0 (K4 (dN r n) 0 1 2 3)) (K4 (dN r n) 0 1 2 3) = (K7 (bPo r n) 0 1 2 3 10 11 12) :=
 (by kernel_rfl : D283 r n aBf (xs x0 0 (K4 (dN r n) 0 1 2 3)) (K4 (dN r n) 0 1 2 3) = aM (fun kk => D283 r n kL (xs x0 0 (K4 (dN r n) 0 1 2 3)) kk) n).trans ((bKx r n n).trans (by kernel_rfl))
theorem cCo : D283 r n aNi x0 (K4 (dN r n) 0 1 2 3) = (K7 (aLs r n) 0 1 2 3 10 11 12) :=
 (by kernel_rfl : D283 r n aNi x0 (K4 (dN r n) 0 1 2 3) = D283 r n aBf (xs x0 0 (K4 (dN r n) 0 1 2 3)) (K4 (dN r n) 0 1 2 3)).trans
 ((bZm r n).trans (by kernel_rfl))
theorem cHb : D283 r n c283 x0 r283 = D283 r n tM x0 (K4 (dN r n) 0 1 2 3) :=
 congrArg (fun k => D283 r n tM x0 k) (bWx r n)
theorem cNn : D283 r n tM x0 (K4 (dN r n) 0 1 2 3) = D283 r n bQx x0 (K7 (aLs r n) 0 1 2 3 10 11 12) :=
 congrArg (fun k => D283 r n bQx x0 k) (cCo r n)
theorem cTm : D283 r n c283 x0 r283 = (K4 (s283 r n) 0 1 2 3) :=
 (cHb r n).trans
 ((cNn r n).trans
 ((by kernel_rfl)))
theorem cGc : aG CF r n 283 args h = s283 r n (aR args 0) (aR args 1) (aR args 2) (aR args 3) h :=
 (by kernel_rfl : aG CF r n 283 args h = D283 r n c283 x0 r283 (aJ args) h).trans ((congrFun (congrFun (cTm r n) (aJ args)) h).trans (by kernel_rfl))
noncomputable def s284 (r : RT) (n : Nat) (x0 x1 : DV) (h0 : Hp) : aH :=
 bnd (bR x1 h0) fun v1 h1 =>
 bnd (aK 6 v1 h1) fun v2 h2 =>
 bnd (r 311 [v2] h2) fun v3 h3 =>
 aS v3 (
 bnd (r 209 [x0, (aE 1), (aE 0), (aE 0)] h3) fun v4 h4 =>
 some ((aE 15), h4)) (
 bnd (aK 6 v1 h3) fun v5 h5 =>
 bnd (r 208 [x0, v5] h5) fun v6 h6 =>
 some ((aE 14), h6))
noncomputable abbrev c284 : Code := cf Tryz.f284
noncomputable abbrev r284 : K := aN CF Tryz.f284
noncomputable def D284 (r : RT) (n : Nat) (c : Code) (X : Nat → K) (k : K) : K := aO CF r 12 n c X r284 k
theorem cQz : D284 r n c284 x0 r284 = (K2 (s284 r n) 0 1) :=
 (by kernel_rfl)
theorem cPr : aG CF r n 284 args h = s284 r n (aR args 0) (aR args 1) h :=
 (by kernel_rfl : aG CF r n 284 args h = D284 r n c284 x0 r284 (aJ args) h).trans ((congrFun (congrFun (cQz r n) (aJ args)) h).trans (by kernel_rfl))
noncomputable def s285 (r : RT) (n : Nat) (x0 : DV) (h0 : Hp) : aH :=
 bnd (aQ x0 h0) fun v1 h1 =>
 bnd (aB 0 v1 h1) fun v2 h2 =>
 bnd (aB 5 v2 h2) fun v3 h3 =>
 bnd (aA v3 h3) fun v4 h4 =>
 bnd (bQ v4 h4) fun v5 h5 =>
 some (v5, h5)
noncomputable abbrev c285 : Code := cf Tryz.f285
noncomputable abbrev r285 : K := aN CF Tryz.f285
noncomputable def D285 (r : RT) (n : Nat) (c : Code) (X : Nat → K) (k : K) : K := aO CF r 9 n c X r285 k
theorem cTp : D285 r n c285 x0 r285 = (K1 (s285 r n) 0) :=
 (by kernel_rfl)
theorem cIg : aG CF r n 285 args h = s285 r n (aR args 0) h :=
 (by kernel_rfl : aG CF r n 285 args h = D285 r n c285 x0 r285 (aJ args) h).trans ((congrFun (congrFun (cTp r n) (aJ args)) h).trans (by kernel_rfl))
noncomputable def s294 (r : RT) (n : Nat) (x0 x1 : DV) (h0 : Hp) : aH :=
 bnd (bH fX h0) fun v1 h1 =>
 bnd (aY fX [(0, 1, (aE 7)), (1, 1, x0), (5, 1, x1)] h1) fun v2 h2 =>
 bnd (aF 6 v1 v2 h2) fun _ h3 =>
 bnd (aK 6 v1 h3) fun v4 _ =>
 some (v4, h3)
noncomputable abbrev c294 : Code := cf Tryz.f294
noncomputable abbrev r294 : K := aN CF Tryz.f294
noncomputable def D294 (r : RT) (n : Nat) (c : Code) (X : Nat → K) (k : K) : K := aO CF r 8 n c X r294 k
theorem cQt : D294 r n c294 x0 r294 = (K2 (s294 r n) 0 1) :=
 (by kernel_rfl)
theorem cQb : aG CF r n 294 args h = s294 r n (aR args 0) (aR args 1) h :=
 (by kernel_rfl : aG CF r n 294 args h = D294 r n c294 x0 r294 (aJ args) h).trans ((congrFun (congrFun (cQt r n) (aJ args)) h).trans (by kernel_rfl))
noncomputable def kB (r : RT) (n : Nat) (x0 x2 x5 : DV) (h0 : Hp) : aH :=
 bnd (r 202 [x0] h0) fun v1 h1 =>
 bnd (aK 6 x5 h1) fun v2 h2 =>
 bnd (aF 6 x2 v2 h2) fun _ h3 =>
 bnd (aK 6 x2 h3) fun v4 _ =>
 some (.t [v4, (.b true)], h3)
noncomputable def oR (r : RT) (n : Nat) (x0 x2 x4 x5 : DV) (h0 : Hp) : aH :=
 bnd (aQ x0 h0) fun v1 h1 =>
 bnd (aB 3 v1 h1) fun v2 h2 =>
 bnd (aA v2 h2) fun v3 h3 =>
 bnd (aD .neq v3 (aE 0) h3) fun v4 h4 =>
 aS v4 (
 bnd (aK 6 x5 h4) fun v5 h5 =>
 bnd (aF 6 x2 v5 h5) fun _ h6 =>
 bnd (aK 6 x2 h6) fun v7 _ =>
 some (.t [v7, (.b false)], h6)) (
 bnd (r 313 [x0] h4) fun v8 h8 =>
 aS v8 (
 bnd (r 202 [x0] h8) fun v9 h9 =>
 bnd (r 202 [x0] h9) fun v10 h10 =>
 bnd (eT 2 v10 h10) fun v11 h11 =>
 bnd (fY .neg v11 h11) fun v12 h12 =>
 bnd (aY fX [(0, 1, (aE 1)), (2, 1, v12)] h12) fun v13 h13 =>
 bnd (aF 6 x2 v13 h13) fun _ h14 =>
 bnd (aK 6 x2 h14) fun v15 _ =>
 some (.t [v15, (.b true)], h14)) (
 bnd (aB 0 x4 h8) fun v16 h16 =>
 bnd (aA v16 h16) fun v17 h17 =>
 bnd (aD .eql v17 (aE 4) h17) fun v18 h18 =>
 aS v18 (
 bnd (aB 0 x5 h18) fun v19 h19 =>
 bnd (aF 1 v19 (aE 1) h19) fun _ h20 =>
    kB r n x0 x2 x5 h20) (
 bnd (aB 0 x4 h18) fun v21 h21 =>
 bnd (aA v21 h21) fun v22 h22 =>
 bnd (aD .eql v22 (aE 5) h22) fun v23 h23 =>
 aS v23 (
 bnd (aB 0 x5 h23) fun v24 h24 =>
 bnd (aF 1 v24 (aE 2) h24) fun _ h25 =>
     kB r n x0 x2 x5 h25) (
 bnd (aB 0 x4 h23) fun v26 h26 =>
 bnd (aA v26 h26) fun v27 h27 =>
 bnd (aD .eql v27 (aE 6) h27) fun v28 h28 =>
 aS v28 (
 bnd (aB 0 x5 h28) fun v29 h29 =>
 bnd (aF 1 v29 (aE 3) h29) fun _ h30 =>
      kB r n x0 x2 x5 h30) (
 bnd (aK 6 x5 h28) fun v31 h31 =>
 bnd (aF 6 x2 v31 h31) fun _ h32 =>
 bnd (aK 6 x2 h32) fun v33 _ =>
 some (.t [v33, (.b false)], h32))))))
noncomputable def oQ (r : RT) (n : Nat) (x0 x2 x4 : DV) (h0 : Hp) : aH :=
 bnd (aB 1 x4 h0) fun v1 h1 =>
 bnd (aA v1 h1) fun v2 h2 =>
 bnd (aB 2 x4 h2) fun v3 h3 =>
 bnd (aA v3 h3) fun v4 h4 =>
 bnd (aY fX [(1, 1, v2), (2, 1, v4)] h4) fun v5 h5 =>
 bnd (bH fX h5) fun v6 h6 =>
 bnd (aF 6 v6 v5 h6) fun _ h7 =>
  oR r n x0 x2 x4 v6 h7
noncomputable def oT (r : RT) (n : Nat) (x0 x2 : DV) (h0 : Hp) : aH :=
 bnd (r 205 [x0, (aE 0)] h0) fun v1 h1 =>
 bnd (bH [(aE 0), (.s []), (aE 0), (aE 0)] h1) fun v2 h2 =>
 bnd (aF 4 v2 v1 h2) fun _ h3 =>
  oQ r n x0 x2 v2 h3
noncomputable def s295 (r : RT) (n : Nat) (x0 : DV) (h0 : Hp) : aH :=
 bnd (bH fX h0) fun v1 h1 =>
  oT r n x0 v1 h1
noncomputable abbrev c295 : Code := cf Tryz.f295
noncomputable abbrev aAf : Code := cR c295
noncomputable abbrev aFw : Code := cR aAf
noncomputable abbrev aEg : Code := cR aFw
noncomputable abbrev cLc : Code := cR aEg
noncomputable abbrev aOv : Code := cL aEg
noncomputable abbrev aNk : Code := cL aFw
noncomputable abbrev aMc : Code := cL aAf
noncomputable abbrev aIu : Code := cL c295
noncomputable abbrev r295 : K := aN CF Tryz.f295
noncomputable def D295 (r : RT) (n : Nat) (c : Code) (X : Nat → K) (k : K) : K := aO CF r 49 n c X r295 k
theorem cDk : D295 r n cLc x0 r295 = (K3 (kB r n) 0 2 5) :=
 (by kernel_rfl)
theorem bMw : D295 r n aEg x0 r295 = D295 r n aOv x0 (K3 (kB r n) 0 2 5) :=
 congrArg (fun k => D295 r n aOv x0 k) (cDk r n)
theorem bHx (q0 : lF) : D295 r n aOv x0 (K3 q0 0 2 5) = fun (env : aU) (h : Hp) =>
 bnd (aQ (env 0) h) fun v1 h1 =>
 bnd (aB 3 v1 h1) fun v2 h2 =>
 bnd (aA v2 h2) fun v3 h3 =>
 bnd (aD .neq v3 (aE 0) h3) fun v4 h4 =>
 aS v4 (
 bnd (aK 6 (env 5) h4) fun v5 h5 =>
 bnd (aF 6 (env 2) v5 h5) fun _ h6 =>
 bnd (aK 6 (env 2) h6) fun v7 _ =>
 some (.t [v7, (.b false)], h6)) (
 bnd (r 313 [(env 0)] h4) fun v8 h8 =>
 aS v8 (
 bnd (r 202 [(env 0)] h8) fun v9 h9 =>
 bnd (r 202 [(env 0)] h9) fun v10 h10 =>
 bnd (eT 2 v10 h10) fun v11 h11 =>
 bnd (fY .neg v11 h11) fun v12 h12 =>
 bnd (aY fX [(0, 1, (aE 1)), (2, 1, v12)] h12) fun v13 h13 =>
 bnd (aF 6 (env 2) v13 h13) fun _ h14 =>
 bnd (aK 6 (env 2) h14) fun v15 _ =>
 some (.t [v15, (.b true)], h14)) (
 bnd (aB 0 (env 4) h8) fun v16 h16 =>
 bnd (aA v16 h16) fun v17 h17 =>
 bnd (aD .eql v17 (aE 4) h17) fun v18 h18 =>
 aS v18 (
 bnd (aB 0 (env 5) h18) fun v19 h19 =>
 bnd (aF 1 v19 (aE 1) h19) fun _ h20 =>
     q0 (env 0) (env 2) (env 5) h20) (
 bnd (aB 0 (env 4) h18) fun v21 h21 =>
 bnd (aA v21 h21) fun v22 h22 =>
 bnd (aD .eql v22 (aE 5) h22) fun v23 h23 =>
 aS v23 (
 bnd (aB 0 (env 5) h23) fun v24 h24 =>
 bnd (aF 1 v24 (aE 2) h24) fun _ h25 =>
      q0 (env 0) (env 2) (env 5) h25) (
 bnd (aB 0 (env 4) h23) fun v26 h26 =>
 bnd (aA v26 h26) fun v27 h27 =>
 bnd (aD .eql v27 (aE 6) h27) fun v28 h28 =>
 aS v28 (
 bnd (aB 0 (env 5) h28) fun v29 h29 =>
 bnd (aF 1 v29 (aE 3) h29) fun _ h30 =>
       q0 (env 0) (env 2) (env 5) h30) (
 bnd (aK 6 (env 5) h28) fun v31 h31 =>
 bnd (aF 6 (env 2) v31 h31) fun _ h32 =>
 bnd (aK 6 (env 2) h32) fun v33 _ =>
 some (.t [v33, (.b false)], h32)))))) := by kernel_rfl
theorem aXy : (fun (env : aU) (h : Hp) =>
 bnd (aQ (env 0) h) fun v1 h1 =>
 bnd (aB 3 v1 h1) fun v2 h2 =>
 bnd (aA v2 h2) fun v3 h3 =>
 bnd (aD .neq v3 (aE 0) h3) fun v4 h4 =>
 aS v4 (
 bnd (aK 6 (env 5) h4) fun v5 h5 =>
 bnd (aF 6 (env 2) v5 h5) fun _ h6 =>
 bnd (aK 6 (env 2) h6) fun v7 _ =>
 some (.t [v7, (.b false)], h6)) (
 bnd (r 313 [(env 0)] h4) fun v8 h8 =>
 aS v8 (
 bnd (r 202 [(env 0)] h8) fun v9 h9 =>
 bnd (r 202 [(env 0)] h9) fun v10 h10 =>
 bnd (eT 2 v10 h10) fun v11 h11 =>
 bnd (fY .neg v11 h11) fun v12 h12 =>
 bnd (aY fX [(0, 1, (aE 1)), (2, 1, v12)] h12) fun v13 h13 =>
 bnd (aF 6 (env 2) v13 h13) fun _ h14 =>
 bnd (aK 6 (env 2) h14) fun v15 _ =>
 some (.t [v15, (.b true)], h14)) (
 bnd (aB 0 (env 4) h8) fun v16 h16 =>
 bnd (aA v16 h16) fun v17 h17 =>
 bnd (aD .eql v17 (aE 4) h17) fun v18 h18 =>
 aS v18 (
 bnd (aB 0 (env 5) h18) fun v19 h19 =>
 bnd (aF 1 v19 (aE 1) h19) fun _ h20 =>
     kB r n (env 0) (env 2) (env 5) h20) (
 bnd (aB 0 (env 4) h18) fun v21 h21 =>
 bnd (aA v21 h21) fun v22 h22 =>
 bnd (aD .eql v22 (aE 5) h22) fun v23 h23 =>
 aS v23 (
 bnd (aB 0 (env 5) h23) fun v24 h24 =>
 bnd (aF 1 v24 (aE 2) h24) fun _ h25 =>
      kB r n (env 0) (env 2) (env 5) h25) (
 bnd (aB 0 (env 4) h23) fun v26 h26 =>
 bnd (aA v26 h26) fun v27 h27 =>
 bnd (aD .eql v27 (aE 6) h27) fun v28 h28 =>
 aS v28 (
 bnd (aB 0 (env 5) h28) fun v29 h29 =>
 bnd (aF 1 v29 (aE 3) h29) fun _ h30 =>
       kB r n (env 0) (env 2) (env 5) h30) (
 bnd (aK 6 (env 5) h28) fun v31 h31 =>
 bnd (aF 6 (env 2) v31 h31) fun _ h32 =>
 bnd (aK 6 (env 2) h32) fun v33 _ =>
 some (.t [v33, (.b false)], h32))))))) = (K4 (oR r n) 0 2 4 5) := by kernel_rfl
theorem cEp : D295 r n aEg x0 r295 = (K4 (oR r n) 0 2 4 5) :=
 (bMw r n).trans
 ((bHx r n (kB r n)).trans (aXy r n))
theorem bMu : D295 r n aFw x0 r295 = D295 r n aNk x0 (K4 (oR r n) 0 2 4 5) :=
 congrArg (fun k => D295 r n aNk x0 k) (cEp r n)
theorem bQv (q0 : dK) : D295 r n aNk x0 (K4 q0 0 2 4 5) = fun (env : aU) (h : Hp) =>
 bnd (aB 1 (env 4) h) fun v1 h1 =>
 bnd (aA v1 h1) fun v2 h2 =>
 bnd (aB 2 (env 4) h2) fun v3 h3 =>
 bnd (aA v3 h3) fun v4 h4 =>
 bnd (aY fX [(1, 1, v2), (2, 1, v4)] h4) fun v5 h5 =>
 bnd (bH fX h5) fun v6 h6 =>
 bnd (aF 6 v6 v5 h6) fun _ h7 =>
  q0 (env 0) (env 2) (env 4) v6 h7 := by kernel_rfl
theorem aYk : (fun (env : aU) (h : Hp) =>
 bnd (aB 1 (env 4) h) fun v1 h1 =>
 bnd (aA v1 h1) fun v2 h2 =>
 bnd (aB 2 (env 4) h2) fun v3 h3 =>
 bnd (aA v3 h3) fun v4 h4 =>
 bnd (aY fX [(1, 1, v2), (2, 1, v4)] h4) fun v5 h5 =>
 bnd (bH fX h5) fun v6 h6 =>
 bnd (aF 6 v6 v5 h6) fun _ h7 =>
  oR r n (env 0) (env 2) (env 4) v6 h7) = (K3 (oQ r n) 0 2 4) := by kernel_rfl
theorem cAy : D295 r n aFw x0 r295 = (K3 (oQ r n) 0 2 4) :=
 (bMu r n).trans
 ((bQv r n (oR r n)).trans (aYk r n))
theorem bQf : D295 r n aAf x0 r295 = D295 r n aMc x0 (K3 (oQ r n) 0 2 4) :=
 congrArg (fun k => D295 r n aMc x0 k) (cAy r n)
theorem bLw (q0 : lF) : D295 r n aMc x0 (K3 q0 0 2 4) = fun (env : aU) (h : Hp) =>
 bnd (r 205 [(env 0), (aE 0)] h) fun v1 h1 =>
 bnd (bH [(aE 0), (.s []), (aE 0), (aE 0)] h1) fun v2 h2 =>
 bnd (aF 4 v2 v1 h2) fun _ h3 =>
  q0 (env 0) (env 2) v2 h3 := by kernel_rfl
theorem aYn : (fun (env : aU) (h : Hp) =>
 bnd (r 205 [(env 0), (aE 0)] h) fun v1 h1 =>
 bnd (bH [(aE 0), (.s []), (aE 0), (aE 0)] h1) fun v2 h2 =>
 bnd (aF 4 v2 v1 h2) fun _ h3 =>
  oQ r n (env 0) (env 2) v2 h3) = (K2 (oT r n) 0 2) := by kernel_rfl
theorem cDo : D295 r n aAf x0 r295 = (K2 (oT r n) 0 2) :=
 (bQf r n).trans
 ((bLw r n (oQ r n)).trans (aYn r n))
theorem cJq : D295 r n c295 x0 r295 = D295 r n aIu x0 (K2 (oT r n) 0 2) :=
 congrArg (fun k => D295 r n aIu x0 k) (cDo r n)
theorem cMx (q0 : fW) : D295 r n aIu x0 (K2 q0 0 2) = fun (env : aU) (h : Hp) =>
 bnd (bH fX h) fun v1 h1 =>
  q0 (env 0) v1 h1 := by kernel_rfl
theorem cAv : (fun (env : aU) (h : Hp) =>
 bnd (bH fX h) fun v1 h1 =>
  oT r n (env 0) v1 h1) = (K1 (s295 r n) 0) := by kernel_rfl
theorem cXa : D295 r n c295 x0 r295 = (K1 (s295 r n) 0) :=
 (cJq r n).trans
 ((cMx r n (oT r n)).trans (cAv r n))
theorem cJj : aG CF r n 295 args h = s295 r n (aR args 0) h :=
 (by kernel_rfl : aG CF r n 295 args h = D295 r n c295 x0 r295 (aJ args) h).trans ((congrFun (congrFun (cXa r n) (aJ args)) h).trans (by kernel_rfl))
noncomputable def s296 (r : RT) (n : Nat) (x0 x1 : DV) (h0 : Hp) : aH :=
 bnd (bH fX h0) fun v1 h1 =>
 bnd (r 202 [x0] h1) fun v2 h2 =>
 bnd (bH [(aE 0), (.s []), (aE 0), (aE 0)] h2) fun v3 h3 =>
 bnd (aF 4 v3 v2 h3) fun _ h4 =>
 bnd (aQ x0 h4) fun v5 h5 =>
 bnd (aB 1 v5 h5) fun v6 h6 =>
 bnd (aA v6 h6) fun v7 h7 =>
 bnd (aD .eql v7 (aE 20) h7) fun v8 h8 =>
 aS v8 (
 bnd (aK 4 v3 h8) fun v9 h9 =>
 bnd (r 204 [x0, v9, (aE 14)] h9) fun v10 h10 =>
 bnd (aY fX [] h10) fun v11 h11 =>
 bnd (aF 6 v1 v11 h11) fun _ h12 =>
 bnd (aK 6 v1 h12) fun v13 _ =>
 some (v13, h12)) (
 bnd (aQ x0 h8) fun v14 h14 =>
 bnd (aB 1 v14 h14) fun v15 h15 =>
 bnd (aA v15 h15) fun v16 h16 =>
 bnd (aD .add v16 (aE 1) h16) fun v17 h17 =>
 bnd (aQ x0 h17) fun v18 h18 =>
 bnd (aB 1 v18 h18) fun v19 h19 =>
 bnd (aF 1 v19 v17 h19) fun _ h20 =>
 bnd (cV CF r x1 [] h20) fun v21 h21 =>
 bnd (bH fX h21) fun v22 h22 =>
 bnd (aF 6 v22 v21 h22) fun _ h23 =>
 bnd (aQ x0 h23) fun v24 h24 =>
 bnd (aB 1 v24 h24) fun v25 h25 =>
 bnd (aA v25 h25) fun v26 h26 =>
 bnd (aD .sub v26 (aE 1) h26) fun v27 h27 =>
 bnd (aQ x0 h27) fun v28 h28 =>
 bnd (aB 1 v28 h28) fun v29 h29 =>
 bnd (aF 1 v29 v27 h29) fun _ h30 =>
 bnd (aK 6 v22 h30) fun v31 h31 =>
 bnd (aF 6 v1 v31 h31) fun _ h32 =>
 bnd (aK 6 v1 h32) fun v33 _ =>
 some (v33, h32))
noncomputable abbrev c296 : Code := cf Tryz.f296
noncomputable abbrev r296 : K := aN CF Tryz.f296
noncomputable def D296 (r : RT) (n : Nat) (c : Code) (X : Nat → K) (k : K) : K := aO CF r 35 n c X r296 k
theorem cVv : D296 r n c296 x0 r296 = (K2 (s296 r n) 0 1) :=
 (by kernel_rfl)
theorem cNf : aG CF r n 296 args h = s296 r n (aR args 0) (aR args 1) h :=
 (by kernel_rfl : aG CF r n 296 args h = D296 r n c296 x0 r296 (aJ args) h).trans ((congrFun (congrFun (cVv r n) (aJ args)) h).trans (by kernel_rfl))
end Go.Dd

namespace Go.Dd
open Go.Proofs
variable (r : RT) (n : Nat) (args : List DV) (h : Hp)
noncomputable def s311 (r : RT) (n : Nat) (x0 : DV) (h0 : Hp) : aH :=
 bnd (bR x0 h0) fun v1 h1 =>
 bnd (aB 0 v1 h1) fun v2 h2 =>
 bnd (aA v2 h2) fun v3 h3 =>
 bnd (aD .eql v3 (aE 5) h3) fun v4 h4 =>
 bnd (gD v4 true (aB 1 v1 h4) h4) fun v5 h5 =>
 bnd (gD v4 true (aA v5 h5) h5) fun v6 h6 =>
 bnd (gD v4 true (dX .eql v6 (.s [115, 117, 112, 101, 114]) h6) h6) fun v7 h7 =>
 bnd (aL v4 v7 (.b false) h7) fun v8 h8 =>
 some (v8, h8)
noncomputable abbrev c311 : Code := cf Tryz.f311
noncomputable abbrev r311 : K := aN CF Tryz.f311
noncomputable def D311 (r : RT) (n : Nat) (c : Code) (X : Nat → K) (k : K) : K := aO CF r 11 n c X r311 k
theorem cRg : D311 r n c311 x0 r311 = (K1 (s311 r n) 0) :=
 (by kernel_rfl)
theorem cPf : aG CF r n 311 args h = s311 r n (aR args 0) h :=
 (by kernel_rfl : aG CF r n 311 args h = D311 r n c311 x0 r311 (aJ args) h).trans ((congrFun (congrFun (cRg r n) (aJ args)) h).trans (by kernel_rfl))
noncomputable def s313 (r : RT) (n : Nat) (x0 : DV) (h0 : Hp) : aH :=
 bnd (r 205 [x0, (aE 1)] h0) fun v1 h1 =>
 bnd (bH [(aE 0), (.s []), (aE 0), (aE 0)] h1) fun v2 h2 =>
 bnd (aF 4 v2 v1 h2) fun _ h3 =>
 bnd (r 201 [x0, (aE 3), (.s [45])] h3) fun v4 h4 =>
 bnd (gD v4 true (aB 0 v2 h4) h4) fun v5 h5 =>
 bnd (gD v4 true (aA v5 h5) h5) fun v6 h6 =>
 bnd (gD v4 true (aD .eql v6 (aE 4) h6) h6) fun v7 h7 =>
 bnd (aL v4 v7 (.b false) h7) fun v8 h8 =>
 bnd (gD v8 true (aB 3 v2 h8) h8) fun v9 h9 =>
 bnd (gD v8 true (aA v9 h9) h9) fun v10 h10 =>
 bnd (gD v8 true (some (x0, h10)) h10) fun v11 h11 =>
 bnd (gD v8 true (r 205 [v11, (aE 0)] h11) h11) fun v12 h12 =>
 cnd (bI (gD v8 true (aA v9 h12) h12) v10 && true) (
 bnd (gD v8 true (eT 3 v12 h12) h12) fun v13 h13 =>
 bnd (gD v8 true (aD .add v13 (aE 1) h13) h13) fun v14 h14 =>
 bnd (gD v8 true (aD .eql v10 v14 h14) h14) fun v15 h15 =>
 bnd (aL v8 v15 (.b false) h15) fun v16 h16 =>
 some (v16, h16))
noncomputable abbrev c313 : Code := cf Tryz.f313
noncomputable abbrev r313 : K := aN CF Tryz.f313
noncomputable def D313 (r : RT) (n : Nat) (c : Code) (X : Nat → K) (k : K) : K := aO CF r 22 n c X r313 k
theorem cVr : D313 r n c313 x0 r313 = (K1 (s313 r n) 0) :=
 (by kernel_rfl)
theorem cIb : aG CF r n 313 args h = s313 r n (aR args 0) h :=
 (by kernel_rfl : aG CF r n 313 args h = D313 r n c313 x0 r313 (aJ args) h).trans ((congrFun (congrFun (cVr r n) (aJ args)) h).trans (by kernel_rfl))
end Go.Dd

namespace Go.Dd
open Go.Proofs
section
variable (ih : RT) (m : Nat) (f : FuncId) (args : List DV) (h : Hp)
theorem cW {i : Nat} {s r : aH} (e1 : s = aG CF ih m i args h) (e2 : r = aG CF ih m f args h) : (bif Nat.beq f i then s else r) = aG CF ih m f args h := by
 cases e : Nat.beq f i with
 | false => exact e2
 | true => cases Nat.eq_of_beq_eq_true e; exact e1
theorem ndC {i : Nat} {a b : aH} (e1 : a = aG CF ih m f args h) (e2 : b = aG CF ih m f args h) : (bif Nat.blt f i then a else b) = aG CF ih m f args h := by
 cases Nat.blt f i with
 | false => exact e2
 | true => exact e1
noncomputable def qg0 : aH := bif Nat.beq f 10 then s10 ih m (aR args 0) h else bif Nat.beq f 11 then s11 ih m (aR args 0) (aR args 1) h else bif Nat.beq f 14 then s14 ih m (aR args 0) (aR args 1) h else bif Nat.beq f 15 then s15 ih m (aR args 0) (aR args 1) h else bif Nat.beq f 16 then s16 ih m h else bif Nat.beq f 17 then s17 ih m (aR args 0) (aR args 1) h else bif Nat.beq f 34 then s34 ih m (aR args 0) (aR args 1) (aR args 2) h else bif Nat.beq f 45 then s45 ih m (aR args 0) (aR args 1) h else aG CF ih m f args h
theorem dBu : qg0 ih m f args h = aG CF ih m f args h := cW ih m f args h (cRa ih m args h).symm (cW ih m f args h (cXn ih m args h).symm (cW ih m f args h (cFv ih m args h).symm (cW ih m f args h (cFg ih m args h).symm (cW ih m f args h (cFd ih m args h).symm (cW ih m f args h (cFh ih m args h).symm (cW ih m f args h (cUu ih m args h).symm (cW ih m f args h (cTs ih m args h).symm rfl)))))))
noncomputable def qg1 : aH := bif Nat.beq f 46 then s46 ih m (aR args 0) h else bif Nat.beq f 48 then s48 ih m (aR args 0) (aR args 1) (aR args 2) h else bif Nat.beq f 49 then s49 ih m (aR args 0) (aR args 1) (aR args 2) h else bif Nat.beq f 53 then s53 ih m (aR args 0) (aR args 1) (aR args 2) h else bif Nat.beq f 55 then s55 ih m (aR args 0) (aR args 1) h else bif Nat.beq f 58 then s58 ih m (aR args 0) (aR args 1) h else bif Nat.beq f 61 then s61 ih m (aR args 0) (aR args 1) (aR args 2) (aR args 3) h else bif Nat.beq f 65 then s65 ih m (aR args 0) (aR args 1) h else aG CF ih m f args h
theorem dCb : qg1 ih m f args h = aG CF ih m f args h := cW ih m f args h (cSp ih m args h).symm (cW ih m f args h (cUw ih m args h).symm (cW ih m f args h (cSr ih m args h).symm (cW ih m f args h (cFn ih m args h).symm (cW ih m f args h (cVn ih m args h).symm (cW ih m f args h (cTv ih m args h).symm (cW ih m f args h (cFr ih m args h).symm (cW ih m f args h (cTd ih m args h).symm rfl)))))))
noncomputable def qg2 : aH := bif Nat.beq f 66 then s66 ih m (aR args 0) (aR args 1) h else bif Nat.beq f 74 then s74 ih m (aR args 0) (aR args 1) h else bif Nat.beq f 75 then s75 ih m (aR args 0) h else bif Nat.beq f 86 then s86 ih m (aR args 0) h else bif Nat.beq f 87 then s87 ih m (aR args 0) (aR args 1) h else bif Nat.beq f 88 then s88 ih m (aR args 0) (aR args 1) (aR args 2) h else bif Nat.beq f 92 then s92 ih m (aR args 0) (aR args 1) h else bif Nat.beq f 93 then s93 ih m (aR args 0) (aR args 1) h else aG CF ih m f args h
theorem dCj : qg2 ih m f args h = aG CF ih m f args h := cW ih m f args h (cQn ih m args h).symm (cW ih m f args h (cRw ih m args h).symm (cW ih m f args h (cSx ih m args h).symm (cW ih m f args h (cVo ih m args h).symm (cW ih m f args h (cTb ih m args h).symm (cW ih m f args h (cQp ih m args h).symm (cW ih m f args h (cVp ih m args h).symm (cW ih m f args h (cUt ih m args h).symm rfl)))))))
noncomputable def qg3 : aH := bif Nat.beq f 97 then s97 ih m (aR args 0) (aR args 1) h else bif Nat.beq f 106 then s106 ih m (aR args 0) (aR args 1) h else bif Nat.beq f 109 then s109 ih m (aR args 0) (aR args 1) h else bif Nat.beq f 114 then s114 ih m (aR args 0) (aR args 1) h else bif Nat.beq f 120 then s120 ih m (aR args 0) (aR args 1) h else bif Nat.beq f 121 then s121 ih m (aR args 0) h else bif Nat.beq f 122 then s122 ih m (aR args 0) (aR args 1) (aR args 2) h else bif Nat.beq f 123 then s123 ih m (aR args 0) (aR args 1) (aR args 2) h else aG CF ih m f args h
theorem dBg : qg3 ih m f args h = aG CF ih m f args h := cW ih m f args h (cVx ih m args h).symm (cW ih m f args h (cNs ih m args h).symm (cW ih m f args h (cJs ih m args h).symm (cW ih m f args h (cJz ih m args h).symm (cW ih m f args h (cLk ih m args h).symm (cW ih m f args h (cJr ih m args h).symm (cW ih m f args h (cQj ih m args h).symm (cW ih m f args h (cJu ih m args h).symm rfl)))))))
noncomputable def qg4 : aH := bif Nat.beq f 124 then s124 ih m (aR args 0) (aR args 1) (aR args 2) (aR args 3) h else bif Nat.beq f 135 then s135 ih m (aR args 0) (aR args 1) h else bif Nat.beq f 145 then s145 ih m (aR args 0) (aR args 1) (aR args 2) h else bif Nat.beq f 146 then s146 ih m (aR args 0) (aR args 1) h else bif Nat.beq f 147 then s147 ih m (aR args 0) h else bif Nat.beq f 148 then s148 ih m (aR args 0) (aR args 1) h else bif Nat.beq f 149 then s149 ih m (aR args 0) h else bif Nat.beq f 150 then s150 ih m (aR args 0) (aR args 1) (aR args 2) h else aG CF ih m f args h
theorem dBf : qg4 ih m f args h = aG CF ih m f args h := cW ih m f args h (cKk ih m args h).symm (cW ih m f args h (cGh ih m args h).symm (cW ih m f args h (cGu ih m args h).symm (cW ih m f args h (cHw ih m args h).symm (cW ih m f args h (cOp ih m args h).symm (cW ih m f args h (cQf ih m args h).symm (cW ih m f args h (cHu ih m args h).symm (cW ih m f args h (cKr ih m args h).symm rfl)))))))
noncomputable def qg5 : aH := bif Nat.beq f 151 then s151 ih m (aR args 0) h else bif Nat.beq f 152 then s152 ih m (aR args 0) (aR args 1) h else bif Nat.beq f 153 then s153 ih m (aR args 0) (aR args 1) h else bif Nat.beq f 154 then s154 ih m (aR args 0) h else bif Nat.beq f 156 then s156 ih m (aR args 0) h else bif Nat.beq f 157 then s157 ih m (aR args 0) (aR args 1) (aR args 2) h else bif Nat.beq f 158 then s158 ih m (aR args 0) (aR args 1) h else bif Nat.beq f 159 then s159 ih m (aR args 0) h else aG CF ih m f args h
theorem dAo : qg5 ih m f args h = aG CF ih m f args h := cW ih m f args h (cJw ih m args h).symm (cW ih m f args h (cPa ih m args h).symm (cW ih m f args h (cPo ih m args h).symm (cW ih m f args h (cNx ih m args h).symm (cW ih m f args h (cNp ih m args h).symm (cW ih m f args h (cPq ih m args h).symm (cW ih m f args h (cMu ih m args h).symm (cW ih m f args h (cHh ih m args h).symm rfl)))))))
noncomputable def qg6 : aH := bif Nat.beq f 160 then s160 ih m (aR args 0) (aR args 1) (aR args 2) h else bif Nat.beq f 161 then s161 ih m (aR args 0) h else bif Nat.beq f 162 then s162 ih m (aR args 0) (aR args 1) h else bif Nat.beq f 187 then s187 ih m (aR args 0) (aR args 1) h else bif Nat.beq f 189 then s189 ih m (aR args 0) h else bif Nat.beq f 190 then s190 ih m (aR args 0) (aR args 1) h else bif Nat.beq f 191 then s191 ih m (aR args 0) (aR args 1) h else bif Nat.beq f 192 then s192 ih m (aR args 0) (aR args 1) h else aG CF ih m f args h
theorem cYj : qg6 ih m f args h = aG CF ih m f args h := cW ih m f args h (cQi ih m args h).symm (cW ih m f args h (cPp ih m args h).symm (cW ih m f args h (cQh ih m args h).symm (cW ih m f args h (cOv ih m args h).symm (cW ih m f args h (cPt ih m args h).symm (cW ih m f args h (cHp ih m args h).symm (cW ih m f args h (cKx ih m args h).symm (cW ih m f args h (cGs ih m args h).symm rfl)))))))
noncomputable def qg7 : aH := bif Nat.beq f 193 then s193 ih m (aR args 0) h else bif Nat.beq f 194 then s194 ih m (aR args 0) (aR args 1) (aR args 2) (aR args 3) (aR args 4) (aR args 5) (aR args 6) (aR args 7) h else bif Nat.beq f 195 then s195 ih m (aR args 0) h else bif Nat.beq f 196 then s196 ih m (aR args 0) h else bif Nat.beq f 197 then s197 ih m (aR args 0) (aR args 1) (aR args 2) h else bif Nat.beq f 198 then s198 ih m (aR args 0) h else bif Nat.beq f 199 then s199 ih m (aR args 0) (aR args 1) h else bif Nat.beq f 200 then s200 ih m (aR args 0) h else aG CF ih m f args h
theorem dBo : qg7 ih m f args h = aG CF ih m f args h := cW ih m f args h (cOb ih m args h).symm (cW ih m f args h (cGo ih m args h).symm (cW ih m f args h (cHy ih m args h).symm (cW ih m f args h (cIy ih m args h).symm (cW ih m f args h (cHr ih m args h).symm (cW ih m f args h (cJl ih m args h).symm (cW ih m f args h (cGy ih m args h).symm (cW ih m f args h (cMn ih m args h).symm rfl)))))))
noncomputable def qg8 : aH := bif Nat.beq f 201 then s201 ih m (aR args 0) (aR args 1) (aR args 2) h else bif Nat.beq f 202 then s202 ih m (aR args 0) h else bif Nat.beq f 203 then s203 ih m (aR args 0) h else bif Nat.beq f 205 then s205 ih m (aR args 0) (aR args 1) h else bif Nat.beq f 206 then s206 ih m (aR args 0) (aR args 1) (aR args 2) h else bif Nat.beq f 207 then s207 ih m (aR args 0) (aR args 1) (aR args 2) h else bif Nat.beq f 208 then s208 ih m (aR args 0) (aR args 1) h else bif Nat.beq f 209 then s209 ih m (aR args 0) (aR args 1) (aR args 2) (aR args 3) h else aG CF ih m f args h
theorem dCg : qg8 ih m f args h = aG CF ih m f args h := cW ih m f args h (cOg ih m args h).symm (cW ih m f args h (cHl ih m args h).symm (cW ih m f args h (cNt ih m args h).symm (cW ih m f args h (cOw ih m args h).symm (cW ih m f args h (cMz ih m args h).symm (cW ih m f args h (cOa ih m args h).symm (cW ih m f args h (cJo ih m args h).symm (cW ih m f args h (cKh ih m args h).symm rfl)))))))
noncomputable def qg9 : aH := bif Nat.beq f 227 then s227 ih m (aR args 0) h else bif Nat.beq f 228 then s228 ih m (aR args 0) (aR args 1) h else bif Nat.beq f 229 then s229 ih m (aR args 0) (aR args 1) h else bif Nat.beq f 230 then s230 ih m (aR args 0) (aR args 1) h else bif Nat.beq f 231 then s231 ih m (aR args 0) h else bif Nat.beq f 232 then s232 ih m (aR args 0) h else bif Nat.beq f 233 then s233 ih m (aR args 0) h else bif Nat.beq f 234 then s234 ih m (aR args 0) h else aG CF ih m f args h
theorem dAh : qg9 ih m f args h = aG CF ih m f args h := cW ih m f args h (cLw ih m args h).symm (cW ih m f args h (cMp ih m args h).symm (cW ih m f args h (cHo ih m args h).symm (cW ih m f args h (cLu ih m args h).symm (cW ih m f args h (cPv ih m args h).symm (cW ih m f args h (cKw ih m args h).symm (cW ih m f args h (cPy ih m args h).symm (cW ih m f args h (cMv ih m args h).symm rfl)))))))
noncomputable def cRt : aH := bif Nat.beq f 235 then s235 ih m (aR args 0) h else bif Nat.beq f 239 then s239 ih m (aR args 0) (aR args 1) h else bif Nat.beq f 240 then s240 ih m (aR args 0) h else bif Nat.beq f 244 then s244 ih m (aR args 0) (aR args 1) h else bif Nat.beq f 246 then s246 ih m (aR args 0) (aR args 1) h else bif Nat.beq f 250 then s250 ih m (aR args 0) (aR args 1) h else bif Nat.beq f 267 then s267 ih m (aR args 0) h else bif Nat.beq f 272 then s272 ih m (aR args 0) h else aG CF ih m f args h
theorem cVk : cRt ih m f args h = aG CF ih m f args h := cW ih m f args h (cGk ih m args h).symm (cW ih m f args h (cGf ih m args h).symm (cW ih m f args h (cHm ih m args h).symm (cW ih m f args h (cOc ih m args h).symm (cW ih m f args h (cJp ih m args h).symm (cW ih m f args h (cPm ih m args h).symm (cW ih m f args h (cKg ih m args h).symm (cW ih m f args h (cOe ih m args h).symm rfl)))))))
noncomputable def cRn : aH := bif Nat.beq f 275 then s275 ih m (aR args 0) (aR args 1) h else bif Nat.beq f 276 then s276 ih m (aR args 0) (aR args 1) h else bif Nat.beq f 277 then s277 ih m (aR args 0) (aR args 1) h else bif Nat.beq f 278 then s278 ih m (aR args 0) (aR args 1) h else bif Nat.beq f 280 then s280 ih m (aR args 0) (aR args 1) h else bif Nat.beq f 281 then s281 ih m (aR args 0) (aR args 1) h else bif Nat.beq f 282 then s282 ih m (aR args 0) (aR args 1) h else bif Nat.beq f 283 then s283 ih m (aR args 0) (aR args 1) (aR args 2) (aR args 3) h else aG CF ih m f args h
theorem cWc : cRn ih m f args h = aG CF ih m f args h := cW ih m f args h (cIv ih m args h).symm (cW ih m f args h (cJm ih m args h).symm (cW ih m f args h (cNk ih m args h).symm (cW ih m f args h (cHj ih m args h).symm (cW ih m f args h (cPi ih m args h).symm (cW ih m f args h (cGe ih m args h).symm (cW ih m f args h (cJi ih m args h).symm (cW ih m f args h (cGc ih m args h).symm rfl)))))))
noncomputable def cSd : aH := bif Nat.beq f 284 then s284 ih m (aR args 0) (aR args 1) h else bif Nat.beq f 285 then s285 ih m (aR args 0) h else bif Nat.beq f 294 then s294 ih m (aR args 0) (aR args 1) h else bif Nat.beq f 295 then s295 ih m (aR args 0) h else bif Nat.beq f 296 then s296 ih m (aR args 0) (aR args 1) h else bif Nat.beq f 311 then s311 ih m (aR args 0) h else bif Nat.beq f 313 then s313 ih m (aR args 0) h else aG CF ih m f args h
theorem cUp : cSd ih m f args h = aG CF ih m f args h := cW ih m f args h (cPr ih m args h).symm (cW ih m f args h (cIg ih m args h).symm (cW ih m f args h (cQb ih m args h).symm (cW ih m f args h (cJj ih m args h).symm (cW ih m f args h (cNf ih m args h).symm (cW ih m f args h (cPf ih m args h).symm (cW ih m f args h (cIb ih m args h).symm rfl))))))
noncomputable def qd0 : aH := bif Nat.blt f 66 then qg1 ih m f args h else qg2 ih m f args h
theorem cXz : qd0 ih m f args h = aG CF ih m f args h := ndC ih m f args h (dCb ih m f args h) (dCj ih m f args h)
noncomputable def qd1 : aH := bif Nat.blt f 46 then qg0 ih m f args h else qd0 ih m f args h
theorem cZi : qd1 ih m f args h = aG CF ih m f args h := ndC ih m f args h (dBu ih m f args h) (cXz ih m f args h)
noncomputable def qd2 : aH := bif Nat.blt f 151 then qg4 ih m f args h else qg5 ih m f args h
theorem cZt : qd2 ih m f args h = aG CF ih m f args h := ndC ih m f args h (dBf ih m f args h) (dAo ih m f args h)
noncomputable def qd3 : aH := bif Nat.blt f 124 then qg3 ih m f args h else qd2 ih m f args h
theorem cZd : qd3 ih m f args h = aG CF ih m f args h := ndC ih m f args h (dBg ih m f args h) (cZt ih m f args h)
noncomputable def qd4 : aH := bif Nat.blt f 97 then qd1 ih m f args h else qd3 ih m f args h
theorem dCa : qd4 ih m f args h = aG CF ih m f args h := ndC ih m f args h (cZi ih m f args h) (cZd ih m f args h)
noncomputable def qd5 : aH := bif Nat.blt f 201 then qg7 ih m f args h else qg8 ih m f args h
theorem dAn : qd5 ih m f args h = aG CF ih m f args h := ndC ih m f args h (dBo ih m f args h) (dCg ih m f args h)
noncomputable def qd6 : aH := bif Nat.blt f 193 then qg6 ih m f args h else qd5 ih m f args h
theorem dBq : qd6 ih m f args h = aG CF ih m f args h := ndC ih m f args h (cYj ih m f args h) (dAn ih m f args h)
noncomputable def qd7 : aH := bif Nat.blt f 235 then qg9 ih m f args h else cRt ih m f args h
theorem dAf : qd7 ih m f args h = aG CF ih m f args h := ndC ih m f args h (dAh ih m f args h) (cVk ih m f args h)
noncomputable def qd8 : aH := bif Nat.blt f 284 then cRn ih m f args h else cSd ih m f args h
theorem cZq : qd8 ih m f args h = aG CF ih m f args h := ndC ih m f args h (cWc ih m f args h) (cUp ih m f args h)
noncomputable def qd9 : aH := bif Nat.blt f 275 then qd7 ih m f args h else qd8 ih m f args h
theorem cZp : qd9 ih m f args h = aG CF ih m f args h := ndC ih m f args h (dAf ih m f args h) (cZq ih m f args h)
noncomputable def cSh : aH := bif Nat.blt f 227 then qd6 ih m f args h else qd9 ih m f args h
theorem cVu : cSh ih m f args h = aG CF ih m f args h := ndC ih m f args h (dBq ih m f args h) (cZp ih m f args h)
noncomputable def cSt : aH := bif Nat.blt f 160 then qd4 ih m f args h else cSh ih m f args h
theorem cRv : cSt ih m f args h = aG CF ih m f args h := ndC ih m f args h (dCa ih m f args h) (cVu ih m f args h)
end
noncomputable def shB (ih : RT) (m : Nat) (f : FuncId) (args : List DV) (h : Hp) : aH := cSt ih m f args h
theorem aNs (ih : RT) (m : Nat) (f : FuncId) (args : List DV) (h : Hp) : shB ih m f args h = aG CF ih m f args h := cRv ih m f args h
noncomputable def lQ (n : Nat) : FuncId → List DV → Hp → aH :=
 Nat.rec (motive := fun _ => FuncId → List DV → Hp → aH) (fun _ _ _ => none) (fun m ih => shB ih m) n
theorem yQ : ∀ n, lQ n = dW CF n
 | 0 => rfl
 | n + 1 => by
  have e : lQ (n + 1) = shB (lQ n) n := rfl
  have e' : dW CF (n + 1) = aG CF (dW CF n) n := rfl
  rw [e, e', ← yQ n]
  funext f args h
  exact aNs _ _ _ _ _
end Go.Dd

