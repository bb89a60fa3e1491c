/- A part of the proof: Q2 Q3 Q4 Q5 Q6 Q7 Q8 Q9 Q10 Q11 Q12: each text has a comment of its own. -/
import Derived.Test.YtkdndgecldkiiaaGreatPm1
set_option linter.unusedVariables false
set_option linter.unusedSimpArgs false
set_option linter.constructorNameAsVariable false
set_option maxRecDepth 100000
namespace Go.Dd
open Go.Proofs
variable (r : RT) (n : Nat) (args : List DV) (h : Hp)
noncomputable def fV (r : RT) (n : Nat) (x4 x9 : DV) (h0 : Hp) : aH :=
 bnd (aK 4 x9 h0) fun v1 h1 =>
 bnd (aI 4 x4 v1 h1) fun _ h2 =>
 bnd (aK 4 x4 h2) fun v3 _ =>
 some (v3, h2)
noncomputable def pF (r : RT) (n : Nat) (kk9 : bT) (x0 x1 x4 x9 x10 : DV) (h0 : Hp) : aH :=
 bnd (r 17 [x0] h0) fun v1 h1 =>
 bnd (eJ [v1, x1] h1) fun v2 h2 =>
 bnd (aD .lss x10 v2 h2) fun v3 h3 =>
 aX v3 (
 bnd (r 17 [x0] h3) fun v4 h4 =>
 bnd (qT [v4, x1, x10] h4) fun v5 h5 =>
 bnd (aC 0 v5 h5) fun v6 h6 =>
 bnd (aC 1 v5 h6) fun v7 h7 =>
 bnd (aB 3 x9 (resv 1 h7)) fun v8 h8 =>
 bnd (aA v8 h8) fun v9 h9 =>
 bnd (r 29 [x0, v6] h9) fun v10 h10 =>
 cnd (bM (aA v8 h10) v9 && true) (
 bnd (bL (cF 0 h7.next) [(aG 0), (.s []), (aG 0), .l0] 1 [(0, 4, v10)] h10) fun v11 h11 =>
 bnd (aY 4 56 v9 v11 h11) fun v12 h12 =>
 bnd (aB 3 x9 h12) fun v13 h13 =>
 bnd (aI 1 v13 v12 h13) fun v14 h14 =>
 bnd (aD .add x10 (aG 1) h14) fun v15 h15 =>
      kk9 x0 x1 x4 x9 v15 h15)) (
      fV r n x4 x9 h3)
noncomputable def pD (r : RT) (n : Nat) (m : Nat) : bT :=
 Nat.rec (motive := fun _ => bT) (fun _ _ _ _ _ _ => none) (fun _ ih => pF r n ih) m
noncomputable def cOi (r : RT) (n : Nat) : bT := pD r n n
noncomputable def aWu (r : RT) (n : Nat) (x0 x1 x4 x9 x10 : DV) (h0 : Hp) : aH :=
 cOi r n x0 x1 x4 x9 x10 h0
noncomputable def aAy (r : RT) (n : Nat) (x0 x1 x4 x9 : DV) (h0 : Hp) : aH :=
 aWu r n x0 x1 x4 x9 (aG 0) h0
noncomputable def yI (r : RT) (n : Nat) (x0 x1 x4 : DV) (h0 : Hp) : aH :=
 bnd (bE [(aG 0), (.s []), (aG 0), .l0] [(0, 1, (aG 4))] h0) fun v1 h1 =>
 bnd (bY [(aG 0), (.s []), (aG 0), .l0] h1) fun v2 h2 =>
 bnd (aI 4 v2 v1 h2) fun _ h3 =>
  aAy r n x0 x1 x4 v2 h3
noncomputable def yS (r : RT) (n : Nat) (x0 x1 x4 x7 x8 : DV) (h0 : Hp) : aH :=
 aX x8 (
 bnd (r 56 [x0, x1] h0) fun v1 h1 =>
 bnd (r 34 [x0, (aG 11)] h1) fun v2 h2 =>
 bnd (aD .eql v1 v2 h2) fun v3 h3 =>
 aX v3 (
 bnd (bE [(aG 0), (.s []), (aG 0), .l0] [(0, 1, (aG 3)), (1, 1, x7)] h3) fun v4 h4 =>
 bnd (aI 4 x4 v4 h4) fun _ h5 =>
 bnd (aK 4 x4 h5) fun v6 _ =>
 some (v6, h5)) (
 bnd (bE [(aG 0), (.s []), (aG 0), .l0] [(0, 1, (aG 2)), (1, 1, x7)] h3) fun v7 h7 =>
 bnd (aI 4 x4 v7 h7) fun _ h8 =>
 bnd (aK 4 x4 h8) fun v9 _ =>
 some (v9, h8))) (
  yI r n x0 x1 x4 h0)
noncomputable def tO (r : RT) (n : Nat) (x0 x1 x4 : DV) (h0 : Hp) : aH :=
 bnd (r 72 [x0, x1] h0) fun v1 h1 =>
 bnd (aC 0 v1 h1) fun v2 h2 =>
 bnd (aC 1 v1 h2) fun v3 h3 =>
  yS r n x0 x1 x4 v2 v3 h3
noncomputable def sZ (r : RT) (n : Nat) (x0 x1 x4 x5 x6 : DV) (h0 : Hp) : aH :=
 aX x6 (
 bnd (bE [(aG 0), (.s []), (aG 0), .l0] [(0, 1, (aG 1)), (2, 1, x5)] h0) fun v1 h1 =>
 bnd (aI 4 x4 v1 h1) fun _ h2 =>
 bnd (aK 4 x4 h2) fun v3 _ =>
 some (v3, h2)) (
  tO r n x0 x1 x4 h0)
noncomputable def qJ (r : RT) (n : Nat) (x0 x1 x4 : DV) (h0 : Hp) : aH :=
 bnd (r 71 [x0, x1] h0) fun v1 h1 =>
 bnd (aC 0 v1 h1) fun v2 h2 =>
 bnd (aC 1 v1 h2) fun v3 h3 =>
  sZ r n x0 x1 x4 v2 v3 h3
noncomputable def s29 (r : RT) (n : Nat) (x0 x1 : DV) (h0 : Hp) : aH :=
 bnd (bY [(aG 0), (.s []), (aG 0), .l0] h0) fun v1 h1 =>
  qJ r n x0 x1 v1 h1
noncomputable abbrev c29 : Code := cf Tryz.f29
noncomputable abbrev aTk : Code := cR c29
noncomputable abbrev aWc : Code := cR aTk
noncomputable abbrev aZx : Code := cR aWc
noncomputable abbrev aZe : Code := cR aZx
noncomputable abbrev aUn : Code := cR aZe
noncomputable abbrev aVb : Code := cR aUn
noncomputable abbrev dFe : Code := cR aVb
noncomputable abbrev aJw : Code := cL aVb
noncomputable abbrev bGd : Code := cR aJw
noncomputable abbrev aIx : Code := cL bGd
noncomputable abbrev nE : Code := cL aIx
noncomputable abbrev bSg : Code := cL aJw
noncomputable abbrev aNo : Code := cL aUn
noncomputable abbrev aPt : Code := cL aZe
noncomputable abbrev bJa : Code := cL aZx
noncomputable abbrev aPi : Code := cL aWc
noncomputable abbrev bTe : Code := cL aTk
noncomputable abbrev aSt : Code := cL c29
noncomputable abbrev r29 : K := aV CF Tryz.f29
noncomputable def D29 (r : RT) (n : Nat) (c : Code) (X : Nat → K) (k : K) : K := aP CF r 65 n c X r29 k
theorem cZh : D29 r n dFe x0 r29 = (K2 (fV r n) 4 9) :=
 (by kernel_rfl)
theorem cFq (kk9 : bT) (q0 : tS) : D29 r n nE (xs x0 0 (K2 q0 4 9)) (K5 kk9 0 1 4 9 10) = fun (env : bA) (h : Hp) =>
 bnd (r 17 [(env 0)] h) fun v1 h1 =>
 bnd (eJ [v1, (env 1)] h1) fun v2 h2 =>
 bnd (aD .lss (env 10) v2 h2) fun v3 h3 =>
 aX v3 (
 bnd (r 17 [(env 0)] h3) fun v4 h4 =>
 bnd (qT [v4, (env 1), (env 10)] h4) fun v5 h5 =>
 bnd (aC 0 v5 h5) fun v6 h6 =>
 bnd (aC 1 v5 h6) fun v7 h7 =>
 bnd (aB 3 (env 9) (resv 1 h7)) fun v8 h8 =>
 bnd (aA v8 h8) fun v9 h9 =>
 bnd (r 29 [(env 0), v6] h9) fun v10 h10 =>
 cnd (bM (aA v8 h10) v9 && true) (
 bnd (bL (cF 0 h7.next) [(aG 0), (.s []), (aG 0), .l0] 1 [(0, 4, v10)] h10) fun v11 h11 =>
 bnd (aY 4 56 v9 v11 h11) fun v12 h12 =>
 bnd (aB 3 (env 9) h12) fun v13 h13 =>
 bnd (aI 1 v13 v12 h13) fun v14 h14 =>
 bnd (aD .add (env 10) (aG 1) h14) fun v15 h15 =>
      kk9 (env 0) (env 1) (env 4) (env 9) v15 h15)) (
      q0 (env 4) (env 9) h3) := by kernel_rfl
theorem bLm (kk9 : bT) : (fun (env : bA) (h : Hp) =>
 bnd (r 17 [(env 0)] h) fun v1 h1 =>
 bnd (eJ [v1, (env 1)] h1) fun v2 h2 =>
 bnd (aD .lss (env 10) v2 h2) fun v3 h3 =>
 aX v3 (
 bnd (r 17 [(env 0)] h3) fun v4 h4 =>
 bnd (qT [v4, (env 1), (env 10)] h4) fun v5 h5 =>
 bnd (aC 0 v5 h5) fun v6 h6 =>
 bnd (aC 1 v5 h6) fun v7 h7 =>
 bnd (aB 3 (env 9) (resv 1 h7)) fun v8 h8 =>
 bnd (aA v8 h8) fun v9 h9 =>
 bnd (r 29 [(env 0), v6] h9) fun v10 h10 =>
 cnd (bM (aA v8 h10) v9 && true) (
 bnd (bL (cF 0 h7.next) [(aG 0), (.s []), (aG 0), .l0] 1 [(0, 4, v10)] h10) fun v11 h11 =>
 bnd (aY 4 56 v9 v11 h11) fun v12 h12 =>
 bnd (aB 3 (env 9) h12) fun v13 h13 =>
 bnd (aI 1 v13 v12 h13) fun v14 h14 =>
 bnd (aD .add (env 10) (aG 1) h14) fun v15 h15 =>
      kk9 (env 0) (env 1) (env 4) (env 9) v15 h15)) (
      fV r n (env 4) (env 9) h3)) = (K5 (pF r n kk9) 0 1 4 9 10) := by kernel_rfl
theorem cMl (kk9 : bT) : D29 r n nE (xs x0 0 (K2 (fV r n) 4 9)) (K5 kk9 0 1 4 9 10) = (K5 (pF r n kk9) 0 1 4 9 10) :=
 (cFq r n kk9 (fV r n)).trans (bLm r n kk9)
theorem cEd (m : Nat) : aM (fun kk => D29 r n nE (xs x0 0 (K2 (fV r n) 4 9)) kk) m = (K5 (pD r n m) 0 1 4 9 10) := by
 induction m with
 | zero => exact (by kernel_rfl : aM (fun kk => D29 r n nE (xs x0 0 (K2 (fV r n) 4 9)) kk) 0 = (K5 (pD r n 0) 0 1 4 9 10))
 | succ m ih =>
  refine (by kernel_rfl : aM (fun kk => D29 r n nE (xs x0 0 (K2 (fV r n) 4 9)) kk) (m + 1) = D29 r n nE (xs x0 0 (K2 (fV r n) 4 9)) (aM (fun kk => D29 r n nE (xs x0 0 (K2 (fV r n) 4 9)) kk) m)).trans ?_
  rw [ih]
  exact (cMl r n (pD r n m)).trans (by kernel_rfl)
theorem cSt : D29 r n aIx (xs x0 0 (K2 (fV r n) 4 9)) (K2 (fV r n) 4 9) = (K5 (cOi r n) 0 1 4 9 10) :=
 (by kernel_rfl : D29 r n aIx (xs x0 0 (K2 (fV r n) 4 9)) (K2 (fV r n) 4 9) = aM (fun kk => D29 r n nE (xs x0 0 (K2 (fV r n) 4 9)) kk) n).trans ((cEd r n n).trans (by kernel_rfl))
theorem dAe : D29 r n bGd x0 (K2 (fV r n) 4 9) = (K5 (aWu r n) 0 1 4 9 10) :=
 (by kernel_rfl : D29 r n bGd x0 (K2 (fV r n) 4 9) = D29 r n aIx (xs x0 0 (K2 (fV r n) 4 9)) (K2 (fV r n) 4 9)).trans
 ((cSt r n).trans (by kernel_rfl))
theorem cBz : D29 r n aVb x0 r29 = D29 r n aJw x0 (K2 (fV r n) 4 9) :=
 congrArg (fun k => D29 r n aJw x0 k) (cZh r n)
theorem bZq : D29 r n aJw x0 (K2 (fV r n) 4 9) = D29 r n bSg x0 (K5 (aWu r n) 0 1 4 9 10) :=
 congrArg (fun k => D29 r n bSg x0 k) (dAe r n)
theorem cVc : D29 r n aVb x0 r29 = (K4 (aAy r n) 0 1 4 9) :=
 (cBz r n).trans
 ((bZq r n).trans
 ((by kernel_rfl)))
theorem cDj : D29 r n aUn x0 r29 = D29 r n aNo x0 (K4 (aAy r n) 0 1 4 9) :=
 congrArg (fun k => D29 r n aNo x0 k) (cVc r n)
theorem cFh (q0 : bZ) : D29 r n aNo x0 (K4 q0 0 1 4 9) = fun (env : bA) (h : Hp) =>
 bnd (bE [(aG 0), (.s []), (aG 0), .l0] [(0, 1, (aG 4))] h) fun v1 h1 =>
 bnd (bY [(aG 0), (.s []), (aG 0), .l0] h1) fun v2 h2 =>
 bnd (aI 4 v2 v1 h2) fun _ h3 =>
  q0 (env 0) (env 1) (env 4) v2 h3 := by kernel_rfl
theorem bMw : (fun (env : bA) (h : Hp) =>
 bnd (bE [(aG 0), (.s []), (aG 0), .l0] [(0, 1, (aG 4))] h) fun v1 h1 =>
 bnd (bY [(aG 0), (.s []), (aG 0), .l0] h1) fun v2 h2 =>
 bnd (aI 4 v2 v1 h2) fun _ h3 =>
  aAy r n (env 0) (env 1) (env 4) v2 h3) = (K3 (yI r n) 0 1 4) := by kernel_rfl
theorem cUy : D29 r n aUn x0 r29 = (K3 (yI r n) 0 1 4) :=
 (cDj r n).trans
 ((cFh r n (aAy r n)).trans (bMw r n))
theorem cDx : D29 r n aZe x0 r29 = D29 r n aPt x0 (K3 (yI r n) 0 1 4) :=
 congrArg (fun k => D29 r n aPt x0 k) (cUy r n)
theorem cCd (q0 : jF) : D29 r n aPt x0 (K3 q0 0 1 4) = fun (env : bA) (h : Hp) =>
 aX (env 8) (
 bnd (r 56 [(env 0), (env 1)] h) fun v1 h1 =>
 bnd (r 34 [(env 0), (aG 11)] h1) fun v2 h2 =>
 bnd (aD .eql v1 v2 h2) fun v3 h3 =>
 aX v3 (
 bnd (bE [(aG 0), (.s []), (aG 0), .l0] [(0, 1, (aG 3)), (1, 1, (env 7))] h3) fun v4 h4 =>
 bnd (aI 4 (env 4) v4 h4) fun _ h5 =>
 bnd (aK 4 (env 4) h5) fun v6 _ =>
 some (v6, h5)) (
 bnd (bE [(aG 0), (.s []), (aG 0), .l0] [(0, 1, (aG 2)), (1, 1, (env 7))] h3) fun v7 h7 =>
 bnd (aI 4 (env 4) v7 h7) fun _ h8 =>
 bnd (aK 4 (env 4) h8) fun v9 _ =>
 some (v9, h8))) (
   q0 (env 0) (env 1) (env 4) h) := by kernel_rfl
theorem bLn : (fun (env : bA) (h : Hp) =>
 aX (env 8) (
 bnd (r 56 [(env 0), (env 1)] h) fun v1 h1 =>
 bnd (r 34 [(env 0), (aG 11)] h1) fun v2 h2 =>
 bnd (aD .eql v1 v2 h2) fun v3 h3 =>
 aX v3 (
 bnd (bE [(aG 0), (.s []), (aG 0), .l0] [(0, 1, (aG 3)), (1, 1, (env 7))] h3) fun v4 h4 =>
 bnd (aI 4 (env 4) v4 h4) fun _ h5 =>
 bnd (aK 4 (env 4) h5) fun v6 _ =>
 some (v6, h5)) (
 bnd (bE [(aG 0), (.s []), (aG 0), .l0] [(0, 1, (aG 2)), (1, 1, (env 7))] h3) fun v7 h7 =>
 bnd (aI 4 (env 4) v7 h7) fun _ h8 =>
 bnd (aK 4 (env 4) h8) fun v9 _ =>
 some (v9, h8))) (
   yI r n (env 0) (env 1) (env 4) h)) = (K5 (yS r n) 0 1 4 7 8) := by kernel_rfl
theorem cVp : D29 r n aZe x0 r29 = (K5 (yS r n) 0 1 4 7 8) :=
 (cDx r n).trans
 ((cCd r n (yI r n)).trans (bLn r n))
theorem cBl : D29 r n aZx x0 r29 = D29 r n bJa x0 (K5 (yS r n) 0 1 4 7 8) :=
 congrArg (fun k => D29 r n bJa x0 k) (cVp r n)
theorem cUx : D29 r n aZx x0 r29 = (K3 (tO r n) 0 1 4) :=
 (cBl r n).trans
 ((by kernel_rfl))
theorem bYv : D29 r n aWc x0 r29 = D29 r n aPi x0 (K3 (tO r n) 0 1 4) :=
 congrArg (fun k => D29 r n aPi x0 k) (cUx r n)
theorem bSl (q0 : jF) : D29 r n aPi x0 (K3 q0 0 1 4) = fun (env : bA) (h : Hp) =>
 aX (env 6) (
 bnd (bE [(aG 0), (.s []), (aG 0), .l0] [(0, 1, (aG 1)), (2, 1, (env 5))] h) fun v1 h1 =>
 bnd (aI 4 (env 4) v1 h1) fun _ h2 =>
 bnd (aK 4 (env 4) h2) fun v3 _ =>
 some (v3, h2)) (
   q0 (env 0) (env 1) (env 4) h) := by kernel_rfl
theorem bEq : (fun (env : bA) (h : Hp) =>
 aX (env 6) (
 bnd (bE [(aG 0), (.s []), (aG 0), .l0] [(0, 1, (aG 1)), (2, 1, (env 5))] h) fun v1 h1 =>
 bnd (aI 4 (env 4) v1 h1) fun _ h2 =>
 bnd (aK 4 (env 4) h2) fun v3 _ =>
 some (v3, h2)) (
   tO r n (env 0) (env 1) (env 4) h)) = (K5 (sZ r n) 0 1 4 5 6) := by kernel_rfl
theorem cWw : D29 r n aWc x0 r29 = (K5 (sZ r n) 0 1 4 5 6) :=
 (bYv r n).trans
 ((bSl r n (tO r n)).trans (bEq r n))
theorem bOv : D29 r n aTk x0 r29 = D29 r n bTe x0 (K5 (sZ r n) 0 1 4 5 6) :=
 congrArg (fun k => D29 r n bTe x0 k) (cWw r n)
theorem cPd : D29 r n aTk x0 r29 = (K3 (qJ r n) 0 1 4) :=
 (bOv r n).trans
 ((by kernel_rfl))
theorem cWx : D29 r n c29 x0 r29 = D29 r n aSt x0 (K3 (qJ r n) 0 1 4) :=
 congrArg (fun k => D29 r n aSt x0 k) (cPd r n)
theorem cYj (q0 : jF) : D29 r n aSt x0 (K3 q0 0 1 4) = fun (env : bA) (h : Hp) =>
 bnd (bY [(aG 0), (.s []), (aG 0), .l0] h) fun v1 h1 =>
  q0 (env 0) (env 1) v1 h1 := by kernel_rfl
theorem cAg : (fun (env : bA) (h : Hp) =>
 bnd (bY [(aG 0), (.s []), (aG 0), .l0] h) fun v1 h1 =>
  qJ r n (env 0) (env 1) v1 h1) = (K2 (s29 r n) 0 1) := by kernel_rfl
theorem dLd : D29 r n c29 x0 r29 = (K2 (s29 r n) 0 1) :=
 (cWx r n).trans
 ((cYj r n (qJ r n)).trans (cAg r n))
theorem cNr : aF CF r n 29 args h = s29 r n (aW args 0) (aW args 1) h :=
 (by kernel_rfl : aF CF r n 29 args h = D29 r n c29 x0 r29 (aJ args) h).trans ((congrFun (congrFun (dLd r n) (aJ args)) h).trans (by kernel_rfl))
noncomputable def s34 (r : RT) (n : Nat) (x0 x1 : DV) (h0 : Hp) : aH :=
 bnd (aD .lss x1 (.i .i64 (Int.ofNat 0)) h0) fun v1 h1 =>
 bnd (gD v1 false (some (x1, h1)) h1) fun v2 h2 =>
 bnd (gD v1 false (aD .geq v2 (.i .i64 (Int.ofNat 16)) h2) h2) fun v3 h3 =>
 bnd (aQ v1 (.b true) v3 h3) fun v4 h4 =>
 aX v4 (
 some ((.i .i64 (Int.ofNat 0)), h4)) (
 bnd (aZ x0 h4) fun v5 h5 =>
 bnd (aB 1 v5 h5) fun v6 h6 =>
 bnd (aA v6 h6) fun v7 h7 =>
 bnd (aD .add (.i .i64 (Int.ofNat 2)) x1 h7) fun v8 h8 =>
 bnd (aE 1 v7 v8 h8) fun v9 h9 =>
 bnd (aA v9 h9) fun v10 h10 =>
 some (v10, h10))
noncomputable abbrev c34 : Code := cf Tryz.f34
noncomputable abbrev r34 : K := aV CF Tryz.f34
noncomputable def D34 (r : RT) (n : Nat) (c : Code) (X : Nat → K) (k : K) : K := aP CF r 19 n c X r34 k
theorem dMg : D34 r n c34 x0 r34 = (K2 (s34 r n) 0 1) :=
 (by kernel_rfl)
theorem cNi : aF CF r n 34 args h = s34 r n (aW args 0) (aW args 1) h :=
 (by kernel_rfl : aF CF r n 34 args h = D34 r n c34 x0 r34 (aJ args) h).trans ((congrFun (congrFun (dMg r n) (aJ args)) h).trans (by kernel_rfl))
noncomputable def s36 (r : RT) (n : Nat) (x0 x1 : DV) (h0 : Hp) : aH :=
 bnd (bU x0 h0) fun v1 h1 =>
 bnd (cB x1 h1) fun v2 h2 =>
 bnd (aD .gtr v2 (.i .i64 (Int.ofNat 250)) h2) fun v3 h3 =>
 bnd (gD v3 false (some (x1, h3)) h3) fun v4 h4 =>
 bnd (gD v3 false (some ((.f 86 [] [v1]), h4)) h4) fun v5 h5 =>
 bnd (gD v3 false (r 77 [v4, v5] h5) h5) fun v6 h6 =>
 bnd (aQ v3 (.b true) v6 h6) fun v7 h7 =>
 aX v7 (
 some (.t [(.i .i64 (Int.ofNat 0)), (.i .i64 (Int.ofNat 1))], h7)) (
 bnd (aA v1 h7) fun v8 h8 =>
 bnd (aA v1 h8) fun v9 h9 =>
 bnd (r 34 [v9, (.i .i64 (Int.ofNat 9))] h9) fun v10 h10 =>
 cnd (bM (aA v1 h10) v8 && true) (
 bnd (r 87 [v8, v10, (.i .i64 (Int.ofNat 0)), x1] h10) fun v11 h11 =>
 bnd (aC 0 v11 h11) fun v12 h12 =>
 bnd (aC 1 v11 h12) fun v13 h13 =>
 some (.t [v12, v13], h13)))
noncomputable abbrev c36 : Code := cf Tryz.f36
noncomputable abbrev r36 : K := aV CF Tryz.f36
noncomputable def D36 (r : RT) (n : Nat) (c : Code) (X : Nat → K) (k : K) : K := aP CF r 21 n c X r36 k
theorem dJi : D36 r n c36 x0 r36 = (K2 (s36 r n) 0 1) :=
 (by kernel_rfl)
theorem cOc : aF CF r n 36 args h = s36 r n (aW args 0) (aW args 1) h :=
 (by kernel_rfl : aF CF r n 36 args h = D36 r n c36 x0 r36 (aJ args) h).trans ((congrFun (congrFun (dJi r n) (aJ args)) h).trans (by kernel_rfl))
noncomputable def s37 (r : RT) (n : Nat) (x0 : DV) (h0 : Hp) : aH :=
 bnd (iI [x0] h0) fun v1 h1 =>
 bnd (aC 0 v1 h1) fun v2 h2 =>
 bnd (aC 1 v1 h2) fun v3 h3 =>
 some (v2, h3)
noncomputable abbrev c37 : Code := cf Tryz.f37
noncomputable abbrev r37 : K := aV CF Tryz.f37
noncomputable def D37 (r : RT) (n : Nat) (c : Code) (X : Nat → K) (k : K) : K := aP CF r 11 n c X r37 k
theorem dJh : D37 r n c37 x0 r37 = (K1 (s37 r n) 0) :=
 (by kernel_rfl)
theorem dFg : aF CF r n 37 args h = s37 r n (aW args 0) h :=
 (by kernel_rfl : aF CF r n 37 args h = D37 r n c37 x0 r37 (aJ args) h).trans ((congrFun (congrFun (dJh r n) (aJ args)) h).trans (by kernel_rfl))
noncomputable def s39 (r : RT) (n : Nat) (x0 x1 x2 : DV) (h0 : Hp) : aH :=
 bnd (r 34 [x0, (aG 9)] h0) fun v1 h1 =>
 bnd (aN [(aG 0), (aG 0)] 2 [(0, 1, x1), (1, 1, x2)] h1) fun v2 h2 =>
 bnd (r 87 [x0, v1, (aG 0), v2] h2) fun v3 h3 =>
 bnd (aC 0 v3 h3) fun v4 h4 =>
 bnd (aC 1 v3 h4) fun v5 h5 =>
 some (.t [v4, v5], h5)
noncomputable abbrev c39 : Code := cf Tryz.f39
noncomputable abbrev r39 : K := aV CF Tryz.f39
noncomputable def D39 (r : RT) (n : Nat) (c : Code) (X : Nat → K) (k : K) : K := aP CF r 17 n c X r39 k
theorem dLb : D39 r n c39 x0 r39 = (K3 (s39 r n) 0 1 2) :=
 (by kernel_rfl)
theorem cMw : aF CF r n 39 args h = s39 r n (aW args 0) (aW args 1) (aW args 2) h :=
 (by kernel_rfl : aF CF r n 39 args h = D39 r n c39 x0 r39 (aJ args) h).trans ((congrFun (congrFun (dLb r n) (aJ args)) h).trans (by kernel_rfl))
noncomputable def s41 (r : RT) (n : Nat) (x0 x1 x2 : DV) (h0 : Hp) : aH :=
 bnd (r 11 [x0, x1] h0) fun v1 h1 =>
 bnd (aD .eql v1 (aG 0) h1) fun v2 h2 =>
 aX v2 (
 some (.t [(aG 0), (aG 0), (.s []), (aG 24)], h2)) (
 bnd (r 91 [x2] h2) fun v3 h3 =>
 bnd (aC 0 v3 h3) fun v4 h4 =>
 bnd (aC 1 v3 h4) fun v5 h5 =>
 bnd (aC 2 v3 h5) fun v6 h6 =>
 bnd (bY tR h6) fun v7 h7 =>
 bnd (aI 6 v7 v4 h7) fun _ h8 =>
 bnd (aD .neq v6 (aG 0) h8) fun v9 h9 =>
 aX v9 (
 some (.t [(aG 0), v5, (.s []), v6], h9)) (
 bnd (aK 6 v7 (resv 1 h9)) fun v10 h10 =>
 bnd (r 58 [x0, v1] h10) fun v11 h11 =>
 cnd (bM (aK 6 v7 h11) v10 && true) (
 bnd (r 92 [v10, v11] h11) fun v12 h12 =>
 bnd (aC 0 v12 h12) fun v13 h13 =>
 bnd (aC 1 v12 h13) fun v14 h14 =>
 bnd (aC 2 v12 h14) fun v15 h15 =>
 bnd (mB (cF 0 h9.next) [(.s []), (aG 0), (aG 0), (aG 0), .l0, .l0] h15) fun v16 h16 =>
 bnd (aI 6 v16 v13 h16) fun v17 h17 =>
 bnd (aD .neq v15 (aG 0) h17) fun v18 h18 =>
 aX v18 (
 some (.t [(aG 0), (aG 0), v14, v15], h18)) (
 bnd (aK 6 v16 h18) fun v19 h19 =>
 bnd (r 93 [x0, v1, v19] h19) fun v20 h20 =>
 bnd (aC 0 v20 h20) fun v21 h21 =>
 bnd (aC 1 v20 h21) fun v22 h22 =>
 bnd (aD .neq v22 (aG 0) h22) fun v23 h23 =>
 aX v23 (
 some (.t [(aG 0), (aG 0), (.s []), v22], h23)) (
 some (.t [v21, (aG 0), (.s []), (aG 0)], h23))))))
noncomputable abbrev c41 : Code := cf Tryz.f41
noncomputable abbrev r41 : K := aV CF Tryz.f41
noncomputable def D41 (r : RT) (n : Nat) (c : Code) (X : Nat → K) (k : K) : K := aP CF r 56 n c X r41 k
theorem dKi : D41 r n c41 x0 r41 = (K3 (s41 r n) 0 1 2) :=
 (by kernel_rfl)
theorem dBh : aF CF r n 41 args h = s41 r n (aW args 0) (aW args 1) (aW args 2) h :=
 (by kernel_rfl : aF CF r n 41 args h = D41 r n c41 x0 r41 (aJ args) h).trans ((congrFun (congrFun (dKi r n) (aJ args)) h).trans (by kernel_rfl))
noncomputable def fQ (r : RT) (n : Nat) (x0 x1 x8 : DV) (h0 : Hp) : aH :=
 bnd (r 87 [x0, x1, (aG 2), x8] h0) fun v1 h1 =>
 bnd (aC 0 v1 h1) fun v2 h2 =>
 bnd (aC 1 v1 h2) fun v3 h3 =>
 some (.t [v2, v3], h3)
noncomputable def pM (r : RT) (n : Nat) (kk5 : iL) (x0 x1 x2 x8 x11 x12 : DV) (h0 : Hp) : aH :=
 bnd (aD .lss x12 x11 h0) fun v1 h1 =>
 aX v1 (
 bnd (fI x2 x12 h1) fun v2 h2 =>
 bnd (dU .i64 v2 h2) fun v3 h3 =>
 bnd (aN [(aG 0)] 1 [(0, 1, v3)] h3) fun v4 h4 =>
 bnd (aY 1 8 x8 v4 h4) fun v5 h5 =>
 bnd (aD .add x12 (aG 1) h5) fun v6 h6 =>
      kk5 x0 x1 x2 v5 x11 v6 h6) (
      fQ r n x0 x1 x8 h1)
noncomputable def oU (r : RT) (n : Nat) (m : Nat) : iL :=
 Nat.rec (motive := fun _ => iL) (fun _ _ _ _ _ _ _ => none) (fun _ ih => pM r n ih) m
noncomputable def bJl (r : RT) (n : Nat) : iL := oU r n n
noncomputable def bAj (r : RT) (n : Nat) (x0 x1 x2 x8 x11 x12 : DV) (h0 : Hp) : aH :=
 bJl r n x0 x1 x2 x8 x11 x12 h0
noncomputable def bAa (r : RT) (n : Nat) (x0 x1 x2 x8 : DV) (h0 : Hp) : aH :=
 bnd (dN x2 h0) fun v1 h1 =>
  bAj r n x0 x1 x2 x8 v1 (aG 0) h1
noncomputable def aVf (r : RT) (n : Nat) (x0 x1 x2 : DV) (h0 : Hp) : aH :=
 bAa r n x0 x1 x2 .l0 h0
noncomputable def s43 (r : RT) (n : Nat) (x0 x1 x2 : DV) (h0 : Hp) : aH :=
 aVf r n x0 x1 x2 h0
noncomputable abbrev c43 : Code := cf Tryz.f43
noncomputable abbrev aZo : Code := cR c43
noncomputable abbrev aZp : Code := cR aZo
noncomputable abbrev dCj : Code := cR aZp
noncomputable abbrev aLw : Code := cL aZp
noncomputable abbrev bXb : Code := cR aLw
noncomputable abbrev aUi : Code := cL bXb
noncomputable abbrev tI : Code := cL aUi
noncomputable abbrev cOf : Code := cL aLw
noncomputable abbrev cMm : Code := cL aZo
noncomputable abbrev bRy : Code := cL c43
noncomputable abbrev r43 : K := aV CF Tryz.f43
noncomputable def D43 (r : RT) (n : Nat) (c : Code) (X : Nat → K) (k : K) : K := aP CF r 29 n c X r43 k
theorem cQy : D43 r n dCj x0 r43 = (K3 (fQ r n) 0 1 8) :=
 (by kernel_rfl)
theorem bYs (kk5 : iL) (q0 : jF) : D43 r n tI (xs x0 0 (K3 q0 0 1 8)) (K6 kk5 0 1 2 8 11 12) = fun (env : bA) (h : Hp) =>
 bnd (aD .lss (env 12) (env 11) h) fun v1 h1 =>
 aX v1 (
 bnd (fI (env 2) (env 12) h1) fun v2 h2 =>
 bnd (dU .i64 v2 h2) fun v3 h3 =>
 bnd (aN [(aG 0)] 1 [(0, 1, v3)] h3) fun v4 h4 =>
 bnd (aY 1 8 (env 8) v4 h4) fun v5 h5 =>
 bnd (aD .add (env 12) (aG 1) h5) fun v6 h6 =>
      kk5 (env 0) (env 1) (env 2) v5 (env 11) v6 h6) (
      q0 (env 0) (env 1) (env 8) h1) := by kernel_rfl
theorem bTs (kk5 : iL) : (fun (env : bA) (h : Hp) =>
 bnd (aD .lss (env 12) (env 11) h) fun v1 h1 =>
 aX v1 (
 bnd (fI (env 2) (env 12) h1) fun v2 h2 =>
 bnd (dU .i64 v2 h2) fun v3 h3 =>
 bnd (aN [(aG 0)] 1 [(0, 1, v3)] h3) fun v4 h4 =>
 bnd (aY 1 8 (env 8) v4 h4) fun v5 h5 =>
 bnd (aD .add (env 12) (aG 1) h5) fun v6 h6 =>
      kk5 (env 0) (env 1) (env 2) v5 (env 11) v6 h6) (
      fQ r n (env 0) (env 1) (env 8) h1)) = (K6 (pM r n kk5) 0 1 2 8 11 12) := by kernel_rfl
theorem cIa (kk5 : iL) : D43 r n tI (xs x0 0 (K3 (fQ r n) 0 1 8)) (K6 kk5 0 1 2 8 11 12) = (K6 (pM r n kk5) 0 1 2 8 11 12) :=
 (bYs r n kk5 (fQ r n)).trans (bTs r n kk5)
theorem cAn (m : Nat) : aM (fun kk => D43 r n tI (xs x0 0 (K3 (fQ r n) 0 1 8)) kk) m = (K6 (oU r n m) 0 1 2 8 11 12) := by
 induction m with
 | zero => exact (by kernel_rfl : aM (fun kk => D43 r n tI (xs x0 0 (K3 (fQ r n) 0 1 8)) kk) 0 = (K6 (oU r n 0) 0 1 2 8 11 12))
 | succ m ih =>
  refine (by kernel_rfl : aM (fun kk => D43 r n tI (xs x0 0 (K3 (fQ r n) 0 1 8)) kk) (m + 1) = D43 r n tI (xs x0 0 (K3 (fQ r n) 0 1 8)) (aM (fun kk => D43 r n tI (xs x0 0 (K3 (fQ r n) 0 1 8)) kk) m)).trans ?_
  rw [ih]
  exact (cIa r n (oU r n m)).trans (by kernel_rfl)
theorem cUm : D43 r n aUi (xs x0 0 (K3 (fQ r n) 0 1 8)) (K3 (fQ r n) 0 1 8) = (K6 (bJl r n) 0 1 2 8 11 12) :=
 (by kernel_rfl : D43 r n aUi (xs x0 0 (K3 (fQ r n) 0 1 8)) (K3 (fQ r n) 0 1 8) = aM (fun kk => D43 r n tI (xs x0 0 (K3 (fQ r n) 0 1 8)) kk) n).trans ((cAn r n n).trans (by kernel_rfl))
theorem cZy : D43 r n bXb x0 (K3 (fQ r n) 0 1 8) = (K6 (bAj r n) 0 1 2 8 11 12) :=
 (by kernel_rfl : D43 r n bXb x0 (K3 (fQ r n) 0 1 8) = D43 r n aUi (xs x0 0 (K3 (fQ r n) 0 1 8)) (K3 (fQ r n) 0 1 8)).trans
 ((cUm r n).trans (by kernel_rfl))
theorem cKt : D43 r n aZp x0 r43 = D43 r n aLw x0 (K3 (fQ r n) 0 1 8) :=
 congrArg (fun k => D43 r n aLw x0 k) (cQy r n)
theorem cHy : D43 r n aLw x0 (K3 (fQ r n) 0 1 8) = D43 r n cOf x0 (K6 (bAj r n) 0 1 2 8 11 12) :=
 congrArg (fun k => D43 r n cOf x0 k) (cZy r n)
theorem cWe : D43 r n aZp x0 r43 = (K4 (bAa r n) 0 1 2 8) :=
 (cKt r n).trans
 ((cHy r n).trans
 ((by kernel_rfl)))
theorem cGh : D43 r n aZo x0 r43 = D43 r n cMm x0 (K4 (bAa r n) 0 1 2 8) :=
 congrArg (fun k => D43 r n cMm x0 k) (cWe r n)
theorem cYb : D43 r n aZo x0 r43 = (K3 (aVf r n) 0 1 2) :=
 (cGh r n).trans
 ((by kernel_rfl))
theorem dEb : D43 r n c43 x0 r43 = D43 r n bRy x0 (K3 (aVf r n) 0 1 2) :=
 congrArg (fun k => D43 r n bRy x0 k) (cYb r n)
theorem dHn : D43 r n c43 x0 r43 = (K3 (s43 r n) 0 1 2) :=
 (dEb r n).trans
 ((by kernel_rfl))
theorem cMt : aF CF r n 43 args h = s43 r n (aW args 0) (aW args 1) (aW args 2) h :=
 (by kernel_rfl : aF CF r n 43 args h = D43 r n c43 x0 r43 (aJ args) h).trans ((congrFun (congrFun (dHn r n) (aJ args)) h).trans (by kernel_rfl))
noncomputable def s56 (r : RT) (n : Nat) (x0 x1 : DV) (h0 : Hp) : aH :=
 bnd (aZ x0 h0) fun v1 h1 =>
 bnd (aB 0 v1 h1) fun v2 h2 =>
 bnd (aA v2 h2) fun v3 h3 =>
 bnd (isF [v3, x1] h3) fun v4 h4 =>
 aX v4 (
 bnd (aZ x0 h4) fun v5 h5 =>
 bnd (aB 0 v5 h5) fun v6 h6 =>
 bnd (aA v6 h6) fun v7 h7 =>
 bnd (jJ [v7, x1] h7) fun v8 h8 =>
 some (v8, h8)) (
 bnd (eO [x1] h4) fun v9 h9 =>
 aX v9 (
 bnd (r 34 [x0, (.i .i64 (Int.ofNat 7))] h9) fun v10 h10 =>
 some (v10, h10)) (
 bnd (aD .eql x1 (.i .i64 (Int.ofNat 0)) h9) fun v11 h11 =>
 aX v11 (
 bnd (r 34 [x0, (.i .i64 (Int.ofNat 2))] h11) fun v12 h12 =>
 some (v12, h12)) (
 bnd (aD .eql x1 (.i .i64 (Int.ofNat 2)) h11) fun v13 h13 =>
 aX v13 (
 bnd (r 34 [x0, (.i .i64 (Int.ofNat 4))] h13) fun v14 h14 =>
 some (v14, h14)) (
 bnd (aD .eql x1 (.i .i64 (Int.ofNat 4)) h13) fun v15 h15 =>
 aX v15 (
 bnd (r 34 [x0, (.i .i64 (Int.ofNat 5))] h15) fun v16 h16 =>
 some (v16, h16)) (
 some ((.i .i64 (Int.ofNat 0)), h15))))))
noncomputable abbrev c56 : Code := cf Tryz.f56
noncomputable abbrev r56 : K := aV CF Tryz.f56
noncomputable def D56 (r : RT) (n : Nat) (c : Code) (X : Nat → K) (k : K) : K := aP CF r 38 n c X r56 k
theorem dKg : D56 r n c56 x0 r56 = (K2 (s56 r n) 0 1) :=
 (by kernel_rfl)
theorem cOo : aF CF r n 56 args h = s56 r n (aW args 0) (aW args 1) h :=
 (by kernel_rfl : aF CF r n 56 args h = D56 r n c56 x0 r56 (aJ args) h).trans ((congrFun (congrFun (dKg r n) (aJ args)) h).trans (by kernel_rfl))
end Go.Dd

namespace Go.Dd
open Go.Proofs
variable (r : RT) (n : Nat) (args : List DV) (h : Hp)
noncomputable def cE (r : RT) (n : Nat) (x5 : DV) (h0 : Hp) : aH :=
 some (x5, h0)
noncomputable def cW (r : RT) (n : Nat) (kk5 : bZ) (x0 x1 x5 x6 : DV) (h0 : Hp) : aH :=
 bnd (aD .sub x6 (aG 1) h0) fun v1 h1 =>
  kk5 x0 x1 x5 v1 h1
noncomputable def eE (r : RT) (n : Nat) (kk5 : bZ) (x0 x1 x5 x6 x7 : DV) (h0 : Hp) : aH :=
 bnd (aY 1 16 x7 x5 h0) fun v1 h1 =>
 bnd (r 96 [x0, x1] h1) fun v2 h2 =>
  cW r n kk5 x0 v2 v1 x6 h2
noncomputable def aFl (r : RT) (n : Nat) (kk5 : bZ) (kk12 : TT8) (x0 x1 x5 x6 x7 x8 x34 x35 : DV) (h0 : Hp) : aH :=
 bnd (aD .lss x35 x34 h0) fun v1 h1 =>
 aX v1 (
 bnd (r 111 [x0, x8, x35] h1) fun v2 h2 =>
 bnd (r 72 [x0, v2] h2) fun v3 h3 =>
 bnd (aC 0 v3 h3) fun v4 h4 =>
 bnd (aC 1 v3 h4) fun v5 h5 =>
 bnd (aN [(.s [])] 1 [(0, 1, v4)] h5) fun v6 h6 =>
 bnd (aY 1 16 x7 v6 h6) fun v7 h7 =>
 bnd (aD .add x35 (aG 1) h7) fun v8 h8 =>
      kk12 x0 x1 x5 x6 v7 x8 x34 v8 h8) (
      eE r n kk5 x0 x1 x5 x6 x7 h1)
noncomputable def uG (r : RT) (n : Nat) (kk5 : bZ) (m : Nat) : TT8 :=
 Nat.rec (motive := fun _ => TT8) (fun _ _ _ _ _ _ _ _ _ => none) (fun _ ih => aFl r n kk5 ih) m
noncomputable def bQl (r : RT) (n : Nat) (kk5 : bZ) : TT8 := uG r n kk5 n
noncomputable def aOw (r : RT) (n : Nat) (kk5 : bZ) (x0 x1 x5 x6 x7 x8 x34 x35 : DV) (h0 : Hp) : aH :=
 bQl r n kk5 x0 x1 x5 x6 x7 x8 x34 x35 h0
noncomputable def bKc (r : RT) (n : Nat) (kk5 : bZ) (x0 x1 x5 x6 x7 x8 : DV) (h0 : Hp) : aH :=
 bnd (aZ x0 h0) fun v1 h1 =>
 bnd (aB 0 v1 h1) fun v2 h2 =>
 bnd (aA v2 h2) fun v3 h3 =>
 bnd (eJ [v3, x8] h3) fun v4 h4 =>
  aOw r n kk5 x0 x1 x5 x6 x7 x8 v4 (aG 0) h4
noncomputable def bKl (r : RT) (n : Nat) (kk5 : bZ) (x0 x1 x5 x6 x7 : DV) (h0 : Hp) : aH :=
 bnd (r 111 [x0, x1, (aG 3)] h0) fun v1 h1 =>
  bKc r n kk5 x0 x1 x5 x6 x7 v1 h1
noncomputable def bNj (r : RT) (n : Nat) (kk5 : bZ) (x0 x1 x5 x6 : DV) (h0 : Hp) : aH :=
 bKl r n kk5 x0 x1 x5 x6 .l0 h0
noncomputable def bSu (r : RT) (n : Nat) (kk5 : bZ) (x0 x1 x5 x6 : DV) (h0 : Hp) : aH :=
 bnd (aD .gtr x6 (aG 0) h0) fun v1 h1 =>
 bnd (gD v1 true (some (x0, h1)) h1) fun v2 h2 =>
 bnd (gD v1 true (some (x1, h2)) h2) fun v3 h3 =>
 bnd (gD v1 true (r 110 [v2, v3] h3) h3) fun v4 h4 =>
 bnd (aQ v1 v4 (.b false) h4) fun v5 h5 =>
 aX v5 (
   bNj r n kk5 x0 x1 x5 x6 h5) (
   cE r n x5 h5)
noncomputable def aIt (r : RT) (n : Nat) (m : Nat) : bZ :=
 Nat.rec (motive := fun _ => bZ) (fun _ _ _ _ _ => none) (fun _ ih => bSu r n ih) m
noncomputable def cOx (r : RT) (n : Nat) : bZ := aIt r n n
noncomputable def bXd (r : RT) (n : Nat) (x0 x1 x5 x6 : DV) (h0 : Hp) : aH :=
 cOx r n x0 x1 x5 x6 h0
noncomputable def bLd (r : RT) (n : Nat) (x0 x1 x5 : DV) (h0 : Hp) : aH :=
 bnd (aZ x0 h0) fun v1 h1 =>
 bnd (aB 0 v1 h1) fun v2 h2 =>
 bnd (aA v2 h2) fun v3 h3 =>
 bnd (aAs [v3] h3) fun v4 h4 =>
  bXd r n x0 x1 x5 v4 h4
noncomputable def bGm (r : RT) (n : Nat) (x0 x1 : DV) (h0 : Hp) : aH :=
 bLd r n x0 x1 .l0 h0
noncomputable def s58 (r : RT) (n : Nat) (x0 x1 : DV) (h0 : Hp) : aH :=
 bGm r n x0 x1 h0
noncomputable abbrev c58 : Code := cf Tryz.f58
noncomputable abbrev aTs : Code := cR c58
noncomputable abbrev aZi : Code := cR aTs
noncomputable abbrev dHa : Code := cR aZi
noncomputable abbrev aMr : Code := cL aZi
noncomputable abbrev bNe : Code := cR aMr
noncomputable abbrev aVv : Code := cL bNe
noncomputable abbrev oF : Code := cL aVv
noncomputable abbrev bAz : Code := cR oF
noncomputable abbrev dCa : Code := cR bAz
noncomputable abbrev aCq : Code := cL bAz
noncomputable abbrev aGk : Code := cL aCq
noncomputable abbrev aGa : Code := cR aGk
noncomputable abbrev aJi : Code := cR aGa
noncomputable abbrev cSs : Code := cR aJi
noncomputable abbrev zQ : Code := cL aJi
noncomputable abbrev aNt : Code := cR zQ
noncomputable abbrev aDf : Code := cL aNt
noncomputable abbrev nL : Code := cL aDf
noncomputable abbrev bTn : Code := cL zQ
noncomputable abbrev bPz : Code := cL aGa
noncomputable abbrev bHz : Code := cL aGk
noncomputable abbrev bYc : Code := cL oF
noncomputable abbrev bUp : Code := cL aMr
noncomputable abbrev bIx : Code := cL aTs
noncomputable abbrev bXw : Code := cL c58
noncomputable abbrev r58 : K := aV CF Tryz.f58
noncomputable def D58 (r : RT) (n : Nat) (c : Code) (X : Nat → K) (k : K) : K := aP CF r 59 n c X r58 k
theorem cSw : D58 r n dHa x0 r58 = (K1 (cE r n) 5) :=
 (by kernel_rfl)
theorem cWd (kk5 : bZ) : D58 r n dCa (xs x0 0 (K1 (cE r n) 5)) (K4 kk5 0 1 5 6) = (K4 (cW r n kk5) 0 1 5 6) :=
 (by kernel_rfl)
theorem cCj (kk5 : bZ) : D58 r n cSs (xs (xs x0 0 (K1 (cE r n) 5)) 1 (K4 (cW r n kk5) 0 1 5 6)) (K4 (cW r n kk5) 0 1 5 6) = (K5 (eE r n kk5) 0 1 5 6 7) :=
 (by kernel_rfl)
theorem bHh (kk5 : bZ) (kk12 : TT8) (q0 : TT1) (q1 : bZ) (q2 : bT) : D58 r n nL (xs (xs (xs x0 0 (K1 q0 5)) 1 (K4 q1 0 1 5 6)) 2 (K5 q2 0 1 5 6 7)) (K8 kk12 0 1 5 6 7 8 34 35) = fun (env : bA) (h : Hp) =>
 bnd (aD .lss (env 35) (env 34) h) fun v1 h1 =>
 aX v1 (
 bnd (r 111 [(env 0), (env 8), (env 35)] h1) fun v2 h2 =>
 bnd (r 72 [(env 0), v2] h2) fun v3 h3 =>
 bnd (aC 0 v3 h3) fun v4 h4 =>
 bnd (aC 1 v3 h4) fun v5 h5 =>
 bnd (aN [(.s [])] 1 [(0, 1, v4)] h5) fun v6 h6 =>
 bnd (aY 1 16 (env 7) v6 h6) fun v7 h7 =>
 bnd (aD .add (env 35) (aG 1) h7) fun v8 h8 =>
      kk12 (env 0) (env 1) (env 5) (env 6) v7 (env 8) (env 34) v8 h8) (
      q2 (env 0) (env 1) (env 5) (env 6) (env 7) h1) := by kernel_rfl
theorem bBf (kk5 : bZ) (kk12 : TT8) : (fun (env : bA) (h : Hp) =>
 bnd (aD .lss (env 35) (env 34) h) fun v1 h1 =>
 aX v1 (
 bnd (r 111 [(env 0), (env 8), (env 35)] h1) fun v2 h2 =>
 bnd (r 72 [(env 0), v2] h2) fun v3 h3 =>
 bnd (aC 0 v3 h3) fun v4 h4 =>
 bnd (aC 1 v3 h4) fun v5 h5 =>
 bnd (aN [(.s [])] 1 [(0, 1, v4)] h5) fun v6 h6 =>
 bnd (aY 1 16 (env 7) v6 h6) fun v7 h7 =>
 bnd (aD .add (env 35) (aG 1) h7) fun v8 h8 =>
      kk12 (env 0) (env 1) (env 5) (env 6) v7 (env 8) (env 34) v8 h8) (
      eE r n kk5 (env 0) (env 1) (env 5) (env 6) (env 7) h1)) = (K8 (aFl r n kk5 kk12) 0 1 5 6 7 8 34 35) := by kernel_rfl
theorem bLw (kk5 : bZ) (kk12 : TT8) : D58 r n nL (xs (xs (xs x0 0 (K1 (cE r n) 5)) 1 (K4 (cW r n kk5) 0 1 5 6)) 2 (K5 (eE r n kk5) 0 1 5 6 7)) (K8 kk12 0 1 5 6 7 8 34 35) = (K8 (aFl r n kk5 kk12) 0 1 5 6 7 8 34 35) :=
 (bHh r n kk5 kk12 (cE r n) (cW r n kk5) (eE r n kk5)).trans (bBf r n kk5 kk12)
theorem bLo (kk5 : bZ) (m : Nat) : aM (fun kk => D58 r n nL (xs (xs (xs x0 0 (K1 (cE r n) 5)) 1 (K4 (cW r n kk5) 0 1 5 6)) 2 (K5 (eE r n kk5) 0 1 5 6 7)) kk) m = (K8 (uG r n kk5 m) 0 1 5 6 7 8 34 35) := by
 induction m with
 | zero => exact (by kernel_rfl : aM (fun kk => D58 r n nL (xs (xs (xs x0 0 (K1 (cE r n) 5)) 1 (K4 (cW r n kk5) 0 1 5 6)) 2 (K5 (eE r n kk5) 0 1 5 6 7)) kk) 0 = (K8 (uG r n kk5 0) 0 1 5 6 7 8 34 35))
 | succ m ih =>
  refine (by kernel_rfl : aM (fun kk => D58 r n nL (xs (xs (xs x0 0 (K1 (cE r n) 5)) 1 (K4 (cW r n kk5) 0 1 5 6)) 2 (K5 (eE r n kk5) 0 1 5 6 7)) kk) (m + 1) = D58 r n nL (xs (xs (xs x0 0 (K1 (cE r n) 5)) 1 (K4 (cW r n kk5) 0 1 5 6)) 2 (K5 (eE r n kk5) 0 1 5 6 7)) (aM (fun kk => D58 r n nL (xs (xs (xs x0 0 (K1 (cE r n) 5)) 1 (K4 (cW r n kk5) 0 1 5 6)) 2 (K5 (eE r n kk5) 0 1 5 6 7)) kk) m)).trans ?_
  rw [ih]
  exact (bLw r n kk5 (uG r n kk5 m)).trans (by kernel_rfl)
theorem cGr (kk5 : bZ) : D58 r n aDf (xs (xs (xs x0 0 (K1 (cE r n) 5)) 1 (K4 (cW r n kk5) 0 1 5 6)) 2 (K5 (eE r n kk5) 0 1 5 6 7)) (K5 (eE r n kk5) 0 1 5 6 7) = (K8 (bQl r n kk5) 0 1 5 6 7 8 34 35) :=
 (by kernel_rfl : D58 r n aDf (xs (xs (xs x0 0 (K1 (cE r n) 5)) 1 (K4 (cW r n kk5) 0 1 5 6)) 2 (K5 (eE r n kk5) 0 1 5 6 7)) (K5 (eE r n kk5) 0 1 5 6 7) = aM (fun kk => D58 r n nL (xs (xs (xs x0 0 (K1 (cE r n) 5)) 1 (K4 (cW r n kk5) 0 1 5 6)) 2 (K5 (eE r n kk5) 0 1 5 6 7)) kk) n).trans ((bLo r n kk5 n).trans (by kernel_rfl))
theorem cLq (kk5 : bZ) : D58 r n aNt (xs (xs x0 0 (K1 (cE r n) 5)) 1 (K4 (cW r n kk5) 0 1 5 6)) (K5 (eE r n kk5) 0 1 5 6 7) = (K8 (aOw r n kk5) 0 1 5 6 7 8 34 35) :=
 (by kernel_rfl : D58 r n aNt (xs (xs x0 0 (K1 (cE r n) 5)) 1 (K4 (cW r n kk5) 0 1 5 6)) (K5 (eE r n kk5) 0 1 5 6 7) = D58 r n aDf (xs (xs (xs x0 0 (K1 (cE r n) 5)) 1 (K4 (cW r n kk5) 0 1 5 6)) 2 (K5 (eE r n kk5) 0 1 5 6 7)) (K5 (eE r n kk5) 0 1 5 6 7)).trans
 ((cGr r n kk5).trans (by kernel_rfl))
theorem cKe (kk5 : bZ) : D58 r n aJi (xs (xs x0 0 (K1 (cE r n) 5)) 1 (K4 (cW r n kk5) 0 1 5 6)) (K4 (cW r n kk5) 0 1 5 6) = D58 r n zQ (xs (xs x0 0 (K1 (cE r n) 5)) 1 (K4 (cW r n kk5) 0 1 5 6)) (K5 (eE r n kk5) 0 1 5 6 7) :=
 congrArg (fun k => D58 r n zQ (xs (xs x0 0 (K1 (cE r n) 5)) 1 (K4 (cW r n kk5) 0 1 5 6)) k) (cCj r n kk5)
theorem bYj (kk5 : bZ) : D58 r n zQ (xs (xs x0 0 (K1 (cE r n) 5)) 1 (K4 (cW r n kk5) 0 1 5 6)) (K5 (eE r n kk5) 0 1 5 6 7) = D58 r n bTn (xs (xs x0 0 (K1 (cE r n) 5)) 1 (K4 (cW r n kk5) 0 1 5 6)) (K8 (aOw r n kk5) 0 1 5 6 7 8 34 35) :=
 congrArg (fun k => D58 r n bTn (xs (xs x0 0 (K1 (cE r n) 5)) 1 (K4 (cW r n kk5) 0 1 5 6)) k) (cLq r n kk5)
theorem cUg (kk5 : bZ) : D58 r n aJi (xs (xs x0 0 (K1 (cE r n) 5)) 1 (K4 (cW r n kk5) 0 1 5 6)) (K4 (cW r n kk5) 0 1 5 6) = (K6 (bKc r n kk5) 0 1 5 6 7 8) :=
 (cKe r n kk5).trans
 ((bYj r n kk5).trans
 ((by kernel_rfl)))
theorem cHk (kk5 : bZ) : D58 r n aGa (xs (xs x0 0 (K1 (cE r n) 5)) 1 (K4 (cW r n kk5) 0 1 5 6)) (K4 (cW r n kk5) 0 1 5 6) = D58 r n bPz (xs (xs x0 0 (K1 (cE r n) 5)) 1 (K4 (cW r n kk5) 0 1 5 6)) (K6 (bKc r n kk5) 0 1 5 6 7 8) :=
 congrArg (fun k => D58 r n bPz (xs (xs x0 0 (K1 (cE r n) 5)) 1 (K4 (cW r n kk5) 0 1 5 6)) k) (cUg r n kk5)
theorem cPg (kk5 : bZ) : D58 r n aGa (xs (xs x0 0 (K1 (cE r n) 5)) 1 (K4 (cW r n kk5) 0 1 5 6)) (K4 (cW r n kk5) 0 1 5 6) = (K5 (bKl r n kk5) 0 1 5 6 7) :=
 (cHk r n kk5).trans
 ((by kernel_rfl))
theorem cJz (kk5 : bZ) : D58 r n bAz (xs x0 0 (K1 (cE r n) 5)) (K4 kk5 0 1 5 6) = D58 r n aCq (xs x0 0 (K1 (cE r n) 5)) (K4 (cW r n kk5) 0 1 5 6) :=
 congrArg (fun k => D58 r n aCq (xs x0 0 (K1 (cE r n) 5)) k) (cWd r n kk5)
theorem cDq (kk5 : bZ) : D58 r n aGk (xs (xs x0 0 (K1 (cE r n) 5)) 1 (K4 (cW r n kk5) 0 1 5 6)) (K4 (cW r n kk5) 0 1 5 6) = D58 r n bHz (xs (xs x0 0 (K1 (cE r n) 5)) 1 (K4 (cW r n kk5) 0 1 5 6)) (K5 (bKl r n kk5) 0 1 5 6 7) :=
 congrArg (fun k => D58 r n bHz (xs (xs x0 0 (K1 (cE r n) 5)) 1 (K4 (cW r n kk5) 0 1 5 6)) k) (cPg r n kk5)
theorem cRe (kk5 : bZ) : D58 r n bAz (xs x0 0 (K1 (cE r n) 5)) (K4 kk5 0 1 5 6) = (K4 (bNj r n kk5) 0 1 5 6) :=
 (cJz r n kk5).trans
 ((by kernel_rfl : D58 r n aCq (xs x0 0 (K1 (cE r n) 5)) (K4 (cW r n kk5) 0 1 5 6) = D58 r n aGk (xs (xs x0 0 (K1 (cE r n) 5)) 1 (K4 (cW r n kk5) 0 1 5 6)) (K4 (cW r n kk5) 0 1 5 6)).trans
 ((cDq r n kk5).trans
 ((by kernel_rfl))))
theorem cEu (kk5 : bZ) : D58 r n oF (xs x0 0 (K1 (cE r n) 5)) (K4 kk5 0 1 5 6) = D58 r n bYc (xs x0 0 (K1 (cE r n) 5)) (K4 (bNj r n kk5) 0 1 5 6) :=
 congrArg (fun k => D58 r n bYc (xs x0 0 (K1 (cE r n) 5)) k) (cRe r n kk5)
theorem cAx (kk5 : bZ) : D58 r n oF (xs x0 0 (K1 (cE r n) 5)) (K4 kk5 0 1 5 6) = (K4 (bSu r n kk5) 0 1 5 6) :=
 (cEu r n kk5).trans
 ((by kernel_rfl))
theorem cEi (m : Nat) : aM (fun kk => D58 r n oF (xs x0 0 (K1 (cE r n) 5)) kk) m = (K4 (aIt r n m) 0 1 5 6) := by
 induction m with
 | zero => exact (by kernel_rfl : aM (fun kk => D58 r n oF (xs x0 0 (K1 (cE r n) 5)) kk) 0 = (K4 (aIt r n 0) 0 1 5 6))
 | succ m ih =>
  refine (by kernel_rfl : aM (fun kk => D58 r n oF (xs x0 0 (K1 (cE r n) 5)) kk) (m + 1) = D58 r n oF (xs x0 0 (K1 (cE r n) 5)) (aM (fun kk => D58 r n oF (xs x0 0 (K1 (cE r n) 5)) kk) m)).trans ?_
  rw [ih]
  exact (cAx r n (aIt r n m)).trans (by kernel_rfl)
theorem cYf : D58 r n aVv (xs x0 0 (K1 (cE r n) 5)) (K1 (cE r n) 5) = (K4 (cOx r n) 0 1 5 6) :=
 (by kernel_rfl : D58 r n aVv (xs x0 0 (K1 (cE r n) 5)) (K1 (cE r n) 5) = aM (fun kk => D58 r n oF (xs x0 0 (K1 (cE r n) 5)) kk) n).trans ((cEi r n n).trans (by kernel_rfl))
theorem cYi : D58 r n bNe x0 (K1 (cE r n) 5) = (K4 (bXd r n) 0 1 5 6) :=
 (by kernel_rfl : D58 r n bNe x0 (K1 (cE r n) 5) = D58 r n aVv (xs x0 0 (K1 (cE r n) 5)) (K1 (cE r n) 5)).trans
 ((cYf r n).trans (by kernel_rfl))
theorem bZy : D58 r n aZi x0 r58 = D58 r n aMr x0 (K1 (cE r n) 5) :=
 congrArg (fun k => D58 r n aMr x0 k) (cSw r n)
theorem bZz : D58 r n aMr x0 (K1 (cE r n) 5) = D58 r n bUp x0 (K4 (bXd r n) 0 1 5 6) :=
 congrArg (fun k => D58 r n bUp x0 k) (cYi r n)
theorem cWb : D58 r n aZi x0 r58 = (K3 (bLd r n) 0 1 5) :=
 (bZy r n).trans
 ((bZz r n).trans
 ((by kernel_rfl)))
theorem bMe : D58 r n aTs x0 r58 = D58 r n bIx x0 (K3 (bLd r n) 0 1 5) :=
 congrArg (fun k => D58 r n bIx x0 k) (cWb r n)
theorem cQu : D58 r n aTs x0 r58 = (K2 (bGm r n) 0 1) :=
 (bMe r n).trans
 ((by kernel_rfl))
theorem cSd : D58 r n c58 x0 r58 = D58 r n bXw x0 (K2 (bGm r n) 0 1) :=
 congrArg (fun k => D58 r n bXw x0 k) (cQu r n)
theorem dIr : D58 r n c58 x0 r58 = (K2 (s58 r n) 0 1) :=
 (cSd r n).trans
 ((by kernel_rfl))
theorem dEx : aF CF r n 58 args h = s58 r n (aW args 0) (aW args 1) h :=
 (by kernel_rfl : aF CF r n 58 args h = D58 r n c58 x0 r58 (aJ args) h).trans ((congrFun (congrFun (dIr r n) (aJ args)) h).trans (by kernel_rfl))
noncomputable def s60 (r : RT) (n : Nat) (x0 x1 : DV) (h0 : Hp) : aH :=
 bnd (aD .lss x1 (.i .i64 (Int.negSucc 1152921504606846975)) h0) fun v1 h1 =>
 bnd (gD v1 false (some (x1, h1)) h1) fun v2 h2 =>
 bnd (gD v1 false (aD .gtr v2 (.i .i64 (Int.ofNat 1152921504606846976)) h2) h2) fun v3 h3 =>
 bnd (aQ v1 (.b true) v3 h3) fun v4 h4 =>
 aX v4 (
 some (.t [(.i .i64 (Int.ofNat 0)), (.i .i64 (Int.ofNat 2))], h4)) (
 bnd (iI [x1] h4) fun v5 h5 =>
 bnd (aC 0 v5 h5) fun v6 h6 =>
 bnd (aC 1 v5 h6) fun v7 h7 =>
 aX v7 (
 some (.t [v6, (.i .i64 (Int.ofNat 0))], h7)) (
 bnd (r 34 [x0, (.i .i64 (Int.ofNat 8))] h7) fun v8 h8 =>
 bnd (aN [(.i .i64 (Int.ofNat 0))] 1 [(0, 1, x1)] h8) fun v9 h9 =>
 bnd (r 87 [x0, v8, (.i .i64 (Int.ofNat 1)), v9] h9) fun v10 h10 =>
 bnd (aC 0 v10 h10) fun v11 h11 =>
 bnd (aC 1 v10 h11) fun v12 h12 =>
 some (.t [v11, v12], h12)))
noncomputable abbrev c60 : Code := cf Tryz.f60
noncomputable abbrev r60 : K := aV CF Tryz.f60
noncomputable def D60 (r : RT) (n : Nat) (c : Code) (X : Nat → K) (k : K) : K := aP CF r 29 n c X r60 k
theorem dJa : D60 r n c60 x0 r60 = (K2 (s60 r n) 0 1) :=
 (by kernel_rfl)
theorem cNq : aF CF r n 60 args h = s60 r n (aW args 0) (aW args 1) h :=
 (by kernel_rfl : aF CF r n 60 args h = D60 r n c60 x0 r60 (aJ args) h).trans ((congrFun (congrFun (dJa r n) (aJ args)) h).trans (by kernel_rfl))
noncomputable def s61 (r : RT) (n : Nat) (x0 x1 : DV) (h0 : Hp) : aH :=
 bnd (r 110 [x0, x1] h0) fun v1 h1 =>
 bnd (jE .not v1 h1) fun v2 h2 =>
 aX v2 (
 some ((.s []), h2)) (
 bnd (r 111 [x0, x1, (aG 0)] h2) fun v3 h3 =>
 bnd (r 72 [x0, v3] h3) fun v4 h4 =>
 bnd (aC 0 v4 h4) fun v5 h5 =>
 bnd (aC 1 v4 h5) fun v6 h6 =>
 some (v5, h6))
noncomputable abbrev c61 : Code := cf Tryz.f61
noncomputable abbrev r61 : K := aV CF Tryz.f61
noncomputable def D61 (r : RT) (n : Nat) (c : Code) (X : Nat → K) (k : K) : K := aP CF r 20 n c X r61 k
theorem dHv : D61 r n c61 x0 r61 = (K2 (s61 r n) 0 1) :=
 (by kernel_rfl)
theorem dCd : aF CF r n 61 args h = s61 r n (aW args 0) (aW args 1) h :=
 (by kernel_rfl : aF CF r n 61 args h = D61 r n c61 x0 r61 (aJ args) h).trans ((congrFun (congrFun (dHv r n) (aJ args)) h).trans (by kernel_rfl))
noncomputable def s63 (r : RT) (n : Nat) (x0 x1 : DV) (h0 : Hp) : aH :=
 bnd (bU x0 h0) fun v1 h1 =>
 bnd (aK 6 v1 h1) fun v2 h2 =>
 bnd (r 116 [v2, x1] h2) fun v3 h3 =>
 bnd (aC 0 v3 h3) fun v4 h4 =>
 bnd (aC 1 v3 h4) fun v5 h5 =>
 some (v5, h5)
noncomputable abbrev c63 : Code := cf Tryz.f63
noncomputable abbrev r63 : K := aV CF Tryz.f63
noncomputable def D63 (r : RT) (n : Nat) (c : Code) (X : Nat → K) (k : K) : K := aP CF r 14 n c X r63 k
theorem dLw : D63 r n c63 x0 r63 = (K2 (s63 r n) 0 1) :=
 (by kernel_rfl)
theorem cMn : aF CF r n 63 args h = s63 r n (aW args 0) (aW args 1) h :=
 (by kernel_rfl : aF CF r n 63 args h = D63 r n c63 x0 r63 (aJ args) h).trans ((congrFun (congrFun (dLw r n) (aJ args)) h).trans (by kernel_rfl))
noncomputable def fW (r : RT) (n : Nat) (x0 x6 : DV) (h0 : Hp) : aH :=
 bnd (r 36 [x0, x6] h0) fun v1 h1 =>
 bnd (aC 0 v1 h1) fun v2 h2 =>
 bnd (aC 1 v1 h2) fun v3 h3 =>
 some (.t [v2, v3], h3)
noncomputable def oO (r : RT) (n : Nat) (kk6 : bT) (x0 x6 x38 x39 x40 : DV) (h0 : Hp) : aH :=
 bnd (aD .lss x40 x39 h0) fun v1 h1 =>
 aX v1 (
 bnd (aE 4 x38 x40 h1) fun v2 h2 =>
 bnd (aK 4 v2 h2) fun v3 h3 =>
 bnd (bY [(aG 0), (.s []), (aG 0), .l0] h3) fun v4 h4 =>
 bnd (aI 4 v4 v3 h4) fun _ h5 =>
 bnd (aK 4 v4 h5) fun v6 h6 =>
 bnd (r 64 [x0, v6] h6) fun v7 h7 =>
 bnd (aC 0 v7 h7) fun v8 h8 =>
 bnd (aC 1 v7 h8) fun v9 h9 =>
 bnd (aD .neq v9 (aG 0) h9) fun v10 h10 =>
 aX v10 (
 some (.t [(aG 0), v9], h10)) (
 bnd (aN [(aG 0)] 1 [(0, 1, v8)] h10) fun v11 h11 =>
 bnd (aY 1 8 x6 v11 h11) fun v12 h12 =>
 bnd (aD .add x40 (aG 1) h12) fun v13 h13 =>
    kk6 x0 v12 x38 x39 v13 h13)) (
      fW r n x0 x6 h1)
noncomputable def oJ (r : RT) (n : Nat) (m : Nat) : bT :=
 Nat.rec (motive := fun _ => bT) (fun _ _ _ _ _ _ => none) (fun _ ih => oO r n ih) m
noncomputable def cMy (r : RT) (n : Nat) : bT := oJ r n n
noncomputable def bOw (r : RT) (n : Nat) (x0 x6 x38 x39 x40 : DV) (h0 : Hp) : aH :=
 cMy r n x0 x6 x38 x39 x40 h0
noncomputable def aYr (r : RT) (n : Nat) (x0 x3 x6 : DV) (h0 : Hp) : aH :=
 bnd (aB 3 x3 h0) fun v1 h1 =>
 bnd (aA v1 h1) fun v2 h2 =>
 bnd (cB v2 h2) fun v3 h3 =>
  bOw r n x0 x6 v2 v3 (aG 0) h3
noncomputable def aWz (r : RT) (n : Nat) (x0 x3 : DV) (h0 : Hp) : aH :=
 aYr r n x0 x3 .l0 h0
noncomputable def aAz (r : RT) (n : Nat) (x0 x3 : DV) (h0 : Hp) : aH :=
 bnd (aB 0 x3 h0) fun v1 h1 =>
 bnd (aA v1 h1) fun v2 h2 =>
 bnd (aD .eql v2 (aG 1) h2) fun v3 h3 =>
 aX v3 (
 bnd (aB 2 x3 h3) fun v4 h4 =>
 bnd (aA v4 h4) fun v5 h5 =>
 bnd (r 60 [x0, v5] h5) fun v6 h6 =>
 bnd (aC 0 v6 h6) fun v7 h7 =>
 bnd (aC 1 v6 h7) fun v8 h8 =>
 some (.t [v7, v8], h8)) (
 bnd (aD .eql v2 (aG 2) h3) fun v9 h9 =>
 aX v9 (
 bnd (aB 1 x3 h9) fun v10 h10 =>
 bnd (aA v10 h10) fun v11 h11 =>
 bnd (r 117 [x0, v11] h11) fun v12 h12 =>
 bnd (aC 0 v12 h12) fun v13 h13 =>
 bnd (aC 1 v12 h13) fun v14 h14 =>
 some (.t [v13, v14], h14)) (
 bnd (aD .eql v2 (aG 3) h9) fun v15 h15 =>
 aX v15 (
 bnd (aB 1 x3 h15) fun v16 h16 =>
 bnd (aA v16 h16) fun v17 h17 =>
 bnd (r 10 [x0, v17] h17) fun v18 h18 =>
 bnd (aC 0 v18 h18) fun v19 h19 =>
 bnd (aC 1 v18 h19) fun v20 h20 =>
 some (.t [v19, v20], h20)) (
    aWz r n x0 x3 h15)))
noncomputable def s64 (r : RT) (n : Nat) (x0 x1 : DV) (h0 : Hp) : aH :=
 bnd (bU x1 h0) fun v1 h1 =>
  aAz r n x0 v1 h1
noncomputable abbrev c64 : Code := cf Tryz.f64
noncomputable abbrev aTu : Code := cR c64
noncomputable abbrev aZj : Code := cR aTu
noncomputable abbrev aUf : Code := cR aZj
noncomputable abbrev dDr : Code := cR aUf
noncomputable abbrev aLg : Code := cL aUf
noncomputable abbrev bOm : Code := cR aLg
noncomputable abbrev aYs : Code := cL bOm
noncomputable abbrev tF : Code := cL aYs
noncomputable abbrev cOj : Code := cL aLg
noncomputable abbrev bHx : Code := cL aZj
noncomputable abbrev bUt : Code := cL aTu
noncomputable abbrev aOr : Code := cL c64
noncomputable abbrev r64 : K := aV CF Tryz.f64
noncomputable def D64 (r : RT) (n : Nat) (c : Code) (X : Nat → K) (k : K) : K := aP CF r 63 n c X r64 k
theorem cUk : D64 r n dDr x0 r64 = (K2 (fW r n) 0 6) :=
 (by kernel_rfl)
theorem cCr (kk6 : bT) (q0 : tS) : D64 r n tF (xs x0 1 (K2 q0 0 6)) (K5 kk6 0 6 38 39 40) = fun (env : bA) (h : Hp) =>
 bnd (aD .lss (env 40) (env 39) h) fun v1 h1 =>
 aX v1 (
 bnd (aE 4 (env 38) (env 40) h1) fun v2 h2 =>
 bnd (aK 4 v2 h2) fun v3 h3 =>
 bnd (bY [(aG 0), (.s []), (aG 0), .l0] h3) fun v4 h4 =>
 bnd (aI 4 v4 v3 h4) fun _ h5 =>
 bnd (aK 4 v4 h5) fun v6 h6 =>
 bnd (r 64 [(env 0), v6] h6) fun v7 h7 =>
 bnd (aC 0 v7 h7) fun v8 h8 =>
 bnd (aC 1 v7 h8) fun v9 h9 =>
 bnd (aD .neq v9 (aG 0) h9) fun v10 h10 =>
 aX v10 (
 some (.t [(aG 0), v9], h10)) (
 bnd (aN [(aG 0)] 1 [(0, 1, v8)] h10) fun v11 h11 =>
 bnd (aY 1 8 (env 6) v11 h11) fun v12 h12 =>
 bnd (aD .add (env 40) (aG 1) h12) fun v13 h13 =>
    kk6 (env 0) v12 (env 38) (env 39) v13 h13)) (
      q0 (env 0) (env 6) h1) := by kernel_rfl
theorem bQw (kk6 : bT) : (fun (env : bA) (h : Hp) =>
 bnd (aD .lss (env 40) (env 39) h) fun v1 h1 =>
 aX v1 (
 bnd (aE 4 (env 38) (env 40) h1) fun v2 h2 =>
 bnd (aK 4 v2 h2) fun v3 h3 =>
 bnd (bY [(aG 0), (.s []), (aG 0), .l0] h3) fun v4 h4 =>
 bnd (aI 4 v4 v3 h4) fun _ h5 =>
 bnd (aK 4 v4 h5) fun v6 h6 =>
 bnd (r 64 [(env 0), v6] h6) fun v7 h7 =>
 bnd (aC 0 v7 h7) fun v8 h8 =>
 bnd (aC 1 v7 h8) fun v9 h9 =>
 bnd (aD .neq v9 (aG 0) h9) fun v10 h10 =>
 aX v10 (
 some (.t [(aG 0), v9], h10)) (
 bnd (aN [(aG 0)] 1 [(0, 1, v8)] h10) fun v11 h11 =>
 bnd (aY 1 8 (env 6) v11 h11) fun v12 h12 =>
 bnd (aD .add (env 40) (aG 1) h12) fun v13 h13 =>
    kk6 (env 0) v12 (env 38) (env 39) v13 h13)) (
      fW r n (env 0) (env 6) h1)) = (K5 (oO r n kk6) 0 6 38 39 40) := by kernel_rfl
theorem cLg (kk6 : bT) : D64 r n tF (xs x0 1 (K2 (fW r n) 0 6)) (K5 kk6 0 6 38 39 40) = (K5 (oO r n kk6) 0 6 38 39 40) :=
 (cCr r n kk6 (fW r n)).trans (bQw r n kk6)
theorem bYw (m : Nat) : aM (fun kk => D64 r n tF (xs x0 1 (K2 (fW r n) 0 6)) kk) m = (K5 (oJ r n m) 0 6 38 39 40) := by
 induction m with
 | zero => exact (by kernel_rfl : aM (fun kk => D64 r n tF (xs x0 1 (K2 (fW r n) 0 6)) kk) 0 = (K5 (oJ r n 0) 0 6 38 39 40))
 | succ m ih =>
  refine (by kernel_rfl : aM (fun kk => D64 r n tF (xs x0 1 (K2 (fW r n) 0 6)) kk) (m + 1) = D64 r n tF (xs x0 1 (K2 (fW r n) 0 6)) (aM (fun kk => D64 r n tF (xs x0 1 (K2 (fW r n) 0 6)) kk) m)).trans ?_
  rw [ih]
  exact (cLg r n (oJ r n m)).trans (by kernel_rfl)
theorem cXw : D64 r n aYs (xs x0 1 (K2 (fW r n) 0 6)) (K2 (fW r n) 0 6) = (K5 (cMy r n) 0 6 38 39 40) :=
 (by kernel_rfl : D64 r n aYs (xs x0 1 (K2 (fW r n) 0 6)) (K2 (fW r n) 0 6) = aM (fun kk => D64 r n tF (xs x0 1 (K2 (fW r n) 0 6)) kk) n).trans ((bYw r n n).trans (by kernel_rfl))
theorem cWk : D64 r n bOm x0 (K2 (fW r n) 0 6) = (K5 (bOw r n) 0 6 38 39 40) :=
 (by kernel_rfl : D64 r n bOm x0 (K2 (fW r n) 0 6) = D64 r n aYs (xs x0 1 (K2 (fW r n) 0 6)) (K2 (fW r n) 0 6)).trans
 ((cXw r n).trans (by kernel_rfl))
theorem cAz : D64 r n aUf x0 r64 = D64 r n aLg x0 (K2 (fW r n) 0 6) :=
 congrArg (fun k => D64 r n aLg x0 k) (cUk r n)
theorem bYx : D64 r n aLg x0 (K2 (fW r n) 0 6) = D64 r n cOj x0 (K5 (bOw r n) 0 6 38 39 40) :=
 congrArg (fun k => D64 r n cOj x0 k) (cWk r n)
theorem dAf : D64 r n aUf x0 r64 = (K3 (aYr r n) 0 3 6) :=
 (cAz r n).trans
 ((bYx r n).trans
 ((by kernel_rfl)))
theorem cBh : D64 r n aZj x0 r64 = D64 r n bHx x0 (K3 (aYr r n) 0 3 6) :=
 congrArg (fun k => D64 r n bHx x0 k) (dAf r n)
theorem cQt : D64 r n aZj x0 r64 = (K2 (aWz r n) 0 3) :=
 (cBh r n).trans
 ((by kernel_rfl))
theorem cCc : D64 r n aTu x0 r64 = D64 r n bUt x0 (K2 (aWz r n) 0 3) :=
 congrArg (fun k => D64 r n bUt x0 k) (cQt r n)
theorem cSv : D64 r n aTu x0 r64 = (K2 (aAz r n) 0 3) :=
 (cCc r n).trans
 ((by kernel_rfl))
theorem dDe : D64 r n c64 x0 r64 = D64 r n aOr x0 (K2 (aAz r n) 0 3) :=
 congrArg (fun k => D64 r n aOr x0 k) (cSv r n)
theorem dGc (q0 : tS) : D64 r n aOr x0 (K2 q0 0 3) = fun (env : bA) (h : Hp) =>
 bnd (bU (env 1) h) fun v1 h1 =>
  q0 (env 0) v1 h1 := by kernel_rfl
theorem cZi : (fun (env : bA) (h : Hp) =>
 bnd (bU (env 1) h) fun v1 h1 =>
  aAz r n (env 0) v1 h1) = (K2 (s64 r n) 0 1) := by kernel_rfl
theorem dIa : D64 r n c64 x0 r64 = (K2 (s64 r n) 0 1) :=
 (dDe r n).trans
 ((dGc r n (aAz r n)).trans (cZi r n))
theorem cOn : aF CF r n 64 args h = s64 r n (aW args 0) (aW args 1) h :=
 (by kernel_rfl : aF CF r n 64 args h = D64 r n c64 x0 r64 (aJ args) h).trans ((congrFun (congrFun (dIa r n) (aJ args)) h).trans (by kernel_rfl))
noncomputable def hU (r : RT) (n : Nat) (h0 : Hp) : aH :=
 some ((.b true), h0)
noncomputable def bKo (r : RT) (n : Nat) (kk6 : jF) (x1 x2 x7 : DV) (h0 : Hp) : aH :=
 bnd (aB 5 x2 h0) fun v1 h1 =>
 bnd (aA v1 h1) fun v2 h2 =>
 bnd (cB v2 h2) fun v3 h3 =>
 bnd (aD .lss x7 v3 h3) fun v4 h4 =>
 aX v4 (
 bnd (aB 5 x2 h4) fun v5 h5 =>
 bnd (aA v5 h5) fun v6 h6 =>
 bnd (aE 3 v6 x7 h6) fun v7 h7 =>
 bnd (aK 3 v7 h7) fun v8 h8 =>
 bnd (r 119 [v8] h8) fun v9 h9 =>
 bnd (jE .not v9 h9) fun v10 h10 =>
 bnd (gD v10 false (aK 6 x2 h10) h10) fun v11 h11 =>
 bnd (gD v10 false (aB 5 x2 h11) h11) fun v12 h12 =>
 bnd (gD v10 false (aA v12 h12) h12) fun v13 h13 =>
 bnd (gD v10 false (some (x7, h13)) h13) fun v14 h14 =>
 bnd (gD v10 false (aE 3 v13 v14 h14) h14) fun v15 h15 =>
 bnd (gD v10 false (aK 3 v15 h15) h15) fun v16 h16 =>
 bnd (gD v10 false (some (x1, h16)) h16) fun v17 h17 =>
 bnd (gD v10 false (r 120 [v11, v16, v17] h17) h17) fun v18 h18 =>
 bnd (gD v10 false (jE .not v18 h18) h18) fun v19 h19 =>
 bnd (aQ v10 (.b true) v19 h19) fun v20 h20 =>
 aX v20 (
 some ((.b false), h20)) (
 bnd (aD .add x7 (aG 1) h20) fun v21 h21 =>
    kk6 x1 x2 v21 h21)) (
      hU r n h4)
noncomputable def aDe (r : RT) (n : Nat) (m : Nat) : jF :=
 Nat.rec (motive := fun _ => jF) (fun _ _ _ _ => none) (fun _ ih => bKo r n ih) m
noncomputable def cNc (r : RT) (n : Nat) : jF := aDe r n n
noncomputable def bJm (r : RT) (n : Nat) (x1 x2 x7 : DV) (h0 : Hp) : aH :=
 cNc r n x1 x2 x7 h0
noncomputable def hY (r : RT) (n : Nat) (x1 x2 : DV) (h0 : Hp) : aH :=
 bJm r n x1 x2 (aG 0) h0
noncomputable def bKx (r : RT) (n : Nat) (kk8 : jF) (x1 x2 x5 : DV) (h0 : Hp) : aH :=
 bnd (aB 4 x2 h0) fun v1 h1 =>
 bnd (aA v1 h1) fun v2 h2 =>
 bnd (cB v2 h2) fun v3 h3 =>
 bnd (aD .lss x5 v3 h3) fun v4 h4 =>
 aX v4 (
 bnd (aB 4 x2 h4) fun v5 h5 =>
 bnd (aA v5 h5) fun v6 h6 =>
 bnd (aE 4 v6 x5 h6) fun v7 h7 =>
 bnd (aK 4 v7 h7) fun v8 h8 =>
 bnd (r 118 [v8, (aG 20)] h8) fun v9 h9 =>
 bnd (jE .not v9 h9) fun v10 h10 =>
 aX v10 (
 some ((.b false), h10)) (
 bnd (aD .add x5 (aG 1) h10) fun v11 h11 =>
    kk8 x1 x2 v11 h11)) (
      hY r n x1 x2 h4)
noncomputable def yH (r : RT) (n : Nat) (m : Nat) : jF :=
 Nat.rec (motive := fun _ => jF) (fun _ _ _ _ => none) (fun _ ih => bKx r n ih) m
noncomputable def cOa (r : RT) (n : Nat) : jF := yH r n n
noncomputable def bJj (r : RT) (n : Nat) (x1 x2 x5 : DV) (h0 : Hp) : aH :=
 cOa r n x1 x2 x5 h0
noncomputable def bRu (r : RT) (n : Nat) (x1 x2 : DV) (h0 : Hp) : aH :=
 bJj r n x1 x2 (aG 0) h0
noncomputable def aKx (r : RT) (n : Nat) (x1 x2 : DV) (h0 : Hp) : aH :=
 bnd (aD .lss x1 (aG 0) h0) fun v1 h1 =>
 bnd (gD v1 false (some (x1, h1)) h1) fun v2 h2 =>
 bnd (gD v1 false (aD .gtr v2 (aG 8) h2) h2) fun v3 h3 =>
 bnd (aQ v1 (.b true) v3 h3) fun v4 h4 =>
 bnd (gD v4 false (aB 0 x2 h4) h4) fun v5 h5 =>
 bnd (gD v4 false (aA v5 h5) h5) fun v6 h6 =>
 bnd (gD v4 false (dN v6 h6) h6) fun v7 h7 =>
 bnd (gD v4 false (aD .lss v7 (aG 1) h7) h7) fun v8 h8 =>
 bnd (aQ v4 (.b true) v8 h8) fun v9 h9 =>
 bnd (gD v9 false (aB 0 x2 h9) h9) fun v10 h10 =>
 bnd (gD v9 false (aA v10 h10) h10) fun v11 h11 =>
 bnd (gD v9 false (dN v11 h11) h11) fun v12 h12 =>
 bnd (gD v9 false (aD .gtr v12 (aG 60) h12) h12) fun v13 h13 =>
 bnd (aQ v9 (.b true) v13 h13) fun v14 h14 =>
 bnd (gD v14 false (aB 1 x2 h14) h14) fun v15 h15 =>
 bnd (gD v14 false (aA v15 h15) h15) fun v16 h16 =>
 bnd (gD v14 false (aD .lss v16 (aG 0) h16) h16) fun v17 h17 =>
 bnd (aQ v14 (.b true) v17 h17) fun v18 h18 =>
 bnd (gD v18 false (aB 1 x2 h18) h18) fun v19 h19 =>
 bnd (gD v18 false (aA v19 h19) h19) fun v20 h20 =>
 bnd (gD v18 false (aD .gtr v20 (aG 4) h20) h20) fun v21 h21 =>
 bnd (aQ v18 (.b true) v21 h21) fun v22 h22 =>
 bnd (gD v22 false (aB 2 x2 h22) h22) fun v23 h23 =>
 bnd (gD v22 false (aA v23 h23) h23) fun v24 h24 =>
 bnd (gD v22 false (aB 1 x2 h24) h24) fun v25 h25 =>
 bnd (gD v22 false (aA v25 h25) h25) fun v26 h26 =>
 bnd (gD v22 false (aD .lss v24 v26 h26) h26) fun v27 h27 =>
 bnd (aQ v22 (.b true) v27 h27) fun v28 h28 =>
 bnd (gD v28 false (aB 2 x2 h28) h28) fun v29 h29 =>
 bnd (gD v28 false (aA v29 h29) h29) fun v30 h30 =>
 bnd (gD v28 false (aD .gtr v30 (aG 24) h30) h30) fun v31 h31 =>
 bnd (aQ v28 (.b true) v31 h31) fun v32 h32 =>
 bnd (gD v32 false (aB 3 x2 h32) h32) fun v33 h33 =>
 bnd (gD v32 false (aA v33 h33) h33) fun v34 h34 =>
 bnd (gD v32 false (aD .lss v34 (aG 0) h34) h34) fun v35 h35 =>
 bnd (aQ v32 (.b true) v35 h35) fun v36 h36 =>
 bnd (gD v36 false (aB 3 x2 h36) h36) fun v37 h37 =>
 bnd (gD v36 false (aA v37 h37) h37) fun v38 h38 =>
 bnd (gD v36 false (aD .gtr v38 (aG 255) h38) h38) fun v39 h39 =>
 bnd (aQ v36 (.b true) v39 h39) fun v40 h40 =>
 bnd (gD v40 false (aB 4 x2 h40) h40) fun v41 h41 =>
 bnd (gD v40 false (aA v41 h41) h41) fun v42 h42 =>
 bnd (gD v40 false (cB v42 h42) h42) fun v43 h43 =>
 bnd (gD v40 false (aD .gtr v43 (aG 60) h43) h43) fun v44 h44 =>
 bnd (aQ v40 (.b true) v44 h44) fun v45 h45 =>
 bnd (gD v45 false (aB 5 x2 h45) h45) fun v46 h46 =>
 bnd (gD v45 false (aA v46 h46) h46) fun v47 h47 =>
 bnd (gD v45 false (cB v47 h47) h47) fun v48 h48 =>
 bnd (gD v45 false (aD .lss v48 (aG 1) h48) h48) fun v49 h49 =>
 bnd (aQ v45 (.b true) v49 h49) fun v50 h50 =>
 bnd (gD v50 false (aB 5 x2 h50) h50) fun v51 h51 =>
 bnd (gD v50 false (aA v51 h51) h51) fun v52 h52 =>
 bnd (gD v50 false (cB v52 h52) h52) fun v53 h53 =>
 bnd (gD v50 false (aD .gtr v53 (aG 400) h53) h53) fun v54 h54 =>
 bnd (aQ v50 (.b true) v54 h54) fun v55 h55 =>
 aX v55 (
 some ((.b false), h55)) (
  bRu r n x1 x2 h55)
noncomputable def s65 (r : RT) (n : Nat) (x0 x1 : DV) (h0 : Hp) : aH :=
 bnd (bU x0 h0) fun v1 h1 =>
  aKx r n x1 v1 h1
noncomputable abbrev c65 : Code := cf Tryz.f65
noncomputable abbrev aYy : Code := cR c65
noncomputable abbrev aWr : Code := cR aYy
noncomputable abbrev aXt : Code := cR aWr
noncomputable abbrev dFc : Code := cR aXt
noncomputable abbrev aLa : Code := cL aXt
noncomputable abbrev bRp : Code := cR aLa
noncomputable abbrev aUj : Code := cL bRp
noncomputable abbrev yG : Code := cL aUj
noncomputable abbrev cMu : Code := cL aLa
noncomputable abbrev yW : Code := cL aWr
noncomputable abbrev aOk : Code := cR yW
noncomputable abbrev aCs : Code := cL aOk
noncomputable abbrev pG : Code := cL aCs
noncomputable abbrev bHg : Code := cL yW
noncomputable abbrev bLq : Code := cL aYy
noncomputable abbrev aNq : Code := cL c65
noncomputable abbrev r65 : K := aV CF Tryz.f65
noncomputable def D65 (r : RT) (n : Nat) (c : Code) (X : Nat → K) (k : K) : K := aP CF r 118 n c X r65 k
theorem cXi : D65 r n dFc x0 r65 = (K0 (hU r n)) :=
 (by kernel_rfl)
theorem cKa (kk6 : jF) : D65 r n yG (xs x0 2 (K0 (hU r n))) (K3 kk6 1 2 7) = (K3 (bKo r n kk6) 1 2 7) :=
 (by kernel_rfl)
theorem cEc (m : Nat) : aM (fun kk => D65 r n yG (xs x0 2 (K0 (hU r n))) kk) m = (K3 (aDe r n m) 1 2 7) := by
 induction m with
 | zero => exact (by kernel_rfl : aM (fun kk => D65 r n yG (xs x0 2 (K0 (hU r n))) kk) 0 = (K3 (aDe r n 0) 1 2 7))
 | succ m ih =>
  refine (by kernel_rfl : aM (fun kk => D65 r n yG (xs x0 2 (K0 (hU r n))) kk) (m + 1) = D65 r n yG (xs x0 2 (K0 (hU r n))) (aM (fun kk => D65 r n yG (xs x0 2 (K0 (hU r n))) kk) m)).trans ?_
  rw [ih]
  exact (cKa r n (aDe r n m)).trans (by kernel_rfl)
theorem cZs : D65 r n aUj (xs x0 2 (K0 (hU r n))) (K0 (hU r n)) = (K3 (cNc r n) 1 2 7) :=
 (by kernel_rfl : D65 r n aUj (xs x0 2 (K0 (hU r n))) (K0 (hU r n)) = aM (fun kk => D65 r n yG (xs x0 2 (K0 (hU r n))) kk) n).trans ((cEc r n n).trans (by kernel_rfl))
theorem cUp : D65 r n bRp x0 (K0 (hU r n)) = (K3 (bJm r n) 1 2 7) :=
 (by kernel_rfl : D65 r n bRp x0 (K0 (hU r n)) = D65 r n aUj (xs x0 2 (K0 (hU r n))) (K0 (hU r n))).trans
 ((cZs r n).trans (by kernel_rfl))
theorem cFo : D65 r n aXt x0 r65 = D65 r n aLa x0 (K0 (hU r n)) :=
 congrArg (fun k => D65 r n aLa x0 k) (cXi r n)
theorem cIn : D65 r n aLa x0 (K0 (hU r n)) = D65 r n cMu x0 (K3 (bJm r n) 1 2 7) :=
 congrArg (fun k => D65 r n cMu x0 k) (cUp r n)
theorem cXa : D65 r n aXt x0 r65 = (K2 (hY r n) 1 2) :=
 (cFo r n).trans
 ((cIn r n).trans
 ((by kernel_rfl)))
theorem cLf (kk8 : jF) : D65 r n pG (xs x0 0 (K2 (hY r n) 1 2)) (K3 kk8 1 2 5) = (K3 (bKx r n kk8) 1 2 5) :=
 (by kernel_rfl)
theorem cAm (m : Nat) : aM (fun kk => D65 r n pG (xs x0 0 (K2 (hY r n) 1 2)) kk) m = (K3 (yH r n m) 1 2 5) := by
 induction m with
 | zero => exact (by kernel_rfl : aM (fun kk => D65 r n pG (xs x0 0 (K2 (hY r n) 1 2)) kk) 0 = (K3 (yH r n 0) 1 2 5))
 | succ m ih =>
  refine (by kernel_rfl : aM (fun kk => D65 r n pG (xs x0 0 (K2 (hY r n) 1 2)) kk) (m + 1) = D65 r n pG (xs x0 0 (K2 (hY r n) 1 2)) (aM (fun kk => D65 r n pG (xs x0 0 (K2 (hY r n) 1 2)) kk) m)).trans ?_
  rw [ih]
  exact (cLf r n (yH r n m)).trans (by kernel_rfl)
theorem cQr : D65 r n aCs (xs x0 0 (K2 (hY r n) 1 2)) (K2 (hY r n) 1 2) = (K3 (cOa r n) 1 2 5) :=
 (by kernel_rfl : D65 r n aCs (xs x0 0 (K2 (hY r n) 1 2)) (K2 (hY r n) 1 2) = aM (fun kk => D65 r n pG (xs x0 0 (K2 (hY r n) 1 2)) kk) n).trans ((cAm r n n).trans (by kernel_rfl))
theorem cUs : D65 r n aOk x0 (K2 (hY r n) 1 2) = (K3 (bJj r n) 1 2 5) :=
 (by kernel_rfl : D65 r n aOk x0 (K2 (hY r n) 1 2) = D65 r n aCs (xs x0 0 (K2 (hY r n) 1 2)) (K2 (hY r n) 1 2)).trans
 ((cQr r n).trans (by kernel_rfl))
theorem cCe : D65 r n aWr x0 r65 = D65 r n yW x0 (K2 (hY r n) 1 2) :=
 congrArg (fun k => D65 r n yW x0 k) (cXa r n)
theorem bZd : D65 r n yW x0 (K2 (hY r n) 1 2) = D65 r n bHg x0 (K3 (bJj r n) 1 2 5) :=
 congrArg (fun k => D65 r n bHg x0 k) (cUs r n)
theorem cYw : D65 r n aWr x0 r65 = (K2 (bRu r n) 1 2) :=
 (cCe r n).trans
 ((bZd r n).trans
 ((by kernel_rfl)))
theorem cEo : D65 r n aYy x0 r65 = D65 r n bLq x0 (K2 (bRu r n) 1 2) :=
 congrArg (fun k => D65 r n bLq x0 k) (cYw r n)
theorem cPu : D65 r n aYy x0 r65 = (K2 (aKx r n) 1 2) :=
 (cEo r n).trans
 ((by kernel_rfl))
theorem dDf : D65 r n c65 x0 r65 = D65 r n aNq x0 (K2 (aKx r n) 1 2) :=
 congrArg (fun k => D65 r n aNq x0 k) (cPu r n)
theorem dGe (q0 : tS) : D65 r n aNq x0 (K2 q0 1 2) = fun (env : bA) (h : Hp) =>
 bnd (bU (env 0) h) fun v1 h1 =>
  q0 (env 1) v1 h1 := by kernel_rfl
theorem cOz : (fun (env : bA) (h : Hp) =>
 bnd (bU (env 0) h) fun v1 h1 =>
  aKx r n (env 1) v1 h1) = (K2 (s65 r n) 0 1) := by kernel_rfl
theorem dKs : D65 r n c65 x0 r65 = (K2 (s65 r n) 0 1) :=
 (dDf r n).trans
 ((dGe r n (aKx r n)).trans (cOz r n))
theorem cOh : aF CF r n 65 args h = s65 r n (aW args 0) (aW args 1) h :=
 (by kernel_rfl : aF CF r n 65 args h = D65 r n c65 x0 r65 (aJ args) h).trans ((congrFun (congrFun (dKs r n) (aJ args)) h).trans (by kernel_rfl))
end Go.Dd

namespace Go.Dd
open Go.Proofs
variable (r : RT) (n : Nat) (args : List DV) (h : Hp)
noncomputable def s71 (r : RT) (n : Nat) (x0 x1 : DV) (h0 : Hp) : aH :=
 bnd (eO [x1] h0) fun v1 h1 =>
 aX v1 (
 bnd (kI [x1] h1) fun v2 h2 =>
 some (.t [v2, (.b true)], h2)) (
 bnd (aZ x0 h1) fun v3 h3 =>
 bnd (aB 0 v3 h3) fun v4 h4 =>
 bnd (aA v4 h4) fun v5 h5 =>
 bnd (isF [v5, x1] h5) fun v6 h6 =>
 bnd (gD v6 true (some (x0, h6)) h6) fun v7 h7 =>
 bnd (gD v6 true (aZ v7 h7) h7) fun v8 h8 =>
 bnd (gD v6 true (aB 0 v8 h8) h8) fun v9 h9 =>
 bnd (gD v6 true (aA v9 h9) h9) fun v10 h10 =>
 bnd (gD v6 true (some (x1, h10)) h10) fun v11 h11 =>
 bnd (gD v6 true (jJ [v10, v11] h11) h11) fun v12 h12 =>
 bnd (gD v6 true (some (x0, h12)) h12) fun v13 h13 =>
 bnd (gD v6 true (r 34 [v13, (.i .i64 (Int.ofNat 8))] h13) h13) fun v14 h14 =>
 bnd (gD v6 true (aD .eql v12 v14 h14) h14) fun v15 h15 =>
 bnd (aQ v6 v15 (.b false) h15) fun v16 h16 =>
 bnd (gD v16 true (some (x0, h16)) h16) fun v17 h17 =>
 bnd (gD v16 true (aZ v17 h17) h17) fun v18 h18 =>
 bnd (gD v16 true (aB 0 v18 h18) h18) fun v19 h19 =>
 bnd (gD v16 true (aA v19 h19) h19) fun v20 h20 =>
 bnd (gD v16 true (some (x1, h20)) h20) fun v21 h21 =>
 bnd (gD v16 true (iW [v20, v21] h21) h21) fun v22 h22 =>
 bnd (gD v16 true (aD .eql v22 (.i .i64 (Int.ofNat 1)) h22) h22) fun v23 h23 =>
 bnd (aQ v16 v23 (.b false) h23) fun v24 h24 =>
 aX v24 (
 bnd (r 111 [x0, x1, (.i .i64 (Int.ofNat 0))] h24) fun v25 h25 =>
 some (.t [v25, (.b true)], h25)) (
 some (.t [(.i .i64 (Int.ofNat 0)), (.b false)], h24)))
noncomputable abbrev c71 : Code := cf Tryz.f71
noncomputable abbrev r71 : K := aV CF Tryz.f71
noncomputable def D71 (r : RT) (n : Nat) (c : Code) (X : Nat → K) (k : K) : K := aP CF r 41 n c X r71 k
theorem dLu : D71 r n c71 x0 r71 = (K2 (s71 r n) 0 1) :=
 (by kernel_rfl)
theorem cNw : aF CF r n 71 args h = s71 r n (aW args 0) (aW args 1) h :=
 (by kernel_rfl : aF CF r n 71 args h = D71 r n c71 x0 r71 (aJ args) h).trans ((congrFun (congrFun (dLu r n) (aJ args)) h).trans (by kernel_rfl))
noncomputable def fX (r : RT) (n : Nat) (x7 : DV) (h0 : Hp) : aH :=
 bnd (gB x7 h0) fun v1 h1 =>
 some (.t [v1, (.b true)], h1)
noncomputable def oY (r : RT) (n : Nat) (kk7 : bT) (x0 x1 x7 x48 x49 : DV) (h0 : Hp) : aH :=
 bnd (aD .lss x49 x48 h0) fun v1 h1 =>
 aX v1 (
 bnd (r 111 [x0, x1, x49] h1) fun v2 h2 =>
 bnd (dU .u8 v2 h2) fun v3 h3 =>
 bnd (aN [(.i .u8 (Int.ofNat 0))] 1 [(0, 1, v3)] h3) fun v4 h4 =>
 bnd (aY 1 1 x7 v4 h4) fun v5 h5 =>
 bnd (aD .add x49 (.i .i64 (Int.ofNat 1)) h5) fun v6 h6 =>
      kk7 x0 x1 v5 x48 v6 h6) (
      fX r n x7 h1)
noncomputable def pA (r : RT) (n : Nat) (m : Nat) : bT :=
 Nat.rec (motive := fun _ => bT) (fun _ _ _ _ _ _ => none) (fun _ ih => oY r n ih) m
noncomputable def bPf (r : RT) (n : Nat) : bT := pA r n n
noncomputable def aWx (r : RT) (n : Nat) (x0 x1 x7 x48 x49 : DV) (h0 : Hp) : aH :=
 bPf r n x0 x1 x7 x48 x49 h0
noncomputable def aUa (r : RT) (n : Nat) (x0 x1 x7 : DV) (h0 : Hp) : aH :=
 bnd (aZ x0 h0) fun v1 h1 =>
 bnd (aB 0 v1 h1) fun v2 h2 =>
 bnd (aA v2 h2) fun v3 h3 =>
 bnd (eJ [v3, x1] h3) fun v4 h4 =>
  aWx r n x0 x1 x7 v4 (.i .i64 (Int.ofNat 0)) h4
noncomputable def aLs (r : RT) (n : Nat) (x0 x1 : DV) (h0 : Hp) : aH :=
 aUa r n x0 x1 .l0 h0
noncomputable def aKo (r : RT) (n : Nat) (x0 x1 x6 : DV) (h0 : Hp) : aH :=
 bnd (aZ x0 h0) fun v1 h1 =>
 bnd (aB 0 v1 h1) fun v2 h2 =>
 bnd (aA v2 h2) fun v3 h3 =>
 bnd (isF [v3, x1] h3) fun v4 h4 =>
 bnd (jE .not v4 h4) fun v5 h5 =>
 bnd (gD v5 false (some (x6, h5)) h5) fun v6 h6 =>
 bnd (gD v5 false (some (x0, h6)) h6) fun v7 h7 =>
 bnd (gD v5 false (r 34 [v7, (.i .i64 (Int.ofNat 10))] h7) h7) fun v8 h8 =>
 bnd (gD v5 false (aD .neq v6 v8 h8) h8) fun v9 h9 =>
 bnd (gD v5 false (some (v9, h9)) h9) fun v10 h10 =>
 bnd (gD v10 true (some (x6, h10)) h10) fun v11 h11 =>
 bnd (gD v10 true (some (x0, h11)) h11) fun v12 h12 =>
 bnd (gD v10 true (r 34 [v12, (.i .i64 (Int.ofNat 11))] h12) h12) fun v13 h13 =>
 bnd (gD v10 true (aD .neq v11 v13 h13) h13) fun v14 h14 =>
 bnd (gD v5 false (aQ v10 v14 (.b false) h14) h14) fun v15 h15 =>
 bnd (aQ v5 (.b true) v15 h15) fun v16 h16 =>
 bnd (gD v16 false (some (x0, h16)) h16) fun v17 h17 =>
 bnd (gD v16 false (aZ v17 h17) h17) fun v18 h18 =>
 bnd (gD v16 false (aB 0 v18 h18) h18) fun v19 h19 =>
 bnd (gD v16 false (aA v19 h19) h19) fun v20 h20 =>
 bnd (gD v16 false (some (x1, h20)) h20) fun v21 h21 =>
 bnd (gD v16 false (iW [v20, v21] h21) h21) fun v22 h22 =>
 bnd (gD v16 false (aD .neq v22 (.i .i64 (Int.ofNat 2)) h22) h22) fun v23 h23 =>
 bnd (aQ v16 (.b true) v23 h23) fun v24 h24 =>
 aX v24 (
 some (.t [(.s []), (.b false)], h24)) (
  aLs r n x0 x1 h24)
noncomputable def aKu (r : RT) (n : Nat) (x0 x1 : DV) (h0 : Hp) : aH :=
 bnd (aZ x0 h0) fun v1 h1 =>
 bnd (aB 0 v1 h1) fun v2 h2 =>
 bnd (aA v2 h2) fun v3 h3 =>
 bnd (jJ [v3, x1] h3) fun v4 h4 =>
  aKo r n x0 x1 v4 h4
noncomputable def s72 (r : RT) (n : Nat) (x0 x1 : DV) (h0 : Hp) : aH :=
 aKu r n x0 x1 h0
noncomputable abbrev c72 : Code := cf Tryz.f72
noncomputable abbrev bAq : Code := cR c72
noncomputable abbrev aWp : Code := cR bAq
noncomputable abbrev aUe : Code := cR aWp
noncomputable abbrev aUh : Code := cR aUe
noncomputable abbrev dBv : Code := cR aUh
noncomputable abbrev aMq : Code := cL aUh
noncomputable abbrev bOz : Code := cR aMq
noncomputable abbrev aWy : Code := cL bOz
noncomputable abbrev tK : Code := cL aWy
noncomputable abbrev bWf : Code := cL aMq
noncomputable abbrev bLy : Code := cL aUe
noncomputable abbrev bRb : Code := cL aWp
noncomputable abbrev bUs : Code := cL bAq
noncomputable abbrev bXt : Code := cL c72
noncomputable abbrev r72 : K := aV CF Tryz.f72
noncomputable def D72 (r : RT) (n : Nat) (c : Code) (X : Nat → K) (k : K) : K := aP CF r 63 n c X r72 k
theorem cTv : D72 r n dBv x0 r72 = (K1 (fX r n) 7) :=
 (by kernel_rfl)
theorem cHn (kk7 : bT) (q0 : TT1) : D72 r n tK (xs x0 0 (K1 q0 7)) (K5 kk7 0 1 7 48 49) = fun (env : bA) (h : Hp) =>
 bnd (aD .lss (env 49) (env 48) h) fun v1 h1 =>
 aX v1 (
 bnd (r 111 [(env 0), (env 1), (env 49)] h1) fun v2 h2 =>
 bnd (dU .u8 v2 h2) fun v3 h3 =>
 bnd (aN [(.i .u8 (Int.ofNat 0))] 1 [(0, 1, v3)] h3) fun v4 h4 =>
 bnd (aY 1 1 (env 7) v4 h4) fun v5 h5 =>
 bnd (aD .add (env 49) (.i .i64 (Int.ofNat 1)) h5) fun v6 h6 =>
      kk7 (env 0) (env 1) v5 (env 48) v6 h6) (
      q0 (env 7) h1) := by kernel_rfl
theorem bRf (kk7 : bT) : (fun (env : bA) (h : Hp) =>
 bnd (aD .lss (env 49) (env 48) h) fun v1 h1 =>
 aX v1 (
 bnd (r 111 [(env 0), (env 1), (env 49)] h1) fun v2 h2 =>
 bnd (dU .u8 v2 h2) fun v3 h3 =>
 bnd (aN [(.i .u8 (Int.ofNat 0))] 1 [(0, 1, v3)] h3) fun v4 h4 =>
 bnd (aY 1 1 (env 7) v4 h4) fun v5 h5 =>
 bnd (aD .add (env 49) (.i .i64 (Int.ofNat 1)) h5) fun v6 h6 =>
      kk7 (env 0) (env 1) v5 (env 48) v6 h6) (
      fX r n (env 7) h1)) = (K5 (oY r n kk7) 0 1 7 48 49) := by kernel_rfl
theorem cJx (kk7 : bT) : D72 r n tK (xs x0 0 (K1 (fX r n) 7)) (K5 kk7 0 1 7 48 49) = (K5 (oY r n kk7) 0 1 7 48 49) :=
 (cHn r n kk7 (fX r n)).trans (bRf r n kk7)
theorem cGm (m : Nat) : aM (fun kk => D72 r n tK (xs x0 0 (K1 (fX r n) 7)) kk) m = (K5 (pA r n m) 0 1 7 48 49) := by
 induction m with
 | zero => exact (by kernel_rfl : aM (fun kk => D72 r n tK (xs x0 0 (K1 (fX r n) 7)) kk) 0 = (K5 (pA r n 0) 0 1 7 48 49))
 | succ m ih =>
  refine (by kernel_rfl : aM (fun kk => D72 r n tK (xs x0 0 (K1 (fX r n) 7)) kk) (m + 1) = D72 r n tK (xs x0 0 (K1 (fX r n) 7)) (aM (fun kk => D72 r n tK (xs x0 0 (K1 (fX r n) 7)) kk) m)).trans ?_
  rw [ih]
  exact (cJx r n (pA r n m)).trans (by kernel_rfl)
theorem cTb : D72 r n aWy (xs x0 0 (K1 (fX r n) 7)) (K1 (fX r n) 7) = (K5 (bPf r n) 0 1 7 48 49) :=
 (by kernel_rfl : D72 r n aWy (xs x0 0 (K1 (fX r n) 7)) (K1 (fX r n) 7) = aM (fun kk => D72 r n tK (xs x0 0 (K1 (fX r n) 7)) kk) n).trans ((cGm r n n).trans (by kernel_rfl))
theorem cVy : D72 r n bOz x0 (K1 (fX r n) 7) = (K5 (aWx r n) 0 1 7 48 49) :=
 (by kernel_rfl : D72 r n bOz x0 (K1 (fX r n) 7) = D72 r n aWy (xs x0 0 (K1 (fX r n) 7)) (K1 (fX r n) 7)).trans
 ((cTb r n).trans (by kernel_rfl))
theorem cGq : D72 r n aUh x0 r72 = D72 r n aMq x0 (K1 (fX r n) 7) :=
 congrArg (fun k => D72 r n aMq x0 k) (cTv r n)
theorem cJm : D72 r n aMq x0 (K1 (fX r n) 7) = D72 r n bWf x0 (K5 (aWx r n) 0 1 7 48 49) :=
 congrArg (fun k => D72 r n bWf x0 k) (cVy r n)
theorem cQw : D72 r n aUh x0 r72 = (K3 (aUa r n) 0 1 7) :=
 (cGq r n).trans
 ((cJm r n).trans
 ((by kernel_rfl)))
theorem cGi : D72 r n aUe x0 r72 = D72 r n bLy x0 (K3 (aUa r n) 0 1 7) :=
 congrArg (fun k => D72 r n bLy x0 k) (cQw r n)
theorem cUh : D72 r n aUe x0 r72 = (K2 (aLs r n) 0 1) :=
 (cGi r n).trans
 ((by kernel_rfl))
theorem cIp : D72 r n aWp x0 r72 = D72 r n bRb x0 (K2 (aLs r n) 0 1) :=
 congrArg (fun k => D72 r n bRb x0 k) (cUh r n)
theorem cVh : D72 r n aWp x0 r72 = (K3 (aKo r n) 0 1 6) :=
 (cIp r n).trans
 ((by kernel_rfl))
theorem cAq : D72 r n bAq x0 r72 = D72 r n bUs x0 (K3 (aKo r n) 0 1 6) :=
 congrArg (fun k => D72 r n bUs x0 k) (cVh r n)
theorem cQm : D72 r n bAq x0 r72 = (K2 (aKu r n) 0 1) :=
 (cAq r n).trans
 ((by kernel_rfl))
theorem dEy : D72 r n c72 x0 r72 = D72 r n bXt x0 (K2 (aKu r n) 0 1) :=
 congrArg (fun k => D72 r n bXt x0 k) (cQm r n)
theorem dIw : D72 r n c72 x0 r72 = (K2 (s72 r n) 0 1) :=
 (dEy r n).trans
 ((by kernel_rfl))
theorem bXq : aF CF r n 72 args h = s72 r n (aW args 0) (aW args 1) h :=
 (by kernel_rfl : aF CF r n 72 args h = D72 r n c72 x0 r72 (aJ args) h).trans ((congrFun (congrFun (dIw r n) (aJ args)) h).trans (by kernel_rfl))
noncomputable def s77 (r : RT) (n : Nat) (x0 x1 : DV) (h0 : Hp) : aH :=
 bnd (r 123 [x0, x1] h0) fun v1 h1 =>
 bnd (aD .geq v1 (.i .i64 (Int.ofNat 0)) h1) fun v2 h2 =>
 some (v2, h2)
noncomputable abbrev c77 : Code := cf Tryz.f77
noncomputable abbrev r77 : K := aV CF Tryz.f77
noncomputable def D77 (r : RT) (n : Nat) (c : Code) (X : Nat → K) (k : K) : K := aP CF r 9 n c X r77 k
theorem dLn : D77 r n c77 x0 r77 = (K2 (s77 r n) 0 1) :=
 (by kernel_rfl)
theorem cNt : aF CF r n 77 args h = s77 r n (aW args 0) (aW args 1) h :=
 (by kernel_rfl : aF CF r n 77 args h = D77 r n c77 x0 r77 (aJ args) h).trans ((congrFun (congrFun (dLn r n) (aJ args)) h).trans (by kernel_rfl))
noncomputable def s86 (r : RT) (n : Nat) (x0 x1 : DV) (h0 : Hp) : aH :=
 bnd (aA x1 h0) fun v1 h1 =>
 bnd (aZ v1 h1) fun v2 h2 =>
 bnd (aB 0 v2 h2) fun v3 h3 =>
 bnd (aA v3 h3) fun v4 h4 =>
 bnd (aRi [v4, x0] h4) fun v5 h5 =>
 bnd (jE .not v5 h5) fun v6 h6 =>
 some (v6, h6)
noncomputable abbrev c86 : Code := cf Tryz.f86
noncomputable abbrev r86 : K := aV CF Tryz.f86
noncomputable def D86 (r : RT) (n : Nat) (c : Code) (X : Nat → K) (k : K) : K := aP CF r 11 n c X r86 k
theorem dLo : D86 r n c86 x0 r86 = (K2 (s86 r n) 0 1) :=
 (by kernel_rfl)
theorem cMx : aF CF r n 86 args h = s86 r n (aW args 0) (aW args 1) h :=
 (by kernel_rfl : aF CF r n 86 args h = D86 r n c86 x0 r86 (aJ args) h).trans ((congrFun (congrFun (dLo r n) (aJ args)) h).trans (by kernel_rfl))
noncomputable def iC (r : RT) (n : Nat) (x10 : DV) (h0 : Hp) : aH :=
 some (.t [x10, (.i .i64 (Int.ofNat 0))], h0)
noncomputable def rT (r : RT) (n : Nat) (kk6 : bT) (x0 x10 x29 x30 x31 : DV) (h0 : Hp) : aH :=
 bnd (aD .lss x31 x30 h0) fun v1 h1 =>
 aX v1 (
 bnd (aE 1 x29 x31 h1) fun v2 h2 =>
 bnd (aA v2 h2) fun v3 h3 =>
 bnd (aZ x0 h3) fun v4 h4 =>
 bnd (aB 0 v4 h4) fun v5 h5 =>
 bnd (aA v5 h5) fun v6 h6 =>
 bnd (aAh [v6, x10, x31, v3] h6) fun v7 h7 =>
 bnd (aD .add x31 (.i .i64 (Int.ofNat 1)) h7) fun v8 h8 =>
      kk6 x0 x10 x29 x30 v8 h8) (
      iC r n x10 h1)
noncomputable def oT (r : RT) (n : Nat) (m : Nat) : bT :=
 Nat.rec (motive := fun _ => bT) (fun _ _ _ _ _ _ => none) (fun _ ih => rT r n ih) m
noncomputable def bWm (r : RT) (n : Nat) : bT := oT r n n
noncomputable def aXv (r : RT) (n : Nat) (x0 x10 x29 x30 x31 : DV) (h0 : Hp) : aH :=
 bWm r n x0 x10 x29 x30 x31 h0
noncomputable def aWg (r : RT) (n : Nat) (x0 x3 x10 : DV) (h0 : Hp) : aH :=
 bnd (cB x3 h0) fun v1 h1 =>
  aXv r n x0 x10 x3 v1 (.i .i64 (Int.ofNat 0)) h1
noncomputable def aXe (r : RT) (n : Nat) (x0 x3 x10 x11 : DV) (h0 : Hp) : aH :=
 bnd (aD .neq x11 (.i .i64 (Int.ofNat 0)) h0) fun v1 h1 =>
 aX v1 (
 some (.t [(.i .i64 (Int.ofNat 0)), x11], h1)) (
  aWg r n x0 x3 x10 h1)
noncomputable def aVo (r : RT) (n : Nat) (x0 x1 x2 x3 : DV) (h0 : Hp) : aH :=
 bnd (aZ x0 h0) fun v1 h1 =>
 bnd (aB 0 v1 h1) fun v2 h2 =>
 bnd (aA v2 h2) fun v3 h3 =>
 bnd (cB x3 h3) fun v4 h4 =>
 bnd (oD [v3, x1, x2, v4] h4) fun v5 h5 =>
 bnd (aC 0 v5 h5) fun v6 h6 =>
 bnd (aC 1 v5 h6) fun v7 h7 =>
  aXe r n x0 x3 v6 v7 h7
noncomputable def s87 (r : RT) (n : Nat) (x0 x1 x2 x3 : DV) (h0 : Hp) : aH :=
 aVo r n x0 x1 x2 x3 h0
noncomputable abbrev c87 : Code := cf Tryz.f87
noncomputable abbrev aWi : Code := cR c87
noncomputable abbrev aUu : Code := cR aWi
noncomputable abbrev aYm : Code := cR aUu
noncomputable abbrev dBn : Code := cR aYm
noncomputable abbrev aMm : Code := cL aYm
noncomputable abbrev bJi : Code := cR aMm
noncomputable abbrev aVl : Code := cL bJi
noncomputable abbrev xV : Code := cL aVl
noncomputable abbrev cOm : Code := cL aMm
noncomputable abbrev bUl : Code := cL aUu
noncomputable abbrev bHc : Code := cL aWi
noncomputable abbrev bUb : Code := cL c87
noncomputable abbrev r87 : K := aV CF Tryz.f87
noncomputable def D87 (r : RT) (n : Nat) (c : Code) (X : Nat → K) (k : K) : K := aP CF r 46 n c X r87 k
theorem cQb : D87 r n dBn x0 r87 = (K1 (iC r n) 10) :=
 (by kernel_rfl)
theorem cEl (kk6 : bT) : D87 r n xV (xs x0 0 (K1 (iC r n) 10)) (K5 kk6 0 10 29 30 31) = (K5 (rT r n kk6) 0 10 29 30 31) :=
 (by kernel_rfl)
theorem cIg (m : Nat) : aM (fun kk => D87 r n xV (xs x0 0 (K1 (iC r n) 10)) kk) m = (K5 (oT r n m) 0 10 29 30 31) := by
 induction m with
 | zero => exact (by kernel_rfl : aM (fun kk => D87 r n xV (xs x0 0 (K1 (iC r n) 10)) kk) 0 = (K5 (oT r n 0) 0 10 29 30 31))
 | succ m ih =>
  refine (by kernel_rfl : aM (fun kk => D87 r n xV (xs x0 0 (K1 (iC r n) 10)) kk) (m + 1) = D87 r n xV (xs x0 0 (K1 (iC r n) 10)) (aM (fun kk => D87 r n xV (xs x0 0 (K1 (iC r n) 10)) kk) m)).trans ?_
  rw [ih]
  exact (cEl r n (oT r n m)).trans (by kernel_rfl)
theorem cPp : D87 r n aVl (xs x0 0 (K1 (iC r n) 10)) (K1 (iC r n) 10) = (K5 (bWm r n) 0 10 29 30 31) :=
 (by kernel_rfl : D87 r n aVl (xs x0 0 (K1 (iC r n) 10)) (K1 (iC r n) 10) = aM (fun kk => D87 r n xV (xs x0 0 (K1 (iC r n) 10)) kk) n).trans ((cIg r n n).trans (by kernel_rfl))
theorem cRf : D87 r n bJi x0 (K1 (iC r n) 10) = (K5 (aXv r n) 0 10 29 30 31) :=
 (by kernel_rfl : D87 r n bJi x0 (K1 (iC r n) 10) = D87 r n aVl (xs x0 0 (K1 (iC r n) 10)) (K1 (iC r n) 10)).trans
 ((cPp r n).trans (by kernel_rfl))
theorem cDk : D87 r n aYm x0 r87 = D87 r n aMm x0 (K1 (iC r n) 10) :=
 congrArg (fun k => D87 r n aMm x0 k) (cQb r n)
theorem cLa : D87 r n aMm x0 (K1 (iC r n) 10) = D87 r n cOm x0 (K5 (aXv r n) 0 10 29 30 31) :=
 congrArg (fun k => D87 r n cOm x0 k) (cRf r n)
theorem cVw : D87 r n aYm x0 r87 = (K3 (aWg r n) 0 3 10) :=
 (cDk r n).trans
 ((cLa r n).trans
 ((by kernel_rfl)))
theorem cGl : D87 r n aUu x0 r87 = D87 r n bUl x0 (K3 (aWg r n) 0 3 10) :=
 congrArg (fun k => D87 r n bUl x0 k) (cVw r n)
theorem cRx : D87 r n aUu x0 r87 = (K4 (aXe r n) 0 3 10 11) :=
 (cGl r n).trans
 ((by kernel_rfl))
theorem cLb : D87 r n aWi x0 r87 = D87 r n bHc x0 (K4 (aXe r n) 0 3 10 11) :=
 congrArg (fun k => D87 r n bHc x0 k) (cRx r n)
theorem cRm : D87 r n aWi x0 r87 = (K4 (aVo r n) 0 1 2 3) :=
 (cLb r n).trans
 ((by kernel_rfl))
theorem dBw : D87 r n c87 x0 r87 = D87 r n bUb x0 (K4 (aVo r n) 0 1 2 3) :=
 congrArg (fun k => D87 r n bUb x0 k) (cRm r n)
theorem dLg : D87 r n c87 x0 r87 = (K4 (s87 r n) 0 1 2 3) :=
 (dBw r n).trans
 ((by kernel_rfl))
theorem cNp : aF CF r n 87 args h = s87 r n (aW args 0) (aW args 1) (aW args 2) (aW args 3) h :=
 (by kernel_rfl : aF CF r n 87 args h = D87 r n c87 x0 r87 (aJ args) h).trans ((congrFun (congrFun (dLg r n) (aJ args)) h).trans (by kernel_rfl))
noncomputable def s91 (r : RT) (n : Nat) (x0 : DV) (h0 : Hp) : aH :=
 bnd (bY tR h0) fun v1 h1 =>
 bnd (r 133 [x0, (.f 134 [] [])] h1) fun v2 h2 =>
 bnd (aC 0 v2 h2) fun v3 h3 =>
 bnd (aC 1 v2 h3) fun v4 h4 =>
 bnd (aC 2 v2 h4) fun v5 h5 =>
 bnd (aI 6 v1 v3 h5) fun _ h6 =>
 bnd (aK 6 v1 h6) fun v7 _ =>
 some (.t [v7, v4, v5], h6)
noncomputable abbrev c91 : Code := cf Tryz.f91
noncomputable abbrev r91 : K := aV CF Tryz.f91
noncomputable def D91 (r : RT) (n : Nat) (c : Code) (X : Nat → K) (k : K) : K := aP CF r 10 n c X r91 k
theorem dLt : D91 r n c91 x0 r91 = (K1 (s91 r n) 0) :=
 (by kernel_rfl)
theorem dDs : aF CF r n 91 args h = s91 r n (aW args 0) h :=
 (by kernel_rfl : aF CF r n 91 args h = D91 r n c91 x0 r91 (aJ args) h).trans ((congrFun (congrFun (dLt r n) (aJ args)) h).trans (by kernel_rfl))
noncomputable def s92 (r : RT) (n : Nat) (x0 x1 : DV) (h0 : Hp) : aH :=
 bnd (bU x0 h0) fun v1 h1 =>
 bnd (bY [(.s []), (aG 0), (aG 0), (aG 0), .l0, .l0] h1) fun v2 h2 =>
 bnd (aK 6 v1 h2) fun v3 h3 =>
 bnd (r 135 [v3, x1, (.b false)] h3) fun v4 h4 =>
 bnd (aC 0 v4 h4) fun v5 h5 =>
 bnd (aC 1 v4 h5) fun v6 h6 =>
 bnd (aC 2 v4 h6) fun v7 h7 =>
 bnd (aI 6 v2 v5 h7) fun _ h8 =>
 bnd (aK 6 v2 h8) fun v9 _ =>
 some (.t [v9, v6, v7], h8)
noncomputable abbrev c92 : Code := cf Tryz.f92
noncomputable abbrev r92 : K := aV CF Tryz.f92
noncomputable def D92 (r : RT) (n : Nat) (c : Code) (X : Nat → K) (k : K) : K := aP CF r 13 n c X r92 k
theorem dLk : D92 r n c92 x0 r92 = (K2 (s92 r n) 0 1) :=
 (by kernel_rfl)
theorem dEr : aF CF r n 92 args h = s92 r n (aW args 0) (aW args 1) h :=
 (by kernel_rfl : aF CF r n 92 args h = D92 r n c92 x0 r92 (aJ args) h).trans ((congrFun (congrFun (dLk r n) (aJ args)) h).trans (by kernel_rfl))
noncomputable def s93 (r : RT) (n : Nat) (x0 x1 x2 : DV) (h0 : Hp) : aH :=
 bnd (bU x2 h0) fun v1 h1 =>
 bnd (aK 6 v1 h1) fun v2 h2 =>
 bnd (r 136 [x0, x1, v2] h2) fun v3 h3 =>
 bnd (aC 0 v3 h3) fun v4 h4 =>
 bnd (aC 1 v3 h4) fun v5 h5 =>
 bnd (aD .neq v5 (aG 0) h5) fun v6 h6 =>
 aX v6 (
 some (.t [(aG 0), v5], h6)) (
 bnd (r 111 [x0, v4, (aG 0)] h6) fun v7 h7 =>
 bnd (r 137 [x0, x1, v7, v4] h7) fun v8 h8 =>
 bnd (aD .neq v8 (aG 0) h8) fun v9 h9 =>
 aX v9 (
 some (.t [(aG 0), v8], h9)) (
 some (.t [v4, (aG 0)], h9)))
noncomputable abbrev c93 : Code := cf Tryz.f93
noncomputable abbrev r93 : K := aV CF Tryz.f93
noncomputable def D93 (r : RT) (n : Nat) (c : Code) (X : Nat → K) (k : K) : K := aP CF r 32 n c X r93 k
theorem dMe : D93 r n c93 x0 r93 = (K3 (s93 r n) 0 1 2) :=
 (by kernel_rfl)
theorem dEq : aF CF r n 93 args h = s93 r n (aW args 0) (aW args 1) (aW args 2) h :=
 (by kernel_rfl : aF CF r n 93 args h = D93 r n c93 x0 r93 (aJ args) h).trans ((congrFun (congrFun (dMe r n) (aJ args)) h).trans (by kernel_rfl))
noncomputable def s96 (r : RT) (n : Nat) (x0 x1 : DV) (h0 : Hp) : aH :=
 bnd (r 110 [x0, x1] h0) fun v1 h1 =>
 bnd (jE .not v1 h1) fun v2 h2 =>
 aX v2 (
 some ((aG 0), h2)) (
 bnd (r 111 [x0, x1, (aG 1)] h2) fun v3 h3 =>
 some (v3, h3))
noncomputable abbrev c96 : Code := cf Tryz.f96
noncomputable abbrev r96 : K := aV CF Tryz.f96
noncomputable def D96 (r : RT) (n : Nat) (c : Code) (X : Nat → K) (k : K) : K := aP CF r 12 n c X r96 k
theorem dMi : D96 r n c96 x0 r96 = (K2 (s96 r n) 0 1) :=
 (by kernel_rfl)
theorem dHe : aF CF r n 96 args h = s96 r n (aW args 0) (aW args 1) h :=
 (by kernel_rfl : aF CF r n 96 args h = D96 r n c96 x0 r96 (aJ args) h).trans ((congrFun (congrFun (dMi r n) (aJ args)) h).trans (by kernel_rfl))
end Go.Dd

namespace Go.Dd
open Go.Proofs
variable (r : RT) (n : Nat) (args : List DV) (h : Hp)
noncomputable def s106 (r : RT) (n : Nat) (x0 x1 : DV) (h0 : Hp) : aH :=
 bnd (r 110 [x0, x1] h0) fun v1 h1 =>
 bnd (jE .not v1 h1) fun v2 h2 =>
 aX v2 (
 some ((.i .i64 (Int.negSucc 0)), h2)) (
 bnd (r 111 [x0, x1, (aG 5)] h2) fun v3 h3 =>
 bnd (kI [v3] h3) fun v4 h4 =>
 some (v4, h4))
noncomputable abbrev c106 : Code := cf Tryz.f106
noncomputable abbrev r106 : K := aV CF Tryz.f106
noncomputable def D106 (r : RT) (n : Nat) (c : Code) (X : Nat → K) (k : K) : K := aP CF r 13 n c X r106 k
theorem dEh : D106 r n c106 x0 r106 = (K2 (s106 r n) 0 1) :=
 (by kernel_rfl)
theorem cSm : aF CF r n 106 args h = s106 r n (aW args 0) (aW args 1) h :=
 (by kernel_rfl : aF CF r n 106 args h = D106 r n c106 x0 r106 (aJ args) h).trans ((congrFun (congrFun (dEh r n) (aJ args)) h).trans (by kernel_rfl))
noncomputable def s110 (r : RT) (n : Nat) (x0 x1 : DV) (h0 : Hp) : aH :=
 bnd (aZ x0 h0) fun v1 h1 =>
 bnd (aB 0 v1 h1) fun v2 h2 =>
 bnd (aA v2 h2) fun v3 h3 =>
 bnd (isF [v3, x1] h3) fun v4 h4 =>
 bnd (gD v4 true (some (x0, h4)) h4) fun v5 h5 =>
 bnd (gD v4 true (aZ v5 h5) h5) fun v6 h6 =>
 bnd (gD v4 true (aB 0 v6 h6) h6) fun v7 h7 =>
 bnd (gD v4 true (aA v7 h7) h7) fun v8 h8 =>
 bnd (gD v4 true (some (x1, h8)) h8) fun v9 h9 =>
 bnd (gD v4 true (jJ [v8, v9] h9) h9) fun v10 h10 =>
 bnd (gD v4 true (some (x0, h10)) h10) fun v11 h11 =>
 bnd (gD v4 true (r 34 [v11, (aG 1)] h11) h11) fun v12 h12 =>
 bnd (gD v4 true (aD .eql v10 v12 h12) h12) fun v13 h13 =>
 bnd (aQ v4 v13 (.b false) h13) fun v14 h14 =>
 bnd (gD v14 true (some (x0, h14)) h14) fun v15 h15 =>
 bnd (gD v14 true (aZ v15 h15) h15) fun v16 h16 =>
 bnd (gD v14 true (aB 0 v16 h16) h16) fun v17 h17 =>
 bnd (gD v14 true (aA v17 h17) h17) fun v18 h18 =>
 bnd (gD v14 true (some (x1, h18)) h18) fun v19 h19 =>
 bnd (gD v14 true (eJ [v18, v19] h19) h19) fun v20 h20 =>
 bnd (gD v14 true (aD .eql v20 (aG 6) h20) h20) fun v21 h21 =>
 bnd (aQ v14 v21 (.b false) h21) fun v22 h22 =>
 some (v22, h22)
noncomputable abbrev c110 : Code := cf Tryz.f110
noncomputable abbrev r110 : K := aV CF Tryz.f110
noncomputable def D110 (r : RT) (n : Nat) (c : Code) (X : Nat → K) (k : K) : K := aP CF r 31 n c X r110 k
theorem dBc : D110 r n c110 x0 r110 = (K2 (s110 r n) 0 1) :=
 (by kernel_rfl)
theorem cTh : aF CF r n 110 args h = s110 r n (aW args 0) (aW args 1) h :=
 (by kernel_rfl : aF CF r n 110 args h = D110 r n c110 x0 r110 (aJ args) h).trans ((congrFun (congrFun (dBc r n) (aJ args)) h).trans (by kernel_rfl))
noncomputable def s111 (r : RT) (n : Nat) (x0 x1 x2 : DV) (h0 : Hp) : aH :=
 bnd (aZ x0 h0) fun v1 h1 =>
 bnd (aB 0 v1 h1) fun v2 h2 =>
 bnd (aA v2 h2) fun v3 h3 =>
 bnd (qT [v3, x1, x2] h3) fun v4 h4 =>
 bnd (aC 0 v4 h4) fun v5 h5 =>
 bnd (aC 1 v4 h5) fun v6 h6 =>
 some (v5, h6)
noncomputable abbrev c111 : Code := cf Tryz.f111
noncomputable abbrev r111 : K := aV CF Tryz.f111
noncomputable def D111 (r : RT) (n : Nat) (c : Code) (X : Nat → K) (k : K) : K := aP CF r 20 n c X r111 k
theorem dGj : D111 r n c111 x0 r111 = (K3 (s111 r n) 0 1 2) :=
 (by kernel_rfl)
theorem aRb : aF CF r n 111 args h = s111 r n (aW args 0) (aW args 1) (aW args 2) h :=
 (by kernel_rfl : aF CF r n 111 args h = D111 r n c111 x0 r111 (aJ args) h).trans ((congrFun (congrFun (dGj r n) (aJ args)) h).trans (by kernel_rfl))
end Go.Dd

namespace Go.Dd
open Go.Proofs
variable (r : RT) (n : Nat) (args : List DV) (h : Hp)
noncomputable def eC (r : RT) (n : Nat) (x2 : DV) (h0 : Hp) : aH :=
 bnd (aB 5 x2 h0) fun v1 h1 =>
 bnd (aA v1 h1) fun v2 h2 =>
 bnd (r 147 [v2] h2) fun v3 h3 =>
 bnd (aB 5 x2 h3) fun v4 h4 =>
 bnd (aA v4 h4) fun v5 h5 =>
 bnd (r 148 [v5, v3] h5) fun v6 h6 =>
 bnd (jE .not v6 h6) fun v7 h7 =>
 aX v7 (
 some (.t [.l0, (aG 19)], h7)) (
 bnd (aB 5 x2 h7) fun v8 h8 =>
 bnd (aA v8 h8) fun v9 h9 =>
 bnd (r 149 [v9, v3] h9) fun v10 h10 =>
 bnd (aC 0 v10 h10) fun v11 h11 =>
 bnd (aC 1 v10 h11) fun v12 h12 =>
 bnd (jE .not v12 h12) fun v13 h13 =>
 aX v13 (
 some (.t [.l0, (aG 19)], h13)) (
 some (.t [v11, (aG 0)], h13)))
noncomputable def aGb (r : RT) (n : Nat) (kk7 : bT) (x1 x2 x60 x61 x62 : DV) (h0 : Hp) : aH :=
 bnd (aD .lss x62 x61 h0) fun v1 h1 =>
 aX v1 (
 bnd (aE 3 x60 x62 h1) fun v2 h2 =>
 bnd (aK 3 v2 h2) fun v3 h3 =>
 bnd (bY [(aG 0), (aG 0), (aG 0)] h3) fun v4 h4 =>
 bnd (aI 3 v4 v3 h4) fun _ h5 =>
 bnd (aK 3 v4 h5) fun v6 h6 =>
 bnd (r 145 [v6] h6) fun v7 h7 =>
 bnd (jE .not v7 h7) fun v8 h8 =>
 bnd (gD v8 false (aK 6 x2 h8) h8) fun v9 h9 =>
 bnd (gD v8 false (aK 3 v4 h9) h9) fun v10 h10 =>
 bnd (gD v8 false (some (x1, h10)) h10) fun v11 h11 =>
 bnd (gD v8 false (r 146 [v9, v10, v11] h11) h11) fun v12 h12 =>
 bnd (gD v8 false (jE .not v12 h12) h12) fun v13 h13 =>
 bnd (aQ v8 (.b true) v13 h13) fun v14 h14 =>
 aX v14 (
 some (.t [.l0, (aG 19)], h14)) (
 bnd (aD .add x62 (aG 1) h14) fun v15 h15 =>
    kk7 x1 x2 x60 x61 v15 h15)) (
      eC r n x2 h1)
noncomputable def tY (r : RT) (n : Nat) (m : Nat) : bT :=
 Nat.rec (motive := fun _ => bT) (fun _ _ _ _ _ _ => none) (fun _ ih => aGb r n ih) m
noncomputable def bFv (r : RT) (n : Nat) : bT := tY r n n
noncomputable def aNh (r : RT) (n : Nat) (x1 x2 x60 x61 x62 : DV) (h0 : Hp) : aH :=
 bFv r n x1 x2 x60 x61 x62 h0
noncomputable def aOj (r : RT) (n : Nat) (x1 x2 : DV) (h0 : Hp) : aH :=
 bnd (aB 5 x2 h0) fun v1 h1 =>
 bnd (aA v1 h1) fun v2 h2 =>
 bnd (cB v2 h2) fun v3 h3 =>
  aNh r n x1 x2 v2 v3 (aG 0) h3
noncomputable def rF (r : RT) (n : Nat) (x1 x2 x6 x7 : DV) (h0 : Hp) : aH :=
 bnd (jE .not x6 h0) fun v1 h1 =>
 bnd (gD v1 false (some (x7, h1)) h1) fun v2 h2 =>
 bnd (aQ v1 (.b true) v2 h2) fun v3 h3 =>
 bnd (gD v3 false (aB 4 x2 h3) h3) fun v4 h4 =>
 bnd (gD v3 false (aA v4 h4) h4) fun v5 h5 =>
 bnd (gD v3 false (cB v5 h5) h5) fun v6 h6 =>
 bnd (gD v3 false (aD .gtr v6 (aG 60) h6) h6) fun v7 h7 =>
 bnd (aQ v3 (.b true) v7 h7) fun v8 h8 =>
 bnd (gD v8 false (aB 5 x2 h8) h8) fun v9 h9 =>
 bnd (gD v8 false (aA v9 h9) h9) fun v10 h10 =>
 bnd (gD v8 false (cB v10 h10) h10) fun v11 h11 =>
 bnd (gD v8 false (r 141 [v11, (aG 1), (aG 400)] h11) h11) fun v12 h12 =>
 bnd (gD v8 false (jE .not v12 h12) h12) fun v13 h13 =>
 bnd (aQ v8 (.b true) v13 h13) fun v14 h14 =>
 aX v14 (
 some (.t [.l0, (aG 19)], h14)) (
  aOj r n x1 x2 h14)
noncomputable def aOi (r : RT) (n : Nat) (x1 x2 x6 : DV) (h0 : Hp) : aH :=
 bnd (aB 4 x2 h0) fun v1 h1 =>
 bnd (aA v1 h1) fun v2 h2 =>
 bnd (r 142 [v2, (.f 143 [] [])] h2) fun v3 h3 =>
  rF r n x1 x2 x6 v3 h3
noncomputable def zS (r : RT) (n : Nat) (x1 x2 : DV) (h0 : Hp) : aH :=
 bnd (r 141 [x1, (aG 0), (aG 8)] h0) fun v1 h1 =>
 bnd (gD v1 true (aB 0 x2 h1) h1) fun v2 h2 =>
 bnd (gD v1 true (aA v2 h2) h2) fun v3 h3 =>
 bnd (gD v1 true (dN v3 h3) h3) fun v4 h4 =>
 bnd (gD v1 true (r 141 [v4, (aG 1), (aG 60)] h4) h4) fun v5 h5 =>
 bnd (aQ v1 v5 (.b false) h5) fun v6 h6 =>
 bnd (gD v6 true (aB 1 x2 h6) h6) fun v7 h7 =>
 bnd (gD v6 true (aA v7 h7) h7) fun v8 h8 =>
 bnd (gD v6 true (r 141 [v8, (aG 0), (aG 4)] h8) h8) fun v9 h9 =>
 bnd (aQ v6 v9 (.b false) h9) fun v10 h10 =>
 bnd (gD v10 true (aB 2 x2 h10) h10) fun v11 h11 =>
 bnd (gD v10 true (aA v11 h11) h11) fun v12 h12 =>
 bnd (gD v10 true (aB 1 x2 h12) h12) fun v13 h13 =>
 bnd (gD v10 true (aA v13 h13) h13) fun v14 h14 =>
 bnd (gD v10 true (r 141 [v12, v14, (aG 24)] h14) h14) fun v15 h15 =>
 bnd (aQ v10 v15 (.b false) h15) fun v16 h16 =>
 bnd (gD v16 true (aB 3 x2 h16) h16) fun v17 h17 =>
 bnd (gD v16 true (aA v17 h17) h17) fun v18 h18 =>
 bnd (gD v16 true (r 141 [v18, (aG 0), (aG 255)] h18) h18) fun v19 h19 =>
 bnd (aQ v16 v19 (.b false) h19) fun v20 h20 =>
  aOi r n x1 x2 v20 h20
noncomputable def s116 (r : RT) (n : Nat) (x0 x1 : DV) (h0 : Hp) : aH :=
 bnd (bU x0 h0) fun v1 h1 =>
  zS r n x1 v1 h1
noncomputable abbrev c116 : Code := cf Tryz.f116
noncomputable abbrev aGe : Code := cR c116
noncomputable abbrev aDz : Code := cR aGe
noncomputable abbrev aIr : Code := cR aDz
noncomputable abbrev aEx : Code := cR aIr
noncomputable abbrev cSe : Code := cR aEx
noncomputable abbrev yR : Code := cL aEx
noncomputable abbrev aRe : Code := cR yR
noncomputable abbrev aIy : Code := cL aRe
noncomputable abbrev nP : Code := cL aIy
noncomputable abbrev aVx : Code := cL yR
noncomputable abbrev bAd : Code := cL aIr
noncomputable abbrev aYv : Code := cL aDz
noncomputable abbrev aVe : Code := cL aGe
noncomputable abbrev aFr : Code := cL c116
noncomputable abbrev r116 : K := aV CF Tryz.f116
noncomputable def D116 (r : RT) (n : Nat) (c : Code) (X : Nat → K) (k : K) : K := aP CF r 95 n c X r116 k
theorem cMf : D116 r n cSe x0 r116 = (K1 (eC r n) 2) :=
 (by kernel_rfl)
theorem bXk (kk7 : bT) (q0 : TT1) : D116 r n nP (xs x0 0 (K1 q0 2)) (K5 kk7 1 2 60 61 62) = fun (env : bA) (h : Hp) =>
 bnd (aD .lss (env 62) (env 61) h) fun v1 h1 =>
 aX v1 (
 bnd (aE 3 (env 60) (env 62) h1) fun v2 h2 =>
 bnd (aK 3 v2 h2) fun v3 h3 =>
 bnd (bY [(aG 0), (aG 0), (aG 0)] h3) fun v4 h4 =>
 bnd (aI 3 v4 v3 h4) fun _ h5 =>
 bnd (aK 3 v4 h5) fun v6 h6 =>
 bnd (r 145 [v6] h6) fun v7 h7 =>
 bnd (jE .not v7 h7) fun v8 h8 =>
 bnd (gD v8 false (aK 6 (env 2) h8) h8) fun v9 h9 =>
 bnd (gD v8 false (aK 3 v4 h9) h9) fun v10 h10 =>
 bnd (gD v8 false (some ((env 1), h10)) h10) fun v11 h11 =>
 bnd (gD v8 false (r 146 [v9, v10, v11] h11) h11) fun v12 h12 =>
 bnd (gD v8 false (jE .not v12 h12) h12) fun v13 h13 =>
 bnd (aQ v8 (.b true) v13 h13) fun v14 h14 =>
 aX v14 (
 some (.t [.l0, (aG 19)], h14)) (
 bnd (aD .add (env 62) (aG 1) h14) fun v15 h15 =>
    kk7 (env 1) (env 2) (env 60) (env 61) v15 h15)) (
      q0 (env 2) h1) := by kernel_rfl
theorem bCs (kk7 : bT) : (fun (env : bA) (h : Hp) =>
 bnd (aD .lss (env 62) (env 61) h) fun v1 h1 =>
 aX v1 (
 bnd (aE 3 (env 60) (env 62) h1) fun v2 h2 =>
 bnd (aK 3 v2 h2) fun v3 h3 =>
 bnd (bY [(aG 0), (aG 0), (aG 0)] h3) fun v4 h4 =>
 bnd (aI 3 v4 v3 h4) fun _ h5 =>
 bnd (aK 3 v4 h5) fun v6 h6 =>
 bnd (r 145 [v6] h6) fun v7 h7 =>
 bnd (jE .not v7 h7) fun v8 h8 =>
 bnd (gD v8 false (aK 6 (env 2) h8) h8) fun v9 h9 =>
 bnd (gD v8 false (aK 3 v4 h9) h9) fun v10 h10 =>
 bnd (gD v8 false (some ((env 1), h10)) h10) fun v11 h11 =>
 bnd (gD v8 false (r 146 [v9, v10, v11] h11) h11) fun v12 h12 =>
 bnd (gD v8 false (jE .not v12 h12) h12) fun v13 h13 =>
 bnd (aQ v8 (.b true) v13 h13) fun v14 h14 =>
 aX v14 (
 some (.t [.l0, (aG 19)], h14)) (
 bnd (aD .add (env 62) (aG 1) h14) fun v15 h15 =>
    kk7 (env 1) (env 2) (env 60) (env 61) v15 h15)) (
      eC r n (env 2) h1)) = (K5 (aGb r n kk7) 1 2 60 61 62) := by kernel_rfl
theorem bXr (kk7 : bT) : D116 r n nP (xs x0 0 (K1 (eC r n) 2)) (K5 kk7 1 2 60 61 62) = (K5 (aGb r n kk7) 1 2 60 61 62) :=
 (bXk r n kk7 (eC r n)).trans (bCs r n kk7)
theorem bPh (m : Nat) : aM (fun kk => D116 r n nP (xs x0 0 (K1 (eC r n) 2)) kk) m = (K5 (tY r n m) 1 2 60 61 62) := by
 induction m with
 | zero => exact (by kernel_rfl : aM (fun kk => D116 r n nP (xs x0 0 (K1 (eC r n) 2)) kk) 0 = (K5 (tY r n 0) 1 2 60 61 62))
 | succ m ih =>
  refine (by kernel_rfl : aM (fun kk => D116 r n nP (xs x0 0 (K1 (eC r n) 2)) kk) (m + 1) = D116 r n nP (xs x0 0 (K1 (eC r n) 2)) (aM (fun kk => D116 r n nP (xs x0 0 (K1 (eC r n) 2)) kk) m)).trans ?_
  rw [ih]
  exact (bXr r n (tY r n m)).trans (by kernel_rfl)
theorem cHb : D116 r n aIy (xs x0 0 (K1 (eC r n) 2)) (K1 (eC r n) 2) = (K5 (bFv r n) 1 2 60 61 62) :=
 (by kernel_rfl : D116 r n aIy (xs x0 0 (K1 (eC r n) 2)) (K1 (eC r n) 2) = aM (fun kk => D116 r n nP (xs x0 0 (K1 (eC r n) 2)) kk) n).trans ((bPh r n n).trans (by kernel_rfl))
theorem cGn : D116 r n aRe x0 (K1 (eC r n) 2) = (K5 (aNh r n) 1 2 60 61 62) :=
 (by kernel_rfl : D116 r n aRe x0 (K1 (eC r n) 2) = D116 r n aIy (xs x0 0 (K1 (eC r n) 2)) (K1 (eC r n) 2)).trans
 ((cHb r n).trans (by kernel_rfl))
theorem bKa : D116 r n aEx x0 r116 = D116 r n yR x0 (K1 (eC r n) 2) :=
 congrArg (fun k => D116 r n yR x0 k) (cMf r n)
theorem bNb : D116 r n yR x0 (K1 (eC r n) 2) = D116 r n aVx x0 (K5 (aNh r n) 1 2 60 61 62) :=
 congrArg (fun k => D116 r n aVx x0 k) (cGn r n)
theorem bYt : D116 r n aEx x0 r116 = (K2 (aOj r n) 1 2) :=
 (bKa r n).trans
 ((bNb r n).trans
 ((by kernel_rfl)))
theorem bWc : D116 r n aIr x0 r116 = D116 r n bAd x0 (K2 (aOj r n) 1 2) :=
 congrArg (fun k => D116 r n bAd x0 k) (bYt r n)
theorem cEx : D116 r n aIr x0 r116 = (K4 (rF r n) 1 2 6 7) :=
 (bWc r n).trans
 ((by kernel_rfl))
theorem bIa : D116 r n aDz x0 r116 = D116 r n aYv x0 (K4 (rF r n) 1 2 6 7) :=
 congrArg (fun k => D116 r n aYv x0 k) (cEx r n)
theorem cCx : D116 r n aDz x0 r116 = (K3 (aOi r n) 1 2 6) :=
 (bIa r n).trans
 ((by kernel_rfl))
theorem bRw : D116 r n aGe x0 r116 = D116 r n aVe x0 (K3 (aOi r n) 1 2 6) :=
 congrArg (fun k => D116 r n aVe x0 k) (cCx r n)
theorem cGa : D116 r n aGe x0 r116 = (K2 (zS r n) 1 2) :=
 (bRw r n).trans
 ((by kernel_rfl))
theorem cPh : D116 r n c116 x0 r116 = D116 r n aFr x0 (K2 (zS r n) 1 2) :=
 congrArg (fun k => D116 r n aFr x0 k) (cGa r n)
theorem cSy (q0 : tS) : D116 r n aFr x0 (K2 q0 1 2) = fun (env : bA) (h : Hp) =>
 bnd (bU (env 0) h) fun v1 h1 =>
  q0 (env 1) v1 h1 := by kernel_rfl
theorem cKq : (fun (env : bA) (h : Hp) =>
 bnd (bU (env 0) h) fun v1 h1 =>
  zS r n (env 1) v1 h1) = (K2 (s116 r n) 0 1) := by kernel_rfl
theorem dFn : D116 r n c116 x0 r116 = (K2 (s116 r n) 0 1) :=
 (cPh r n).trans
 ((cSy r n (zS r n)).trans (cKq r n))
theorem bPq : aF CF r n 116 args h = s116 r n (aW args 0) (aW args 1) h :=
 (by kernel_rfl : aF CF r n 116 args h = D116 r n c116 x0 r116 (aJ args) h).trans ((congrFun (congrFun (dFn r n) (aJ args)) h).trans (by kernel_rfl))
noncomputable def s117 (r : RT) (n : Nat) (x0 x1 : DV) (h0 : Hp) : aH :=
 bnd (dN x1 h0) fun v1 h1 =>
 bnd (aD .gtr v1 (aG 250) h1) fun v2 h2 =>
 aX v2 (
 some (.t [(aG 0), (aG 1)], h2)) (
 bnd (r 34 [x0, (aG 10)] h2) fun v3 h3 =>
 bnd (r 43 [x0, v3, x1] h3) fun v4 h4 =>
 bnd (aC 0 v4 h4) fun v5 h5 =>
 bnd (aC 1 v4 h5) fun v6 h6 =>
 some (.t [v5, v6], h6))
noncomputable abbrev c117 : Code := cf Tryz.f117
noncomputable abbrev r117 : K := aV CF Tryz.f117
noncomputable def D117 (r : RT) (n : Nat) (c : Code) (X : Nat → K) (k : K) : K := aP CF r 16 n c X r117 k
theorem dGz : D117 r n c117 x0 r117 = (K2 (s117 r n) 0 1) :=
 (by kernel_rfl)
theorem bSj : aF CF r n 117 args h = s117 r n (aW args 0) (aW args 1) h :=
 (by kernel_rfl : aF CF r n 117 args h = D117 r n c117 x0 r117 (aJ args) h).trans ((congrFun (congrFun (dGz r n) (aJ args)) h).trans (by kernel_rfl))
noncomputable def eZ (r : RT) (n : Nat) (h0 : Hp) : aH :=
 some ((.b true), h0)
noncomputable def uB (r : RT) (n : Nat) (kk9 : jF) (x1 x2 x5 : DV) (h0 : Hp) : aH :=
 bnd (aB 3 x2 h0) fun v1 h1 =>
 bnd (aA v1 h1) fun v2 h2 =>
 bnd (cB v2 h2) fun v3 h3 =>
 bnd (aD .lss x5 v3 h3) fun v4 h4 =>
 aX v4 (
 bnd (aB 3 x2 h4) fun v5 h5 =>
 bnd (aA v5 h5) fun v6 h6 =>
 bnd (aE 4 v6 x5 h6) fun v7 h7 =>
 bnd (aK 4 v7 h7) fun v8 h8 =>
 bnd (aD .sub x1 (aG 1) h8) fun v9 h9 =>
 bnd (r 118 [v8, v9] h9) fun v10 h10 =>
 bnd (jE .not v10 h10) fun v11 h11 =>
 aX v11 (
 some ((.b false), h11)) (
 bnd (aD .add x5 (aG 1) h11) fun v12 h12 =>
    kk9 x1 x2 v12 h12)) (
      eZ r n h4)
noncomputable def nU (r : RT) (n : Nat) (m : Nat) : jF :=
 Nat.rec (motive := fun _ => jF) (fun _ _ _ _ => none) (fun _ ih => uB r n ih) m
noncomputable def bJo (r : RT) (n : Nat) : jF := nU r n n
noncomputable def aNj (r : RT) (n : Nat) (x1 x2 x5 : DV) (h0 : Hp) : aH :=
 bJo r n x1 x2 x5 h0
noncomputable def aQu (r : RT) (n : Nat) (x1 x2 : DV) (h0 : Hp) : aH :=
 aNj r n x1 x2 (aG 0) h0
noncomputable def xJ (r : RT) (n : Nat) (x1 x2 : DV) (h0 : Hp) : aH :=
 bnd (aB 0 x2 h0) fun v1 h1 =>
 bnd (aA v1 h1) fun v2 h2 =>
 bnd (aD .neq v2 (aG 4) h2) fun v3 h3 =>
 bnd (gD v3 false (aB 1 x2 h3) h3) fun v4 h4 =>
 bnd (gD v3 false (aA v4 h4) h4) fun v5 h5 =>
 bnd (gD v3 false (gC .neq v5 (.s []) h5) h5) fun v6 h6 =>
 bnd (aQ v3 (.b true) v6 h6) fun v7 h7 =>
 bnd (gD v7 false (some (x1, h7)) h7) fun v8 h8 =>
 bnd (gD v7 false (aD .eql v8 (aG 0) h8) h8) fun v9 h9 =>
 bnd (aQ v7 (.b true) v9 h9) fun v10 h10 =>
 bnd (gD v10 false (aB 3 x2 h10) h10) fun v11 h11 =>
 bnd (gD v10 false (aA v11 h11) h11) fun v12 h12 =>
 bnd (gD v10 false (cB v12 h12) h12) fun v13 h13 =>
 bnd (gD v10 false (aD .gtr v13 (aG 250) h13) h13) fun v14 h14 =>
 bnd (aQ v10 (.b true) v14 h14) fun v15 h15 =>
 aX v15 (
 some ((.b false), h15)) (
  aQu r n x1 x2 h15)
noncomputable def yB (r : RT) (n : Nat) (x1 x2 : DV) (h0 : Hp) : aH :=
 bnd (aB 0 x2 h0) fun v1 h1 =>
 bnd (aA v1 h1) fun v2 h2 =>
 bnd (aD .eql v2 (aG 3) h2) fun v3 h3 =>
 aX v3 (
 bnd (aB 3 x2 h3) fun v4 h4 =>
 bnd (aA v4 h4) fun v5 h5 =>
 bnd (cB v5 h5) fun v6 h6 =>
 bnd (aD .eql v6 (aG 0) h6) fun v7 h7 =>
 bnd (gD v7 true (aB 1 x2 h7) h7) fun v8 h8 =>
 bnd (gD v7 true (aA v8 h8) h8) fun v9 h9 =>
 bnd (gD v7 true (dN v9 h9) h9) fun v10 h10 =>
 bnd (gD v7 true (aD .geq v10 (aG 1) h10) h10) fun v11 h11 =>
 bnd (aQ v7 v11 (.b false) h11) fun v12 h12 =>
 bnd (gD v12 true (aB 1 x2 h12) h12) fun v13 h13 =>
 bnd (gD v12 true (aA v13 h13) h13) fun v14 h14 =>
 bnd (gD v12 true (dN v14 h14) h14) fun v15 h15 =>
 bnd (gD v12 true (aD .leq v15 (aG 60) h15) h15) fun v16 h16 =>
 bnd (aQ v12 v16 (.b false) h16) fun v17 h17 =>
 some (v17, h17)) (
  xJ r n x1 x2 h3)
noncomputable def yM (r : RT) (n : Nat) (x1 x2 : DV) (h0 : Hp) : aH :=
 bnd (aB 0 x2 h0) fun v1 h1 =>
 bnd (aA v1 h1) fun v2 h2 =>
 bnd (aD .eql v2 (aG 2) h2) fun v3 h3 =>
 aX v3 (
 bnd (aB 3 x2 h3) fun v4 h4 =>
 bnd (aA v4 h4) fun v5 h5 =>
 bnd (cB v5 h5) fun v6 h6 =>
 bnd (aD .eql v6 (aG 0) h6) fun v7 h7 =>
 bnd (gD v7 true (aB 1 x2 h7) h7) fun v8 h8 =>
 bnd (gD v7 true (aA v8 h8) h8) fun v9 h9 =>
 bnd (gD v7 true (dN v9 h9) h9) fun v10 h10 =>
 bnd (gD v7 true (aD .leq v10 (aG 250) h10) h10) fun v11 h11 =>
 bnd (aQ v7 v11 (.b false) h11) fun v12 h12 =>
 some (v12, h12)) (
  yB r n x1 x2 h3)
noncomputable def zN (r : RT) (n : Nat) (x1 x2 : DV) (h0 : Hp) : aH :=
 bnd (aB 2 x2 h0) fun v1 h1 =>
 bnd (aA v1 h1) fun v2 h2 =>
 bnd (aD .neq v2 (aG 0) h2) fun v3 h3 =>
 aX v3 (
 some ((.b false), h3)) (
  yM r n x1 x2 h3)
noncomputable def lB (r : RT) (n : Nat) (x1 x2 : DV) (h0 : Hp) : aH :=
 bnd (aB 0 x2 h0) fun v1 h1 =>
 bnd (aA v1 h1) fun v2 h2 =>
 bnd (aD .eql v2 (aG 1) h2) fun v3 h3 =>
 aX v3 (
 bnd (aB 1 x2 h3) fun v4 h4 =>
 bnd (aA v4 h4) fun v5 h5 =>
 bnd (gC .eql v5 (.s []) h5) fun v6 h6 =>
 bnd (gD v6 true (aB 3 x2 h6) h6) fun v7 h7 =>
 bnd (gD v6 true (aA v7 h7) h7) fun v8 h8 =>
 bnd (gD v6 true (cB v8 h8) h8) fun v9 h9 =>
 bnd (gD v6 true (aD .eql v9 (aG 0) h9) h9) fun v10 h10 =>
 bnd (aQ v6 v10 (.b false) h10) fun v11 h11 =>
 bnd (gD v11 true (aB 2 x2 h11) h11) fun v12 h12 =>
 bnd (gD v11 true (aA v12 h12) h12) fun v13 h13 =>
 bnd (gD v11 true (aD .geq v13 (.i .i64 (Int.negSucc 1152921504606846975)) h13) h13) fun v14 h14 =>
 bnd (aQ v11 v14 (.b false) h14) fun v15 h15 =>
 bnd (gD v15 true (aB 2 x2 h15) h15) fun v16 h16 =>
 bnd (gD v15 true (aA v16 h16) h16) fun v17 h17 =>
 bnd (gD v15 true (aD .leq v17 (aG 1152921504606846976) h17) h17) fun v18 h18 =>
 bnd (aQ v15 v18 (.b false) h18) fun v19 h19 =>
 some (v19, h19)) (
  zN r n x1 x2 h3)
noncomputable def s118 (r : RT) (n : Nat) (x0 x1 : DV) (h0 : Hp) : aH :=
 bnd (bU x0 h0) fun v1 h1 =>
  lB r n x1 v1 h1
noncomputable abbrev c118 : Code := cf Tryz.f118
noncomputable abbrev aJb : Code := cR c118
noncomputable abbrev aHu : Code := cR aJb
noncomputable abbrev aIn : Code := cR aHu
noncomputable abbrev aJf : Code := cR aIn
noncomputable abbrev aIh : Code := cR aJf
noncomputable abbrev aCy : Code := cR aIh
noncomputable abbrev cQq : Code := cR aCy
noncomputable abbrev zV : Code := cL aCy
noncomputable abbrev aPx : Code := cR zV
noncomputable abbrev uE : Code := cL aPx
noncomputable abbrev mO : Code := cL uE
noncomputable abbrev aYu : Code := cL zV
noncomputable abbrev bAi : Code := cL aIh
noncomputable abbrev bAg : Code := cL aJf
noncomputable abbrev aYz : Code := cL aIn
noncomputable abbrev aVt : Code := cL aHu
noncomputable abbrev aUr : Code := cL aJb
noncomputable abbrev aHo : Code := cL c118
noncomputable abbrev r118 : K := aV CF Tryz.f118
noncomputable def D118 (r : RT) (n : Nat) (c : Code) (X : Nat → K) (k : K) : K := aP CF r 99 n c X r118 k
theorem cLt : D118 r n cQq x0 r118 = (K0 (eZ r n)) :=
 (by kernel_rfl)
theorem bOl (kk9 : jF) : D118 r n mO (xs x0 0 (K0 (eZ r n))) (K3 kk9 1 2 5) = (K3 (uB r n kk9) 1 2 5) :=
 (by kernel_rfl)
theorem bVi (m : Nat) : aM (fun kk => D118 r n mO (xs x0 0 (K0 (eZ r n))) kk) m = (K3 (nU r n m) 1 2 5) := by
 induction m with
 | zero => exact (by kernel_rfl : aM (fun kk => D118 r n mO (xs x0 0 (K0 (eZ r n))) kk) 0 = (K3 (nU r n 0) 1 2 5))
 | succ m ih =>
  refine (by kernel_rfl : aM (fun kk => D118 r n mO (xs x0 0 (K0 (eZ r n))) kk) (m + 1) = D118 r n mO (xs x0 0 (K0 (eZ r n))) (aM (fun kk => D118 r n mO (xs x0 0 (K0 (eZ r n))) kk) m)).trans ?_
  rw [ih]
  exact (bOl r n (nU r n m)).trans (by kernel_rfl)
theorem cCy : D118 r n uE (xs x0 0 (K0 (eZ r n))) (K0 (eZ r n)) = (K3 (bJo r n) 1 2 5) :=
 (by kernel_rfl : D118 r n uE (xs x0 0 (K0 (eZ r n))) (K0 (eZ r n)) = aM (fun kk => D118 r n mO (xs x0 0 (K0 (eZ r n))) kk) n).trans ((bVi r n n).trans (by kernel_rfl))
theorem cLx : D118 r n aPx x0 (K0 (eZ r n)) = (K3 (aNj r n) 1 2 5) :=
 (by kernel_rfl : D118 r n aPx x0 (K0 (eZ r n)) = D118 r n uE (xs x0 0 (K0 (eZ r n))) (K0 (eZ r n))).trans
 ((cCy r n).trans (by kernel_rfl))
theorem bYa : D118 r n aCy x0 r118 = D118 r n zV x0 (K0 (eZ r n)) :=
 congrArg (fun k => D118 r n zV x0 k) (cLt r n)
theorem bQc : D118 r n zV x0 (K0 (eZ r n)) = D118 r n aYu x0 (K3 (aNj r n) 1 2 5) :=
 congrArg (fun k => D118 r n aYu x0 k) (cLx r n)
theorem cAt : D118 r n aCy x0 r118 = (K2 (aQu r n) 1 2) :=
 (bYa r n).trans
 ((bQc r n).trans
 ((by kernel_rfl)))
theorem bXj : D118 r n aIh x0 r118 = D118 r n bAi x0 (K2 (aQu r n) 1 2) :=
 congrArg (fun k => D118 r n bAi x0 k) (cAt r n)
theorem cGv : D118 r n aIh x0 r118 = (K2 (xJ r n) 1 2) :=
 (bXj r n).trans
 ((by kernel_rfl))
theorem bLk : D118 r n aJf x0 r118 = D118 r n bAg x0 (K2 (xJ r n) 1 2) :=
 congrArg (fun k => D118 r n bAg x0 k) (cGv r n)
theorem cDu : D118 r n aJf x0 r118 = (K2 (yB r n) 1 2) :=
 (bLk r n).trans
 ((by kernel_rfl))
theorem bJn : D118 r n aIn x0 r118 = D118 r n aYz x0 (K2 (yB r n) 1 2) :=
 congrArg (fun k => D118 r n aYz x0 k) (cDu r n)
theorem cAs : D118 r n aIn x0 r118 = (K2 (yM r n) 1 2) :=
 (bJn r n).trans
 ((by kernel_rfl))
theorem bMn : D118 r n aHu x0 r118 = D118 r n aVt x0 (K2 (yM r n) 1 2) :=
 congrArg (fun k => D118 r n aVt x0 k) (cAs r n)
theorem bZk : D118 r n aHu x0 r118 = (K2 (zN r n) 1 2) :=
 (bMn r n).trans
 ((by kernel_rfl))
theorem bFz : D118 r n aJb x0 r118 = D118 r n aUr x0 (K2 (zN r n) 1 2) :=
 congrArg (fun k => D118 r n aUr x0 k) (bZk r n)
theorem cAb : D118 r n aJb x0 r118 = (K2 (lB r n) 1 2) :=
 (bFz r n).trans
 ((by kernel_rfl))
theorem cSr : D118 r n c118 x0 r118 = D118 r n aHo x0 (K2 (lB r n) 1 2) :=
 congrArg (fun k => D118 r n aHo x0 k) (cAb r n)
theorem cTz (q0 : tS) : D118 r n aHo x0 (K2 q0 1 2) = fun (env : bA) (h : Hp) =>
 bnd (bU (env 0) h) fun v1 h1 =>
  q0 (env 1) v1 h1 := by kernel_rfl
theorem cHm : (fun (env : bA) (h : Hp) =>
 bnd (bU (env 0) h) fun v1 h1 =>
  lB r n (env 1) v1 h1) = (K2 (s118 r n) 0 1) := by kernel_rfl
theorem dGy : D118 r n c118 x0 r118 = (K2 (s118 r n) 0 1) :=
 (cSr r n).trans
 ((cTz r n (lB r n)).trans (cHm r n))
theorem bFs : aF CF r n 118 args h = s118 r n (aW args 0) (aW args 1) h :=
 (by kernel_rfl : aF CF r n 118 args h = D118 r n c118 x0 r118 (aJ args) h).trans ((congrFun (congrFun (dGy r n) (aJ args)) h).trans (by kernel_rfl))
noncomputable def eR (r : RT) (n : Nat) (h0 : Hp) : aH :=
 some ((.i .i64 (Int.negSucc 0)), h0)
noncomputable def kU (r : RT) (n : Nat) (kk4 : bZ) (x0 x1 x7 x8 : DV) (h0 : Hp) : aH :=
 bnd (aD .lss x8 x7 h0) fun v1 h1 =>
 aX v1 (
 bnd (aE 1 x0 x8 h1) fun v2 h2 =>
 bnd (aA v2 h2) fun v3 h3 =>
 bnd (gJ CF r x1 [v3] h3) fun v4 h4 =>
 aX v4 (
 some (x8, h4)) (
 bnd (aD .add x8 (.i .i64 (Int.ofNat 1)) h4) fun v5 h5 =>
    kk4 x0 x1 x7 v5 h5)) (
      eR r n h1)
noncomputable def kO (r : RT) (n : Nat) (m : Nat) : bZ :=
 Nat.rec (motive := fun _ => bZ) (fun _ _ _ _ _ => none) (fun _ ih => kU r n ih) m
noncomputable def aOv (r : RT) (n : Nat) : bZ := kO r n n
noncomputable def aCg (r : RT) (n : Nat) (x0 x1 x7 x8 : DV) (h0 : Hp) : aH :=
 aOv r n x0 x1 x7 x8 h0
noncomputable def aHg (r : RT) (n : Nat) (x0 x1 : DV) (h0 : Hp) : aH :=
 bnd (cB x0 h0) fun v1 h1 =>
  aCg r n x0 x1 v1 (.i .i64 (Int.ofNat 0)) h1
noncomputable def s123 (r : RT) (n : Nat) (x0 x1 : DV) (h0 : Hp) : aH :=
 aHg r n x0 x1 h0
noncomputable abbrev c123 : Code := cf Tryz.f123
noncomputable abbrev aCj : Code := cR c123
noncomputable abbrev cUz : Code := cR aCj
noncomputable abbrev zE : Code := cL aCj
noncomputable abbrev aOt : Code := cR zE
noncomputable abbrev aEl : Code := cL aOt
noncomputable abbrev oK : Code := cL aEl
noncomputable abbrev bPg : Code := cL zE
noncomputable abbrev bKm : Code := cL c123
noncomputable abbrev r123 : K := aV CF Tryz.f123
noncomputable def D123 (r : RT) (n : Nat) (c : Code) (X : Nat → K) (k : K) : K := aP CF r 19 n c X r123 k
theorem bZs : D123 r n cUz x0 r123 = (K0 (eR r n)) :=
 (by kernel_rfl)
theorem bIr (kk4 : bZ) : D123 r n oK (xs x0 0 (K0 (eR r n))) (K4 kk4 0 1 7 8) = (K4 (kU r n kk4) 0 1 7 8) :=
 (by kernel_rfl)
theorem bYe (m : Nat) : aM (fun kk => D123 r n oK (xs x0 0 (K0 (eR r n))) kk) m = (K4 (kO r n m) 0 1 7 8) := by
 induction m with
 | zero => exact (by kernel_rfl : aM (fun kk => D123 r n oK (xs x0 0 (K0 (eR r n))) kk) 0 = (K4 (kO r n 0) 0 1 7 8))
 | succ m ih =>
  refine (by kernel_rfl : aM (fun kk => D123 r n oK (xs x0 0 (K0 (eR r n))) kk) (m + 1) = D123 r n oK (xs x0 0 (K0 (eR r n))) (aM (fun kk => D123 r n oK (xs x0 0 (K0 (eR r n))) kk) m)).trans ?_
  rw [ih]
  exact (bIr r n (kO r n m)).trans (by kernel_rfl)
theorem cKu : D123 r n aEl (xs x0 0 (K0 (eR r n))) (K0 (eR r n)) = (K4 (aOv r n) 0 1 7 8) :=
 (by kernel_rfl : D123 r n aEl (xs x0 0 (K0 (eR r n))) (K0 (eR r n)) = aM (fun kk => D123 r n oK (xs x0 0 (K0 (eR r n))) kk) n).trans ((bYe r n n).trans (by kernel_rfl))
theorem cLz : D123 r n aOt x0 (K0 (eR r n)) = (K4 (aCg r n) 0 1 7 8) :=
 (by kernel_rfl : D123 r n aOt x0 (K0 (eR r n)) = D123 r n aEl (xs x0 0 (K0 (eR r n))) (K0 (eR r n))).trans
 ((cKu r n).trans (by kernel_rfl))
theorem bTw : D123 r n aCj x0 r123 = D123 r n zE x0 (K0 (eR r n)) :=
 congrArg (fun k => D123 r n zE x0 k) (bZs r n)
theorem bTu : D123 r n zE x0 (K0 (eR r n)) = D123 r n bPg x0 (K4 (aCg r n) 0 1 7 8) :=
 congrArg (fun k => D123 r n bPg x0 k) (cLz r n)
theorem cKv : D123 r n aCj x0 r123 = (K2 (aHg r n) 0 1) :=
 (bTw r n).trans
 ((bTu r n).trans
 ((by kernel_rfl)))
theorem cTt : D123 r n c123 x0 r123 = D123 r n bKm x0 (K2 (aHg r n) 0 1) :=
 congrArg (fun k => D123 r n bKm x0 k) (cKv r n)
theorem dGq : D123 r n c123 x0 r123 = (K2 (s123 r n) 0 1) :=
 (cTt r n).trans
 ((by kernel_rfl))
theorem bLr : aF CF r n 123 args h = s123 r n (aW args 0) (aW args 1) h :=
 (by kernel_rfl : aF CF r n 123 args h = D123 r n c123 x0 r123 (aJ args) h).trans ((congrFun (congrFun (dGq r n) (aJ args)) h).trans (by kernel_rfl))
end Go.Dd

namespace Go.Dd
open Go.Proofs
variable (r : RT) (n : Nat) (args : List DV) (h : Hp)
noncomputable def s132 (r : RT) (n : Nat) (x0 x1 : DV) (h0 : Hp) : aH :=
 bnd (r 110 [x0, x1] h0) fun v1 h1 =>
 bnd (jE .not v1 h1) fun v2 h2 =>
 aX v2 (
 some ((aG 0), h2)) (
 bnd (r 111 [x0, x1, (aG 2)] h2) fun v3 h3 =>
 bnd (kI [v3] h3) fun v4 h4 =>
 some (v4, h4))
noncomputable abbrev c132 : Code := cf Tryz.f132
noncomputable abbrev r132 : K := aV CF Tryz.f132
noncomputable def D132 (r : RT) (n : Nat) (c : Code) (X : Nat → K) (k : K) : K := aP CF r 13 n c X r132 k
theorem dBf : D132 r n c132 x0 r132 = (K2 (s132 r n) 0 1) :=
 (by kernel_rfl)
theorem cSh : aF CF r n 132 args h = s132 r n (aW args 0) (aW args 1) h :=
 (by kernel_rfl : aF CF r n 132 args h = D132 r n c132 x0 r132 (aJ args) h).trans ((congrFun (congrFun (dBf r n) (aJ args)) h).trans (by kernel_rfl))
noncomputable def s133 (r : RT) (n : Nat) (x0 x1 : DV) (h0 : Hp) : aH :=
 bnd (bY tR h0) fun v1 h1 =>
 bnd (r 153 [x0] h1) fun v2 h2 =>
 bnd (aC 0 v2 h2) fun v3 h3 =>
 bnd (aC 1 v2 h3) fun v4 h4 =>
 bnd (aC 2 v2 h4) fun v5 h5 =>
 bnd (aD .neq v5 (aG 0) h5) fun v6 h6 =>
 aX v6 (
 bnd (bE tR [] h6) fun v7 h7 =>
 bnd (aI 6 v1 v7 h7) fun _ h8 =>
 bnd (aK 6 v1 h8) fun v9 _ =>
 some (.t [v9, v4, v5], h8)) (
 bnd (bE [.l0, (aG 0), (aG 0), (aG 0)] [(0, 1, v3)] h6) fun v10 h10 =>
 bnd (bU v10 h10) fun v11 h11 =>
 bnd (gJ CF r x1 [v11] h11) fun v12 h12 =>
 bnd (bY tR h12) fun v13 h13 =>
 bnd (aI 6 v13 v12 h13) fun _ h14 =>
 bnd (r 154 [v11] h14) fun v15 h15 =>
 bnd (aB 4 v13 h15) fun v16 h16 =>
 bnd (aI 1 v16 v15 h16) fun _ h17 =>
 bnd (r 155 [v11] h17) fun v18 h18 =>
 bnd (aB 5 v13 h18) fun v19 h19 =>
 bnd (aI 1 v19 v18 h19) fun _ h20 =>
 bnd (r 156 [v11, (aG 0), (.s [])] h20) fun v21 h21 =>
 bnd (aZ v11 h21) fun v22 h22 =>
 bnd (aB 3 v22 h22) fun v23 h23 =>
 bnd (aA v23 h23) fun v24 h24 =>
 bnd (aD .neq v24 (aG 0) h24) fun v25 h25 =>
 aX v25 (
 bnd (bE tR [] h25) fun v26 h26 =>
 bnd (aZ v11 h26) fun v27 h27 =>
 bnd (aB 2 v27 h27) fun v28 h28 =>
 bnd (aA v28 h28) fun v29 h29 =>
 bnd (aZ v11 h29) fun v30 h30 =>
 bnd (aB 3 v30 h30) fun v31 h31 =>
 bnd (aA v31 h31) fun v32 h32 =>
 bnd (aI 6 v1 v26 h32) fun v33 h33 =>
 cnd (bM (aA v31 h33) v32 && (bM (aA v28 h33) v29 && true)) (
 bnd (aK 6 v1 h33) fun v34 _ =>
 some (.t [v34, v29, v32], h33))) (
 bnd (aK 6 v13 h25) fun v35 h35 =>
 bnd (aI 6 v1 v35 h35) fun _ h36 =>
 bnd (aK 6 v1 h36) fun v37 _ =>
 some (.t [v37, (aG 0), (aG 0)], h36)))
noncomputable abbrev c133 : Code := cf Tryz.f133
noncomputable abbrev r133 : K := aV CF Tryz.f133
noncomputable def D133 (r : RT) (n : Nat) (c : Code) (X : Nat → K) (k : K) : K := aP CF r 52 n c X r133 k
theorem dFo : D133 r n c133 x0 r133 = (K2 (s133 r n) 0 1) :=
 (by kernel_rfl)
theorem cZz : aF CF r n 133 args h = s133 r n (aW args 0) (aW args 1) h :=
 (by kernel_rfl : aF CF r n 133 args h = D133 r n c133 x0 r133 (aJ args) h).trans ((congrFun (congrFun (dFo r n) (aJ args)) h).trans (by kernel_rfl))
noncomputable def s134 (r : RT) (n : Nat) (x0 : DV) (h0 : Hp) : aH :=
 bnd (bY tR h0) fun v1 h1 =>
 bnd (bE tR [(0, 1, (aG 11))] h1) fun v2 h2 =>
 bnd (bY tR h2) fun v3 h3 =>
 bnd (aI 6 v3 v2 h3) fun _ h4 =>
 bnd (r 157 [x0, v3] h4) fun v5 h5 =>
 bnd (r 158 [x0] h5) fun v6 h6 =>
 bnd (aB 2 v3 h6) fun v7 h7 =>
 bnd (aI 1 v7 v6 h7) fun _ h8 =>
 bnd (aK 6 v3 h8) fun v9 h9 =>
 bnd (aI 6 v1 v9 h9) fun _ h10 =>
 bnd (aK 6 v1 h10) fun v11 _ =>
 some (v11, h10)
noncomputable abbrev c134 : Code := cf Tryz.f134
noncomputable abbrev r134 : K := aV CF Tryz.f134
noncomputable def D134 (r : RT) (n : Nat) (c : Code) (X : Nat → K) (k : K) : K := aP CF r 11 n c X r134 k
theorem dHk : D134 r n c134 x0 r134 = (K1 (s134 r n) 0) :=
 (by kernel_rfl)
theorem cTf : aF CF r n 134 args h = s134 r n (aW args 0) h :=
 (by kernel_rfl : aF CF r n 134 args h = D134 r n c134 x0 r134 (aJ args) h).trans ((congrFun (congrFun (dHk r n) (aJ args)) h).trans (by kernel_rfl))
noncomputable def s136 (r : RT) (n : Nat) (x0 x1 x2 : DV) (h0 : Hp) : aH :=
 bnd (bU x2 h0) fun v1 h1 =>
 bnd (r 110 [x0, x1] h1) fun v2 h2 =>
 bnd (jE .not v2 h2) fun v3 h3 =>
 aX v3 (
 some (.t [(aG 0), (aG 24)], h3)) (
 bnd (aK 6 v1 h3) fun v4 h4 =>
 bnd (r 132 [x0, x1] h4) fun v5 h5 =>
 cnd (bM (aK 6 v1 h5) v4 && true) (
 bnd (r 63 [v4, v5] h5) fun v6 h6 =>
 bnd (aD .neq v6 (aG 0) h6) fun v7 h7 =>
 aX v7 (
 some (.t [(aG 0), v6], h7)) (
 bnd (aB 0 v1 h7) fun v8 h8 =>
 bnd (aA v8 h8) fun v9 h9 =>
 bnd (r 10 [x0, v9] h9) fun v10 h10 =>
 bnd (aC 0 v10 h10) fun v11 h11 =>
 bnd (aC 1 v10 h11) fun v12 h12 =>
 bnd (aD .neq v12 (aG 0) h12) fun v13 h13 =>
 aX v13 (
 some (.t [(aG 0), v12], h13)) (
 bnd (aB 4 v1 h13) fun v14 h14 =>
 bnd (aA v14 h14) fun v15 h15 =>
 bnd (bE [(aG 0), (.s []), (aG 0), .l0] [(0, 1, (aG 4)), (3, 1, v15)] h15) fun v16 h16 =>
 bnd (r 64 [x0, v16] h16) fun v17 h17 =>
 bnd (aC 0 v17 h17) fun v18 h18 =>
 bnd (aC 1 v17 h18) fun v19 h19 =>
 bnd (aD .neq v19 (aG 0) h19) fun v20 h20 =>
 aX v20 (
 some (.t [(aG 0), v19], h20)) (
 bnd (aB 5 v1 h20) fun v21 h21 =>
 bnd (aA v21 h21) fun v22 h22 =>
 bnd (r 160 [v22] h22) fun v23 h23 =>
 bnd (aC 0 v23 h23) fun v24 h24 =>
 bnd (aC 1 v23 h24) fun v25 h25 =>
 bnd (r 161 [x0, v24] h25) fun v26 h26 =>
 bnd (aC 0 v26 h26) fun v27 h27 =>
 bnd (aC 1 v26 h27) fun v28 h28 =>
 bnd (aD .neq v28 (aG 0) h28) fun v29 h29 =>
 aX v29 (
 some (.t [(aG 0), v28], h29)) (
 bnd (r 34 [x0, (aG 14)] (resv 1 h29)) fun v30 h30 =>
 bnd (aB 1 v1 h30) fun v31 h31 =>
 bnd (aA v31 h31) fun v32 h32 =>
 cnd (bM (aA v31 (resv 1 h29)) v32 && true) (
 bnd (r 37 [v32] h32) fun v33 h33 =>
 bnd (aB 2 v1 h33) fun v34 h34 =>
 bnd (aA v34 h34) fun v35 h35 =>
 cnd (bM (aA v34 h30) v35 && (bM (aA v34 (resv 1 h29)) v35 && true)) (
 bnd (r 37 [v35] h35) fun v36 h36 =>
 bnd (aB 3 v1 h36) fun v37 h37 =>
 bnd (aA v37 h37) fun v38 h38 =>
 cnd (bM (aA v37 h33) v38 && (bM (aA v37 h30) v38 && (bM (aA v37 (resv 1 h29)) v38 && true))) (
 bnd (r 37 [v38] h38) fun v39 h39 =>
 bnd (bL (cF 0 h29.next) [(aG 0), (aG 0), (aG 0), (aG 0), (aG 0), (aG 0), (aG 0)] 7 [(0, 1, v11), (1, 1, v33), (2, 1, v36), (3, 1, v39), (4, 1, v18), (5, 1, v27), (6, 1, x1)] h39) fun v40 h40 =>
 bnd (r 87 [x0, v30, (aG 0), v40] h40) fun v41 h41 =>
 bnd (aC 0 v41 h41) fun v42 h42 =>
 bnd (aC 1 v41 h42) fun v43 h43 =>
 some (.t [v42, v43], h43))))))))))
noncomputable abbrev c136 : Code := cf Tryz.f136
noncomputable abbrev r136 : K := aV CF Tryz.f136
noncomputable def D136 (r : RT) (n : Nat) (c : Code) (X : Nat → K) (k : K) : K := aP CF r 83 n c X r136 k
theorem dFj : D136 r n c136 x0 r136 = (K3 (s136 r n) 0 1 2) :=
 (by kernel_rfl)
theorem cYy : aF CF r n 136 args h = s136 r n (aW args 0) (aW args 1) (aW args 2) h :=
 (by kernel_rfl : aF CF r n 136 args h = D136 r n c136 x0 r136 (aJ args) h).trans ((congrFun (congrFun (dFj r n) (aJ args)) h).trans (by kernel_rfl))
noncomputable def eW (r : RT) (n : Nat) (x0 x1 x3 : DV) (h0 : Hp) : aH :=
 bnd (r 111 [x0, x1, (aG 4)] h0) fun v1 h1 =>
 bnd (r 39 [x0, x3, v1] h1) fun v2 h2 =>
 bnd (aC 0 v2 h2) fun v3 h3 =>
 bnd (aC 1 v2 h3) fun v4 h4 =>
 bnd (aD .neq v4 (aG 0) h4) fun v5 h5 =>
 aX v5 (
 some (v4, h5)) (
 bnd (aZ x0 h5) fun v6 h6 =>
 bnd (aB 0 v6 h6) fun v7 h7 =>
 bnd (aA v7 h7) fun v8 h8 =>
 bnd (aAh [v8, x1, (aG 4), v3] h8) fun v9 h9 =>
 some (v9, h9))
noncomputable def aXh (r : RT) (n : Nat) (kk5 : iL) (x0 x1 x2 x3 x9 x10 : DV) (h0 : Hp) : aH :=
 bnd (aD .gtr x10 (aG 0) h0) fun v1 h1 =>
 bnd (gD v1 true (some (x0, h1)) h1) fun v2 h2 =>
 bnd (gD v1 true (aZ v2 h2) h2) fun v3 h3 =>
 bnd (gD v1 true (aB 0 v3 h3) h3) fun v4 h4 =>
 bnd (gD v1 true (aA v4 h4) h4) fun v5 h5 =>
 bnd (gD v1 true (some (x9, h5)) h5) fun v6 h6 =>
 bnd (gD v1 true (isF [v5, v6] h6) h6) fun v7 h7 =>
 bnd (aQ v1 v7 (.b false) h7) fun v8 h8 =>
 aX v8 (
 bnd (r 111 [x0, x9, (aG 0)] h8) fun v9 h9 =>
 bnd (r 111 [x0, v9, (aG 0)] h9) fun v10 h10 =>
 bnd (aD .eql v10 x2 h10) fun v11 h11 =>
 aX v11 (
 bnd (aZ x0 h11) fun v12 h12 =>
 bnd (aB 0 v12 h12) fun v13 h13 =>
 bnd (aA v13 h13) fun v14 h14 =>
 bnd (aAh [v14, x9, (aG 0), x3] h14) fun v15 h15 =>
 some (v15, h15)) (
 bnd (r 111 [x0, x9, (aG 1)] h11) fun v16 h16 =>
 bnd (aD .sub x10 (aG 1) h16) fun v17 h17 =>
    kk5 x0 x1 x2 x3 v16 v17 h17)) (
      eW r n x0 x1 x3 h8)
noncomputable def vP (r : RT) (n : Nat) (m : Nat) : iL :=
 Nat.rec (motive := fun _ => iL) (fun _ _ _ _ _ _ _ => none) (fun _ ih => aXh r n ih) m
noncomputable def bWl (r : RT) (n : Nat) : iL := vP r n n
noncomputable def aQv (r : RT) (n : Nat) (x0 x1 x2 x3 x9 x10 : DV) (h0 : Hp) : aH :=
 bWl r n x0 x1 x2 x3 x9 x10 h0
noncomputable def aNm (r : RT) (n : Nat) (x0 x1 x2 x3 x9 : DV) (h0 : Hp) : aH :=
 bnd (aZ x0 h0) fun v1 h1 =>
 bnd (aB 0 v1 h1) fun v2 h2 =>
 bnd (aA v2 h2) fun v3 h3 =>
 bnd (aAs [v3] h3) fun v4 h4 =>
  aQv r n x0 x1 x2 x3 x9 v4 h4
noncomputable def aPo (r : RT) (n : Nat) (x0 x1 x2 x3 : DV) (h0 : Hp) : aH :=
 bnd (r 111 [x0, x1, (aG 4)] h0) fun v1 h1 =>
  aNm r n x0 x1 x2 x3 v1 h1
noncomputable def s137 (r : RT) (n : Nat) (x0 x1 x2 x3 : DV) (h0 : Hp) : aH :=
 aPo r n x0 x1 x2 x3 h0
noncomputable abbrev c137 : Code := cf Tryz.f137
noncomputable abbrev aHw : Code := cR c137
noncomputable abbrev aFi : Code := cR aHw
noncomputable abbrev cPm : Code := cR aFi
noncomputable abbrev zD : Code := cL aFi
noncomputable abbrev aSp : Code := cR zD
noncomputable abbrev aDi : Code := cL aSp
noncomputable abbrev oX : Code := cL aDi
noncomputable abbrev bIb : Code := cL zD
noncomputable abbrev bVy : Code := cL aHw
noncomputable abbrev aTt : Code := cL c137
noncomputable abbrev r137 : K := aV CF Tryz.f137
noncomputable def D137 (r : RT) (n : Nat) (c : Code) (X : Nat → K) (k : K) : K := aP CF r 69 n c X r137 k
theorem cKc : D137 r n cPm x0 r137 = (K3 (eW r n) 0 1 3) :=
 (by kernel_rfl)
theorem bMp (kk5 : iL) : D137 r n oX (xs x0 0 (K3 (eW r n) 0 1 3)) (K6 kk5 0 1 2 3 9 10) = (K6 (aXh r n kk5) 0 1 2 3 9 10) :=
 (by kernel_rfl)
theorem bXe (m : Nat) : aM (fun kk => D137 r n oX (xs x0 0 (K3 (eW r n) 0 1 3)) kk) m = (K6 (vP r n m) 0 1 2 3 9 10) := by
 induction m with
 | zero => exact (by kernel_rfl : aM (fun kk => D137 r n oX (xs x0 0 (K3 (eW r n) 0 1 3)) kk) 0 = (K6 (vP r n 0) 0 1 2 3 9 10))
 | succ m ih =>
  refine (by kernel_rfl : aM (fun kk => D137 r n oX (xs x0 0 (K3 (eW r n) 0 1 3)) kk) (m + 1) = D137 r n oX (xs x0 0 (K3 (eW r n) 0 1 3)) (aM (fun kk => D137 r n oX (xs x0 0 (K3 (eW r n) 0 1 3)) kk) m)).trans ?_
  rw [ih]
  exact (bMp r n (vP r n m)).trans (by kernel_rfl)
theorem cKp : D137 r n aDi (xs x0 0 (K3 (eW r n) 0 1 3)) (K3 (eW r n) 0 1 3) = (K6 (bWl r n) 0 1 2 3 9 10) :=
 (by kernel_rfl : D137 r n aDi (xs x0 0 (K3 (eW r n) 0 1 3)) (K3 (eW r n) 0 1 3) = aM (fun kk => D137 r n oX (xs x0 0 (K3 (eW r n) 0 1 3)) kk) n).trans ((bXe r n n).trans (by kernel_rfl))
theorem cHg : D137 r n aSp x0 (K3 (eW r n) 0 1 3) = (K6 (aQv r n) 0 1 2 3 9 10) :=
 (by kernel_rfl : D137 r n aSp x0 (K3 (eW r n) 0 1 3) = D137 r n aDi (xs x0 0 (K3 (eW r n) 0 1 3)) (K3 (eW r n) 0 1 3)).trans
 ((cKp r n).trans (by kernel_rfl))
theorem bVz : D137 r n aFi x0 r137 = D137 r n zD x0 (K3 (eW r n) 0 1 3) :=
 congrArg (fun k => D137 r n zD x0 k) (cKc r n)
theorem bOx : D137 r n zD x0 (K3 (eW r n) 0 1 3) = D137 r n bIb x0 (K6 (aQv r n) 0 1 2 3 9 10) :=
 congrArg (fun k => D137 r n bIb x0 k) (cHg r n)
theorem cJg : D137 r n aFi x0 r137 = (K5 (aNm r n) 0 1 2 3 9) :=
 (bVz r n).trans
 ((bOx r n).trans
 ((by kernel_rfl)))
theorem bXg : D137 r n aHw x0 r137 = D137 r n bVy x0 (K5 (aNm r n) 0 1 2 3 9) :=
 congrArg (fun k => D137 r n bVy x0 k) (cJg r n)
theorem bYm : D137 r n aHw x0 r137 = (K4 (aPo r n) 0 1 2 3) :=
 (bXg r n).trans
 ((by kernel_rfl))
theorem dAd : D137 r n c137 x0 r137 = D137 r n aTt x0 (K4 (aPo r n) 0 1 2 3) :=
 congrArg (fun k => D137 r n aTt x0 k) (bYm r n)
theorem dEv : D137 r n c137 x0 r137 = (K4 (s137 r n) 0 1 2 3) :=
 (dAd r n).trans
 ((by kernel_rfl))
theorem cRk : aF CF r n 137 args h = s137 r n (aW args 0) (aW args 1) (aW args 2) (aW args 3) h :=
 (by kernel_rfl : aF CF r n 137 args h = D137 r n c137 x0 r137 (aJ args) h).trans ((congrFun (congrFun (dEv r n) (aJ args)) h).trans (by kernel_rfl))
noncomputable def s141 (r : RT) (n : Nat) (x0 x1 x2 : DV) (h0 : Hp) : aH :=
 bnd (aD .geq x0 x1 h0) fun v1 h1 =>
 bnd (gD v1 true (some (x0, h1)) h1) fun v2 h2 =>
 bnd (gD v1 true (some (x2, h2)) h2) fun v3 h3 =>
 bnd (gD v1 true (aD .leq v2 v3 h3) h3) fun v4 h4 =>
 bnd (aQ v1 v4 (.b false) h4) fun v5 h5 =>
 some (v5, h5)
noncomputable abbrev c141 : Code := cf Tryz.f141
noncomputable abbrev r141 : K := aV CF Tryz.f141
noncomputable def D141 (r : RT) (n : Nat) (c : Code) (X : Nat → K) (k : K) : K := aP CF r 15 n c X r141 k
theorem dFs : D141 r n c141 x0 r141 = (K3 (s141 r n) 0 1 2) :=
 (by kernel_rfl)
theorem bWo : aF CF r n 141 args h = s141 r n (aW args 0) (aW args 1) (aW args 2) h :=
 (by kernel_rfl : aF CF r n 141 args h = D141 r n c141 x0 r141 (aJ args) h).trans ((congrFun (congrFun (dFs r n) (aJ args)) h).trans (by kernel_rfl))
noncomputable def s142 (r : RT) (n : Nat) (x0 x1 : DV) (h0 : Hp) : aH :=
 bnd (r 163 [x0, x1] h0) fun v1 h1 =>
 bnd (aD .geq v1 (aG 0) h1) fun v2 h2 =>
 some (v2, h2)
noncomputable abbrev c142 : Code := cf Tryz.f142
noncomputable abbrev r142 : K := aV CF Tryz.f142
noncomputable def D142 (r : RT) (n : Nat) (c : Code) (X : Nat → K) (k : K) : K := aP CF r 9 n c X r142 k
theorem dDx : D142 r n c142 x0 r142 = (K2 (s142 r n) 0 1) :=
 (by kernel_rfl)
theorem bJs : aF CF r n 142 args h = s142 r n (aW args 0) (aW args 1) h :=
 (by kernel_rfl : aF CF r n 142 args h = D142 r n c142 x0 r142 (aJ args) h).trans ((congrFun (congrFun (dDx r n) (aJ args)) h).trans (by kernel_rfl))
noncomputable def s143 (r : RT) (n : Nat) (x0 : DV) (h0 : Hp) : aH :=
 bnd (bU x0 h0) fun v1 h1 =>
 bnd (aK 4 v1 h1) fun v2 h2 =>
 bnd (r 144 [v2, (aG 20)] h2) fun v3 h3 =>
 bnd (jE .not v3 h3) fun v4 h4 =>
 some (v4, h4)
noncomputable abbrev c143 : Code := cf Tryz.f143
noncomputable abbrev r143 : K := aV CF Tryz.f143
noncomputable def D143 (r : RT) (n : Nat) (c : Code) (X : Nat → K) (k : K) : K := aP CF r 6 n c X r143 k
theorem dBy : D143 r n c143 x0 r143 = (K1 (s143 r n) 0) :=
 (by kernel_rfl)
theorem bKt : aF CF r n 143 args h = s143 r n (aW args 0) h :=
 (by kernel_rfl : aF CF r n 143 args h = D143 r n c143 x0 r143 (aJ args) h).trans ((congrFun (congrFun (dBy r n) (aJ args)) h).trans (by kernel_rfl))
noncomputable def s144 (r : RT) (n : Nat) (x0 x1 : DV) (h0 : Hp) : aH :=
 bnd (bU x0 h0) fun v1 h1 =>
 bnd (bU x1 h1) fun v2 h2 =>
 bnd (aB 0 v1 h2) fun v3 h3 =>
 bnd (aA v3 h3) fun v4 h4 =>
 bnd (aD .eql v4 (aG 1) h4) fun v5 h5 =>
 aX v5 (
 bnd (aB 1 v1 h5) fun v6 h6 =>
 bnd (aA v6 h6) fun v7 h7 =>
 bnd (gC .eql v7 (.s []) h7) fun v8 h8 =>
 bnd (gD v8 true (aB 3 v1 h8) h8) fun v9 h9 =>
 bnd (gD v8 true (aA v9 h9) h9) fun v10 h10 =>
 bnd (gD v8 true (cB v10 h10) h10) fun v11 h11 =>
 bnd (gD v8 true (aD .eql v11 (aG 0) h11) h11) fun v12 h12 =>
 bnd (aQ v8 v12 (.b false) h12) fun v13 h13 =>
 bnd (gD v13 true (aB 2 v1 h13) h13) fun v14 h14 =>
 bnd (gD v13 true (aA v14 h14) h14) fun v15 h15 =>
 bnd (gD v13 true (r 141 [v15, (.i .i64 (Int.negSucc 1152921504606846975)), (aG 1152921504606846976)] h15) h15) fun v16 h16 =>
 bnd (aQ v13 v16 (.b false) h16) fun v17 h17 =>
 some (v17, h17)) (
 bnd (aD .eql v4 (aG 2) h5) fun v18 h18 =>
 aX v18 (
 bnd (aB 2 v1 h18) fun v19 h19 =>
 bnd (aA v19 h19) fun v20 h20 =>
 bnd (aD .eql v20 (aG 0) h20) fun v21 h21 =>
 bnd (gD v21 true (aB 3 v1 h21) h21) fun v22 h22 =>
 bnd (gD v21 true (aA v22 h22) h22) fun v23 h23 =>
 bnd (gD v21 true (cB v23 h23) h23) fun v24 h24 =>
 bnd (gD v21 true (aD .eql v24 (aG 0) h24) h24) fun v25 h25 =>
 bnd (aQ v21 v25 (.b false) h25) fun v26 h26 =>
 bnd (gD v26 true (aB 1 v1 h26) h26) fun v27 h27 =>
 bnd (gD v26 true (aA v27 h27) h27) fun v28 h28 =>
 bnd (gD v26 true (dN v28 h28) h28) fun v29 h29 =>
 bnd (gD v26 true (aD .leq v29 (aG 250) h29) h29) fun v30 h30 =>
 bnd (aQ v26 v30 (.b false) h30) fun v31 h31 =>
 some (v31, h31)) (
 bnd (aD .eql v4 (aG 3) h18) fun v32 h32 =>
 aX v32 (
 bnd (aB 2 v1 h32) fun v33 h33 =>
 bnd (aA v33 h33) fun v34 h34 =>
 bnd (aD .eql v34 (aG 0) h34) fun v35 h35 =>
 bnd (gD v35 true (aB 3 v1 h35) h35) fun v36 h36 =>
 bnd (gD v35 true (aA v36 h36) h36) fun v37 h37 =>
 bnd (gD v35 true (cB v37 h37) h37) fun v38 h38 =>
 bnd (gD v35 true (aD .eql v38 (aG 0) h38) h38) fun v39 h39 =>
 bnd (aQ v35 v39 (.b false) h39) fun v40 h40 =>
 bnd (gD v40 true (aB 1 v1 h40) h40) fun v41 h41 =>
 bnd (gD v40 true (aA v41 h41) h41) fun v42 h42 =>
 bnd (gD v40 true (dN v42 h42) h42) fun v43 h43 =>
 bnd (gD v40 true (r 141 [v43, (aG 1), (aG 60)] h43) h43) fun v44 h44 =>
 bnd (aQ v40 v44 (.b false) h44) fun v45 h45 =>
 some (v45, h45)) (
 bnd (aD .eql v4 (aG 4) h32) fun v46 h46 =>
 aX v46 (
 bnd (aB 3 v1 h46) fun v47 h47 =>
 bnd (aA v47 h47) fun v48 h48 =>
 bnd (r 142 [v48, (.f 164 [] [v2])] h48) fun v49 h49 =>
 bnd (aB 2 v1 h49) fun v50 h50 =>
 bnd (aA v50 h50) fun v51 h51 =>
 bnd (aD .eql v51 (aG 0) h51) fun v52 h52 =>
 bnd (gD v52 true (aB 1 v1 h52) h52) fun v53 h53 =>
 bnd (gD v52 true (aA v53 h53) h53) fun v54 h54 =>
 bnd (gD v52 true (gC .eql v54 (.s []) h54) h54) fun v55 h55 =>
 bnd (aQ v52 v55 (.b false) h55) fun v56 h56 =>
 bnd (gD v56 true (aA v2 h56) h56) fun v57 h57 =>
 bnd (gD v56 true (aD .gtr v57 (aG 0) h57) h57) fun v58 h58 =>
 bnd (aQ v56 v58 (.b false) h58) fun v59 h59 =>
 bnd (gD v59 true (aB 3 v1 h59) h59) fun v60 h60 =>
 bnd (gD v59 true (aA v60 h60) h60) fun v61 h61 =>
 bnd (gD v59 true (cB v61 h61) h61) fun v62 h62 =>
 bnd (gD v59 true (aD .leq v62 (aG 250) h62) h62) fun v63 h63 =>
 bnd (aQ v59 v63 (.b false) h63) fun v64 h64 =>
 bnd (gD v64 true (some (v49, h64)) h64) fun v65 h65 =>
 bnd (gD v64 true (jE .not v65 h65) h65) fun v66 h66 =>
 bnd (aQ v64 v66 (.b false) h66) fun v67 h67 =>
 some (v67, h67)) (
 some ((.b false), h46)))))
noncomputable abbrev c144 : Code := cf Tryz.f144
noncomputable abbrev r144 : K := aV CF Tryz.f144
noncomputable def D144 (r : RT) (n : Nat) (c : Code) (X : Nat → K) (k : K) : K := aP CF r 86 n c X r144 k
theorem dBx : D144 r n c144 x0 r144 = (K2 (s144 r n) 0 1) :=
 (by kernel_rfl)
theorem bQr : aF CF r n 144 args h = s144 r n (aW args 0) (aW args 1) h :=
 (by kernel_rfl : aF CF r n 144 args h = D144 r n c144 x0 r144 (aJ args) h).trans ((congrFun (congrFun (dBx r n) (aJ args)) h).trans (by kernel_rfl))
noncomputable def s145 (r : RT) (n : Nat) (x0 : DV) (h0 : Hp) : aH :=
 bnd (bU x0 h0) fun v1 h1 =>
 bnd (aB 0 v1 h1) fun v2 h2 =>
 bnd (aA v2 h2) fun v3 h3 =>
 bnd (r 165 [v3] h3) fun v4 h4 =>
 bnd (aC 0 v4 h4) fun v5 h5 =>
 bnd (aC 1 v4 h5) fun v6 h6 =>
 bnd (aB 0 v1 h6) fun v7 h7 =>
 bnd (aA v7 h7) fun v8 h8 =>
 bnd (aD .geq v8 (aG 1) h8) fun v9 h9 =>
 bnd (gD v9 true (aB 0 v1 h9) h9) fun v10 h10 =>
 bnd (gD v9 true (aA v10 h10) h10) fun v11 h11 =>
 bnd (gD v9 true (aD .leq v11 (aG 20) h11) h11) fun v12 h12 =>
 bnd (aQ v9 v12 (.b false) h12) fun v13 h13 =>
 bnd (gD v13 true (aB 1 v1 h13) h13) fun v14 h14 =>
 bnd (gD v13 true (aA v14 h14) h14) fun v15 h15 =>
 bnd (gD v13 true (some (v5, h15)) h15) fun v16 h16 =>
 bnd (gD v13 true (r 166 [v15, v16] h16) h16) fun v17 h17 =>
 bnd (aQ v13 v17 (.b false) h17) fun v18 h18 =>
 bnd (gD v18 true (aB 2 v1 h18) h18) fun v19 h19 =>
 bnd (gD v18 true (aA v19 h19) h19) fun v20 h20 =>
 bnd (gD v18 true (some (v6, h20)) h20) fun v21 h21 =>
 bnd (gD v18 true (r 166 [v20, v21] h21) h21) fun v22 h22 =>
 bnd (aQ v18 v22 (.b false) h22) fun v23 h23 =>
 some (v23, h23)
noncomputable abbrev c145 : Code := cf Tryz.f145
noncomputable abbrev r145 : K := aV CF Tryz.f145
noncomputable def D145 (r : RT) (n : Nat) (c : Code) (X : Nat → K) (k : K) : K := aP CF r 31 n c X r145 k
theorem dFv : D145 r n c145 x0 r145 = (K1 (s145 r n) 0) :=
 (by kernel_rfl)
theorem cSq : aF CF r n 145 args h = s145 r n (aW args 0) h :=
 (by kernel_rfl : aF CF r n 145 args h = D145 r n c145 x0 r145 (aJ args) h).trans ((congrFun (congrFun (dFv r n) (aJ args)) h).trans (by kernel_rfl))
noncomputable def bB (r : RT) (n : Nat) (h0 : Hp) : aH :=
 some ((.b true), h0)
noncomputable def uC (r : RT) (n : Nat) (x2 x3 x4 x27 x51 : DV) (h0 : Hp) : aH :=
 aX x51 (
 bnd (aB 1 x4 h0) fun v1 h1 =>
 bnd (aA v1 h1) fun v2 h2 =>
 bnd (aD .lss v2 x2 h2) fun v3 h3 =>
 some (v3, h3)) (
 bnd (aD .eql x27 (aG 18) h0) fun v4 h4 =>
 aX v4 (
 bnd (aB 2 x4 h4) fun v5 h5 =>
 bnd (aA v5 h5) fun v6 h6 =>
 bnd (aD .leq v6 (aG 4) h6) fun v7 h7 =>
 bnd (gD v7 true (aB 1 x4 h7) h7) fun v8 h8 =>
 bnd (gD v7 true (aA v8 h8) h8) fun v9 h9 =>
 bnd (gD v7 true (aB 2 x4 h9) h9) fun v10 h10 =>
 bnd (gD v7 true (aA v10 h10) h10) fun v11 h11 =>
 bnd (gD v7 true (aD .add v9 v11 h11) h11) fun v12 h12 =>
 bnd (gD v7 true (aB 2 x3 h12) h12) fun v13 h13 =>
 bnd (gD v7 true (aA v13 h13) h13) fun v14 h14 =>
 bnd (gD v7 true (aD .leq v12 v14 h14) h14) fun v15 h15 =>
 bnd (aQ v7 v15 (.b false) h15) fun v16 h16 =>
 some (v16, h16)) (
   bB r n h4))
noncomputable def bAo (r : RT) (n : Nat) (x2 x3 x4 x27 : DV) (h0 : Hp) : aH :=
 bnd (aD .eql x27 (aG 8) h0) fun v1 h1 =>
 aX v1 (
  uC r n x2 x3 x4 x27 v1 h1) (
 bnd (aD .eql x27 (aG 11) h1) fun v2 h2 =>
  uC r n x2 x3 x4 x27 v2 h2)
noncomputable def uT (r : RT) (n : Nat) (x2 x3 x4 x27 x43 : DV) (h0 : Hp) : aH :=
 aX x43 (
 bnd (aB 1 x4 h0) fun v1 h1 =>
 bnd (aA v1 h1) fun v2 h2 =>
 bnd (aB 2 x3 h2) fun v3 h3 =>
 bnd (aA v3 h3) fun v4 h4 =>
 bnd (aD .lss v2 v4 h4) fun v5 h5 =>
 some (v5, h5)) (
  bAo r n x2 x3 x4 x27 h0)
noncomputable def aVm (r : RT) (n : Nat) (x2 x3 x4 x27 : DV) (h0 : Hp) : aH :=
 bnd (aD .eql x27 (aG 7) h0) fun v1 h1 =>
 aX v1 (
  uT r n x2 x3 x4 x27 v1 h1) (
 bnd (aD .eql x27 (aG 10) h1) fun v2 h2 =>
  uT r n x2 x3 x4 x27 v2 h2)
noncomputable def uF (r : RT) (n : Nat) (x2 x3 x4 x8 x27 x34 : DV) (h0 : Hp) : aH :=
 aX x34 (
 bnd (gD x8 true (aB 2 x4 h0) h0) fun v1 h1 =>
 bnd (gD x8 true (aA v1 h1) h1) fun v2 h2 =>
 bnd (gD x8 true (aD .leq v2 (aG 4) h2) h2) fun v3 h3 =>
 bnd (aQ x8 v3 (.b false) h3) fun v4 h4 =>
 some (v4, h4)) (
  aVm r n x2 x3 x4 x27 h0)
noncomputable def bWy (r : RT) (n : Nat) (x2 x3 x4 x8 x27 : DV) (h0 : Hp) : aH :=
 bnd (aD .eql x27 (aG 14) h0) fun v1 h1 =>
 aX v1 (
  uF r n x2 x3 x4 x8 x27 v1 h1) (
 bnd (aD .eql x27 (aG 15) h1) fun v2 h2 =>
  uF r n x2 x3 x4 x8 x27 v2 h2)
noncomputable def aTf (r : RT) (n : Nat) (x2 x3 x4 x8 x27 x31 : DV) (h0 : Hp) : aH :=
 aX x31 (
 some (x8, h0)) (
  bWy r n x2 x3 x4 x8 x27 h0)
noncomputable def bSw (r : RT) (n : Nat) (x2 x3 x4 x8 x27 : DV) (h0 : Hp) : aH :=
 bnd (aD .eql x27 (aG 9) h0) fun v1 h1 =>
  aTf r n x2 x3 x4 x8 x27 v1 h1
noncomputable def aPq (r : RT) (n : Nat) (x2 x3 x4 x7 x8 x27 x28 : DV) (h0 : Hp) : aH :=
 aX x28 (
 some (x7, h0)) (
  bSw r n x2 x3 x4 x8 x27 h0)
noncomputable def aOd (r : RT) (n : Nat) (x2 x3 x4 x7 x8 x27 : DV) (h0 : Hp) : aH :=
 bnd (aD .eql x27 (aG 6) h0) fun v1 h1 =>
  aPq r n x2 x3 x4 x7 x8 x27 v1 h1
noncomputable def aNv (r : RT) (n : Nat) (x2 x3 x4 x7 x8 : DV) (h0 : Hp) : aH :=
 bnd (aB 0 x4 h0) fun v1 h1 =>
 bnd (aA v1 h1) fun v2 h2 =>
  aOd r n x2 x3 x4 x7 x8 v2 h2
noncomputable def aSe (r : RT) (n : Nat) (x2 x3 x4 x7 : DV) (h0 : Hp) : aH :=
 bnd (gD x7 true (aB 4 x3 h0) h0) fun v1 h1 =>
 bnd (gD x7 true (aA v1 h1) h1) fun v2 h2 =>
 bnd (gD x7 true (aB 1 x4 h2) h2) fun v3 h3 =>
 bnd (gD x7 true (aA v3 h3) h3) fun v4 h4 =>
 bnd (gD x7 true (aE 4 v2 v4 h4) h4) fun v5 h5 =>
 bnd (gD x7 true (aB 0 v5 h5) h5) fun v6 h6 =>
 bnd (gD x7 true (aA v6 h6) h6) fun v7 h7 =>
 bnd (gD x7 true (aD .eql v7 (aG 3) h7) h7) fun v8 h8 =>
 bnd (aQ x7 v8 (.b false) h8) fun v9 h9 =>
  aNv r n x2 x3 x4 x7 v9 h9
noncomputable def xR (r : RT) (n : Nat) (x2 x3 x4 : DV) (h0 : Hp) : aH :=
 bnd (aB 1 x4 h0) fun v1 h1 =>
 bnd (aA v1 h1) fun v2 h2 =>
 bnd (aB 4 x3 h2) fun v3 h3 =>
 bnd (aA v3 h3) fun v4 h4 =>
 bnd (cB v4 h4) fun v5 h5 =>
 bnd (aD .lss v2 v5 h5) fun v6 h6 =>
  aSe r n x2 x3 x4 v6 h6
noncomputable def s146 (r : RT) (n : Nat) (x0 x1 x2 : DV) (h0 : Hp) : aH :=
 bnd (bU x0 h0) fun v1 h1 =>
 bnd (bU x1 h1) fun v2 h2 =>
  xR r n x2 v1 v2 h2
noncomputable abbrev c146 : Code := cf Tryz.f146
noncomputable abbrev aCh : Code := cR c146
noncomputable abbrev aFa : Code := cR aCh
noncomputable abbrev aEo : Code := cR aFa
noncomputable abbrev cSa : Code := cR aEo
noncomputable abbrev zO : Code := cL aEo
noncomputable abbrev aNy : Code := cR zO
noncomputable abbrev aBt : Code := cL aNy
noncomputable abbrev zG : Code := cR aBt
noncomputable abbrev wQ : Code := cR zG
noncomputable abbrev qA : Code := cR wQ
noncomputable abbrev qO : Code := cR qA
noncomputable abbrev qX : Code := cR qO
noncomputable abbrev qS : Code := cR qX
noncomputable abbrev qY : Code := cR qS
noncomputable abbrev qB : Code := cR qY
noncomputable abbrev bZg : Code := cR qB
noncomputable abbrev aWv : Code := cL qB
noncomputable abbrev cBm : Code := cL qY
noncomputable abbrev aVr : Code := cL qS
noncomputable abbrev cFe : Code := cL qX
noncomputable abbrev aUk : Code := cL qO
noncomputable abbrev cKw : Code := cL qA
noncomputable abbrev aWq : Code := cL wQ
noncomputable abbrev cIc : Code := cL zG
noncomputable abbrev aTq : Code := cL aBt
noncomputable abbrev aWn : Code := cL zO
noncomputable abbrev aXz : Code := cL aFa
noncomputable abbrev aZl : Code := cL aCh
noncomputable abbrev aEe : Code := cL c146
noncomputable abbrev r146 : K := aV CF Tryz.f146
noncomputable def D146 (r : RT) (n : Nat) (c : Code) (X : Nat → K) (k : K) : K := aP CF r 73 n c X r146 k
theorem cLu : D146 r n cSa x0 r146 = (K0 (bB r n)) :=
 (by kernel_rfl)
theorem bSo : D146 r n bZg (xs x0 0 (K0 (bB r n))) (K0 (bB r n)) = (K5 (uC r n) 2 3 4 27 51) :=
 (by kernel_rfl)
theorem bEw : D146 r n qB (xs x0 0 (K0 (bB r n))) (K0 (bB r n)) = D146 r n aWv (xs x0 0 (K0 (bB r n))) (K5 (uC r n) 2 3 4 27 51) :=
 congrArg (fun k => D146 r n aWv (xs x0 0 (K0 (bB r n))) k) (bSo r n)
theorem bGb : D146 r n qB (xs x0 0 (K0 (bB r n))) (K0 (bB r n)) = (K4 (bAo r n) 2 3 4 27) :=
 (bEw r n).trans
 ((by kernel_rfl))
theorem bJw : D146 r n qY (xs x0 0 (K0 (bB r n))) (K0 (bB r n)) = (K5 (uT r n) 2 3 4 27 43) :=
 (by kernel_rfl : D146 r n qY (xs x0 0 (K0 (bB r n))) (K0 (bB r n)) = (fun (env : bA) (h : Hp) => aX (opr env (cC qY)) (D146 r n cBm (xs x0 0 (K0 (bB r n))) (K0 (bB r n)) env h) (D146 r n qB (xs x0 0 (K0 (bB r n))) (K0 (bB r n)) env h))).trans (by rw [bGb r n]; kernel_rfl)
theorem bDs : D146 r n qS (xs x0 0 (K0 (bB r n))) (K0 (bB r n)) = D146 r n aVr (xs x0 0 (K0 (bB r n))) (K5 (uT r n) 2 3 4 27 43) :=
 congrArg (fun k => D146 r n aVr (xs x0 0 (K0 (bB r n))) k) (bJw r n)
theorem bQf : D146 r n qS (xs x0 0 (K0 (bB r n))) (K0 (bB r n)) = (K4 (aVm r n) 2 3 4 27) :=
 (bDs r n).trans
 ((by kernel_rfl))
theorem bOa : D146 r n qX (xs x0 0 (K0 (bB r n))) (K0 (bB r n)) = (K6 (uF r n) 2 3 4 8 27 34) :=
 (by kernel_rfl : D146 r n qX (xs x0 0 (K0 (bB r n))) (K0 (bB r n)) = (fun (env : bA) (h : Hp) => aX (opr env (cC qX)) (D146 r n cFe (xs x0 0 (K0 (bB r n))) (K0 (bB r n)) env h) (D146 r n qS (xs x0 0 (K0 (bB r n))) (K0 (bB r n)) env h))).trans (by rw [bQf r n]; kernel_rfl)
theorem bKw : D146 r n qO (xs x0 0 (K0 (bB r n))) (K0 (bB r n)) = D146 r n aUk (xs x0 0 (K0 (bB r n))) (K6 (uF r n) 2 3 4 8 27 34) :=
 congrArg (fun k => D146 r n aUk (xs x0 0 (K0 (bB r n))) k) (bOa r n)
theorem cBs : D146 r n qO (xs x0 0 (K0 (bB r n))) (K0 (bB r n)) = (K5 (bWy r n) 2 3 4 8 27) :=
 (bKw r n).trans
 ((by kernel_rfl))
theorem cIl : D146 r n qA (xs x0 0 (K0 (bB r n))) (K0 (bB r n)) = (K6 (aTf r n) 2 3 4 8 27 31) :=
 (by kernel_rfl : D146 r n qA (xs x0 0 (K0 (bB r n))) (K0 (bB r n)) = (fun (env : bA) (h : Hp) => aX (opr env (cC qA)) (D146 r n cKw (xs x0 0 (K0 (bB r n))) (K0 (bB r n)) env h) (D146 r n qO (xs x0 0 (K0 (bB r n))) (K0 (bB r n)) env h))).trans (by rw [cBs r n]; kernel_rfl)
theorem bTi : D146 r n wQ (xs x0 0 (K0 (bB r n))) (K0 (bB r n)) = D146 r n aWq (xs x0 0 (K0 (bB r n))) (K6 (aTf r n) 2 3 4 8 27 31) :=
 congrArg (fun k => D146 r n aWq (xs x0 0 (K0 (bB r n))) k) (cIl r n)
theorem cKd : D146 r n wQ (xs x0 0 (K0 (bB r n))) (K0 (bB r n)) = (K5 (bSw r n) 2 3 4 8 27) :=
 (bTi r n).trans
 ((by kernel_rfl))
theorem cBd : D146 r n zG (xs x0 0 (K0 (bB r n))) (K0 (bB r n)) = (K7 (aPq r n) 2 3 4 7 8 27 28) :=
 (by kernel_rfl : D146 r n zG (xs x0 0 (K0 (bB r n))) (K0 (bB r n)) = (fun (env : bA) (h : Hp) => aX (opr env (cC zG)) (D146 r n cIc (xs x0 0 (K0 (bB r n))) (K0 (bB r n)) env h) (D146 r n wQ (xs x0 0 (K0 (bB r n))) (K0 (bB r n)) env h))).trans (by rw [cKd r n]; kernel_rfl)
theorem bIc : D146 r n aBt (xs x0 0 (K0 (bB r n))) (K0 (bB r n)) = D146 r n aTq (xs x0 0 (K0 (bB r n))) (K7 (aPq r n) 2 3 4 7 8 27 28) :=
 congrArg (fun k => D146 r n aTq (xs x0 0 (K0 (bB r n))) k) (cBd r n)
theorem cLp : D146 r n aNy x0 (K0 (bB r n)) = (K6 (aOd r n) 2 3 4 7 8 27) :=
 (by kernel_rfl : D146 r n aNy x0 (K0 (bB r n)) = D146 r n aBt (xs x0 0 (K0 (bB r n))) (K0 (bB r n))).trans
 ((bIc r n).trans
 ((by kernel_rfl)))
theorem bSp : D146 r n aEo x0 r146 = D146 r n zO x0 (K0 (bB r n)) :=
 congrArg (fun k => D146 r n zO x0 k) (cLu r n)
theorem bKr : D146 r n zO x0 (K0 (bB r n)) = D146 r n aWn x0 (K6 (aOd r n) 2 3 4 7 8 27) :=
 congrArg (fun k => D146 r n aWn x0 k) (cLp r n)
theorem cLe : D146 r n aEo x0 r146 = (K5 (aNv r n) 2 3 4 7 8) :=
 (bSp r n).trans
 ((bKr r n).trans
 ((by kernel_rfl)))
theorem bSr : D146 r n aFa x0 r146 = D146 r n aXz x0 (K5 (aNv r n) 2 3 4 7 8) :=
 congrArg (fun k => D146 r n aXz x0 k) (cLe r n)
theorem cFb : D146 r n aFa x0 r146 = (K4 (aSe r n) 2 3 4 7) :=
 (bSr r n).trans
 ((by kernel_rfl))
theorem bRl : D146 r n aCh x0 r146 = D146 r n aZl x0 (K4 (aSe r n) 2 3 4 7) :=
 congrArg (fun k => D146 r n aZl x0 k) (cFb r n)
theorem cLd : D146 r n aCh x0 r146 = (K3 (xR r n) 2 3 4) :=
 (bRl r n).trans
 ((by kernel_rfl))
theorem cLj : D146 r n c146 x0 r146 = D146 r n aEe x0 (K3 (xR r n) 2 3 4) :=
 congrArg (fun k => D146 r n aEe x0 k) (cLd r n)
theorem bZe (q0 : jF) : D146 r n aEe x0 (K3 q0 2 3 4) = fun (env : bA) (h : Hp) =>
 bnd (bU (env 0) h) fun v1 h1 =>
 bnd (bU (env 1) h1) fun v2 h2 =>
  q0 (env 2) v1 v2 h2 := by kernel_rfl
theorem bYh : (fun (env : bA) (h : Hp) =>
 bnd (bU (env 0) h) fun v1 h1 =>
 bnd (bU (env 1) h1) fun v2 h2 =>
  xR r n (env 2) v1 v2 h2) = (K3 (s146 r n) 0 1 2) := by kernel_rfl
theorem dBe : D146 r n c146 x0 r146 = (K3 (s146 r n) 0 1 2) :=
 (cLj r n).trans
 ((bZe r n (xR r n)).trans (bYh r n))
theorem cYd : aF CF r n 146 args h = s146 r n (aW args 0) (aW args 1) (aW args 2) h :=
 (by kernel_rfl : aF CF r n 146 args h = D146 r n c146 x0 r146 (aJ args) h).trans ((congrFun (congrFun (dBe r n) (aJ args)) h).trans (by kernel_rfl))
noncomputable def fC (r : RT) (n : Nat) (x3 : DV) (h0 : Hp) : aH :=
 some (x3, h0)
noncomputable def aTw (r : RT) (n : Nat) (kk6 : bZ) (x3 x4 x11 x12 : DV) (h0 : Hp) : aH :=
 bnd (aD .lss x12 x11 h0) fun v1 h1 =>
 aX v1 (
 bnd (gJ CF r x4 [x12] h1) fun v2 h2 =>
 bnd (aE 1 x3 x12 h2) fun v3 h3 =>
 bnd (aI 1 v3 v2 h3) fun _ h4 =>
 bnd (aD .add x12 (aG 1) h4) fun v5 h5 =>
      kk6 x3 x4 x11 v5 h5) (
      fC r n x3 h1)
noncomputable def vH (r : RT) (n : Nat) (m : Nat) : bZ :=
 Nat.rec (motive := fun _ => bZ) (fun _ _ _ _ _ => none) (fun _ ih => aTw r n ih) m
noncomputable def bJc (r : RT) (n : Nat) : bZ := vH r n n
noncomputable def aNd (r : RT) (n : Nat) (x3 x4 x11 x12 : DV) (h0 : Hp) : aH :=
 bJc r n x3 x4 x11 x12 h0
noncomputable def aQm (r : RT) (n : Nat) (x1 x3 x4 : DV) (h0 : Hp) : aH :=
 bnd (aA x1 h0) fun v1 h1 =>
 bnd (cB v1 h1) fun v2 h2 =>
  aNd r n x3 x4 v2 (aG 0) h2
noncomputable def yZ (r : RT) (n : Nat) (x1 x3 : DV) (h0 : Hp) : aH :=
 aQm r n x1 x3 (.f 167 [] [x1]) h0
noncomputable def sI (r : RT) (n : Nat) (x1 : DV) (h0 : Hp) : aH :=
 bnd (aA x1 h0) fun v1 h1 =>
 bnd (cB v1 h1) fun v2 h2 =>
 bnd (cP 1 8 [(aG 0)] v2 v2 h2) fun v3 h3 =>
  yZ r n x1 v3 h3
noncomputable def s147 (r : RT) (n : Nat) (x0 : DV) (h0 : Hp) : aH :=
 bnd (bU x0 h0) fun v1 h1 =>
  sI r n v1 h1
noncomputable abbrev c147 : Code := cf Tryz.f147
noncomputable abbrev aDu : Code := cR c147
noncomputable abbrev aEr : Code := cR aDu
noncomputable abbrev aHp : Code := cR aEr
noncomputable abbrev cPv : Code := cR aHp
noncomputable abbrev wV : Code := cL aHp
noncomputable abbrev aTe : Code := cR wV
noncomputable abbrev aEc : Code := cL aTe
noncomputable abbrev pP : Code := cL aEc
noncomputable abbrev bMi : Code := cL wV
noncomputable abbrev aVn : Code := cL aEr
noncomputable abbrev aHn : Code := cL aDu
noncomputable abbrev aEg : Code := cL c147
noncomputable abbrev r147 : K := aV CF Tryz.f147
noncomputable def D147 (r : RT) (n : Nat) (c : Code) (X : Nat → K) (k : K) : K := aP CF r 23 n c X r147 k
theorem cBr : D147 r n cPv x0 r147 = (K1 (fC r n) 3) :=
 (by kernel_rfl)
theorem bXa (kk6 : bZ) : D147 r n pP (xs x0 0 (K1 (fC r n) 3)) (K4 kk6 3 4 11 12) = (K4 (aTw r n kk6) 3 4 11 12) :=
 (by kernel_rfl)
theorem bLl (m : Nat) : aM (fun kk => D147 r n pP (xs x0 0 (K1 (fC r n) 3)) kk) m = (K4 (vH r n m) 3 4 11 12) := by
 induction m with
 | zero => exact (by kernel_rfl : aM (fun kk => D147 r n pP (xs x0 0 (K1 (fC r n) 3)) kk) 0 = (K4 (vH r n 0) 3 4 11 12))
 | succ m ih =>
  refine (by kernel_rfl : aM (fun kk => D147 r n pP (xs x0 0 (K1 (fC r n) 3)) kk) (m + 1) = D147 r n pP (xs x0 0 (K1 (fC r n) 3)) (aM (fun kk => D147 r n pP (xs x0 0 (K1 (fC r n) 3)) kk) m)).trans ?_
  rw [ih]
  exact (bXa r n (vH r n m)).trans (by kernel_rfl)
theorem cMg : D147 r n aEc (xs x0 0 (K1 (fC r n) 3)) (K1 (fC r n) 3) = (K4 (bJc r n) 3 4 11 12) :=
 (by kernel_rfl : D147 r n aEc (xs x0 0 (K1 (fC r n) 3)) (K1 (fC r n) 3) = aM (fun kk => D147 r n pP (xs x0 0 (K1 (fC r n) 3)) kk) n).trans ((bLl r n n).trans (by kernel_rfl))
theorem cIx : D147 r n aTe x0 (K1 (fC r n) 3) = (K4 (aNd r n) 3 4 11 12) :=
 (by kernel_rfl : D147 r n aTe x0 (K1 (fC r n) 3) = D147 r n aEc (xs x0 0 (K1 (fC r n) 3)) (K1 (fC r n) 3)).trans
 ((cMg r n).trans (by kernel_rfl))
theorem bFn : D147 r n aHp x0 r147 = D147 r n wV x0 (K1 (fC r n) 3) :=
 congrArg (fun k => D147 r n wV x0 k) (cBr r n)
theorem bJp : D147 r n wV x0 (K1 (fC r n) 3) = D147 r n bMi x0 (K4 (aNd r n) 3 4 11 12) :=
 congrArg (fun k => D147 r n bMi x0 k) (cIx r n)
theorem cIv : D147 r n aHp x0 r147 = (K3 (aQm r n) 1 3 4) :=
 (bFn r n).trans
 ((bJp r n).trans
 ((by kernel_rfl)))
theorem bIz : D147 r n aEr x0 r147 = D147 r n aVn x0 (K3 (aQm r n) 1 3 4) :=
 congrArg (fun k => D147 r n aVn x0 k) (cIv r n)
theorem cFs : D147 r n aEr x0 r147 = (K2 (yZ r n) 1 3) :=
 (bIz r n).trans
 ((by kernel_rfl))
theorem bOf : D147 r n aDu x0 r147 = D147 r n aHn x0 (K2 (yZ r n) 1 3) :=
 congrArg (fun k => D147 r n aHn x0 k) (cFs r n)
theorem bIw (q0 : tS) : D147 r n aHn x0 (K2 q0 1 3) = fun (env : bA) (h : Hp) =>
 bnd (aA (env 1) h) fun v1 h1 =>
 bnd (cB v1 h1) fun v2 h2 =>
 bnd (cP 1 8 [(aG 0)] v2 v2 h2) fun v3 h3 =>
  q0 (env 1) v3 h3 := by kernel_rfl
theorem bDv : (fun (env : bA) (h : Hp) =>
 bnd (aA (env 1) h) fun v1 h1 =>
 bnd (cB v1 h1) fun v2 h2 =>
 bnd (cP 1 8 [(aG 0)] v2 v2 h2) fun v3 h3 =>
  yZ r n (env 1) v3 h3) = (K1 (sI r n) 1) := by kernel_rfl
theorem cCu : D147 r n aDu x0 r147 = (K1 (sI r n) 1) :=
 (bOf r n).trans
 ((bIw r n (yZ r n)).trans (bDv r n))
theorem cZt : D147 r n c147 x0 r147 = D147 r n aEg x0 (K1 (sI r n) 1) :=
 congrArg (fun k => D147 r n aEg x0 k) (cCu r n)
theorem cXh (q0 : TT1) : D147 r n aEg x0 (K1 q0 1) = fun (env : bA) (h : Hp) =>
 bnd (bU (env 0) h) fun v1 h1 =>
  q0 v1 h1 := by kernel_rfl
theorem cJl : (fun (env : bA) (h : Hp) =>
 bnd (bU (env 0) h) fun v1 h1 =>
  sI r n v1 h1) = (K1 (s147 r n) 0) := by kernel_rfl
theorem dCq : D147 r n c147 x0 r147 = (K1 (s147 r n) 0) :=
 (cZt r n).trans
 ((cXh r n (sI r n)).trans (cJl r n))
theorem cYn : aF CF r n 147 args h = s147 r n (aW args 0) h :=
 (by kernel_rfl : aF CF r n 147 args h = D147 r n c147 x0 r147 (aJ args) h).trans ((congrFun (congrFun (dCq r n) (aJ args)) h).trans (by kernel_rfl))
end Go.Dd

namespace Go.Dd
open Go.Proofs
variable (r : RT) (n : Nat) (args : List DV) (h : Hp)
noncomputable def bF (r : RT) (n : Nat) (h0 : Hp) : aH :=
 some ((.b true), h0)
noncomputable def cO (r : RT) (n : Nat) (kk4 : bT) (x0 x1 x11 x12 x13 : DV) (h0 : Hp) : aH :=
 bnd (aD .add x13 (aG 1) h0) fun v1 h1 =>
  kk4 x0 x1 x11 x12 v1 h1
noncomputable def gF (r : RT) (n : Nat) (kk4 : bT) (x0 x1 x5 x6 x11 x12 x13 : DV) (h0 : Hp) : aH :=
 bnd (aK 3 x6 h0) fun v1 h1 =>
 bnd (r 169 [v1] h1) fun v2 h2 =>
 bnd (aD .geq v2 (aG 0) h2) fun v3 h3 =>
 bnd (gD v3 true (some (v2, h3)) h3) fun v4 h4 =>
 bnd (gD v3 true (some (x0, h4)) h4) fun v5 h5 =>
 bnd (gD v3 true (cB v5 h5) h5) fun v6 h6 =>
 bnd (gD v3 true (aD .geq v4 v6 h6) h6) fun v7 h7 =>
 bnd (gD v3 true (some (v7, h7)) h7) fun v8 h8 =>
 bnd (gD v8 false (some (x1, h8)) h8) fun v9 h9 =>
 bnd (gD v8 false (some (v2, h9)) h9) fun v10 h10 =>
 bnd (gD v8 false (aE 1 v9 v10 h10) h10) fun v11 h11 =>
 bnd (gD v8 false (aA v11 h11) h11) fun v12 h12 =>
 bnd (gD v8 false (some (x1, h12)) h12) fun v13 h13 =>
 bnd (gD v8 false (some (x5, h13)) h13) fun v14 h14 =>
 bnd (gD v8 false (aE 1 v13 v14 h14) h14) fun v15 h15 =>
 bnd (gD v8 false (aA v15 h15) h15) fun v16 h16 =>
 bnd (gD v8 false (aD .neq v12 v16 h16) h16) fun v17 h17 =>
 bnd (gD v3 true (aQ v8 (.b true) v17 h17) h17) fun v18 h18 =>
 bnd (aQ v3 v18 (.b false) h18) fun v19 h19 =>
 aX v19 (
 some ((.b false), h19)) (
  cO r n kk4 x0 x1 x11 x12 x13 h19)
noncomputable def uR (r : RT) (n : Nat) (kk4 : bT) (x0 x1 x5 x6 x7 x8 x9 x11 x12 x13 : DV) (h0 : Hp) : aH :=
 bnd (jE .not x8 h0) fun v1 h1 =>
 bnd (gD v1 false (some (x7, h1)) h1) fun v2 h2 =>
 bnd (gD v1 false (some (x9, h2)) h2) fun v3 h3 =>
 bnd (gD v1 false (aD .gtr v2 v3 h3) h3) fun v4 h4 =>
 bnd (aQ v1 (.b true) v4 h4) fun v5 h5 =>
 aX v5 (
 some ((.b false), h5)) (
  gF r n kk4 x0 x1 x5 x6 x11 x12 x13 h5)
noncomputable def aId (r : RT) (n : Nat) (kk4 : bT) (x0 x1 x5 x6 x7 x8 x9 x11 x12 x13 : DV) (h0 : Hp) : aH :=
 bnd (aE 1 x1 x5 h0) fun v1 h1 =>
 bnd (aA v1 h1) fun v2 h2 =>
 bnd (aD .geq v2 (aG 0) h2) fun v3 h3 =>
 aX v3 (
 bnd (aE 1 x1 x5 h3) fun v4 h4 =>
 bnd (aA v4 h4) fun v5 h5 =>
 bnd (r 168 [x0, v5] h5) fun v6 h6 =>
 bnd (aC 0 v6 h6) fun v7 h7 =>
 bnd (aC 1 v6 h7) fun v8 h8 =>
  uR r n kk4 x0 x1 x5 x6 x7 x8 v7 x11 x12 x13 h8) (
  uR r n kk4 x0 x1 x5 x6 x7 x8 x9 x11 x12 x13 h3)
noncomputable def aCz (r : RT) (n : Nat) (kk4 : bT) (x0 x1 x5 x6 x7 x8 x11 x12 x13 : DV) (h0 : Hp) : aH :=
 bnd (cB x0 h0) fun v1 h1 =>
  aId r n kk4 x0 x1 x5 x6 x7 x8 v1 x11 x12 x13 h1
noncomputable def aXo (r : RT) (n : Nat) (kk4 : bT) (x0 x1 x5 x6 x11 x12 x13 : DV) (h0 : Hp) : aH :=
 bnd (r 168 [x0, x5] h0) fun v1 h1 =>
 bnd (aC 0 v1 h1) fun v2 h2 =>
 bnd (aC 1 v1 h2) fun v3 h3 =>
  aCz r n kk4 x0 x1 x5 x6 v2 v3 x11 x12 x13 h3
noncomputable def aGt (r : RT) (n : Nat) (kk4 : bT) (x0 x1 x5 x6 x11 x12 x13 x20 : DV) (h0 : Hp) : aH :=
 aX x20 (
  aXo r n kk4 x0 x1 x5 x6 x11 x12 x13 h0) (
  gF r n kk4 x0 x1 x5 x6 x11 x12 x13 h0)
noncomputable def xL (r : RT) (n : Nat) (kk4 : bT) (x0 x1 x5 x6 x11 x12 x13 : DV) (h0 : Hp) : aH :=
 bnd (aB 0 x6 h0) fun v1 h1 =>
 bnd (aA v1 h1) fun v2 h2 =>
 bnd (aD .eql v2 (aG 18) h2) fun v3 h3 =>
  aGt r n kk4 x0 x1 x5 x6 x11 x12 x13 v3 h3
noncomputable def aJm (r : RT) (n : Nat) (kk4 : bT) (x0 x1 x11 x12 x13 : DV) (h0 : Hp) : aH :=
 bnd (aE 3 x11 x13 h0) fun v1 h1 =>
 bnd (aK 3 v1 h1) fun v2 h2 =>
 bnd (bY [(aG 0), (aG 0), (aG 0)] h2) fun v3 h3 =>
 bnd (aI 3 v3 v2 h3) fun _ h4 =>
  xL r n kk4 x0 x1 x13 v3 x11 x12 x13 h4
noncomputable def aQx (r : RT) (n : Nat) (kk4 : bT) (x0 x1 x11 x12 x13 x14 : DV) (h0 : Hp) : aH :=
 aX x14 (
  aJm r n kk4 x0 x1 x11 x12 x13 h0) (
  bF r n h0)
noncomputable def bAl (r : RT) (n : Nat) (kk4 : bT) (x0 x1 x11 x12 x13 : DV) (h0 : Hp) : aH :=
 bnd (aD .lss x13 x12 h0) fun v1 h1 =>
  aQx r n kk4 x0 x1 x11 x12 x13 v1 h1
noncomputable def wB (r : RT) (n : Nat) (m : Nat) : bT :=
 Nat.rec (motive := fun _ => bT) (fun _ _ _ _ _ _ => none) (fun _ ih => bAl r n ih) m
noncomputable def bFx (r : RT) (n : Nat) : bT := wB r n n
noncomputable def aNw (r : RT) (n : Nat) (x0 x1 x11 x12 x13 : DV) (h0 : Hp) : aH :=
 bFx r n x0 x1 x11 x12 x13 h0
noncomputable def aQl (r : RT) (n : Nat) (x0 x1 : DV) (h0 : Hp) : aH :=
 bnd (cB x0 h0) fun v1 h1 =>
  aNw r n x0 x1 x0 v1 (aG 0) h1
noncomputable def s148 (r : RT) (n : Nat) (x0 x1 : DV) (h0 : Hp) : aH :=
 aQl r n x0 x1 h0
noncomputable abbrev c148 : Code := cf Tryz.f148
noncomputable abbrev aHc : Code := cR c148
noncomputable abbrev cRo : Code := cR aHc
noncomputable abbrev wF : Code := cL aHc
noncomputable abbrev aNz : Code := cR wF
noncomputable abbrev aEw : Code := cL aNz
noncomputable abbrev lA : Code := cL aEw
noncomputable abbrev aEn : Code := cR lA
noncomputable abbrev aCr : Code := cR aEn
noncomputable abbrev cYl : Code := cR aCr
noncomputable abbrev vX : Code := cL aCr
noncomputable abbrev tZ : Code := cL vX
noncomputable abbrev uW : Code := cR tZ
noncomputable abbrev cJn : Code := cR uW
noncomputable abbrev pV : Code := cL uW
noncomputable abbrev qR : Code := cR pV
noncomputable abbrev pS : Code := cL qR
noncomputable abbrev uK : Code := cR pS
noncomputable abbrev wA : Code := cR uK
noncomputable abbrev cBk : Code := cR wA
noncomputable abbrev aWf : Code := cL wA
noncomputable abbrev aVc : Code := cL uK
noncomputable abbrev aYp : Code := cL pS
noncomputable abbrev cDc : Code := cR qR
noncomputable abbrev bAb : Code := cL pV
noncomputable abbrev aGw : Code := cL tZ
noncomputable abbrev aWs : Code := cL aEn
noncomputable abbrev aUq : Code := cL lA
noncomputable abbrev aXp : Code := cL wF
noncomputable abbrev aZk : Code := cL c148
noncomputable abbrev r148 : K := aV CF Tryz.f148
noncomputable def D148 (r : RT) (n : Nat) (c : Code) (X : Nat → K) (k : K) : K := aP CF r 72 n c X r148 k
theorem cAy : D148 r n cRo x0 r148 = (K0 (bF r n)) :=
 (by kernel_rfl)
theorem cHv (kk4 : bT) : D148 r n cYl (xs x0 0 (K0 (bF r n))) (K5 kk4 0 1 11 12 13) = (K5 (cO r n kk4) 0 1 11 12 13) :=
 (by kernel_rfl)
theorem cJr (kk4 : bT) : D148 r n cJn (xs (xs x0 0 (K0 (bF r n))) 1 (K5 (cO r n kk4) 0 1 11 12 13)) (K5 (cO r n kk4) 0 1 11 12 13) = (K7 (gF r n kk4) 0 1 5 6 11 12 13) :=
 (by kernel_rfl)
theorem bXc (kk4 : bT) : D148 r n cBk (xs (xs x0 0 (K0 (bF r n))) 1 (K5 (cO r n kk4) 0 1 11 12 13)) (K7 (gF r n kk4) 0 1 5 6 11 12 13) = (K10 (uR r n kk4) 0 1 5 6 7 8 9 11 12 13) :=
 (by kernel_rfl)
theorem bDf (kk4 : bT) : D148 r n wA (xs (xs x0 0 (K0 (bF r n))) 1 (K5 (cO r n kk4) 0 1 11 12 13)) (K7 (gF r n kk4) 0 1 5 6 11 12 13) = D148 r n aWf (xs (xs x0 0 (K0 (bF r n))) 1 (K5 (cO r n kk4) 0 1 11 12 13)) (K10 (uR r n kk4) 0 1 5 6 7 8 9 11 12 13) :=
 congrArg (fun k => D148 r n aWf (xs (xs x0 0 (K0 (bF r n))) 1 (K5 (cO r n kk4) 0 1 11 12 13)) k) (bXc r n kk4)
theorem bJx (kk4 : bT) : D148 r n wA (xs (xs x0 0 (K0 (bF r n))) 1 (K5 (cO r n kk4) 0 1 11 12 13)) (K7 (gF r n kk4) 0 1 5 6 11 12 13) = (K10 (aId r n kk4) 0 1 5 6 7 8 9 11 12 13) :=
 (bDf r n kk4).trans
 ((by kernel_rfl))
theorem bEx (kk4 : bT) : D148 r n uK (xs (xs x0 0 (K0 (bF r n))) 1 (K5 (cO r n kk4) 0 1 11 12 13)) (K7 (gF r n kk4) 0 1 5 6 11 12 13) = D148 r n aVc (xs (xs x0 0 (K0 (bF r n))) 1 (K5 (cO r n kk4) 0 1 11 12 13)) (K10 (aId r n kk4) 0 1 5 6 7 8 9 11 12 13) :=
 congrArg (fun k => D148 r n aVc (xs (xs x0 0 (K0 (bF r n))) 1 (K5 (cO r n kk4) 0 1 11 12 13)) k) (bJx r n kk4)
theorem bIh (kk4 : bT) : D148 r n uK (xs (xs x0 0 (K0 (bF r n))) 1 (K5 (cO r n kk4) 0 1 11 12 13)) (K7 (gF r n kk4) 0 1 5 6 11 12 13) = (K9 (aCz r n kk4) 0 1 5 6 7 8 11 12 13) :=
 (bEx r n kk4).trans
 ((by kernel_rfl))
theorem bFd (kk4 : bT) : D148 r n pS (xs (xs x0 0 (K0 (bF r n))) 1 (K5 (cO r n kk4) 0 1 11 12 13)) (K7 (gF r n kk4) 0 1 5 6 11 12 13) = D148 r n aYp (xs (xs x0 0 (K0 (bF r n))) 1 (K5 (cO r n kk4) 0 1 11 12 13)) (K9 (aCz r n kk4) 0 1 5 6 7 8 11 12 13) :=
 congrArg (fun k => D148 r n aYp (xs (xs x0 0 (K0 (bF r n))) 1 (K5 (cO r n kk4) 0 1 11 12 13)) k) (bIh r n kk4)
theorem bKh (kk4 : bT) : D148 r n pS (xs (xs x0 0 (K0 (bF r n))) 1 (K5 (cO r n kk4) 0 1 11 12 13)) (K7 (gF r n kk4) 0 1 5 6 11 12 13) = (K7 (aXo r n kk4) 0 1 5 6 11 12 13) :=
 (bFd r n kk4).trans
 ((by kernel_rfl))
theorem bOb (kk4 : bT) : D148 r n qR (xs (xs x0 0 (K0 (bF r n))) 1 (K5 (cO r n kk4) 0 1 11 12 13)) (K7 (gF r n kk4) 0 1 5 6 11 12 13) = (K8 (aGt r n kk4) 0 1 5 6 11 12 13 20) :=
 (by kernel_rfl : D148 r n qR (xs (xs x0 0 (K0 (bF r n))) 1 (K5 (cO r n kk4) 0 1 11 12 13)) (K7 (gF r n kk4) 0 1 5 6 11 12 13) = (fun (env : bA) (h : Hp) => aX (opr env (cC qR)) (D148 r n pS (xs (xs x0 0 (K0 (bF r n))) 1 (K5 (cO r n kk4) 0 1 11 12 13)) (K7 (gF r n kk4) 0 1 5 6 11 12 13) env h) (D148 r n cDc (xs (xs x0 0 (K0 (bF r n))) 1 (K5 (cO r n kk4) 0 1 11 12 13)) (K7 (gF r n kk4) 0 1 5 6 11 12 13) env h))).trans (by rw [bKh r n kk4]; kernel_rfl)
theorem bMl (kk4 : bT) : D148 r n uW (xs (xs x0 0 (K0 (bF r n))) 1 (K5 (cO r n kk4) 0 1 11 12 13)) (K5 (cO r n kk4) 0 1 11 12 13) = D148 r n pV (xs (xs x0 0 (K0 (bF r n))) 1 (K5 (cO r n kk4) 0 1 11 12 13)) (K7 (gF r n kk4) 0 1 5 6 11 12 13) :=
 congrArg (fun k => D148 r n pV (xs (xs x0 0 (K0 (bF r n))) 1 (K5 (cO r n kk4) 0 1 11 12 13)) k) (cJr r n kk4)
theorem bKz (kk4 : bT) : D148 r n pV (xs (xs x0 0 (K0 (bF r n))) 1 (K5 (cO r n kk4) 0 1 11 12 13)) (K7 (gF r n kk4) 0 1 5 6 11 12 13) = D148 r n bAb (xs (xs x0 0 (K0 (bF r n))) 1 (K5 (cO r n kk4) 0 1 11 12 13)) (K8 (aGt r n kk4) 0 1 5 6 11 12 13 20) :=
 congrArg (fun k => D148 r n bAb (xs (xs x0 0 (K0 (bF r n))) 1 (K5 (cO r n kk4) 0 1 11 12 13)) k) (bOb r n kk4)
theorem cFx (kk4 : bT) : D148 r n uW (xs (xs x0 0 (K0 (bF r n))) 1 (K5 (cO r n kk4) 0 1 11 12 13)) (K5 (cO r n kk4) 0 1 11 12 13) = (K7 (xL r n kk4) 0 1 5 6 11 12 13) :=
 (bMl r n kk4).trans
 ((bKz r n kk4).trans
 ((by kernel_rfl)))
theorem bUa (kk4 : bT) : D148 r n aCr (xs x0 0 (K0 (bF r n))) (K5 kk4 0 1 11 12 13) = D148 r n vX (xs x0 0 (K0 (bF r n))) (K5 (cO r n kk4) 0 1 11 12 13) :=
 congrArg (fun k => D148 r n vX (xs x0 0 (K0 (bF r n))) k) (cHv r n kk4)
theorem bSh (kk4 : bT) : D148 r n tZ (xs (xs x0 0 (K0 (bF r n))) 1 (K5 (cO r n kk4) 0 1 11 12 13)) (K5 (cO r n kk4) 0 1 11 12 13) = D148 r n aGw (xs (xs x0 0 (K0 (bF r n))) 1 (K5 (cO r n kk4) 0 1 11 12 13)) (K7 (xL r n kk4) 0 1 5 6 11 12 13) :=
 congrArg (fun k => D148 r n aGw (xs (xs x0 0 (K0 (bF r n))) 1 (K5 (cO r n kk4) 0 1 11 12 13)) k) (cFx r n kk4)
theorem bKj (kk4 : bT) (q0 : TT7) (q1 : Hp → aH) (q2 : bT) : D148 r n aGw (xs (xs x0 0 (K0 q1)) 1 (K5 q2 0 1 11 12 13)) (K7 q0 0 1 5 6 11 12 13) = fun (env : bA) (h : Hp) =>
 bnd (aE 3 (env 11) (env 13) h) fun v1 h1 =>
 bnd (aK 3 v1 h1) fun v2 h2 =>
 bnd (bY [(aG 0), (aG 0), (aG 0)] h2) fun v3 h3 =>
 bnd (aI 3 v3 v2 h3) fun _ h4 =>
  q0 (env 0) (env 1) (env 13) v3 (env 11) (env 12) (env 13) h4 := by kernel_rfl
theorem bDb (kk4 : bT) : (fun (env : bA) (h : Hp) =>
 bnd (aE 3 (env 11) (env 13) h) fun v1 h1 =>
 bnd (aK 3 v1 h1) fun v2 h2 =>
 bnd (bY [(aG 0), (aG 0), (aG 0)] h2) fun v3 h3 =>
 bnd (aI 3 v3 v2 h3) fun _ h4 =>
  xL r n kk4 (env 0) (env 1) (env 13) v3 (env 11) (env 12) (env 13) h4) = (K5 (aJm r n kk4) 0 1 11 12 13) := by kernel_rfl
theorem cIm (kk4 : bT) : D148 r n aCr (xs x0 0 (K0 (bF r n))) (K5 kk4 0 1 11 12 13) = (K5 (aJm r n kk4) 0 1 11 12 13) :=
 (bUa r n kk4).trans
 ((by kernel_rfl : D148 r n vX (xs x0 0 (K0 (bF r n))) (K5 (cO r n kk4) 0 1 11 12 13) = D148 r n tZ (xs (xs x0 0 (K0 (bF r n))) 1 (K5 (cO r n kk4) 0 1 11 12 13)) (K5 (cO r n kk4) 0 1 11 12 13)).trans
 ((bSh r n kk4).trans
 ((bKj r n kk4 (xL r n kk4) (bF r n) (cO r n kk4)).trans (bDb r n kk4))))
theorem bHy (kk4 : bT) : D148 r n aEn (xs x0 0 (K0 (bF r n))) (K5 kk4 0 1 11 12 13) = D148 r n aWs (xs x0 0 (K0 (bF r n))) (K5 (aJm r n kk4) 0 1 11 12 13) :=
 congrArg (fun k => D148 r n aWs (xs x0 0 (K0 (bF r n))) k) (cIm r n kk4)
theorem cBa (kk4 : bT) : D148 r n aEn (xs x0 0 (K0 (bF r n))) (K5 kk4 0 1 11 12 13) = (K6 (aQx r n kk4) 0 1 11 12 13 14) :=
 (bHy r n kk4).trans
 ((by kernel_rfl))
theorem bDn (kk4 : bT) : D148 r n lA (xs x0 0 (K0 (bF r n))) (K5 kk4 0 1 11 12 13) = D148 r n aUq (xs x0 0 (K0 (bF r n))) (K6 (aQx r n kk4) 0 1 11 12 13 14) :=
 congrArg (fun k => D148 r n aUq (xs x0 0 (K0 (bF r n))) k) (cBa r n kk4)
theorem bRt (kk4 : bT) : D148 r n lA (xs x0 0 (K0 (bF r n))) (K5 kk4 0 1 11 12 13) = (K5 (bAl r n kk4) 0 1 11 12 13) :=
 (bDn r n kk4).trans
 ((by kernel_rfl))
theorem bLa (m : Nat) : aM (fun kk => D148 r n lA (xs x0 0 (K0 (bF r n))) kk) m = (K5 (wB r n m) 0 1 11 12 13) := by
 induction m with
 | zero => exact (by kernel_rfl : aM (fun kk => D148 r n lA (xs x0 0 (K0 (bF r n))) kk) 0 = (K5 (wB r n 0) 0 1 11 12 13))
 | succ m ih =>
  refine (by kernel_rfl : aM (fun kk => D148 r n lA (xs x0 0 (K0 (bF r n))) kk) (m + 1) = D148 r n lA (xs x0 0 (K0 (bF r n))) (aM (fun kk => D148 r n lA (xs x0 0 (K0 (bF r n))) kk) m)).trans ?_
  rw [ih]
  exact (bRt r n (wB r n m)).trans (by kernel_rfl)
theorem cDg : D148 r n aEw (xs x0 0 (K0 (bF r n))) (K0 (bF r n)) = (K5 (bFx r n) 0 1 11 12 13) :=
 (by kernel_rfl : D148 r n aEw (xs x0 0 (K0 (bF r n))) (K0 (bF r n)) = aM (fun kk => D148 r n lA (xs x0 0 (K0 (bF r n))) kk) n).trans ((bLa r n n).trans (by kernel_rfl))
theorem cDt : D148 r n aNz x0 (K0 (bF r n)) = (K5 (aNw r n) 0 1 11 12 13) :=
 (by kernel_rfl : D148 r n aNz x0 (K0 (bF r n)) = D148 r n aEw (xs x0 0 (K0 (bF r n))) (K0 (bF r n))).trans
 ((cDg r n).trans (by kernel_rfl))
theorem bFj : D148 r n aHc x0 r148 = D148 r n wF x0 (K0 (bF r n)) :=
 congrArg (fun k => D148 r n wF x0 k) (cAy r n)
theorem bFi : D148 r n wF x0 (K0 (bF r n)) = D148 r n aXp x0 (K5 (aNw r n) 0 1 11 12 13) :=
 congrArg (fun k => D148 r n aXp x0 k) (cDt r n)
theorem cGc : D148 r n aHc x0 r148 = (K2 (aQl r n) 0 1) :=
 (bFj r n).trans
 ((bFi r n).trans
 ((by kernel_rfl)))
theorem cIk : D148 r n c148 x0 r148 = D148 r n aZk x0 (K2 (aQl r n) 0 1) :=
 congrArg (fun k => D148 r n aZk x0 k) (cGc r n)
theorem dDu : D148 r n c148 x0 r148 = (K2 (s148 r n) 0 1) :=
 (cIk r n).trans
 ((by kernel_rfl))
theorem cXt : aF CF r n 148 args h = s148 r n (aW args 0) (aW args 1) h :=
 (by kernel_rfl : aF CF r n 148 args h = D148 r n c148 x0 r148 (aJ args) h).trans ((congrFun (congrFun (dDu r n) (aJ args)) h).trans (by kernel_rfl))
noncomputable def bX (r : RT) (n : Nat) (x6 x9 : DV) (h0 : Hp) : aH :=
 bnd (aA x6 h0) fun v1 h1 =>
 bnd (aA x9 h1) fun v2 h2 =>
 some (.t [v1, v2], h2)
noncomputable def uM (r : RT) (n : Nat) (kk9 : iL) (x2 x3 x6 x7 x9 x10 x11 x14 : DV) (h0 : Hp) : aH :=
 bnd (aD .add x11 (aG 1) h0) fun v1 h1 =>
 bnd (aA x3 h1) fun v2 h2 =>
 bnd (aE 1 v2 x11 h2) fun v3 h3 =>
 bnd (aA v3 h3) fun v4 h4 =>
 bnd (gJ CF r x10 [v1, v4, x14] h4) fun v5 h5 =>
  kk9 x2 x3 x6 x7 x9 x10 h5
noncomputable def aCd (r : RT) (n : Nat) (kk9 : iL) (x2 x3 x6 x7 x9 x10 x11 x12 x13 x14 : DV) (h0 : Hp) : aH :=
 bnd (aB 0 x12 h0) fun v1 h1 =>
 bnd (aA v1 h1) fun v2 h2 =>
 bnd (aD .eql v2 (aG 19) h2) fun v3 h3 =>
 aX v3 (
 bnd (aD .neq x13 (aG 1) h3) fun v4 h4 =>
 bnd (gD v4 false (aA x3 h4) h4) fun v5 h5 =>
 bnd (gD v4 false (some (x11, h5)) h5) fun v6 h6 =>
 bnd (gD v4 false (aE 1 v5 v6 h6) h6) fun v7 h7 =>
 bnd (gD v4 false (aA v7 h7) h7) fun v8 h8 =>
 bnd (gD v4 false (aD .lss v8 (aG 0) h8) h8) fun v9 h9 =>
 bnd (aQ v4 (.b true) v9 h9) fun v10 h10 =>
 aX v10 (
 some (.t [.l0, (.b false)], h10)) (
   kk9 x2 x3 x6 x7 x9 x10 h10)) (
 bnd (aD .eql v2 (aG 20) h3) fun v11 h11 =>
 aX v11 (
   kk9 x2 x3 x6 x7 x9 x10 h11) (
 bnd (aD .eql v2 (aG 16) h11) fun v12 h12 =>
 aX v12 (
 bnd (aK 3 x12 h12) fun v13 h13 =>
 bnd (r 169 [v13] h13) fun v14 h14 =>
 bnd (aA x3 h14) fun v15 h15 =>
 cnd (bM (aA x3 h12) v15 && true) (
 bnd (aE 1 v15 x11 h15) fun v16 h16 =>
 bnd (aA v16 h16) fun v17 h17 =>
 cnd (bM (aA v16 h12) v17 && true) (
 bnd (gJ CF r x10 [v14, v17, x14] h17) fun v18 h18 =>
    kk9 x2 x3 x6 x7 x9 x10 h18))) (
 bnd (aD .eql v2 (aG 17) h12) fun v19 h19 =>
 aX v19 (
 bnd (aK 3 x12 h19) fun v20 h20 =>
 bnd (r 169 [v20] h20) fun v21 h21 =>
 bnd (aA x3 h21) fun v22 h22 =>
 cnd (bM (aA x3 h19) v22 && true) (
 bnd (aE 1 v22 x11 h22) fun v23 h23 =>
 bnd (aA v23 h23) fun v24 h24 =>
 cnd (bM (aA v23 h19) v24 && true) (
 bnd (gJ CF r x10 [v21, v24, x14] h24) fun v25 h25 =>
     uM r n kk9 x2 x3 x6 x7 x9 x10 x11 x14 h25))) (
     uM r n kk9 x2 x3 x6 x7 x9 x10 x11 x14 h19))))
noncomputable def aHm (r : RT) (n : Nat) (kk9 : iL) (x2 x3 x6 x7 x9 x10 x11 x12 x13 x14 : DV) (h0 : Hp) : aH :=
 bnd (aK 3 x12 h0) fun v1 h1 =>
 bnd (r 172 [v1] h1) fun v2 h2 =>
 bnd (aD .lss x13 v2 h2) fun v3 h3 =>
 bnd (gD v3 false (some (x14, h3)) h3) fun v4 h4 =>
 bnd (gD v3 false (aD .gtr v4 (aG 24) h4) h4) fun v5 h5 =>
 bnd (aQ v3 (.b true) v5 h5) fun v6 h6 =>
 aX v6 (
 some (.t [.l0, (.b false)], h6)) (
  aCd r n kk9 x2 x3 x6 x7 x9 x10 x11 x12 x13 x14 h6)
noncomputable def aBs (r : RT) (n : Nat) (kk9 : iL) (x2 x3 x6 x7 x9 x10 x11 x12 x13 : DV) (h0 : Hp) : aH :=
 bnd (aK 3 x12 h0) fun v1 h1 =>
 bnd (r 171 [v1] h1) fun v2 h2 =>
 bnd (aD .add x13 v2 h2) fun v3 h3 =>
  aHm r n kk9 x2 x3 x6 x7 x9 x10 x11 x12 x13 v3 h3
noncomputable def aDp (r : RT) (n : Nat) (kk9 : iL) (x2 x3 x6 x7 x9 x10 x11 : DV) (h0 : Hp) : aH :=
 bnd (aA x2 (resv 1 h0)) fun v1 h1 =>
 bnd (aE 3 v1 x11 h1) fun v2 h2 =>
 bnd (aK 3 v2 h2) fun v3 h3 =>
 bnd (aA x6 h3) fun v4 h4 =>
 bnd (aE 1 v4 x11 h4) fun v5 h5 =>
 bnd (aA v5 h5) fun v6 h6 =>
 bnd (mB (cF 0 h0.next) [(aG 0), (aG 0), (aG 0)] h6) fun v7 h7 =>
 bnd (aI 3 v7 v3 h7) fun v8 h8 =>
 cnd (bM (aA v5 h8) v6 && (bM (aA x6 h8) v4 && true)) (
  aBs r n kk9 x2 x3 x6 x7 x9 x10 x11 v7 v6 h8)
noncomputable def aHj (r : RT) (n : Nat) (kk9 : iL) (x2 x3 x6 x7 x9 x10 x11 : DV) (h0 : Hp) : aH :=
 bnd (aA x7 h0) fun v1 h1 =>
 bnd (aA x7 h1) fun v2 h2 =>
 bnd (cB v2 h2) fun v3 h3 =>
 bnd (aD .sub v3 (aG 1) h3) fun v4 h4 =>
 bnd (cX 1 v1 none (some v4) h4) fun v5 h5 =>
 bnd (aI 1 x7 v5 h5) fun _ h6 =>
  aDp r n kk9 x2 x3 x6 x7 x9 x10 x11 h6
noncomputable def aCt (r : RT) (n : Nat) (kk9 : iL) (x2 x3 x6 x7 x9 x10 : DV) (h0 : Hp) : aH :=
 bnd (aA x7 h0) fun v1 h1 =>
 bnd (aA x7 h1) fun v2 h2 =>
 bnd (cB v2 h2) fun v3 h3 =>
 bnd (aD .sub v3 (aG 1) h3) fun v4 h4 =>
 bnd (aE 1 v1 v4 h4) fun v5 h5 =>
 bnd (aA v5 h5) fun v6 h6 =>
  aHj r n kk9 x2 x3 x6 x7 x9 x10 v6 h6
noncomputable def aUt (r : RT) (n : Nat) (kk9 : iL) (x2 x3 x6 x7 x9 x10 : DV) (h0 : Hp) : aH :=
 bnd (aA x7 h0) fun v1 h1 =>
 bnd (cB v1 h1) fun v2 h2 =>
 bnd (aD .gtr v2 (aG 0) h2) fun v3 h3 =>
 bnd (gD v3 true (aA x9 h3) h3) fun v4 h4 =>
 bnd (aQ v3 v4 (.b false) h4) fun v5 h5 =>
 aX v5 (
   aCt r n kk9 x2 x3 x6 x7 x9 x10 h5) (
   bX r n x6 x9 h5)
noncomputable def uP (r : RT) (n : Nat) (m : Nat) : iL :=
 Nat.rec (motive := fun _ => iL) (fun _ _ _ _ _ _ _ => none) (fun _ ih => aUt r n ih) m
noncomputable def bSa (r : RT) (n : Nat) : iL := uP r n n
noncomputable def aOf (r : RT) (n : Nat) (x2 x3 x6 x7 x9 x10 : DV) (h0 : Hp) : aH :=
 bSa r n x2 x3 x6 x7 x9 x10 h0
noncomputable def aRf (r : RT) (n : Nat) (x2 x3 x6 x7 x9 x10 : DV) (h0 : Hp) : aH :=
 aOf r n x2 x3 x6 x7 x9 x10 h0
noncomputable def xW (r : RT) (n : Nat) (x2 x3 x6 x7 x9 : DV) (h0 : Hp) : aH :=
 aRf r n x2 x3 x6 x7 x9 (.f 170 [] [x2, x3, x6, x9, x7]) h0
noncomputable def cS (r : RT) (n : Nat) (x2 x3 x6 x7 : DV) (h0 : Hp) : aH :=
 bnd (bY [(.b false)] h0) fun v1 h1 =>
 bnd (aI 1 v1 (.b true) h1) fun _ h2 =>
  xW r n x2 x3 x6 x7 v1 h2
noncomputable def mJ (r : RT) (n : Nat) (kk18 : iL) (x2 x3 x6 x7 x19 x20 : DV) (h0 : Hp) : aH :=
 bnd (aD .add x20 (aG 1) h0) fun v1 h1 =>
  kk18 x2 x3 x6 x7 x19 v1 h1
noncomputable def vC (r : RT) (n : Nat) (kk18 : iL) (x2 x3 x6 x7 x19 x20 : DV) (h0 : Hp) : aH :=
 bnd (aA x6 h0) fun v1 h1 =>
 bnd (aE 1 v1 x20 h1) fun v2 h2 =>
 bnd (aI 1 v2 (.i .i64 (Int.negSucc 0)) h2) fun _ h3 =>
 bnd (aD .eql x20 (aG 0) h3) fun v4 h4 =>
 bnd (gD v4 false (some (x20, h4)) h4) fun v5 h5 =>
 bnd (gD v4 false (aD .gtr v5 (aG 1) h5) h5) fun v6 h6 =>
 bnd (gD v4 false (some (v6, h6)) h6) fun v7 h7 =>
 bnd (gD v7 true (aA x2 h7) h7) fun v8 h8 =>
 bnd (gD v7 true (some (x20, h8)) h8) fun v9 h9 =>
 bnd (gD v7 true (aD .sub v9 (aG 2) h9) h9) fun v10 h10 =>
 bnd (gD v7 true (aE 3 v8 v10 h10) h10) fun v11 h11 =>
 bnd (gD v7 true (aB 0 v11 h11) h11) fun v12 h12 =>
 bnd (gD v7 true (aA v12 h12) h12) fun v13 h13 =>
 bnd (gD v7 true (aD .eql v13 (aG 18) h13) h13) fun v14 h14 =>
 bnd (gD v4 false (aQ v7 v14 (.b false) h14) h14) fun v15 h15 =>
 bnd (gD v4 false (some (v15, h15)) h15) fun v16 h16 =>
 bnd (gD v16 true (aA x3 h16) h16) fun v17 h17 =>
 bnd (gD v16 true (some (x20, h17)) h17) fun v18 h18 =>
 bnd (gD v16 true (aE 1 v17 v18 h18) h18) fun v19 h19 =>
 bnd (gD v16 true (aA v19 h19) h19) fun v20 h20 =>
 bnd (gD v16 true (some (x20, h20)) h20) fun v21 h21 =>
 bnd (gD v16 true (aD .sub v21 (aG 2) h21) h21) fun v22 h22 =>
 bnd (gD v16 true (aD .eql v20 v22 h22) h22) fun v23 h23 =>
 bnd (gD v4 false (aQ v16 v23 (.b false) h23) h23) fun v24 h24 =>
 bnd (aQ v4 (.b true) v24 h24) fun v25 h25 =>
 aX v25 (
 bnd (aA x6 h25) fun v26 h26 =>
 bnd (aE 1 v26 x20 h26) fun v27 h27 =>
 bnd (aI 1 v27 (aG 0) h27) fun _ h28 =>
 bnd (aA x7 h28) fun v29 h29 =>
 bnd (aN [(aG 0)] 1 [(0, 1, x20)] h29) fun v30 h30 =>
 bnd (aY 1 8 v29 v30 h30) fun v31 h31 =>
 bnd (aI 1 x7 v31 h31) fun _ h32 =>
  mJ r n kk18 x2 x3 x6 x7 x19 x20 h32) (
  mJ r n kk18 x2 x3 x6 x7 x19 x20 h25)
noncomputable def aFy (r : RT) (n : Nat) (kk18 : iL) (x2 x3 x6 x7 x19 x20 x21 : DV) (h0 : Hp) : aH :=
 aX x21 (
  vC r n kk18 x2 x3 x6 x7 x19 x20 h0) (
  cS r n x2 x3 x6 x7 h0)
noncomputable def aKj (r : RT) (n : Nat) (kk18 : iL) (x2 x3 x6 x7 x19 x20 : DV) (h0 : Hp) : aH :=
 bnd (aD .lss x20 x19 h0) fun v1 h1 =>
  aFy r n kk18 x2 x3 x6 x7 x19 x20 v1 h1
noncomputable def pY (r : RT) (n : Nat) (m : Nat) : iL :=
 Nat.rec (motive := fun _ => iL) (fun _ _ _ _ _ _ _ => none) (fun _ ih => aKj r n ih) m
noncomputable def aUp (r : RT) (n : Nat) : iL := pY r n n
noncomputable def aEd (r : RT) (n : Nat) (x2 x3 x6 x7 x19 x20 : DV) (h0 : Hp) : aH :=
 aUp r n x2 x3 x6 x7 x19 x20 h0
noncomputable def wH (r : RT) (n : Nat) (x2 x3 x6 x7 : DV) (h0 : Hp) : aH :=
 bnd (aA x6 h0) fun v1 h1 =>
 bnd (cB v1 h1) fun v2 h2 =>
  aEd r n x2 x3 x6 x7 v2 (aG 0) h2
noncomputable def sJ (r : RT) (n : Nat) (x2 x3 x6 : DV) (h0 : Hp) : aH :=
 bnd (bY [.l0] h0) fun v1 h1 =>
  wH r n x2 x3 x6 v1 h1
noncomputable def rK (r : RT) (n : Nat) (x2 x3 : DV) (h0 : Hp) : aH :=
 bnd (aA x2 h0) fun v1 h1 =>
 bnd (cB v1 h1) fun v2 h2 =>
 bnd (cP 1 8 [(aG 0)] v2 v2 h2) fun v3 h3 =>
 bnd (bY [.l0] h3) fun v4 h4 =>
 bnd (aI 1 v4 v3 h4) fun _ h5 =>
  sJ r n x2 x3 v4 h5
noncomputable def s149 (r : RT) (n : Nat) (x0 x1 : DV) (h0 : Hp) : aH :=
 bnd (bU x0 h0) fun v1 h1 =>
 bnd (bU x1 h1) fun v2 h2 =>
  rK r n v1 v2 h2
noncomputable abbrev c149 : Code := cf Tryz.f149
noncomputable abbrev aSk : Code := cR c149
noncomputable abbrev aFk : Code := cL aSk
noncomputable abbrev aFo : Code := cR aFk
noncomputable abbrev aDq : Code := cR aFo
noncomputable abbrev aDc : Code := cR aDq
noncomputable abbrev aIg : Code := cR aDc
noncomputable abbrev aDk : Code := cR aIg
noncomputable abbrev aHq : Code := cR aDk
noncomputable abbrev cPi : Code := cR aHq
noncomputable abbrev vD : Code := cL aHq
noncomputable abbrev tW : Code := cL vD
noncomputable abbrev iY : Code := cL tW
noncomputable abbrev aFj : Code := cR iY
noncomputable abbrev vU : Code := cL aFj
noncomputable abbrev tT : Code := cR vU
noncomputable abbrev vW : Code := cR tT
noncomputable abbrev vE : Code := cR vW
noncomputable abbrev vK : Code := cR vE
noncomputable abbrev uZ : Code := cR vK
noncomputable abbrev cKo : Code := cR uZ
noncomputable abbrev aWe : Code := cL uZ
noncomputable abbrev aVg : Code := cL vK
noncomputable abbrev aXq : Code := cL vE
noncomputable abbrev bAv : Code := cL vW
noncomputable abbrev aXa : Code := cL tT
noncomputable abbrev aUg : Code := cL vU
noncomputable abbrev aYe : Code := cL iY
noncomputable abbrev bBc : Code := cL aDk
noncomputable abbrev aXd : Code := cL aIg
noncomputable abbrev aFd : Code := cL aDc
noncomputable abbrev pZ : Code := cL aDq
noncomputable abbrev aHa : Code := cR pZ
noncomputable abbrev vQ : Code := cL aHa
noncomputable abbrev iZ : Code := cL vQ
noncomputable abbrev vM : Code := cR iZ
noncomputable abbrev vV : Code := cR vM
noncomputable abbrev cJt : Code := cR vV
noncomputable abbrev aJo : Code := cL vV
noncomputable abbrev aUw : Code := cL vM
noncomputable abbrev aXw : Code := cL iZ
noncomputable abbrev aVk : Code := cL pZ
noncomputable abbrev aHf : Code := cL aFo
noncomputable abbrev aCx : Code := cL aFk
noncomputable abbrev aIb : Code := cL c149
noncomputable abbrev r149 : K := aV CF Tryz.f149
noncomputable def D149 (r : RT) (n : Nat) (c : Code) (X : Nat → K) (k : K) : K := aP CF r 144 n c X r149 k
theorem cHo : D149 r n cPi x0 r149 = (K2 (bX r n) 6 9) :=
 (by kernel_rfl)
theorem bSx (kk9 : iL) : D149 r n cKo (xs (xs x0 2 (K2 (bX r n) 6 9)) 3 (K6 kk9 2 3 6 7 9 10)) (K6 kk9 2 3 6 7 9 10) = (K8 (uM r n kk9) 2 3 6 7 9 10 11 14) :=
 (by kernel_rfl)
theorem bBu (kk9 : iL) : D149 r n uZ (xs (xs x0 2 (K2 (bX r n) 6 9)) 3 (K6 kk9 2 3 6 7 9 10)) (K6 kk9 2 3 6 7 9 10) = D149 r n aWe (xs (xs x0 2 (K2 (bX r n) 6 9)) 3 (K6 kk9 2 3 6 7 9 10)) (K8 (uM r n kk9) 2 3 6 7 9 10 11 14) :=
 congrArg (fun k => D149 r n aWe (xs (xs x0 2 (K2 (bX r n) 6 9)) 3 (K6 kk9 2 3 6 7 9 10)) k) (bSx r n kk9)
theorem bGg (kk9 : iL) : D149 r n uZ (xs (xs x0 2 (K2 (bX r n) 6 9)) 3 (K6 kk9 2 3 6 7 9 10)) (K6 kk9 2 3 6 7 9 10) = (K10 (aCd r n kk9) 2 3 6 7 9 10 11 12 13 14) :=
 (bBu r n kk9).trans
 ((by kernel_rfl))
theorem bEb (kk9 : iL) : D149 r n vK (xs (xs x0 2 (K2 (bX r n) 6 9)) 3 (K6 kk9 2 3 6 7 9 10)) (K6 kk9 2 3 6 7 9 10) = D149 r n aVg (xs (xs x0 2 (K2 (bX r n) 6 9)) 3 (K6 kk9 2 3 6 7 9 10)) (K10 (aCd r n kk9) 2 3 6 7 9 10 11 12 13 14) :=
 congrArg (fun k => D149 r n aVg (xs (xs x0 2 (K2 (bX r n) 6 9)) 3 (K6 kk9 2 3 6 7 9 10)) k) (bGg r n kk9)
theorem bQu (kk9 : iL) : D149 r n vK (xs (xs x0 2 (K2 (bX r n) 6 9)) 3 (K6 kk9 2 3 6 7 9 10)) (K6 kk9 2 3 6 7 9 10) = (K10 (aHm r n kk9) 2 3 6 7 9 10 11 12 13 14) :=
 (bEb r n kk9).trans
 ((by kernel_rfl))
theorem bFb (kk9 : iL) : D149 r n vE (xs (xs x0 2 (K2 (bX r n) 6 9)) 3 (K6 kk9 2 3 6 7 9 10)) (K6 kk9 2 3 6 7 9 10) = D149 r n aXq (xs (xs x0 2 (K2 (bX r n) 6 9)) 3 (K6 kk9 2 3 6 7 9 10)) (K10 (aHm r n kk9) 2 3 6 7 9 10 11 12 13 14) :=
 congrArg (fun k => D149 r n aXq (xs (xs x0 2 (K2 (bX r n) 6 9)) 3 (K6 kk9 2 3 6 7 9 10)) k) (bQu r n kk9)
theorem bTf (kk9 : iL) : D149 r n vE (xs (xs x0 2 (K2 (bX r n) 6 9)) 3 (K6 kk9 2 3 6 7 9 10)) (K6 kk9 2 3 6 7 9 10) = (K9 (aBs r n kk9) 2 3 6 7 9 10 11 12 13) :=
 (bFb r n kk9).trans
 ((by kernel_rfl))
theorem bCn (kk9 : iL) : D149 r n vW (xs (xs x0 2 (K2 (bX r n) 6 9)) 3 (K6 kk9 2 3 6 7 9 10)) (K6 kk9 2 3 6 7 9 10) = D149 r n bAv (xs (xs x0 2 (K2 (bX r n) 6 9)) 3 (K6 kk9 2 3 6 7 9 10)) (K9 (aBs r n kk9) 2 3 6 7 9 10 11 12 13) :=
 congrArg (fun k => D149 r n bAv (xs (xs x0 2 (K2 (bX r n) 6 9)) 3 (K6 kk9 2 3 6 7 9 10)) k) (bTf r n kk9)
theorem bOy (kk9 : iL) : D149 r n vW (xs (xs x0 2 (K2 (bX r n) 6 9)) 3 (K6 kk9 2 3 6 7 9 10)) (K6 kk9 2 3 6 7 9 10) = (K7 (aDp r n kk9) 2 3 6 7 9 10 11) :=
 (bCn r n kk9).trans
 ((by kernel_rfl))
theorem bEe (kk9 : iL) : D149 r n tT (xs (xs x0 2 (K2 (bX r n) 6 9)) 3 (K6 kk9 2 3 6 7 9 10)) (K6 kk9 2 3 6 7 9 10) = D149 r n aXa (xs (xs x0 2 (K2 (bX r n) 6 9)) 3 (K6 kk9 2 3 6 7 9 10)) (K7 (aDp r n kk9) 2 3 6 7 9 10 11) :=
 congrArg (fun k => D149 r n aXa (xs (xs x0 2 (K2 (bX r n) 6 9)) 3 (K6 kk9 2 3 6 7 9 10)) k) (bOy r n kk9)
theorem bHa (kk9 : iL) : D149 r n tT (xs (xs x0 2 (K2 (bX r n) 6 9)) 3 (K6 kk9 2 3 6 7 9 10)) (K6 kk9 2 3 6 7 9 10) = (K7 (aHj r n kk9) 2 3 6 7 9 10 11) :=
 (bEe r n kk9).trans
 ((by kernel_rfl))
theorem bDl (kk9 : iL) : D149 r n vU (xs (xs x0 2 (K2 (bX r n) 6 9)) 3 (K6 kk9 2 3 6 7 9 10)) (K6 kk9 2 3 6 7 9 10) = D149 r n aUg (xs (xs x0 2 (K2 (bX r n) 6 9)) 3 (K6 kk9 2 3 6 7 9 10)) (K7 (aHj r n kk9) 2 3 6 7 9 10 11) :=
 congrArg (fun k => D149 r n aUg (xs (xs x0 2 (K2 (bX r n) 6 9)) 3 (K6 kk9 2 3 6 7 9 10)) k) (bHa r n kk9)
theorem bYg (kk9 : iL) : D149 r n aFj (xs x0 2 (K2 (bX r n) 6 9)) (K6 kk9 2 3 6 7 9 10) = (K6 (aCt r n kk9) 2 3 6 7 9 10) :=
 (by kernel_rfl : D149 r n aFj (xs x0 2 (K2 (bX r n) 6 9)) (K6 kk9 2 3 6 7 9 10) = D149 r n vU (xs (xs x0 2 (K2 (bX r n) 6 9)) 3 (K6 kk9 2 3 6 7 9 10)) (K6 kk9 2 3 6 7 9 10)).trans
 ((bDl r n kk9).trans
 ((by kernel_rfl)))
theorem bVs (kk9 : iL) : D149 r n iY (xs x0 2 (K2 (bX r n) 6 9)) (K6 kk9 2 3 6 7 9 10) = D149 r n aYe (xs x0 2 (K2 (bX r n) 6 9)) (K6 (aCt r n kk9) 2 3 6 7 9 10) :=
 congrArg (fun k => D149 r n aYe (xs x0 2 (K2 (bX r n) 6 9)) k) (bYg r n kk9)
theorem bQj (kk9 : iL) : D149 r n iY (xs x0 2 (K2 (bX r n) 6 9)) (K6 kk9 2 3 6 7 9 10) = (K6 (aUt r n kk9) 2 3 6 7 9 10) :=
 (bVs r n kk9).trans
 ((by kernel_rfl))
theorem bWd (m : Nat) : aM (fun kk => D149 r n iY (xs x0 2 (K2 (bX r n) 6 9)) kk) m = (K6 (uP r n m) 2 3 6 7 9 10) := by
 induction m with
 | zero => exact (by kernel_rfl : aM (fun kk => D149 r n iY (xs x0 2 (K2 (bX r n) 6 9)) kk) 0 = (K6 (uP r n 0) 2 3 6 7 9 10))
 | succ m ih =>
  refine (by kernel_rfl : aM (fun kk => D149 r n iY (xs x0 2 (K2 (bX r n) 6 9)) kk) (m + 1) = D149 r n iY (xs x0 2 (K2 (bX r n) 6 9)) (aM (fun kk => D149 r n iY (xs x0 2 (K2 (bX r n) 6 9)) kk) m)).trans ?_
  rw [ih]
  exact (bQj r n (uP r n m)).trans (by kernel_rfl)
theorem bZj : D149 r n tW (xs x0 2 (K2 (bX r n) 6 9)) (K2 (bX r n) 6 9) = (K6 (bSa r n) 2 3 6 7 9 10) :=
 (by kernel_rfl : D149 r n tW (xs x0 2 (K2 (bX r n) 6 9)) (K2 (bX r n) 6 9) = aM (fun kk => D149 r n iY (xs x0 2 (K2 (bX r n) 6 9)) kk) n).trans ((bWd r n n).trans (by kernel_rfl))
theorem bHj : D149 r n aHq x0 r149 = D149 r n vD x0 (K2 (bX r n) 6 9) :=
 congrArg (fun k => D149 r n vD x0 k) (cHo r n)
theorem cBj : D149 r n aHq x0 r149 = (K6 (aOf r n) 2 3 6 7 9 10) :=
 (bHj r n).trans
 ((by kernel_rfl : D149 r n vD x0 (K2 (bX r n) 6 9) = D149 r n tW (xs x0 2 (K2 (bX r n) 6 9)) (K2 (bX r n) 6 9)).trans
 ((bZj r n).trans (by kernel_rfl)))
theorem bWk : D149 r n aDk x0 r149 = D149 r n bBc x0 (K6 (aOf r n) 2 3 6 7 9 10) :=
 congrArg (fun k => D149 r n bBc x0 k) (cBj r n)
theorem cAj : D149 r n aDk x0 r149 = (K6 (aRf r n) 2 3 6 7 9 10) :=
 (bWk r n).trans
 ((by kernel_rfl))
theorem bBw : D149 r n aIg x0 r149 = D149 r n aXd x0 (K6 (aRf r n) 2 3 6 7 9 10) :=
 congrArg (fun k => D149 r n aXd x0 k) (cAj r n)
theorem cBx : D149 r n aIg x0 r149 = (K5 (xW r n) 2 3 6 7 9) :=
 (bBw r n).trans
 ((by kernel_rfl))
theorem bBx : D149 r n aDc x0 r149 = D149 r n aFd x0 (K5 (xW r n) 2 3 6 7 9) :=
 congrArg (fun k => D149 r n aFd x0 k) (cBx r n)
theorem bCv (q0 : bT) : D149 r n aFd x0 (K5 q0 2 3 6 7 9) = fun (env : bA) (h : Hp) =>
 bnd (bY [(.b false)] h) fun v1 h1 =>
 bnd (aI 1 v1 (.b true) h1) fun _ h2 =>
  q0 (env 2) (env 3) (env 6) (env 7) v1 h2 := by kernel_rfl
theorem aOm : (fun (env : bA) (h : Hp) =>
 bnd (bY [(.b false)] h) fun v1 h1 =>
 bnd (aI 1 v1 (.b true) h1) fun _ h2 =>
  xW r n (env 2) (env 3) (env 6) (env 7) v1 h2) = (K4 (cS r n) 2 3 6 7) := by kernel_rfl
theorem cGd : D149 r n aDc x0 r149 = (K4 (cS r n) 2 3 6 7) :=
 (bBx r n).trans
 ((bCv r n (xW r n)).trans (aOm r n))
theorem bSy (kk18 : iL) : D149 r n cJt (xs x0 0 (K4 (cS r n) 2 3 6 7)) (K6 kk18 2 3 6 7 19 20) = (K6 (mJ r n kk18) 2 3 6 7 19 20) :=
 (by kernel_rfl)
theorem aPr (kk18 : iL) : D149 r n vV (xs x0 0 (K4 (cS r n) 2 3 6 7)) (K6 kk18 2 3 6 7 19 20) = D149 r n aJo (xs x0 0 (K4 (cS r n) 2 3 6 7)) (K6 (mJ r n kk18) 2 3 6 7 19 20) :=
 congrArg (fun k => D149 r n aJo (xs x0 0 (K4 (cS r n) 2 3 6 7)) k) (bSy r n kk18)
theorem aNe (kk18 : iL) (q0 : iL) (q1 : bZ) : D149 r n aJo (xs x0 0 (K4 q1 2 3 6 7)) (K6 q0 2 3 6 7 19 20) = fun (env : bA) (h : Hp) =>
 bnd (aA (env 6) h) fun v1 h1 =>
 bnd (aE 1 v1 (env 20) h1) fun v2 h2 =>
 bnd (aI 1 v2 (.i .i64 (Int.negSucc 0)) h2) fun _ h3 =>
 bnd (aD .eql (env 20) (aG 0) h3) fun v4 h4 =>
 bnd (gD v4 false (some ((env 20), h4)) h4) fun v5 h5 =>
 bnd (gD v4 false (aD .gtr v5 (aG 1) h5) h5) fun v6 h6 =>
 bnd (gD v4 false (some (v6, h6)) h6) fun v7 h7 =>
 bnd (gD v7 true (aA (env 2) h7) h7) fun v8 h8 =>
 bnd (gD v7 true (some ((env 20), h8)) h8) fun v9 h9 =>
 bnd (gD v7 true (aD .sub v9 (aG 2) h9) h9) fun v10 h10 =>
 bnd (gD v7 true (aE 3 v8 v10 h10) h10) fun v11 h11 =>
 bnd (gD v7 true (aB 0 v11 h11) h11) fun v12 h12 =>
 bnd (gD v7 true (aA v12 h12) h12) fun v13 h13 =>
 bnd (gD v7 true (aD .eql v13 (aG 18) h13) h13) fun v14 h14 =>
 bnd (gD v4 false (aQ v7 v14 (.b false) h14) h14) fun v15 h15 =>
 bnd (gD v4 false (some (v15, h15)) h15) fun v16 h16 =>
 bnd (gD v16 true (aA (env 3) h16) h16) fun v17 h17 =>
 bnd (gD v16 true (some ((env 20), h17)) h17) fun v18 h18 =>
 bnd (gD v16 true (aE 1 v17 v18 h18) h18) fun v19 h19 =>
 bnd (gD v16 true (aA v19 h19) h19) fun v20 h20 =>
 bnd (gD v16 true (some ((env 20), h20)) h20) fun v21 h21 =>
 bnd (gD v16 true (aD .sub v21 (aG 2) h21) h21) fun v22 h22 =>
 bnd (gD v16 true (aD .eql v20 v22 h22) h22) fun v23 h23 =>
 bnd (gD v4 false (aQ v16 v23 (.b false) h23) h23) fun v24 h24 =>
 bnd (aQ v4 (.b true) v24 h24) fun v25 h25 =>
 aX v25 (
 bnd (aA (env 6) h25) fun v26 h26 =>
 bnd (aE 1 v26 (env 20) h26) fun v27 h27 =>
 bnd (aI 1 v27 (aG 0) h27) fun _ h28 =>
 bnd (aA (env 7) h28) fun v29 h29 =>
 bnd (aN [(aG 0)] 1 [(0, 1, (env 20))] h29) fun v30 h30 =>
 bnd (aY 1 8 v29 v30 h30) fun v31 h31 =>
 bnd (aI 1 (env 7) v31 h31) fun _ h32 =>
      q0 (env 2) (env 3) (env 6) (env 7) (env 19) (env 20) h32) (
      q0 (env 2) (env 3) (env 6) (env 7) (env 19) (env 20) h25) := by kernel_rfl
theorem aKr (kk18 : iL) : (fun (env : bA) (h : Hp) =>
 bnd (aA (env 6) h) fun v1 h1 =>
 bnd (aE 1 v1 (env 20) h1) fun v2 h2 =>
 bnd (aI 1 v2 (.i .i64 (Int.negSucc 0)) h2) fun _ h3 =>
 bnd (aD .eql (env 20) (aG 0) h3) fun v4 h4 =>
 bnd (gD v4 false (some ((env 20), h4)) h4) fun v5 h5 =>
 bnd (gD v4 false (aD .gtr v5 (aG 1) h5) h5) fun v6 h6 =>
 bnd (gD v4 false (some (v6, h6)) h6) fun v7 h7 =>
 bnd (gD v7 true (aA (env 2) h7) h7) fun v8 h8 =>
 bnd (gD v7 true (some ((env 20), h8)) h8) fun v9 h9 =>
 bnd (gD v7 true (aD .sub v9 (aG 2) h9) h9) fun v10 h10 =>
 bnd (gD v7 true (aE 3 v8 v10 h10) h10) fun v11 h11 =>
 bnd (gD v7 true (aB 0 v11 h11) h11) fun v12 h12 =>
 bnd (gD v7 true (aA v12 h12) h12) fun v13 h13 =>
 bnd (gD v7 true (aD .eql v13 (aG 18) h13) h13) fun v14 h14 =>
 bnd (gD v4 false (aQ v7 v14 (.b false) h14) h14) fun v15 h15 =>
 bnd (gD v4 false (some (v15, h15)) h15) fun v16 h16 =>
 bnd (gD v16 true (aA (env 3) h16) h16) fun v17 h17 =>
 bnd (gD v16 true (some ((env 20), h17)) h17) fun v18 h18 =>
 bnd (gD v16 true (aE 1 v17 v18 h18) h18) fun v19 h19 =>
 bnd (gD v16 true (aA v19 h19) h19) fun v20 h20 =>
 bnd (gD v16 true (some ((env 20), h20)) h20) fun v21 h21 =>
 bnd (gD v16 true (aD .sub v21 (aG 2) h21) h21) fun v22 h22 =>
 bnd (gD v16 true (aD .eql v20 v22 h22) h22) fun v23 h23 =>
 bnd (gD v4 false (aQ v16 v23 (.b false) h23) h23) fun v24 h24 =>
 bnd (aQ v4 (.b true) v24 h24) fun v25 h25 =>
 aX v25 (
 bnd (aA (env 6) h25) fun v26 h26 =>
 bnd (aE 1 v26 (env 20) h26) fun v27 h27 =>
 bnd (aI 1 v27 (aG 0) h27) fun _ h28 =>
 bnd (aA (env 7) h28) fun v29 h29 =>
 bnd (aN [(aG 0)] 1 [(0, 1, (env 20))] h29) fun v30 h30 =>
 bnd (aY 1 8 v29 v30 h30) fun v31 h31 =>
 bnd (aI 1 (env 7) v31 h31) fun _ h32 =>
      mJ r n kk18 (env 2) (env 3) (env 6) (env 7) (env 19) (env 20) h32) (
      mJ r n kk18 (env 2) (env 3) (env 6) (env 7) (env 19) (env 20) h25)) = (K6 (vC r n kk18) 2 3 6 7 19 20) := by kernel_rfl
theorem bPi (kk18 : iL) : D149 r n vV (xs x0 0 (K4 (cS r n) 2 3 6 7)) (K6 kk18 2 3 6 7 19 20) = (K6 (vC r n kk18) 2 3 6 7 19 20) :=
 (aPr r n kk18).trans
 ((aNe r n kk18 (mJ r n kk18) (cS r n)).trans (aKr r n kk18))
theorem aNx (kk18 : iL) : D149 r n vM (xs x0 0 (K4 (cS r n) 2 3 6 7)) (K6 kk18 2 3 6 7 19 20) = D149 r n aUw (xs x0 0 (K4 (cS r n) 2 3 6 7)) (K6 (vC r n kk18) 2 3 6 7 19 20) :=
 congrArg (fun k => D149 r n aUw (xs x0 0 (K4 (cS r n) 2 3 6 7)) k) (bPi r n kk18)
theorem bLp (kk18 : iL) : D149 r n vM (xs x0 0 (K4 (cS r n) 2 3 6 7)) (K6 kk18 2 3 6 7 19 20) = (K7 (aFy r n kk18) 2 3 6 7 19 20 21) :=
 (aNx r n kk18).trans
 ((by kernel_rfl))
theorem aRy (kk18 : iL) : D149 r n iZ (xs x0 0 (K4 (cS r n) 2 3 6 7)) (K6 kk18 2 3 6 7 19 20) = D149 r n aXw (xs x0 0 (K4 (cS r n) 2 3 6 7)) (K7 (aFy r n kk18) 2 3 6 7 19 20 21) :=
 congrArg (fun k => D149 r n aXw (xs x0 0 (K4 (cS r n) 2 3 6 7)) k) (bLp r n kk18)
theorem bCa (kk18 : iL) : D149 r n iZ (xs x0 0 (K4 (cS r n) 2 3 6 7)) (K6 kk18 2 3 6 7 19 20) = (K6 (aKj r n kk18) 2 3 6 7 19 20) :=
 (aRy r n kk18).trans
 ((by kernel_rfl))
theorem bDw (m : Nat) : aM (fun kk => D149 r n iZ (xs x0 0 (K4 (cS r n) 2 3 6 7)) kk) m = (K6 (pY r n m) 2 3 6 7 19 20) := by
 induction m with
 | zero => exact (by kernel_rfl : aM (fun kk => D149 r n iZ (xs x0 0 (K4 (cS r n) 2 3 6 7)) kk) 0 = (K6 (pY r n 0) 2 3 6 7 19 20))
 | succ m ih =>
  refine (by kernel_rfl : aM (fun kk => D149 r n iZ (xs x0 0 (K4 (cS r n) 2 3 6 7)) kk) (m + 1) = D149 r n iZ (xs x0 0 (K4 (cS r n) 2 3 6 7)) (aM (fun kk => D149 r n iZ (xs x0 0 (K4 (cS r n) 2 3 6 7)) kk) m)).trans ?_
  rw [ih]
  exact (bCa r n (pY r n m)).trans (by kernel_rfl)
theorem bXs : D149 r n vQ (xs x0 0 (K4 (cS r n) 2 3 6 7)) (K4 (cS r n) 2 3 6 7) = (K6 (aUp r n) 2 3 6 7 19 20) :=
 (by kernel_rfl : D149 r n vQ (xs x0 0 (K4 (cS r n) 2 3 6 7)) (K4 (cS r n) 2 3 6 7) = aM (fun kk => D149 r n iZ (xs x0 0 (K4 (cS r n) 2 3 6 7)) kk) n).trans ((bDw r n n).trans (by kernel_rfl))
theorem bHu : D149 r n aHa x0 (K4 (cS r n) 2 3 6 7) = (K6 (aEd r n) 2 3 6 7 19 20) :=
 (by kernel_rfl : D149 r n aHa x0 (K4 (cS r n) 2 3 6 7) = D149 r n vQ (xs x0 0 (K4 (cS r n) 2 3 6 7)) (K4 (cS r n) 2 3 6 7)).trans
 ((bXs r n).trans (by kernel_rfl))
theorem bEv : D149 r n aDq x0 r149 = D149 r n pZ x0 (K4 (cS r n) 2 3 6 7) :=
 congrArg (fun k => D149 r n pZ x0 k) (cGd r n)
theorem bCt : D149 r n pZ x0 (K4 (cS r n) 2 3 6 7) = D149 r n aVk x0 (K6 (aEd r n) 2 3 6 7 19 20) :=
 congrArg (fun k => D149 r n aVk x0 k) (bHu r n)
theorem cJo : D149 r n aDq x0 r149 = (K4 (wH r n) 2 3 6 7) :=
 (bEv r n).trans
 ((bCt r n).trans
 ((by kernel_rfl)))
theorem bEo : D149 r n aFo x0 r149 = D149 r n aHf x0 (K4 (wH r n) 2 3 6 7) :=
 congrArg (fun k => D149 r n aHf x0 k) (cJo r n)
theorem bEu (q0 : bZ) : D149 r n aHf x0 (K4 q0 2 3 6 7) = fun (env : bA) (h : Hp) =>
 bnd (bY [.l0] h) fun v1 h1 =>
  q0 (env 2) (env 3) (env 6) v1 h1 := by kernel_rfl
theorem aRz : (fun (env : bA) (h : Hp) =>
 bnd (bY [.l0] h) fun v1 h1 =>
  wH r n (env 2) (env 3) (env 6) v1 h1) = (K3 (sJ r n) 2 3 6) := by kernel_rfl
theorem cDi : D149 r n aFo x0 r149 = (K3 (sJ r n) 2 3 6) :=
 (bEo r n).trans
 ((bEu r n (wH r n)).trans (aRz r n))
theorem bDo : D149 r n aFk x0 r149 = D149 r n aCx x0 (K3 (sJ r n) 2 3 6) :=
 congrArg (fun k => D149 r n aCx x0 k) (cDi r n)
theorem bBg (q0 : jF) : D149 r n aCx x0 (K3 q0 2 3 6) = fun (env : bA) (h : Hp) =>
 bnd (aA (env 2) h) fun v1 h1 =>
 bnd (cB v1 h1) fun v2 h2 =>
 bnd (cP 1 8 [(aG 0)] v2 v2 h2) fun v3 h3 =>
 bnd (bY [.l0] h3) fun v4 h4 =>
 bnd (aI 1 v4 v3 h4) fun _ h5 =>
  q0 (env 2) (env 3) v4 h5 := by kernel_rfl
theorem aSu : (fun (env : bA) (h : Hp) =>
 bnd (aA (env 2) h) fun v1 h1 =>
 bnd (cB v1 h1) fun v2 h2 =>
 bnd (cP 1 8 [(aG 0)] v2 v2 h2) fun v3 h3 =>
 bnd (bY [.l0] h3) fun v4 h4 =>
 bnd (aI 1 v4 v3 h4) fun _ h5 =>
  sJ r n (env 2) (env 3) v4 h5) = (K2 (rK r n) 2 3) := by kernel_rfl
theorem cJe : D149 r n aSk x0 r149 = (K2 (rK r n) 2 3) :=
 (by kernel_rfl : D149 r n aSk x0 r149 = D149 r n aFk x0 r149).trans
 ((bDo r n).trans
 ((bBg r n (sJ r n)).trans (aSu r n)))
theorem cEj : D149 r n c149 x0 r149 = D149 r n aIb x0 (K2 (rK r n) 2 3) :=
 congrArg (fun k => D149 r n aIb x0 k) (cJe r n)
theorem bZw (q0 : tS) : D149 r n aIb x0 (K2 q0 2 3) = fun (env : bA) (h : Hp) =>
 bnd (bU (env 0) h) fun v1 h1 =>
 bnd (bU (env 1) h1) fun v2 h2 =>
  q0 v1 v2 h2 := by kernel_rfl
theorem bNx : (fun (env : bA) (h : Hp) =>
 bnd (bU (env 0) h) fun v1 h1 =>
 bnd (bU (env 1) h1) fun v2 h2 =>
  rK r n v1 v2 h2) = (K2 (s149 r n) 0 1) := by kernel_rfl
theorem dAs : D149 r n c149 x0 r149 = (K2 (s149 r n) 0 1) :=
 (cEj r n).trans
 ((bZw r n (rK r n)).trans (bNx r n))
theorem cUb : aF CF r n 149 args h = s149 r n (aW args 0) (aW args 1) h :=
 (by kernel_rfl : aF CF r n 149 args h = D149 r n c149 x0 r149 (aJ args) h).trans ((congrFun (congrFun (dAs r n) (aJ args)) h).trans (by kernel_rfl))
end Go.Dd

namespace Go.Dd
open Go.Proofs
variable (r : RT) (n : Nat) (args : List DV) (h : Hp)
noncomputable def eY (r : RT) (n : Nat) (x0 x6 : DV) (h0 : Hp) : aH :=
 bnd (dN x0 h0) fun v1 h1 =>
 bnd (bE [(aG 0), (.s []), (aG 0), (aG 0)] [(3, 1, v1)] h1) fun v2 h2 =>
 bnd (aN [(aG 0), (.s []), (aG 0), (aG 0)] 1 [(0, 4, v2)] h2) fun v3 h3 =>
 bnd (aY 4 40 x6 v3 h3) fun v4 h4 =>
 some (.t [v4, (aG 0), (aG 0)], h4)
noncomputable def aFq (r : RT) (n : Nat) (kk7 : jF) (x0 x5 x6 : DV) (h0 : Hp) : aH :=
 bnd (r 176 [(.s [9, 10, 13, 32])] h0) fun v1 h1 =>
 bnd (dN x0 h1) fun v2 h2 =>
 bnd (r 175 [x5, v1, v2] h2) fun v3 h3 =>
 bnd (aZ x5 h3) fun v4 h4 =>
 bnd (aB 1 v4 h4) fun v5 h5 =>
 bnd (aA v5 h5) fun v6 h6 =>
 bnd (dN x0 h6) fun v7 h7 =>
 bnd (aD .geq v6 v7 h7) fun v8 h8 =>
 aX v8 (
   eY r n x0 x6 h8) (
 bnd (aZ x5 h8) fun v9 h9 =>
 bnd (aB 1 v9 h9) fun v10 h10 =>
 bnd (aA v10 h10) fun v11 h11 =>
 bnd (fI x0 v11 h11) fun v12 h12 =>
 bnd (aD .eql v12 (.i .u8 (Int.ofNat 34)) h12) fun v13 h13 =>
 aX v13 (
 bnd (aZ x5 h13) fun v14 h14 =>
 bnd (aB 1 v14 h14) fun v15 h15 =>
 bnd (aA v15 h15) fun v16 h16 =>
 bnd (aD .add v16 (aG 1) h16) fun v17 h17 =>
 bnd (jT x0 (some v17) none h17) fun v18 h18 =>
 bnd (r 177 [v18, (.i .u8 (Int.ofNat 34))] h18) fun v19 h19 =>
 bnd (aD .lss v19 (aG 0) h19) fun v20 h20 =>
 aX v20 (
 bnd (aZ x5 h20) fun v21 h21 =>
 bnd (aB 1 v21 h21) fun v22 h22 =>
 bnd (aA v22 h22) fun v23 h23 =>
 some (.t [.l0, v23, (aG 11)], h23)) (
 bnd (aZ x5 h20) fun v24 h24 =>
 bnd (aB 1 v24 h24) fun v25 h25 =>
 bnd (aA v25 h25) fun v26 h26 =>
 bnd (aD .add v19 (aG 2) h26) fun v27 h27 =>
 bnd (aD .add v26 v27 h27) fun v28 h28 =>
 bnd (aZ x5 h28) fun v29 h29 =>
 bnd (aB 1 v29 h29) fun v30 h30 =>
 bnd (aI 1 v30 v28 h30) fun _ h31 =>
     kk7 x0 x5 x6 h31)) (
 bnd (r 178 [x5] h13) fun v32 h32 =>
 bnd (aC 0 v32 h32) fun v33 h33 =>
 bnd (aC 1 v32 h33) fun v34 h34 =>
 bnd (bY [(aG 0), (.s []), (aG 0), (aG 0)] h34) fun v35 h35 =>
 bnd (aI 4 v35 v33 h35) fun _ h36 =>
 bnd (aD .neq v34 (aG 0) h36) fun v37 h37 =>
 aX v37 (
 bnd (aB 3 v35 h37) fun v38 h38 =>
 bnd (aA v38 h38) fun v39 h39 =>
 some (.t [.l0, v39, v34], h39)) (
 bnd (aK 4 v35 h37) fun v40 h40 =>
 bnd (aN [(aG 0), (.s []), (aG 0), (aG 0)] 1 [(0, 4, v40)] h40) fun v41 h41 =>
 bnd (aY 4 40 x6 v41 h41) fun v42 h42 =>
     kk7 x0 x5 v42 h42)))
noncomputable def vN (r : RT) (n : Nat) (m : Nat) : jF :=
 Nat.rec (motive := fun _ => jF) (fun _ _ _ _ => none) (fun _ ih => aFq r n ih) m
noncomputable def bFl (r : RT) (n : Nat) : jF := vN r n n
noncomputable def aSh (r : RT) (n : Nat) (x0 x5 x6 : DV) (h0 : Hp) : aH :=
 bFl r n x0 x5 x6 h0
noncomputable def aPb (r : RT) (n : Nat) (x0 x5 x6 : DV) (h0 : Hp) : aH :=
 aSh r n x0 x5 x6 h0
noncomputable def xH (r : RT) (n : Nat) (x0 x5 : DV) (h0 : Hp) : aH :=
 aPb r n x0 x5 .l0 h0
noncomputable def aGv (r : RT) (n : Nat) (x0 : DV) (h0 : Hp) : aH :=
 bnd (bE [(.s []), (aG 0)] [(0, 1, x0)] h0) fun v1 h1 =>
 bnd (bU v1 h1) fun v2 h2 =>
  xH r n x0 v2 h2
noncomputable def aSa (r : RT) (n : Nat) (x0 : DV) (h0 : Hp) : aH :=
 bnd (dN x0 h0) fun v1 h1 =>
 bnd (aD .gtr v1 (aG 2000) h1) fun v2 h2 =>
 aX v2 (
 some (.t [.l0, (aG 0), (aG 12)], h2)) (
  aGv r n x0 h2)
noncomputable def s153 (r : RT) (n : Nat) (x0 : DV) (h0 : Hp) : aH :=
 aSa r n x0 h0
noncomputable abbrev c153 : Code := cf Tryz.f153
noncomputable abbrev aRk : Code := cR c153
noncomputable abbrev aCe : Code := cL aRk
noncomputable abbrev aDh : Code := cR aCe
noncomputable abbrev aIq : Code := cR aDh
noncomputable abbrev aHv : Code := cR aIq
noncomputable abbrev aDa : Code := cR aHv
noncomputable abbrev cQo : Code := cR aDa
noncomputable abbrev aGq : Code := cL aDa
noncomputable abbrev aFw : Code := cL aGq
noncomputable abbrev kS : Code := cL aFw
noncomputable abbrev bAx : Code := cL aHv
noncomputable abbrev aXg : Code := cL aIq
noncomputable abbrev aDd : Code := cL aDh
noncomputable abbrev aTm : Code := cL aCe
noncomputable abbrev aYk : Code := cL c153
noncomputable abbrev r153 : K := aV CF Tryz.f153
noncomputable def D153 (r : RT) (n : Nat) (c : Code) (X : Nat → K) (k : K) : K := aP CF r 80 n c X r153 k
theorem cGj : D153 r n cQo x0 r153 = (K2 (eY r n) 0 6) :=
 (by kernel_rfl)
theorem bMc (kk7 : jF) (q0 : tS) : D153 r n kS (xs x0 0 (K2 q0 0 6)) (K3 kk7 0 5 6) = fun (env : bA) (h : Hp) =>
 bnd (r 176 [(.s [9, 10, 13, 32])] h) fun v1 h1 =>
 bnd (dN (env 0) h1) fun v2 h2 =>
 bnd (r 175 [(env 5), v1, v2] h2) fun v3 h3 =>
 bnd (aZ (env 5) h3) fun v4 h4 =>
 bnd (aB 1 v4 h4) fun v5 h5 =>
 bnd (aA v5 h5) fun v6 h6 =>
 bnd (dN (env 0) h6) fun v7 h7 =>
 bnd (aD .geq v6 v7 h7) fun v8 h8 =>
 aX v8 (
   q0 (env 0) (env 6) h8) (
 bnd (aZ (env 5) h8) fun v9 h9 =>
 bnd (aB 1 v9 h9) fun v10 h10 =>
 bnd (aA v10 h10) fun v11 h11 =>
 bnd (fI (env 0) v11 h11) fun v12 h12 =>
 bnd (aD .eql v12 (.i .u8 (Int.ofNat 34)) h12) fun v13 h13 =>
 aX v13 (
 bnd (aZ (env 5) h13) fun v14 h14 =>
 bnd (aB 1 v14 h14) fun v15 h15 =>
 bnd (aA v15 h15) fun v16 h16 =>
 bnd (aD .add v16 (aG 1) h16) fun v17 h17 =>
 bnd (jT (env 0) (some v17) none h17) fun v18 h18 =>
 bnd (r 177 [v18, (.i .u8 (Int.ofNat 34))] h18) fun v19 h19 =>
 bnd (aD .lss v19 (aG 0) h19) fun v20 h20 =>
 aX v20 (
 bnd (aZ (env 5) h20) fun v21 h21 =>
 bnd (aB 1 v21 h21) fun v22 h22 =>
 bnd (aA v22 h22) fun v23 h23 =>
 some (.t [.l0, v23, (aG 11)], h23)) (
 bnd (aZ (env 5) h20) fun v24 h24 =>
 bnd (aB 1 v24 h24) fun v25 h25 =>
 bnd (aA v25 h25) fun v26 h26 =>
 bnd (aD .add v19 (aG 2) h26) fun v27 h27 =>
 bnd (aD .add v26 v27 h27) fun v28 h28 =>
 bnd (aZ (env 5) h28) fun v29 h29 =>
 bnd (aB 1 v29 h29) fun v30 h30 =>
 bnd (aI 1 v30 v28 h30) fun _ h31 =>
     kk7 (env 0) (env 5) (env 6) h31)) (
 bnd (r 178 [(env 5)] h13) fun v32 h32 =>
 bnd (aC 0 v32 h32) fun v33 h33 =>
 bnd (aC 1 v32 h33) fun v34 h34 =>
 bnd (bY [(aG 0), (.s []), (aG 0), (aG 0)] h34) fun v35 h35 =>
 bnd (aI 4 v35 v33 h35) fun _ h36 =>
 bnd (aD .neq v34 (aG 0) h36) fun v37 h37 =>
 aX v37 (
 bnd (aB 3 v35 h37) fun v38 h38 =>
 bnd (aA v38 h38) fun v39 h39 =>
 some (.t [.l0, v39, v34], h39)) (
 bnd (aK 4 v35 h37) fun v40 h40 =>
 bnd (aN [(aG 0), (.s []), (aG 0), (aG 0)] 1 [(0, 4, v40)] h40) fun v41 h41 =>
 bnd (aY 4 40 (env 6) v41 h41) fun v42 h42 =>
     kk7 (env 0) (env 5) v42 h42))) := by kernel_rfl
theorem bDq (kk7 : jF) : (fun (env : bA) (h : Hp) =>
 bnd (r 176 [(.s [9, 10, 13, 32])] h) fun v1 h1 =>
 bnd (dN (env 0) h1) fun v2 h2 =>
 bnd (r 175 [(env 5), v1, v2] h2) fun v3 h3 =>
 bnd (aZ (env 5) h3) fun v4 h4 =>
 bnd (aB 1 v4 h4) fun v5 h5 =>
 bnd (aA v5 h5) fun v6 h6 =>
 bnd (dN (env 0) h6) fun v7 h7 =>
 bnd (aD .geq v6 v7 h7) fun v8 h8 =>
 aX v8 (
   eY r n (env 0) (env 6) h8) (
 bnd (aZ (env 5) h8) fun v9 h9 =>
 bnd (aB 1 v9 h9) fun v10 h10 =>
 bnd (aA v10 h10) fun v11 h11 =>
 bnd (fI (env 0) v11 h11) fun v12 h12 =>
 bnd (aD .eql v12 (.i .u8 (Int.ofNat 34)) h12) fun v13 h13 =>
 aX v13 (
 bnd (aZ (env 5) h13) fun v14 h14 =>
 bnd (aB 1 v14 h14) fun v15 h15 =>
 bnd (aA v15 h15) fun v16 h16 =>
 bnd (aD .add v16 (aG 1) h16) fun v17 h17 =>
 bnd (jT (env 0) (some v17) none h17) fun v18 h18 =>
 bnd (r 177 [v18, (.i .u8 (Int.ofNat 34))] h18) fun v19 h19 =>
 bnd (aD .lss v19 (aG 0) h19) fun v20 h20 =>
 aX v20 (
 bnd (aZ (env 5) h20) fun v21 h21 =>
 bnd (aB 1 v21 h21) fun v22 h22 =>
 bnd (aA v22 h22) fun v23 h23 =>
 some (.t [.l0, v23, (aG 11)], h23)) (
 bnd (aZ (env 5) h20) fun v24 h24 =>
 bnd (aB 1 v24 h24) fun v25 h25 =>
 bnd (aA v25 h25) fun v26 h26 =>
 bnd (aD .add v19 (aG 2) h26) fun v27 h27 =>
 bnd (aD .add v26 v27 h27) fun v28 h28 =>
 bnd (aZ (env 5) h28) fun v29 h29 =>
 bnd (aB 1 v29 h29) fun v30 h30 =>
 bnd (aI 1 v30 v28 h30) fun _ h31 =>
     kk7 (env 0) (env 5) (env 6) h31)) (
 bnd (r 178 [(env 5)] h13) fun v32 h32 =>
 bnd (aC 0 v32 h32) fun v33 h33 =>
 bnd (aC 1 v32 h33) fun v34 h34 =>
 bnd (bY [(aG 0), (.s []), (aG 0), (aG 0)] h34) fun v35 h35 =>
 bnd (aI 4 v35 v33 h35) fun _ h36 =>
 bnd (aD .neq v34 (aG 0) h36) fun v37 h37 =>
 aX v37 (
 bnd (aB 3 v35 h37) fun v38 h38 =>
 bnd (aA v38 h38) fun v39 h39 =>
 some (.t [.l0, v39, v34], h39)) (
 bnd (aK 4 v35 h37) fun v40 h40 =>
 bnd (aN [(aG 0), (.s []), (aG 0), (aG 0)] 1 [(0, 4, v40)] h40) fun v41 h41 =>
 bnd (aY 4 40 (env 6) v41 h41) fun v42 h42 =>
     kk7 (env 0) (env 5) v42 h42)))) = (K3 (aFq r n kk7) 0 5 6) := by kernel_rfl
theorem bVo (kk7 : jF) : D153 r n kS (xs x0 0 (K2 (eY r n) 0 6)) (K3 kk7 0 5 6) = (K3 (aFq r n kk7) 0 5 6) :=
 (bMc r n kk7 (eY r n)).trans (bDq r n kk7)
theorem bOn (m : Nat) : aM (fun kk => D153 r n kS (xs x0 0 (K2 (eY r n) 0 6)) kk) m = (K3 (vN r n m) 0 5 6) := by
 induction m with
 | zero => exact (by kernel_rfl : aM (fun kk => D153 r n kS (xs x0 0 (K2 (eY r n) 0 6)) kk) 0 = (K3 (vN r n 0) 0 5 6))
 | succ m ih =>
  refine (by kernel_rfl : aM (fun kk => D153 r n kS (xs x0 0 (K2 (eY r n) 0 6)) kk) (m + 1) = D153 r n kS (xs x0 0 (K2 (eY r n) 0 6)) (aM (fun kk => D153 r n kS (xs x0 0 (K2 (eY r n) 0 6)) kk) m)).trans ?_
  rw [ih]
  exact (bVo r n (vN r n m)).trans (by kernel_rfl)
theorem cEe : D153 r n aFw (xs x0 0 (K2 (eY r n) 0 6)) (K2 (eY r n) 0 6) = (K3 (bFl r n) 0 5 6) :=
 (by kernel_rfl : D153 r n aFw (xs x0 0 (K2 (eY r n) 0 6)) (K2 (eY r n) 0 6) = aM (fun kk => D153 r n kS (xs x0 0 (K2 (eY r n) 0 6)) kk) n).trans ((bOn r n n).trans (by kernel_rfl))
theorem bGx : D153 r n aDa x0 r153 = D153 r n aGq x0 (K2 (eY r n) 0 6) :=
 congrArg (fun k => D153 r n aGq x0 k) (cGj r n)
theorem cCw : D153 r n aDa x0 r153 = (K3 (aSh r n) 0 5 6) :=
 (bGx r n).trans
 ((by kernel_rfl : D153 r n aGq x0 (K2 (eY r n) 0 6) = D153 r n aFw (xs x0 0 (K2 (eY r n) 0 6)) (K2 (eY r n) 0 6)).trans
 ((cEe r n).trans (by kernel_rfl)))
theorem bVc : D153 r n aHv x0 r153 = D153 r n bAx x0 (K3 (aSh r n) 0 5 6) :=
 congrArg (fun k => D153 r n bAx x0 k) (cCw r n)
theorem cBq : D153 r n aHv x0 r153 = (K3 (aPb r n) 0 5 6) :=
 (bVc r n).trans
 ((by kernel_rfl))
theorem bGl : D153 r n aIq x0 r153 = D153 r n aXg x0 (K3 (aPb r n) 0 5 6) :=
 congrArg (fun k => D153 r n aXg x0 k) (cBq r n)
theorem cIz : D153 r n aIq x0 r153 = (K2 (xH r n) 0 5) :=
 (bGl r n).trans
 ((by kernel_rfl))
theorem bWj : D153 r n aDh x0 r153 = D153 r n aDd x0 (K2 (xH r n) 0 5) :=
 congrArg (fun k => D153 r n aDd x0 k) (cIz r n)
theorem bWh (q0 : tS) : D153 r n aDd x0 (K2 q0 0 5) = fun (env : bA) (h : Hp) =>
 bnd (bE [(.s []), (aG 0)] [(0, 1, (env 0))] h) fun v1 h1 =>
 bnd (bU v1 h1) fun v2 h2 =>
  q0 (env 0) v2 h2 := by kernel_rfl
theorem bBv : (fun (env : bA) (h : Hp) =>
 bnd (bE [(.s []), (aG 0)] [(0, 1, (env 0))] h) fun v1 h1 =>
 bnd (bU v1 h1) fun v2 h2 =>
  xH r n (env 0) v2 h2) = (K1 (aGv r n) 0) := by kernel_rfl
theorem cMc : D153 r n aDh x0 r153 = (K1 (aGv r n) 0) :=
 (bWj r n).trans
 ((bWh r n (xH r n)).trans (bBv r n))
theorem bGc : D153 r n aCe x0 r153 = D153 r n aTm x0 (K1 (aGv r n) 0) :=
 congrArg (fun k => D153 r n aTm x0 k) (cMc r n)
theorem cDn : D153 r n aRk x0 r153 = (K1 (aSa r n) 0) :=
 (by kernel_rfl : D153 r n aRk x0 r153 = D153 r n aCe x0 r153).trans
 ((bGc r n).trans
 ((by kernel_rfl)))
theorem cWu : D153 r n c153 x0 r153 = D153 r n aYk x0 (K1 (aSa r n) 0) :=
 congrArg (fun k => D153 r n aYk x0 k) (cDn r n)
theorem dEg : D153 r n c153 x0 r153 = (K1 (s153 r n) 0) :=
 (cWu r n).trans
 ((by kernel_rfl))
theorem cVe : aF CF r n 153 args h = s153 r n (aW args 0) h :=
 (by kernel_rfl : aF CF r n 153 args h = D153 r n c153 x0 r153 (aJ args) h).trans ((congrFun (congrFun (dEg r n) (aJ args)) h).trans (by kernel_rfl))
noncomputable def s156 (r : RT) (n : Nat) (x0 x1 x2 : DV) (h0 : Hp) : aH :=
 bnd (bY [(aG 0), (.s []), (aG 0), (aG 0)] h0) fun v1 h1 =>
 bnd (r 179 [x0, x1, x2] h1) fun v2 h2 =>
 bnd (jE .not v2 h2) fun v3 h3 =>
 aX v3 (
 bnd (r 183 [x0, (aG 0)] h3) fun v4 h4 =>
 bnd (r 182 [x0, v4, (aG 13)] h4) fun v5 h5 =>
 bnd (bE [(aG 0), (.s []), (aG 0), (aG 0)] [] h5) fun v6 h6 =>
 bnd (aI 4 v1 v6 h6) fun _ h7 =>
 bnd (aK 4 v1 h7) fun v8 _ =>
 some (v8, h7)) (
 bnd (r 180 [x0] h3) fun v9 h9 =>
 bnd (aI 4 v1 v9 h9) fun _ h10 =>
 bnd (aK 4 v1 h10) fun v11 _ =>
 some (v11, h10))
noncomputable abbrev c156 : Code := cf Tryz.f156
noncomputable abbrev r156 : K := aV CF Tryz.f156
noncomputable def D156 (r : RT) (n : Nat) (c : Code) (X : Nat → K) (k : K) : K := aP CF r 19 n c X r156 k
theorem dDb : D156 r n c156 x0 r156 = (K3 (s156 r n) 0 1 2) :=
 (by kernel_rfl)
theorem cQx : aF CF r n 156 args h = s156 r n (aW args 0) (aW args 1) (aW args 2) h :=
 (by kernel_rfl : aF CF r n 156 args h = D156 r n c156 x0 r156 (aJ args) h).trans ((congrFun (congrFun (dDb r n) (aJ args)) h).trans (by kernel_rfl))
noncomputable def eF (r : RT) (n : Nat) (x4 : DV) (h0 : Hp) : aH :=
 some (.t [x4, (aG 0)], h0)
noncomputable def aJl (r : RT) (n : Nat) (kk6 : bZ) (x4 x10 x11 x12 : DV) (h0 : Hp) : aH :=
 bnd (aD .lss x12 x11 h0) fun v1 h1 =>
 aX v1 (
 bnd (aE 3 x10 x12 h1) fun v2 h2 =>
 bnd (aK 3 v2 h2) fun v3 h3 =>
 bnd (bY [(aG 0), (aG 0), (aG 0)] h3) fun v4 h4 =>
 bnd (aI 3 v4 v3 h4) fun _ h5 =>
 bnd (aK 3 v4 h5) fun v6 h6 =>
 bnd (r 145 [v6] h6) fun v7 h7 =>
 bnd (jE .not v7 h7) fun v8 h8 =>
 aX v8 (
 some (.t [.l0, (aG 19)], h8)) (
 bnd (aB 0 v4 h8) fun v9 h9 =>
 bnd (aA v9 h9) fun v10 h10 =>
 bnd (dU .u8 v10 h10) fun v11 h11 =>
 bnd (aB 1 v4 h11) fun v12 h12 =>
 bnd (aA v12 h12) fun v13 h13 =>
 bnd (dU .u8 v13 h13) fun v14 h14 =>
 bnd (aB 2 v4 h14) fun v15 h15 =>
 bnd (aA v15 h15) fun v16 h16 =>
 bnd (dU .u8 v16 h16) fun v17 h17 =>
 bnd (aN [(.i .u8 (Int.ofNat 0)), (.i .u8 (Int.ofNat 0)), (.i .u8 (Int.ofNat 0))] 3 [(0, 1, v11), (1, 1, v14), (2, 1, v17)] h17) fun v18 h18 =>
 bnd (aY 1 1 x4 v18 h18) fun v19 h19 =>
 bnd (aD .add x12 (aG 1) h19) fun v20 h20 =>
    kk6 v19 x10 x11 v20 h20)) (
      eF r n x4 h1)
noncomputable def vF (r : RT) (n : Nat) (m : Nat) : bZ :=
 Nat.rec (motive := fun _ => bZ) (fun _ _ _ _ _ => none) (fun _ ih => aJl r n ih) m
noncomputable def bJt (r : RT) (n : Nat) : bZ := vF r n n
noncomputable def aPy (r : RT) (n : Nat) (x4 x10 x11 x12 : DV) (h0 : Hp) : aH :=
 bJt r n x4 x10 x11 x12 h0
noncomputable def aRp (r : RT) (n : Nat) (x0 x4 : DV) (h0 : Hp) : aH :=
 bnd (cB x0 h0) fun v1 h1 =>
  aPy r n x4 x0 v1 (aG 0) h1
noncomputable def aPv (r : RT) (n : Nat) (x0 : DV) (h0 : Hp) : aH :=
 aRp r n x0 .l0 h0
noncomputable def aRx (r : RT) (n : Nat) (x0 : DV) (h0 : Hp) : aH :=
 bnd (cB x0 h0) fun v1 h1 =>
 bnd (aD .gtr v1 (aG 400) h1) fun v2 h2 =>
 aX v2 (
 some (.t [.l0, (aG 19)], h2)) (
  aPv r n x0 h2)
noncomputable def s160 (r : RT) (n : Nat) (x0 : DV) (h0 : Hp) : aH :=
 aRx r n x0 h0
noncomputable abbrev c160 : Code := cf Tryz.f160
noncomputable abbrev aFt : Code := cR c160
noncomputable abbrev aHr : Code := cR aFt
noncomputable abbrev aGi : Code := cR aHr
noncomputable abbrev cUt : Code := cR aGi
noncomputable abbrev wX : Code := cL aGi
noncomputable abbrev aOy : Code := cR wX
noncomputable abbrev aDl : Code := cL aOy
noncomputable abbrev nG : Code := cL aDl
noncomputable abbrev bUz : Code := cL wX
noncomputable abbrev aYq : Code := cL aHr
noncomputable abbrev bAe : Code := cL aFt
noncomputable abbrev aXy : Code := cL c160
noncomputable abbrev r160 : K := aV CF Tryz.f160
noncomputable def D160 (r : RT) (n : Nat) (c : Code) (X : Nat → K) (k : K) : K := aP CF r 33 n c X r160 k
theorem cAw : D160 r n cUt x0 r160 = (K1 (eF r n) 4) :=
 (by kernel_rfl)
theorem bIq (kk6 : bZ) (q0 : TT1) : D160 r n nG (xs x0 0 (K1 q0 4)) (K4 kk6 4 10 11 12) = fun (env : bA) (h : Hp) =>
 bnd (aD .lss (env 12) (env 11) h) fun v1 h1 =>
 aX v1 (
 bnd (aE 3 (env 10) (env 12) h1) fun v2 h2 =>
 bnd (aK 3 v2 h2) fun v3 h3 =>
 bnd (bY [(aG 0), (aG 0), (aG 0)] h3) fun v4 h4 =>
 bnd (aI 3 v4 v3 h4) fun _ h5 =>
 bnd (aK 3 v4 h5) fun v6 h6 =>
 bnd (r 145 [v6] h6) fun v7 h7 =>
 bnd (jE .not v7 h7) fun v8 h8 =>
 aX v8 (
 some (.t [.l0, (aG 19)], h8)) (
 bnd (aB 0 v4 h8) fun v9 h9 =>
 bnd (aA v9 h9) fun v10 h10 =>
 bnd (dU .u8 v10 h10) fun v11 h11 =>
 bnd (aB 1 v4 h11) fun v12 h12 =>
 bnd (aA v12 h12) fun v13 h13 =>
 bnd (dU .u8 v13 h13) fun v14 h14 =>
 bnd (aB 2 v4 h14) fun v15 h15 =>
 bnd (aA v15 h15) fun v16 h16 =>
 bnd (dU .u8 v16 h16) fun v17 h17 =>
 bnd (aN [(.i .u8 (Int.ofNat 0)), (.i .u8 (Int.ofNat 0)), (.i .u8 (Int.ofNat 0))] 3 [(0, 1, v11), (1, 1, v14), (2, 1, v17)] h17) fun v18 h18 =>
 bnd (aY 1 1 (env 4) v18 h18) fun v19 h19 =>
 bnd (aD .add (env 12) (aG 1) h19) fun v20 h20 =>
    kk6 v19 (env 10) (env 11) v20 h20)) (
      q0 (env 4) h1) := by kernel_rfl
theorem bEi (kk6 : bZ) : (fun (env : bA) (h : Hp) =>
 bnd (aD .lss (env 12) (env 11) h) fun v1 h1 =>
 aX v1 (
 bnd (aE 3 (env 10) (env 12) h1) fun v2 h2 =>
 bnd (aK 3 v2 h2) fun v3 h3 =>
 bnd (bY [(aG 0), (aG 0), (aG 0)] h3) fun v4 h4 =>
 bnd (aI 3 v4 v3 h4) fun _ h5 =>
 bnd (aK 3 v4 h5) fun v6 h6 =>
 bnd (r 145 [v6] h6) fun v7 h7 =>
 bnd (jE .not v7 h7) fun v8 h8 =>
 aX v8 (
 some (.t [.l0, (aG 19)], h8)) (
 bnd (aB 0 v4 h8) fun v9 h9 =>
 bnd (aA v9 h9) fun v10 h10 =>
 bnd (dU .u8 v10 h10) fun v11 h11 =>
 bnd (aB 1 v4 h11) fun v12 h12 =>
 bnd (aA v12 h12) fun v13 h13 =>
 bnd (dU .u8 v13 h13) fun v14 h14 =>
 bnd (aB 2 v4 h14) fun v15 h15 =>
 bnd (aA v15 h15) fun v16 h16 =>
 bnd (dU .u8 v16 h16) fun v17 h17 =>
 bnd (aN [(.i .u8 (Int.ofNat 0)), (.i .u8 (Int.ofNat 0)), (.i .u8 (Int.ofNat 0))] 3 [(0, 1, v11), (1, 1, v14), (2, 1, v17)] h17) fun v18 h18 =>
 bnd (aY 1 1 (env 4) v18 h18) fun v19 h19 =>
 bnd (aD .add (env 12) (aG 1) h19) fun v20 h20 =>
    kk6 v19 (env 10) (env 11) v20 h20)) (
      eF r n (env 4) h1)) = (K4 (aJl r n kk6) 4 10 11 12) := by kernel_rfl
theorem bHb (kk6 : bZ) : D160 r n nG (xs x0 0 (K1 (eF r n) 4)) (K4 kk6 4 10 11 12) = (K4 (aJl r n kk6) 4 10 11 12) :=
 (bIq r n kk6 (eF r n)).trans (bEi r n kk6)
theorem bFo (m : Nat) : aM (fun kk => D160 r n nG (xs x0 0 (K1 (eF r n) 4)) kk) m = (K4 (vF r n m) 4 10 11 12) := by
 induction m with
 | zero => exact (by kernel_rfl : aM (fun kk => D160 r n nG (xs x0 0 (K1 (eF r n) 4)) kk) 0 = (K4 (vF r n 0) 4 10 11 12))
 | succ m ih =>
  refine (by kernel_rfl : aM (fun kk => D160 r n nG (xs x0 0 (K1 (eF r n) 4)) kk) (m + 1) = D160 r n nG (xs x0 0 (K1 (eF r n) 4)) (aM (fun kk => D160 r n nG (xs x0 0 (K1 (eF r n) 4)) kk) m)).trans ?_
  rw [ih]
  exact (bHb r n (vF r n m)).trans (by kernel_rfl)
theorem cFi : D160 r n aDl (xs x0 0 (K1 (eF r n) 4)) (K1 (eF r n) 4) = (K4 (bJt r n) 4 10 11 12) :=
 (by kernel_rfl : D160 r n aDl (xs x0 0 (K1 (eF r n) 4)) (K1 (eF r n) 4) = aM (fun kk => D160 r n nG (xs x0 0 (K1 (eF r n) 4)) kk) n).trans ((bFo r n n).trans (by kernel_rfl))
theorem cFz : D160 r n aOy x0 (K1 (eF r n) 4) = (K4 (aPy r n) 4 10 11 12) :=
 (by kernel_rfl : D160 r n aOy x0 (K1 (eF r n) 4) = D160 r n aDl (xs x0 0 (K1 (eF r n) 4)) (K1 (eF r n) 4)).trans
 ((cFi r n).trans (by kernel_rfl))
theorem bFy : D160 r n aGi x0 r160 = D160 r n wX x0 (K1 (eF r n) 4) :=
 congrArg (fun k => D160 r n wX x0 k) (cAw r n)
theorem bMr : D160 r n wX x0 (K1 (eF r n) 4) = D160 r n bUz x0 (K4 (aPy r n) 4 10 11 12) :=
 congrArg (fun k => D160 r n bUz x0 k) (cFz r n)
theorem cDl : D160 r n aGi x0 r160 = (K2 (aRp r n) 0 4) :=
 (bFy r n).trans
 ((bMr r n).trans
 ((by kernel_rfl)))
theorem bFw : D160 r n aHr x0 r160 = D160 r n aYq x0 (K2 (aRp r n) 0 4) :=
 congrArg (fun k => D160 r n aYq x0 k) (cDl r n)
theorem cJj : D160 r n aHr x0 r160 = (K1 (aPv r n) 0) :=
 (bFw r n).trans
 ((by kernel_rfl))
theorem bOc : D160 r n aFt x0 r160 = D160 r n bAe x0 (K1 (aPv r n) 0) :=
 congrArg (fun k => D160 r n bAe x0 k) (cJj r n)
theorem cFm : D160 r n aFt x0 r160 = (K1 (aRx r n) 0) :=
 (bOc r n).trans
 ((by kernel_rfl))
theorem cVt : D160 r n c160 x0 r160 = D160 r n aXy x0 (K1 (aRx r n) 0) :=
 congrArg (fun k => D160 r n aXy x0 k) (cFm r n)
theorem dCp : D160 r n c160 x0 r160 = (K1 (s160 r n) 0) :=
 (cVt r n).trans
 ((by kernel_rfl))
theorem cVv : aF CF r n 160 args h = s160 r n (aW args 0) h :=
 (by kernel_rfl : aF CF r n 160 args h = D160 r n c160 x0 r160 (aJ args) h).trans ((congrFun (congrFun (dCp r n) (aJ args)) h).trans (by kernel_rfl))
noncomputable def eX (r : RT) (n : Nat) (x0 x6 : DV) (h0 : Hp) : aH :=
 bnd (r 36 [x0, x6] h0) fun v1 h1 =>
 bnd (aC 0 v1 h1) fun v2 h2 =>
 bnd (aC 1 v1 h2) fun v3 h3 =>
 some (.t [v2, v3], h3)
noncomputable def aEm (r : RT) (n : Nat) (kk4 : jF) (x0 x1 x6 : DV) (h0 : Hp) : aH :=
 bnd (cB x1 h0) fun v1 h1 =>
 bnd (aD .gtr v1 (aG 0) h1) fun v2 h2 =>
 aX v2 (
 bnd (cB x1 h2) fun v3 h3 =>
 bnd (aOn v3 (aG 240) h3) fun v4 h4 =>
 bnd (r 34 [x0, (aG 10)] h4) fun v5 h5 =>
 bnd (cX 1 x1 none (some v4) h5) fun v6 h6 =>
 cnd (bM (cX 1 x1 none (some v4) h4) v6 && true) (
 bnd (gB v6 h6) fun v7 h7 =>
 cnd (bM (gB v6 h4) v7 && true) (
 bnd (r 43 [x0, v5, v7] h7) fun v8 h8 =>
 bnd (aC 0 v8 h8) fun v9 h9 =>
 bnd (aC 1 v8 h9) fun v10 h10 =>
 bnd (aD .neq v10 (aG 0) h10) fun v11 h11 =>
 aX v11 (
 some (.t [(aG 0), v10], h11)) (
 bnd (bL (cF 0 h11.next) [(aG 0)] 1 [(0, 1, v9)] (resv 1 h11)) fun v12 h12 =>
 bnd (aY 1 8 x6 v12 h12) fun v13 h13 =>
 bnd (cX 1 x1 (some v4) none h13) fun v14 h14 =>
 cnd (bM (cX 1 x1 (some v4) none (resv 1 h11)) v14 && true) (
    kk4 x0 v14 v13 h14))))) (
      eX r n x0 x6 h2)
noncomputable def vJ (r : RT) (n : Nat) (m : Nat) : jF :=
 Nat.rec (motive := fun _ => jF) (fun _ _ _ _ => none) (fun _ ih => aEm r n ih) m
noncomputable def bNc (r : RT) (n : Nat) : jF := vJ r n n
noncomputable def aNu (r : RT) (n : Nat) (x0 x1 x6 : DV) (h0 : Hp) : aH :=
 bNc r n x0 x1 x6 h0
noncomputable def aRn (r : RT) (n : Nat) (x0 x1 : DV) (h0 : Hp) : aH :=
 aNu r n x0 x1 .l0 h0
noncomputable def s161 (r : RT) (n : Nat) (x0 x1 : DV) (h0 : Hp) : aH :=
 aRn r n x0 x1 h0
noncomputable abbrev c161 : Code := cf Tryz.f161
noncomputable abbrev aBu : Code := cR c161
noncomputable abbrev aHs : Code := cR aBu
noncomputable abbrev cZf : Code := cR aHs
noncomputable abbrev aFz : Code := cL aHs
noncomputable abbrev aGp : Code := cL aFz
noncomputable abbrev mY : Code := cL aGp
noncomputable abbrev bRd : Code := cL aBu
noncomputable abbrev bXh : Code := cL c161
noncomputable abbrev r161 : K := aV CF Tryz.f161
noncomputable def D161 (r : RT) (n : Nat) (c : Code) (X : Nat → K) (k : K) : K := aP CF r 42 n c X r161 k
theorem cGw : D161 r n cZf x0 r161 = (K2 (eX r n) 0 6) :=
 (by kernel_rfl)
theorem bJk (kk4 : jF) (q0 : tS) : D161 r n mY (xs x0 0 (K2 q0 0 6)) (K3 kk4 0 1 6) = fun (env : bA) (h : Hp) =>
 bnd (cB (env 1) h) fun v1 h1 =>
 bnd (aD .gtr v1 (aG 0) h1) fun v2 h2 =>
 aX v2 (
 bnd (cB (env 1) h2) fun v3 h3 =>
 bnd (aOn v3 (aG 240) h3) fun v4 h4 =>
 bnd (r 34 [(env 0), (aG 10)] h4) fun v5 h5 =>
 bnd (cX 1 (env 1) none (some v4) h5) fun v6 h6 =>
 cnd (bM (cX 1 (env 1) none (some v4) h4) v6 && true) (
 bnd (gB v6 h6) fun v7 h7 =>
 cnd (bM (gB v6 h4) v7 && true) (
 bnd (r 43 [(env 0), v5, v7] h7) fun v8 h8 =>
 bnd (aC 0 v8 h8) fun v9 h9 =>
 bnd (aC 1 v8 h9) fun v10 h10 =>
 bnd (aD .neq v10 (aG 0) h10) fun v11 h11 =>
 aX v11 (
 some (.t [(aG 0), v10], h11)) (
 bnd (bL (cF 0 h11.next) [(aG 0)] 1 [(0, 1, v9)] (resv 1 h11)) fun v12 h12 =>
 bnd (aY 1 8 (env 6) v12 h12) fun v13 h13 =>
 bnd (cX 1 (env 1) (some v4) none h13) fun v14 h14 =>
 cnd (bM (cX 1 (env 1) (some v4) none (resv 1 h11)) v14 && true) (
    kk4 (env 0) v14 v13 h14))))) (
      q0 (env 0) (env 6) h2) := by kernel_rfl
theorem bEj (kk4 : jF) : (fun (env : bA) (h : Hp) =>
 bnd (cB (env 1) h) fun v1 h1 =>
 bnd (aD .gtr v1 (aG 0) h1) fun v2 h2 =>
 aX v2 (
 bnd (cB (env 1) h2) fun v3 h3 =>
 bnd (aOn v3 (aG 240) h3) fun v4 h4 =>
 bnd (r 34 [(env 0), (aG 10)] h4) fun v5 h5 =>
 bnd (cX 1 (env 1) none (some v4) h5) fun v6 h6 =>
 cnd (bM (cX 1 (env 1) none (some v4) h4) v6 && true) (
 bnd (gB v6 h6) fun v7 h7 =>
 cnd (bM (gB v6 h4) v7 && true) (
 bnd (r 43 [(env 0), v5, v7] h7) fun v8 h8 =>
 bnd (aC 0 v8 h8) fun v9 h9 =>
 bnd (aC 1 v8 h9) fun v10 h10 =>
 bnd (aD .neq v10 (aG 0) h10) fun v11 h11 =>
 aX v11 (
 some (.t [(aG 0), v10], h11)) (
 bnd (bL (cF 0 h11.next) [(aG 0)] 1 [(0, 1, v9)] (resv 1 h11)) fun v12 h12 =>
 bnd (aY 1 8 (env 6) v12 h12) fun v13 h13 =>
 bnd (cX 1 (env 1) (some v4) none h13) fun v14 h14 =>
 cnd (bM (cX 1 (env 1) (some v4) none (resv 1 h11)) v14 && true) (
    kk4 (env 0) v14 v13 h14))))) (
      eX r n (env 0) (env 6) h2)) = (K3 (aEm r n kk4) 0 1 6) := by kernel_rfl
theorem bUf (kk4 : jF) : D161 r n mY (xs x0 0 (K2 (eX r n) 0 6)) (K3 kk4 0 1 6) = (K3 (aEm r n kk4) 0 1 6) :=
 (bJk r n kk4 (eX r n)).trans (bEj r n kk4)
theorem bJf (m : Nat) : aM (fun kk => D161 r n mY (xs x0 0 (K2 (eX r n) 0 6)) kk) m = (K3 (vJ r n m) 0 1 6) := by
 induction m with
 | zero => exact (by kernel_rfl : aM (fun kk => D161 r n mY (xs x0 0 (K2 (eX r n) 0 6)) kk) 0 = (K3 (vJ r n 0) 0 1 6))
 | succ m ih =>
  refine (by kernel_rfl : aM (fun kk => D161 r n mY (xs x0 0 (K2 (eX r n) 0 6)) kk) (m + 1) = D161 r n mY (xs x0 0 (K2 (eX r n) 0 6)) (aM (fun kk => D161 r n mY (xs x0 0 (K2 (eX r n) 0 6)) kk) m)).trans ?_
  rw [ih]
  exact (bUf r n (vJ r n m)).trans (by kernel_rfl)
theorem cIw : D161 r n aGp (xs x0 0 (K2 (eX r n) 0 6)) (K2 (eX r n) 0 6) = (K3 (bNc r n) 0 1 6) :=
 (by kernel_rfl : D161 r n aGp (xs x0 0 (K2 (eX r n) 0 6)) (K2 (eX r n) 0 6) = aM (fun kk => D161 r n mY (xs x0 0 (K2 (eX r n) 0 6)) kk) n).trans ((bJf r n n).trans (by kernel_rfl))
theorem bSk : D161 r n aHs x0 r161 = D161 r n aFz x0 (K2 (eX r n) 0 6) :=
 congrArg (fun k => D161 r n aFz x0 k) (cGw r n)
theorem cEr : D161 r n aHs x0 r161 = (K3 (aNu r n) 0 1 6) :=
 (bSk r n).trans
 ((by kernel_rfl : D161 r n aFz x0 (K2 (eX r n) 0 6) = D161 r n aGp (xs x0 0 (K2 (eX r n) 0 6)) (K2 (eX r n) 0 6)).trans
 ((cIw r n).trans (by kernel_rfl)))
theorem bIu : D161 r n aBu x0 r161 = D161 r n bRd x0 (K3 (aNu r n) 0 1 6) :=
 congrArg (fun k => D161 r n bRd x0 k) (cEr r n)
theorem cBt : D161 r n aBu x0 r161 = (K2 (aRn r n) 0 1) :=
 (bIu r n).trans
 ((by kernel_rfl))
theorem cZk : D161 r n c161 x0 r161 = D161 r n bXh x0 (K2 (aRn r n) 0 1) :=
 congrArg (fun k => D161 r n bXh x0 k) (cBt r n)
theorem dBg : D161 r n c161 x0 r161 = (K2 (s161 r n) 0 1) :=
 (cZk r n).trans
 ((by kernel_rfl))
theorem cUa : aF CF r n 161 args h = s161 r n (aW args 0) (aW args 1) h :=
 (by kernel_rfl : aF CF r n 161 args h = D161 r n c161 x0 r161 (aJ args) h).trans ((congrFun (congrFun (dBg r n) (aJ args)) h).trans (by kernel_rfl))
end Go.Dd

namespace Go.Dd
open Go.Proofs
variable (r : RT) (n : Nat) (args : List DV) (h : Hp)
noncomputable def eV (r : RT) (n : Nat) (h0 : Hp) : aH :=
 some ((.i .i64 (Int.negSucc 0)), h0)
noncomputable def vS (r : RT) (n : Nat) (kk4 : bZ) (x0 x1 x7 x8 : DV) (h0 : Hp) : aH :=
 bnd (aD .lss x8 x7 h0) fun v1 h1 =>
 aX v1 (
 bnd (aE 4 x0 x8 h1) fun v2 h2 =>
 bnd (aK 4 v2 h2) fun v3 h3 =>
 bnd (gJ CF r x1 [v3] h3) fun v4 h4 =>
 aX v4 (
 some (x8, h4)) (
 bnd (aD .add x8 (aG 1) h4) fun v5 h5 =>
    kk4 x0 x1 x7 v5 h5)) (
      eV r n h1)
noncomputable def lY (r : RT) (n : Nat) (m : Nat) : bZ :=
 Nat.rec (motive := fun _ => bZ) (fun _ _ _ _ _ => none) (fun _ ih => vS r n ih) m
noncomputable def bVv (r : RT) (n : Nat) : bZ := lY r n n
noncomputable def aOe (r : RT) (n : Nat) (x0 x1 x7 x8 : DV) (h0 : Hp) : aH :=
 bVv r n x0 x1 x7 x8 h0
noncomputable def aJs (r : RT) (n : Nat) (x0 x1 : DV) (h0 : Hp) : aH :=
 bnd (cB x0 h0) fun v1 h1 =>
  aOe r n x0 x1 v1 (aG 0) h1
noncomputable def s163 (r : RT) (n : Nat) (x0 x1 : DV) (h0 : Hp) : aH :=
 aJs r n x0 x1 h0
noncomputable abbrev c163 : Code := cf Tryz.f163
noncomputable abbrev aFn : Code := cR c163
noncomputable abbrev cXx : Code := cR aFn
noncomputable abbrev yU : Code := cL aFn
noncomputable abbrev aRa : Code := cR yU
noncomputable abbrev aDn : Code := cL aRa
noncomputable abbrev oV : Code := cL aDn
noncomputable abbrev bTd : Code := cL yU
noncomputable abbrev bIf : Code := cL c163
noncomputable abbrev r163 : K := aV CF Tryz.f163
noncomputable def D163 (r : RT) (n : Nat) (c : Code) (X : Nat → K) (k : K) : K := aP CF r 19 n c X r163 k
theorem cMh : D163 r n cXx x0 r163 = (K0 (eV r n)) :=
 (by kernel_rfl)
theorem bXp (kk4 : bZ) : D163 r n oV (xs x0 0 (K0 (eV r n))) (K4 kk4 0 1 7 8) = (K4 (vS r n kk4) 0 1 7 8) :=
 (by kernel_rfl)
theorem bLj (m : Nat) : aM (fun kk => D163 r n oV (xs x0 0 (K0 (eV r n))) kk) m = (K4 (lY r n m) 0 1 7 8) := by
 induction m with
 | zero => exact (by kernel_rfl : aM (fun kk => D163 r n oV (xs x0 0 (K0 (eV r n))) kk) 0 = (K4 (lY r n 0) 0 1 7 8))
 | succ m ih =>
  refine (by kernel_rfl : aM (fun kk => D163 r n oV (xs x0 0 (K0 (eV r n))) kk) (m + 1) = D163 r n oV (xs x0 0 (K0 (eV r n))) (aM (fun kk => D163 r n oV (xs x0 0 (K0 (eV r n))) kk) m)).trans ?_
  rw [ih]
  exact (bXp r n (lY r n m)).trans (by kernel_rfl)
theorem cHw : D163 r n aDn (xs x0 0 (K0 (eV r n))) (K0 (eV r n)) = (K4 (bVv r n) 0 1 7 8) :=
 (by kernel_rfl : D163 r n aDn (xs x0 0 (K0 (eV r n))) (K0 (eV r n)) = aM (fun kk => D163 r n oV (xs x0 0 (K0 (eV r n))) kk) n).trans ((bLj r n n).trans (by kernel_rfl))
theorem bYu : D163 r n aRa x0 (K0 (eV r n)) = (K4 (aOe r n) 0 1 7 8) :=
 (by kernel_rfl : D163 r n aRa x0 (K0 (eV r n)) = D163 r n aDn (xs x0 0 (K0 (eV r n))) (K0 (eV r n))).trans
 ((cHw r n).trans (by kernel_rfl))
theorem bTl : D163 r n aFn x0 r163 = D163 r n yU x0 (K0 (eV r n)) :=
 congrArg (fun k => D163 r n yU x0 k) (cMh r n)
theorem bWp : D163 r n yU x0 (K0 (eV r n)) = D163 r n bTd x0 (K4 (aOe r n) 0 1 7 8) :=
 congrArg (fun k => D163 r n bTd x0 k) (bYu r n)
theorem cFw : D163 r n aFn x0 r163 = (K2 (aJs r n) 0 1) :=
 (bTl r n).trans
 ((bWp r n).trans
 ((by kernel_rfl)))
theorem cPt : D163 r n c163 x0 r163 = D163 r n bIf x0 (K2 (aJs r n) 0 1) :=
 congrArg (fun k => D163 r n bIf x0 k) (cFw r n)
theorem dAj : D163 r n c163 x0 r163 = (K2 (s163 r n) 0 1) :=
 (cPt r n).trans
 ((by kernel_rfl))
theorem bPn : aF CF r n 163 args h = s163 r n (aW args 0) (aW args 1) h :=
 (by kernel_rfl : aF CF r n 163 args h = D163 r n c163 x0 r163 (aJ args) h).trans ((congrFun (congrFun (dAj r n) (aJ args)) h).trans (by kernel_rfl))
noncomputable def s164 (r : RT) (n : Nat) (x0 x1 : DV) (h0 : Hp) : aH :=
 bnd (bU x0 h0) fun v1 h1 =>
 bnd (aK 4 v1 h1) fun v2 h2 =>
 bnd (aA x1 h2) fun v3 h3 =>
 bnd (aD .sub v3 (aG 1) h3) fun v4 h4 =>
 bnd (r 144 [v2, v4] h4) fun v5 h5 =>
 bnd (jE .not v5 h5) fun v6 h6 =>
 some (v6, h6)
noncomputable abbrev c164 : Code := cf Tryz.f164
noncomputable abbrev r164 : K := aV CF Tryz.f164
noncomputable def D164 (r : RT) (n : Nat) (c : Code) (X : Nat → K) (k : K) : K := aP CF r 9 n c X r164 k
theorem dGu : D164 r n c164 x0 r164 = (K2 (s164 r n) 0 1) :=
 (by kernel_rfl)
theorem bXn : aF CF r n 164 args h = s164 r n (aW args 0) (aW args 1) h :=
 (by kernel_rfl : aF CF r n 164 args h = D164 r n c164 x0 r164 (aJ args) h).trans ((congrFun (congrFun (dGu r n) (aJ args)) h).trans (by kernel_rfl))
noncomputable def cN (r : RT) (n : Nat) (x2 x3 : DV) (h0 : Hp) : aH :=
 some (.t [x2, x3], h0)
noncomputable def cT (r : RT) (n : Nat) (x3 : DV) (h0 : Hp) : aH :=
 cN r n (.b true) x3 h0
noncomputable def dL (r : RT) (n : Nat) (h0 : Hp) : aH :=
 cT r n (.b true) h0
noncomputable def pL (r : RT) (n : Nat) (x2 x3 : DV) (h0 : Hp) : aH :=
 cN r n x2 x3 h0
noncomputable def nB (r : RT) (n : Nat) (x2 x3 x11 : DV) (h0 : Hp) : aH :=
 aX x11 (
  cT r n x3 h0) (
  pL r n x2 x3 h0)
noncomputable def xP (r : RT) (n : Nat) (x2 x3 x4 : DV) (h0 : Hp) : aH :=
 bnd (aD .eql x4 (aG 6) h0) fun v1 h1 =>
 aX v1 (
  nB r n x2 x3 v1 h1) (
 bnd (aD .eql x4 (aG 7) h1) fun v2 h2 =>
 aX v2 (
   nB r n x2 x3 v2 h2) (
 bnd (aD .eql x4 (aG 8) h2) fun v3 h3 =>
 aX v3 (
    nB r n x2 x3 v3 h3) (
 bnd (aD .eql x4 (aG 9) h3) fun v4 h4 =>
 aX v4 (
     nB r n x2 x3 v4 h4) (
 bnd (aD .eql x4 (aG 10) h4) fun v5 h5 =>
 aX v5 (
      nB r n x2 x3 v5 h5) (
 bnd (aD .eql x4 (aG 11) h5) fun v6 h6 =>
      nB r n x2 x3 v6 h6)))))
noncomputable def pC (r : RT) (n : Nat) (x2 x3 x4 x5 : DV) (h0 : Hp) : aH :=
 aX x5 (
  dL r n h0) (
  xP r n x2 x3 x4 h0)
noncomputable def aPp (r : RT) (n : Nat) (x2 x3 x4 : DV) (h0 : Hp) : aH :=
 bnd (aD .eql x4 (aG 14) h0) fun v1 h1 =>
 aX v1 (
  pC r n x2 x3 x4 v1 h1) (
 bnd (aD .eql x4 (aG 15) h1) fun v2 h2 =>
 aX v2 (
   pC r n x2 x3 x4 v2 h2) (
 bnd (aD .eql x4 (aG 16) h2) fun v3 h3 =>
 aX v3 (
    pC r n x2 x3 x4 v3 h3) (
 bnd (aD .eql x4 (aG 17) h3) fun v4 h4 =>
 aX v4 (
     pC r n x2 x3 x4 v4 h4) (
 bnd (aD .eql x4 (aG 18) h4) fun v5 h5 =>
     pC r n x2 x3 x4 v5 h5))))
noncomputable def aSz (r : RT) (n : Nat) (x0 x2 x3 : DV) (h0 : Hp) : aH :=
 aPp r n x2 x3 x0 h0
noncomputable def s165 (r : RT) (n : Nat) (x0 : DV) (h0 : Hp) : aH :=
 aSz r n x0 (.b false) (.b false) h0
noncomputable abbrev c165 : Code := cf Tryz.f165
noncomputable abbrev aGr : Code := cR c165
noncomputable abbrev cWo : Code := cR aGr
noncomputable abbrev wG : Code := cL aGr
noncomputable abbrev aTd : Code := cR wG
noncomputable abbrev aCi : Code := cL aTd
noncomputable abbrev cYm : Code := cR aCi
noncomputable abbrev aJd : Code := cL aCi
noncomputable abbrev aBv : Code := cL aJd
noncomputable abbrev cUw : Code := cR aBv
noncomputable abbrev uQ : Code := cL aBv
noncomputable abbrev uU : Code := cL uQ
noncomputable abbrev cAr : Code := cR uU
noncomputable abbrev qL : Code := cL uU
noncomputable abbrev vR : Code := cR qL
noncomputable abbrev cLh : Code := cR vR
noncomputable abbrev aXs : Code := cL vR
noncomputable abbrev qN : Code := cL qL
noncomputable abbrev cHz : Code := cR qN
noncomputable abbrev aYf : Code := cL qN
noncomputable abbrev aTg : Code := cL wG
noncomputable abbrev bAn : Code := cL c165
noncomputable abbrev r165 : K := aV CF Tryz.f165
noncomputable def D165 (r : RT) (n : Nat) (c : Code) (X : Nat → K) (k : K) : K := aP CF r 20 n c X r165 k
theorem cCf : D165 r n cWo x0 r165 = (K2 (cN r n) 2 3) :=
 (by kernel_rfl)
theorem cDm : D165 r n cYm (xs x0 0 (K2 (cN r n) 2 3)) (K2 (cN r n) 2 3) = (K1 (cT r n) 3) :=
 (by kernel_rfl)
theorem cKy : D165 r n cUw (xs (xs x0 0 (K2 (cN r n) 2 3)) 2 (K1 (cT r n) 3)) (K1 (cT r n) 3) = (K0 (dL r n)) :=
 (by kernel_rfl)
theorem cLw : D165 r n cAr (xs (xs (xs x0 0 (K2 (cN r n) 2 3)) 2 (K1 (cT r n) 3)) 1 (K0 (dL r n))) (K0 (dL r n)) = (K2 (pL r n) 2 3) :=
 (by kernel_rfl)
theorem cIu : D165 r n cLh (xs (xs (xs x0 0 (K2 (cN r n) 2 3)) 2 (K1 (cT r n) 3)) 1 (K0 (dL r n))) (K2 (pL r n) 2 3) = (K3 (nB r n) 2 3 11) :=
 (by kernel_rfl)
theorem bMm : D165 r n vR (xs (xs (xs x0 0 (K2 (cN r n) 2 3)) 2 (K1 (cT r n) 3)) 1 (K0 (dL r n))) (K2 (pL r n) 2 3) = D165 r n aXs (xs (xs (xs x0 0 (K2 (cN r n) 2 3)) 2 (K1 (cT r n) 3)) 1 (K0 (dL r n))) (K3 (nB r n) 2 3 11) :=
 congrArg (fun k => D165 r n aXs (xs (xs (xs x0 0 (K2 (cN r n) 2 3)) 2 (K1 (cT r n) 3)) 1 (K0 (dL r n))) k) (cIu r n)
theorem cBc : D165 r n vR (xs (xs (xs x0 0 (K2 (cN r n) 2 3)) 2 (K1 (cT r n) 3)) 1 (K0 (dL r n))) (K2 (pL r n) 2 3) = (K3 (xP r n) 2 3 4) :=
 (bMm r n).trans
 ((by kernel_rfl))
theorem bZu : D165 r n cHz (xs (xs (xs x0 0 (K2 (cN r n) 2 3)) 2 (K1 (cT r n) 3)) 1 (K0 (dL r n))) (K3 (xP r n) 2 3 4) = (K4 (pC r n) 2 3 4 5) :=
 (by kernel_rfl)
theorem bVr : D165 r n aCi (xs x0 0 (K2 (cN r n) 2 3)) (K2 (cN r n) 2 3) = D165 r n aJd (xs x0 0 (K2 (cN r n) 2 3)) (K1 (cT r n) 3) :=
 congrArg (fun k => D165 r n aJd (xs x0 0 (K2 (cN r n) 2 3)) k) (cDm r n)
theorem bUc : D165 r n aBv (xs (xs x0 0 (K2 (cN r n) 2 3)) 2 (K1 (cT r n) 3)) (K1 (cT r n) 3) = D165 r n uQ (xs (xs x0 0 (K2 (cN r n) 2 3)) 2 (K1 (cT r n) 3)) (K0 (dL r n)) :=
 congrArg (fun k => D165 r n uQ (xs (xs x0 0 (K2 (cN r n) 2 3)) 2 (K1 (cT r n) 3)) k) (cKy r n)
theorem bXy : D165 r n uU (xs (xs (xs x0 0 (K2 (cN r n) 2 3)) 2 (K1 (cT r n) 3)) 1 (K0 (dL r n))) (K0 (dL r n)) = D165 r n qL (xs (xs (xs x0 0 (K2 (cN r n) 2 3)) 2 (K1 (cT r n) 3)) 1 (K0 (dL r n))) (K2 (pL r n) 2 3) :=
 congrArg (fun k => D165 r n qL (xs (xs (xs x0 0 (K2 (cN r n) 2 3)) 2 (K1 (cT r n) 3)) 1 (K0 (dL r n))) k) (cLw r n)
theorem bNo : D165 r n qL (xs (xs (xs x0 0 (K2 (cN r n) 2 3)) 2 (K1 (cT r n) 3)) 1 (K0 (dL r n))) (K2 (pL r n) 2 3) = D165 r n qN (xs (xs (xs x0 0 (K2 (cN r n) 2 3)) 2 (K1 (cT r n) 3)) 1 (K0 (dL r n))) (K3 (xP r n) 2 3 4) :=
 congrArg (fun k => D165 r n qN (xs (xs (xs x0 0 (K2 (cN r n) 2 3)) 2 (K1 (cT r n) 3)) 1 (K0 (dL r n))) k) (cBc r n)
theorem bKd : D165 r n qN (xs (xs (xs x0 0 (K2 (cN r n) 2 3)) 2 (K1 (cT r n) 3)) 1 (K0 (dL r n))) (K3 (xP r n) 2 3 4) = D165 r n aYf (xs (xs (xs x0 0 (K2 (cN r n) 2 3)) 2 (K1 (cT r n) 3)) 1 (K0 (dL r n))) (K4 (pC r n) 2 3 4 5) :=
 congrArg (fun k => D165 r n aYf (xs (xs (xs x0 0 (K2 (cN r n) 2 3)) 2 (K1 (cT r n) 3)) 1 (K0 (dL r n))) k) (bZu r n)
theorem bYo : D165 r n aTd x0 (K2 (cN r n) 2 3) = (K3 (aPp r n) 2 3 4) :=
 (by kernel_rfl : D165 r n aTd x0 (K2 (cN r n) 2 3) = D165 r n aCi (xs x0 0 (K2 (cN r n) 2 3)) (K2 (cN r n) 2 3)).trans
 ((bVr r n).trans
 ((by kernel_rfl : D165 r n aJd (xs x0 0 (K2 (cN r n) 2 3)) (K1 (cT r n) 3) = D165 r n aBv (xs (xs x0 0 (K2 (cN r n) 2 3)) 2 (K1 (cT r n) 3)) (K1 (cT r n) 3)).trans
 ((bUc r n).trans
 ((by kernel_rfl : D165 r n uQ (xs (xs x0 0 (K2 (cN r n) 2 3)) 2 (K1 (cT r n) 3)) (K0 (dL r n)) = D165 r n uU (xs (xs (xs x0 0 (K2 (cN r n) 2 3)) 2 (K1 (cT r n) 3)) 1 (K0 (dL r n))) (K0 (dL r n))).trans
 ((bXy r n).trans
 ((bNo r n).trans
 ((bKd r n).trans
 ((by kernel_rfl)))))))))
theorem bTg : D165 r n aGr x0 r165 = D165 r n wG x0 (K2 (cN r n) 2 3) :=
 congrArg (fun k => D165 r n wG x0 k) (cCf r n)
theorem bMq : D165 r n wG x0 (K2 (cN r n) 2 3) = D165 r n aTg x0 (K3 (aPp r n) 2 3 4) :=
 congrArg (fun k => D165 r n aTg x0 k) (bYo r n)
theorem cDr : D165 r n aGr x0 r165 = (K3 (aSz r n) 0 2 3) :=
 (bTg r n).trans
 ((bMq r n).trans
 ((by kernel_rfl)))
theorem cXd : D165 r n c165 x0 r165 = D165 r n bAn x0 (K3 (aSz r n) 0 2 3) :=
 congrArg (fun k => D165 r n bAn x0 k) (cDr r n)
theorem dAt : D165 r n c165 x0 r165 = (K1 (s165 r n) 0) :=
 (cXd r n).trans
 ((by kernel_rfl))
theorem cXc : aF CF r n 165 args h = s165 r n (aW args 0) h :=
 (by kernel_rfl : aF CF r n 165 args h = D165 r n c165 x0 r165 (aJ args) h).trans ((congrFun (congrFun (dAt r n) (aJ args)) h).trans (by kernel_rfl))
noncomputable def s166 (r : RT) (n : Nat) (x0 x1 : DV) (h0 : Hp) : aH :=
 bnd (aD .eql x0 (aG 0) h0) fun v1 h1 =>
 bnd (gD v1 false (some (x1, h1)) h1) fun v2 h2 =>
 bnd (gD v1 false (some (v2, h2)) h2) fun v3 h3 =>
 bnd (gD v3 true (some (x0, h3)) h3) fun v4 h4 =>
 bnd (gD v3 true (aD .gtr v4 (aG 0) h4) h4) fun v5 h5 =>
 bnd (gD v1 false (aQ v3 v5 (.b false) h5) h5) fun v6 h6 =>
 bnd (gD v1 false (some (v6, h6)) h6) fun v7 h7 =>
 bnd (gD v7 true (some (x0, h7)) h7) fun v8 h8 =>
 bnd (gD v7 true (aD .leq v8 (aG 255) h8) h8) fun v9 h9 =>
 bnd (gD v1 false (aQ v7 v9 (.b false) h9) h9) fun v10 h10 =>
 bnd (aQ v1 (.b true) v10 h10) fun v11 h11 =>
 some (v11, h11)
noncomputable abbrev c166 : Code := cf Tryz.f166
noncomputable abbrev r166 : K := aV CF Tryz.f166
noncomputable def D166 (r : RT) (n : Nat) (c : Code) (X : Nat → K) (k : K) : K := aP CF r 18 n c X r166 k
theorem dCw : D166 r n c166 x0 r166 = (K2 (s166 r n) 0 1) :=
 (by kernel_rfl)
theorem cRi : aF CF r n 166 args h = s166 r n (aW args 0) (aW args 1) h :=
 (by kernel_rfl : aF CF r n 166 args h = D166 r n c166 x0 r166 (aJ args) h).trans ((congrFun (congrFun (dCw r n) (aJ args)) h).trans (by kernel_rfl))
noncomputable def dE (r : RT) (n : Nat) (x4 : DV) (h0 : Hp) : aH :=
 some (x4, h0)
noncomputable def aEk (r : RT) (n : Nat) (kk5 : bZ) (x0 x1 x4 x5 : DV) (h0 : Hp) : aH :=
 bnd (aD .add x5 (aG 1) h0) fun v1 h1 =>
  kk5 x0 x1 x4 v1 h1
noncomputable def aPs (r : RT) (n : Nat) (kk5 : bZ) (x0 x1 x4 x5 : DV) (h0 : Hp) : aH :=
 bnd (aA x1 h0) fun v1 h1 =>
 bnd (r 168 [v1, x5] h1) fun v2 h2 =>
 bnd (aC 0 v2 h2) fun v3 h3 =>
 bnd (aC 1 v2 h3) fun v4 h4 =>
 bnd (gD v4 true (some (x0, h4)) h4) fun v5 h5 =>
 bnd (gD v4 true (some (v3, h5)) h5) fun v6 h6 =>
 bnd (gD v4 true (aD .lss v5 v6 h6) h6) fun v7 h7 =>
 bnd (aQ v4 v7 (.b false) h7) fun v8 h8 =>
 aX v8 (
  aEk r n kk5 x0 x1 x5 x5 h8) (
  aEk r n kk5 x0 x1 x4 x5 h8)
noncomputable def aZh (r : RT) (n : Nat) (kk5 : bZ) (x0 x1 x4 x5 : DV) (h0 : Hp) : aH :=
 bnd (aD .add x5 (aG 2) h0) fun v1 h1 =>
 bnd (aD .leq v1 x0 h1) fun v2 h2 =>
 aX v2 (
   aPs r n kk5 x0 x1 x4 x5 h2) (
   dE r n x4 h2)
noncomputable def vB (r : RT) (n : Nat) (m : Nat) : bZ :=
 Nat.rec (motive := fun _ => bZ) (fun _ _ _ _ _ => none) (fun _ ih => aZh r n ih) m
noncomputable def bRz (r : RT) (n : Nat) : bZ := vB r n n
noncomputable def aPg (r : RT) (n : Nat) (x0 x1 x4 x5 : DV) (h0 : Hp) : aH :=
 bRz r n x0 x1 x4 x5 h0
noncomputable def aRu (r : RT) (n : Nat) (x0 x1 x4 : DV) (h0 : Hp) : aH :=
 aPg r n x0 x1 x4 (aG 0) h0
noncomputable def aPu (r : RT) (n : Nat) (x0 x1 : DV) (h0 : Hp) : aH :=
 aRu r n x0 x1 (.i .i64 (Int.negSucc 0)) h0
noncomputable def s167 (r : RT) (n : Nat) (x0 x1 : DV) (h0 : Hp) : aH :=
 aPu r n x0 x1 h0
noncomputable abbrev c167 : Code := cf Tryz.f167
noncomputable abbrev aGx : Code := cR c167
noncomputable abbrev aIc : Code := cR aGx
noncomputable abbrev cQf : Code := cR aIc
noncomputable abbrev yF : Code := cL aIc
noncomputable abbrev aNs : Code := cR yF
noncomputable abbrev aIw : Code := cL aNs
noncomputable abbrev lC : Code := cL aIw
noncomputable abbrev aEt : Code := cR lC
noncomputable abbrev cSl : Code := cR aEt
noncomputable abbrev aUx : Code := cL aEt
noncomputable abbrev aUc : Code := cL lC
noncomputable abbrev aYw : Code := cL yF
noncomputable abbrev aWo : Code := cL aGx
noncomputable abbrev aWh : Code := cL c167
noncomputable abbrev r167 : K := aV CF Tryz.f167
noncomputable def D167 (r : RT) (n : Nat) (c : Code) (X : Nat → K) (k : K) : K := aP CF r 28 n c X r167 k
theorem cMd : D167 r n cQf x0 r167 = (K1 (dE r n) 4) :=
 (by kernel_rfl)
theorem cBe (kk5 : bZ) : D167 r n cSl (xs x0 0 (K1 (dE r n) 4)) (K4 kk5 0 1 4 5) = (K4 (aEk r n kk5) 0 1 4 5) :=
 (by kernel_rfl)
theorem bFm (kk5 : bZ) : D167 r n aEt (xs x0 0 (K1 (dE r n) 4)) (K4 kk5 0 1 4 5) = D167 r n aUx (xs x0 0 (K1 (dE r n) 4)) (K4 (aEk r n kk5) 0 1 4 5) :=
 congrArg (fun k => D167 r n aUx (xs x0 0 (K1 (dE r n) 4)) k) (cBe r n kk5)
theorem bZf (kk5 : bZ) : D167 r n aEt (xs x0 0 (K1 (dE r n) 4)) (K4 kk5 0 1 4 5) = (K4 (aPs r n kk5) 0 1 4 5) :=
 (bFm r n kk5).trans
 ((by kernel_rfl))
theorem bSd (kk5 : bZ) : D167 r n lC (xs x0 0 (K1 (dE r n) 4)) (K4 kk5 0 1 4 5) = D167 r n aUc (xs x0 0 (K1 (dE r n) 4)) (K4 (aPs r n kk5) 0 1 4 5) :=
 congrArg (fun k => D167 r n aUc (xs x0 0 (K1 (dE r n) 4)) k) (bZf r n kk5)
theorem bQk (kk5 : bZ) : D167 r n lC (xs x0 0 (K1 (dE r n) 4)) (K4 kk5 0 1 4 5) = (K4 (aZh r n kk5) 0 1 4 5) :=
 (bSd r n kk5).trans
 ((by kernel_rfl))
theorem bXi (m : Nat) : aM (fun kk => D167 r n lC (xs x0 0 (K1 (dE r n) 4)) kk) m = (K4 (vB r n m) 0 1 4 5) := by
 induction m with
 | zero => exact (by kernel_rfl : aM (fun kk => D167 r n lC (xs x0 0 (K1 (dE r n) 4)) kk) 0 = (K4 (vB r n 0) 0 1 4 5))
 | succ m ih =>
  refine (by kernel_rfl : aM (fun kk => D167 r n lC (xs x0 0 (K1 (dE r n) 4)) kk) (m + 1) = D167 r n lC (xs x0 0 (K1 (dE r n) 4)) (aM (fun kk => D167 r n lC (xs x0 0 (K1 (dE r n) 4)) kk) m)).trans ?_
  rw [ih]
  exact (bQk r n (vB r n m)).trans (by kernel_rfl)
theorem cBf : D167 r n aIw (xs x0 0 (K1 (dE r n) 4)) (K1 (dE r n) 4) = (K4 (bRz r n) 0 1 4 5) :=
 (by kernel_rfl : D167 r n aIw (xs x0 0 (K1 (dE r n) 4)) (K1 (dE r n) 4) = aM (fun kk => D167 r n lC (xs x0 0 (K1 (dE r n) 4)) kk) n).trans ((bXi r n n).trans (by kernel_rfl))
theorem cDa : D167 r n aNs x0 (K1 (dE r n) 4) = (K4 (aPg r n) 0 1 4 5) :=
 (by kernel_rfl : D167 r n aNs x0 (K1 (dE r n) 4) = D167 r n aIw (xs x0 0 (K1 (dE r n) 4)) (K1 (dE r n) 4)).trans
 ((cBf r n).trans (by kernel_rfl))
theorem bOr : D167 r n aIc x0 r167 = D167 r n yF x0 (K1 (dE r n) 4) :=
 congrArg (fun k => D167 r n yF x0 k) (cMd r n)
theorem bHd : D167 r n yF x0 (K1 (dE r n) 4) = D167 r n aYw x0 (K4 (aPg r n) 0 1 4 5) :=
 congrArg (fun k => D167 r n aYw x0 k) (cDa r n)
theorem cLn : D167 r n aIc x0 r167 = (K3 (aRu r n) 0 1 4) :=
 (bOr r n).trans
 ((bHd r n).trans
 ((by kernel_rfl)))
theorem bOj : D167 r n aGx x0 r167 = D167 r n aWo x0 (K3 (aRu r n) 0 1 4) :=
 congrArg (fun k => D167 r n aWo x0 k) (cLn r n)
theorem cAa : D167 r n aGx x0 r167 = (K2 (aPu r n) 0 1) :=
 (bOj r n).trans
 ((by kernel_rfl))
theorem cSp : D167 r n c167 x0 r167 = D167 r n aWh x0 (K2 (aPu r n) 0 1) :=
 congrArg (fun k => D167 r n aWh x0 k) (cAa r n)
theorem dGp : D167 r n c167 x0 r167 = (K2 (s167 r n) 0 1) :=
 (cSp r n).trans
 ((by kernel_rfl))
theorem cTw : aF CF r n 167 args h = s167 r n (aW args 0) (aW args 1) h :=
 (by kernel_rfl : aF CF r n 167 args h = D167 r n c167 x0 r167 (aJ args) h).trans ((congrFun (congrFun (dGp r n) (aJ args)) h).trans (by kernel_rfl))
noncomputable def s168 (r : RT) (n : Nat) (x0 x1 : DV) (h0 : Hp) : aH :=
 bnd (aE 3 x0 x1 h0) fun v1 h1 =>
 bnd (aB 0 v1 h1) fun v2 h2 =>
 bnd (aA v2 h2) fun v3 h3 =>
 bnd (aD .neq v3 (aG 18) h3) fun v4 h4 =>
 bnd (gD v4 false (some (x1, h4)) h4) fun v5 h5 =>
 bnd (gD v4 false (aD .add v5 (aG 1) h5) h5) fun v6 h6 =>
 bnd (gD v4 false (some (x0, h6)) h6) fun v7 h7 =>
 bnd (gD v4 false (cB v7 h7) h7) fun v8 h8 =>
 bnd (gD v4 false (aD .geq v6 v8 h8) h8) fun v9 h9 =>
 bnd (aQ v4 (.b true) v9 h9) fun v10 h10 =>
 bnd (gD v10 false (some (x0, h10)) h10) fun v11 h11 =>
 bnd (gD v10 false (some (x1, h11)) h11) fun v12 h12 =>
 bnd (gD v10 false (aD .add v12 (aG 1) h12) h12) fun v13 h13 =>
 bnd (gD v10 false (aE 3 v11 v13 h13) h13) fun v14 h14 =>
 bnd (gD v10 false (aB 0 v14 h14) h14) fun v15 h15 =>
 bnd (gD v10 false (aA v15 h15) h15) fun v16 h16 =>
 bnd (gD v10 false (aD .neq v16 (aG 16) h16) h16) fun v17 h17 =>
 bnd (aQ v10 (.b true) v17 h17) fun v18 h18 =>
 aX v18 (
 some (.t [(aG 0), (.b false)], h18)) (
 bnd (aD .add x1 (aG 1) h18) fun v19 h19 =>
 bnd (aE 3 x0 v19 h19) fun v20 h20 =>
 bnd (aK 3 v20 h20) fun v21 h21 =>
 bnd (r 169 [v21] h21) fun v22 h22 =>
 bnd (aD .add x1 (aG 2) h22) fun v23 h23 =>
 bnd (aD .gtr v22 v23 h23) fun v24 h24 =>
 some (.t [v22, v24], h24))
noncomputable abbrev c168 : Code := cf Tryz.f168
noncomputable abbrev r168 : K := aV CF Tryz.f168
noncomputable def D168 (r : RT) (n : Nat) (c : Code) (X : Nat → K) (k : K) : K := aP CF r 40 n c X r168 k
theorem dCe : D168 r n c168 x0 r168 = (K2 (s168 r n) 0 1) :=
 (by kernel_rfl)
theorem cRa : aF CF r n 168 args h = s168 r n (aW args 0) (aW args 1) h :=
 (by kernel_rfl : aF CF r n 168 args h = D168 r n c168 x0 r168 (aJ args) h).trans ((congrFun (congrFun (dCe r n) (aJ args)) h).trans (by kernel_rfl))
noncomputable def s169 (r : RT) (n : Nat) (x0 : DV) (h0 : Hp) : aH :=
 bnd (bU x0 h0) fun v1 h1 =>
 bnd (aB 0 v1 h1) fun v2 h2 =>
 bnd (aA v2 h2) fun v3 h3 =>
 bnd (r 188 [v3] h3) fun v4 h4 =>
 bnd (jE .not v4 h4) fun v5 h5 =>
 aX v5 (
 some ((.i .i64 (Int.negSucc 0)), h5)) (
 bnd (aB 1 v1 h5) fun v6 h6 =>
 bnd (aA v6 h6) fun v7 h7 =>
 bnd (aB 2 v1 h7) fun v8 h8 =>
 bnd (aA v8 h8) fun v9 h9 =>
 bnd (dK .shl v9 (.i .u64 (Int.ofNat 8)) h9) fun v10 h10 =>
 bnd (aD .add v7 v10 h10) fun v11 h11 =>
 some (v11, h11))
noncomputable abbrev c169 : Code := cf Tryz.f169
noncomputable abbrev r169 : K := aV CF Tryz.f169
noncomputable def D169 (r : RT) (n : Nat) (c : Code) (X : Nat → K) (k : K) : K := aP CF r 13 n c X r169 k
theorem dCf : D169 r n c169 x0 r169 = (K1 (s169 r n) 0) :=
 (by kernel_rfl)
theorem cUd : aF CF r n 169 args h = s169 r n (aW args 0) h :=
 (by kernel_rfl : aF CF r n 169 args h = D169 r n c169 x0 r169 (aJ args) h).trans ((congrFun (congrFun (dCf r n) (aJ args)) h).trans (by kernel_rfl))
noncomputable def s170 (r : RT) (n : Nat) (x0 x1 x2 x3 x4 x5 x6 x7 : DV) (h0 : Hp) : aH :=
 bnd (aA x3 h0) fun v1 h1 =>
 bnd (cB v1 h1) fun v2 h2 =>
 bnd (aD .geq x0 v2 h2) fun v3 h3 =>
 bnd (gD v3 false (aA x4 h3) h3) fun v4 h4 =>
 bnd (gD v3 false (some (x0, h4)) h4) fun v5 h5 =>
 bnd (gD v3 false (aE 1 v4 v5 h5) h5) fun v6 h6 =>
 bnd (gD v3 false (aA v6 h6) h6) fun v7 h7 =>
 bnd (gD v3 false (some (x1, h7)) h7) fun v8 h8 =>
 bnd (gD v3 false (aD .neq v7 v8 h8) h8) fun v9 h9 =>
 bnd (aQ v3 (.b true) v9 h9) fun v10 h10 =>
 bnd (gD v10 false (aA x5 h10) h10) fun v11 h11 =>
 bnd (gD v10 false (some (x0, h11)) h11) fun v12 h12 =>
 bnd (gD v10 false (aE 1 v11 v12 h12) h12) fun v13 h13 =>
 bnd (gD v10 false (aA v13 h13) h13) fun v14 h14 =>
 bnd (gD v10 false (aD .geq v14 (aG 0) h14) h14) fun v15 h15 =>
 bnd (gD v10 false (some (v15, h15)) h15) fun v16 h16 =>
 bnd (gD v16 true (aA x5 h16) h16) fun v17 h17 =>
 bnd (gD v16 true (some (x0, h17)) h17) fun v18 h18 =>
 bnd (gD v16 true (aE 1 v17 v18 h18) h18) fun v19 h19 =>
 bnd (gD v16 true (aA v19 h19) h19) fun v20 h20 =>
 bnd (gD v16 true (some (x2, h20)) h20) fun v21 h21 =>
 bnd (gD v16 true (aD .neq v20 v21 h21) h21) fun v22 h22 =>
 bnd (gD v10 false (aQ v16 v22 (.b false) h22) h22) fun v23 h23 =>
 bnd (aQ v10 (.b true) v23 h23) fun v24 h24 =>
 aX v24 (
 bnd (aI 1 x6 (.b false) h24) fun _ h25 =>
 some (.t [], h25)) (
 bnd (aA x5 h24) fun v26 h26 =>
 bnd (aE 1 v26 x0 h26) fun v27 h27 =>
 bnd (aA v27 h27) fun v28 h28 =>
 bnd (aD .lss v28 (aG 0) h28) fun v29 h29 =>
 aX v29 (
 bnd (aA x5 h29) fun v30 h30 =>
 bnd (aE 1 v30 x0 h30) fun v31 h31 =>
 bnd (aI 1 v31 x2 h31) fun _ h32 =>
 bnd (aA x7 h32) fun v33 h33 =>
 bnd (aN [(aG 0)] 1 [(0, 1, x0)] h33) fun v34 h34 =>
 bnd (aY 1 8 v33 v34 h34) fun v35 h35 =>
 bnd (aI 1 x7 v35 h35) fun _ h36 =>
 some (.t [], h36)) (
 some (.t [], h29)))
noncomputable abbrev c170 : Code := cf Tryz.f170
noncomputable abbrev r170 : K := aV CF Tryz.f170
noncomputable def D170 (r : RT) (n : Nat) (c : Code) (X : Nat → K) (k : K) : K := aP CF r 53 n c X r170 k
theorem dAk : D170 r n c170 x0 r170 = (K8 (s170 r n) 0 1 2 3 4 5 6 7) :=
 (by kernel_rfl)
theorem cQl : aF CF r n 170 args h = s170 r n (aW args 0) (aW args 1) (aW args 2) (aW args 3) (aW args 4) (aW args 5) (aW args 6) (aW args 7) h :=
 (by kernel_rfl : aF CF r n 170 args h = D170 r n c170 x0 r170 (aJ args) h).trans ((congrFun (congrFun (dAk r n) (aJ args)) h).trans (by kernel_rfl))
noncomputable def cH (r : RT) (n : Nat) (h0 : Hp) : aH :=
 some ((aG 0), h0)
noncomputable def aIl (r : RT) (n : Nat) (x1 x22 : DV) (h0 : Hp) : aH :=
 aX x22 (
 bnd (aB 2 x1 h0) fun v1 h1 =>
 bnd (aA v1 h1) fun v2 h2 =>
 bnd (jE .neg v2 h2) fun v3 h3 =>
 some (v3, h3)) (
  cH r n h0)
noncomputable def bUq (r : RT) (n : Nat) (x1 x4 : DV) (h0 : Hp) : aH :=
 bnd (aD .eql x4 (aG 14) h0) fun v1 h1 =>
 aX v1 (
  aIl r n x1 v1 h1) (
 bnd (aD .eql x4 (aG 15) h1) fun v2 h2 =>
  aIl r n x1 v2 h2)
noncomputable def rH (r : RT) (n : Nat) (x1 x4 x17 : DV) (h0 : Hp) : aH :=
 aX x17 (
 some ((.i .i64 (Int.negSucc 0)), h0)) (
  bUq r n x1 x4 h0)
noncomputable def bIv (r : RT) (n : Nat) (x1 x4 : DV) (h0 : Hp) : aH :=
 bnd (aD .eql x4 (aG 12) h0) fun v1 h1 =>
 aX v1 (
  rH r n x1 x4 v1 h1) (
 bnd (aD .eql x4 (aG 17) h1) fun v2 h2 =>
 aX v2 (
   rH r n x1 x4 v2 h2) (
 bnd (aD .eql x4 (aG 19) h2) fun v3 h3 =>
 aX v3 (
    rH r n x1 x4 v3 h3) (
 bnd (aD .eql x4 (aG 20) h3) fun v4 h4 =>
    rH r n x1 x4 v4 h4)))
noncomputable def iV (r : RT) (n : Nat) (x1 x4 x5 : DV) (h0 : Hp) : aH :=
 aX x5 (
 some ((aG 1), h0)) (
  bIv r n x1 x4 h0)
noncomputable def aTc (r : RT) (n : Nat) (x1 x4 : DV) (h0 : Hp) : aH :=
 bnd (aD .eql x4 (aG 1) h0) fun v1 h1 =>
 aX v1 (
  iV r n x1 x4 v1 h1) (
 bnd (aD .eql x4 (aG 2) h1) fun v2 h2 =>
 aX v2 (
   iV r n x1 x4 v2 h2) (
 bnd (aD .eql x4 (aG 3) h2) fun v3 h3 =>
 aX v3 (
    iV r n x1 x4 v3 h3) (
 bnd (aD .eql x4 (aG 4) h3) fun v4 h4 =>
 aX v4 (
     iV r n x1 x4 v4 h4) (
 bnd (aD .eql x4 (aG 5) h4) fun v5 h5 =>
 aX v5 (
      iV r n x1 x4 v5 h5) (
 bnd (aD .eql x4 (aG 6) h5) fun v6 h6 =>
 aX v6 (
       iV r n x1 x4 v6 h6) (
 bnd (aD .eql x4 (aG 7) h6) fun v7 h7 =>
 aX v7 (
        iV r n x1 x4 v7 h7) (
 bnd (aD .eql x4 (aG 8) h7) fun v8 h8 =>
 aX v8 (
         iV r n x1 x4 v8 h8) (
 bnd (aD .eql x4 (aG 9) h8) fun v9 h9 =>
 aX v9 (
          iV r n x1 x4 v9 h9) (
 bnd (aD .eql x4 (aG 13) h9) fun v10 h10 =>
 aX v10 (
           iV r n x1 x4 v10 h10) (
 bnd (aD .eql x4 (aG 18) h10) fun v11 h11 =>
           iV r n x1 x4 v11 h11))))))))))
noncomputable def xA (r : RT) (n : Nat) (x1 : DV) (h0 : Hp) : aH :=
 bnd (aB 0 x1 h0) fun v1 h1 =>
 bnd (aA v1 h1) fun v2 h2 =>
  aTc r n x1 v2 h2
noncomputable def s171 (r : RT) (n : Nat) (x0 : DV) (h0 : Hp) : aH :=
 bnd (bU x0 h0) fun v1 h1 =>
  xA r n v1 h1
noncomputable abbrev c171 : Code := cf Tryz.f171
noncomputable abbrev aGu : Code := cR c171
noncomputable abbrev cPe : Code := cR aGu
noncomputable abbrev wE : Code := cL aGu
noncomputable abbrev aQc : Code := cR wE
noncomputable abbrev aFp : Code := cL aQc
noncomputable abbrev wD : Code := cR aFp
noncomputable abbrev yK : Code := cR wD
noncomputable abbrev wM : Code := cR yK
noncomputable abbrev xU : Code := cR wM
noncomputable abbrev cMa : Code := cR xU
noncomputable abbrev aTp : Code := cL xU
noncomputable abbrev cHf : Code := cL wM
noncomputable abbrev aYo : Code := cL yK
noncomputable abbrev cFa : Code := cL wD
noncomputable abbrev aTz : Code := cL aFp
noncomputable abbrev aZc : Code := cL wE
noncomputable abbrev aEf : Code := cL c171
noncomputable abbrev r171 : K := aV CF Tryz.f171
noncomputable def D171 (r : RT) (n : Nat) (c : Code) (X : Nat → K) (k : K) : K := aP CF r 28 n c X r171 k
theorem cEz : D171 r n cPe x0 r171 = (K0 (cH r n)) :=
 (by kernel_rfl)
theorem cGs : D171 r n cMa (xs x0 0 (K0 (cH r n))) (K0 (cH r n)) = (K2 (aIl r n) 1 22) :=
 (by kernel_rfl)
theorem bNh : D171 r n xU (xs x0 0 (K0 (cH r n))) (K0 (cH r n)) = D171 r n aTp (xs x0 0 (K0 (cH r n))) (K2 (aIl r n) 1 22) :=
 congrArg (fun k => D171 r n aTp (xs x0 0 (K0 (cH r n))) k) (cGs r n)
theorem bYp : D171 r n xU (xs x0 0 (K0 (cH r n))) (K0 (cH r n)) = (K2 (bUq r n) 1 4) :=
 (bNh r n).trans
 ((by kernel_rfl))
theorem cKx : D171 r n wM (xs x0 0 (K0 (cH r n))) (K0 (cH r n)) = (K3 (rH r n) 1 4 17) :=
 (by kernel_rfl : D171 r n wM (xs x0 0 (K0 (cH r n))) (K0 (cH r n)) = (fun (env : bA) (h : Hp) => aX (opr env (cC wM)) (D171 r n cHf (xs x0 0 (K0 (cH r n))) (K0 (cH r n)) env h) (D171 r n xU (xs x0 0 (K0 (cH r n))) (K0 (cH r n)) env h))).trans (by rw [bYp r n]; kernel_rfl)
theorem bPj : D171 r n yK (xs x0 0 (K0 (cH r n))) (K0 (cH r n)) = D171 r n aYo (xs x0 0 (K0 (cH r n))) (K3 (rH r n) 1 4 17) :=
 congrArg (fun k => D171 r n aYo (xs x0 0 (K0 (cH r n))) k) (cKx r n)
theorem cFd : D171 r n yK (xs x0 0 (K0 (cH r n))) (K0 (cH r n)) = (K2 (bIv r n) 1 4) :=
 (bPj r n).trans
 ((by kernel_rfl))
theorem cEg : D171 r n wD (xs x0 0 (K0 (cH r n))) (K0 (cH r n)) = (K3 (iV r n) 1 4 5) :=
 (by kernel_rfl : D171 r n wD (xs x0 0 (K0 (cH r n))) (K0 (cH r n)) = (fun (env : bA) (h : Hp) => aX (opr env (cC wD)) (D171 r n cFa (xs x0 0 (K0 (cH r n))) (K0 (cH r n)) env h) (D171 r n yK (xs x0 0 (K0 (cH r n))) (K0 (cH r n)) env h))).trans (by rw [cFd r n]; kernel_rfl)
theorem bVb : D171 r n aFp (xs x0 0 (K0 (cH r n))) (K0 (cH r n)) = D171 r n aTz (xs x0 0 (K0 (cH r n))) (K3 (iV r n) 1 4 5) :=
 congrArg (fun k => D171 r n aTz (xs x0 0 (K0 (cH r n))) k) (cEg r n)
theorem cJc : D171 r n aQc x0 (K0 (cH r n)) = (K2 (aTc r n) 1 4) :=
 (by kernel_rfl : D171 r n aQc x0 (K0 (cH r n)) = D171 r n aFp (xs x0 0 (K0 (cH r n))) (K0 (cH r n))).trans
 ((bVb r n).trans
 ((by kernel_rfl)))
theorem bTv : D171 r n aGu x0 r171 = D171 r n wE x0 (K0 (cH r n)) :=
 congrArg (fun k => D171 r n wE x0 k) (cEz r n)
theorem bMz : D171 r n wE x0 (K0 (cH r n)) = D171 r n aZc x0 (K2 (aTc r n) 1 4) :=
 congrArg (fun k => D171 r n aZc x0 k) (cJc r n)
theorem cLk : D171 r n aGu x0 r171 = (K1 (xA r n) 1) :=
 (bTv r n).trans
 ((bMz r n).trans
 ((by kernel_rfl)))
theorem cQd : D171 r n c171 x0 r171 = D171 r n aEf x0 (K1 (xA r n) 1) :=
 congrArg (fun k => D171 r n aEf x0 k) (cLk r n)
theorem cZl (q0 : TT1) : D171 r n aEf x0 (K1 q0 1) = fun (env : bA) (h : Hp) =>
 bnd (bU (env 0) h) fun v1 h1 =>
  q0 v1 h1 := by kernel_rfl
theorem cJv : (fun (env : bA) (h : Hp) =>
 bnd (bU (env 0) h) fun v1 h1 =>
  xA r n v1 h1) = (K1 (s171 r n) 0) := by kernel_rfl
theorem dEw : D171 r n c171 x0 r171 = (K1 (s171 r n) 0) :=
 (cQd r n).trans
 ((cZl r n (xA r n)).trans (cJv r n))
theorem cVk : aF CF r n 171 args h = s171 r n (aW args 0) h :=
 (by kernel_rfl : aF CF r n 171 args h = D171 r n c171 x0 r171 (aJ args) h).trans ((congrFun (congrFun (dEw r n) (aJ args)) h).trans (by kernel_rfl))
noncomputable def dB (r : RT) (n : Nat) (h0 : Hp) : aH :=
 some ((aG 0), h0)
noncomputable def aGm (r : RT) (n : Nat) (x1 x13 : DV) (h0 : Hp) : aH :=
 aX x13 (
 bnd (aB 2 x1 h0) fun v1 h1 =>
 bnd (aA v1 h1) fun v2 h2 =>
 bnd (aD .add v2 (aG 1) h2) fun v3 h3 =>
 some (v3, h3)) (
  dB r n h0)
noncomputable def bLu (r : RT) (n : Nat) (x1 x4 : DV) (h0 : Hp) : aH :=
 bnd (aD .eql x4 (aG 14) h0) fun v1 h1 =>
 aX v1 (
  aGm r n x1 v1 h1) (
 bnd (aD .eql x4 (aG 15) h1) fun v2 h2 =>
  aGm r n x1 v2 h2)
noncomputable def mM (r : RT) (n : Nat) (x1 x4 x5 : DV) (h0 : Hp) : aH :=
 aX x5 (
 some ((aG 1), h0)) (
  bLu r n x1 x4 h0)
noncomputable def aQy (r : RT) (n : Nat) (x1 x4 : DV) (h0 : Hp) : aH :=
 bnd (aD .eql x4 (aG 12) h0) fun v1 h1 =>
 aX v1 (
  mM r n x1 x4 v1 h1) (
 bnd (aD .eql x4 (aG 13) h1) fun v2 h2 =>
 aX v2 (
   mM r n x1 x4 v2 h2) (
 bnd (aD .eql x4 (aG 10) h2) fun v3 h3 =>
 aX v3 (
    mM r n x1 x4 v3 h3) (
 bnd (aD .eql x4 (aG 11) h3) fun v4 h4 =>
 aX v4 (
     mM r n x1 x4 v4 h4) (
 bnd (aD .eql x4 (aG 17) h4) fun v5 h5 =>
 aX v5 (
      mM r n x1 x4 v5 h5) (
 bnd (aD .eql x4 (aG 20) h5) fun v6 h6 =>
 aX v6 (
       mM r n x1 x4 v6 h6) (
 bnd (aD .eql x4 (aG 19) h6) fun v7 h7 =>
       mM r n x1 x4 v7 h7))))))
noncomputable def yT (r : RT) (n : Nat) (x1 : DV) (h0 : Hp) : aH :=
 bnd (aB 0 x1 h0) fun v1 h1 =>
 bnd (aA v1 h1) fun v2 h2 =>
  aQy r n x1 v2 h2
noncomputable def s172 (r : RT) (n : Nat) (x0 : DV) (h0 : Hp) : aH :=
 bnd (bU x0 h0) fun v1 h1 =>
  yT r n v1 h1
noncomputable abbrev c172 : Code := cf Tryz.f172
noncomputable abbrev aEi : Code := cR c172
noncomputable abbrev cTl : Code := cR aEi
noncomputable abbrev xD : Code := cL aEi
noncomputable abbrev aSc : Code := cR xD
noncomputable abbrev aBx : Code := cL aSc
noncomputable abbrev wW : Code := cR aBx
noncomputable abbrev wR : Code := cR wW
noncomputable abbrev cTr : Code := cR wR
noncomputable abbrev bPy : Code := cL wR
noncomputable abbrev cFr : Code := cL wW
noncomputable abbrev aVh : Code := cL aBx
noncomputable abbrev aUl : Code := cL xD
noncomputable abbrev aGh : Code := cL c172
noncomputable abbrev r172 : K := aV CF Tryz.f172
noncomputable def D172 (r : RT) (n : Nat) (c : Code) (X : Nat → K) (k : K) : K := aP CF r 19 n c X r172 k
theorem cCs : D172 r n cTl x0 r172 = (K0 (dB r n)) :=
 (by kernel_rfl)
theorem cMk : D172 r n cTr (xs x0 0 (K0 (dB r n))) (K0 (dB r n)) = (K2 (aGm r n) 1 13) :=
 (by kernel_rfl)
theorem bQx : D172 r n wR (xs x0 0 (K0 (dB r n))) (K0 (dB r n)) = D172 r n bPy (xs x0 0 (K0 (dB r n))) (K2 (aGm r n) 1 13) :=
 congrArg (fun k => D172 r n bPy (xs x0 0 (K0 (dB r n))) k) (cMk r n)
theorem cBu : D172 r n wR (xs x0 0 (K0 (dB r n))) (K0 (dB r n)) = (K2 (bLu r n) 1 4) :=
 (bQx r n).trans
 ((by kernel_rfl))
theorem cHp : D172 r n wW (xs x0 0 (K0 (dB r n))) (K0 (dB r n)) = (K3 (mM r n) 1 4 5) :=
 (by kernel_rfl : D172 r n wW (xs x0 0 (K0 (dB r n))) (K0 (dB r n)) = (fun (env : bA) (h : Hp) => aX (opr env (cC wW)) (D172 r n cFr (xs x0 0 (K0 (dB r n))) (K0 (dB r n)) env h) (D172 r n wR (xs x0 0 (K0 (dB r n))) (K0 (dB r n)) env h))).trans (by rw [cBu r n]; kernel_rfl)
theorem bHl : D172 r n aBx (xs x0 0 (K0 (dB r n))) (K0 (dB r n)) = D172 r n aVh (xs x0 0 (K0 (dB r n))) (K3 (mM r n) 1 4 5) :=
 congrArg (fun k => D172 r n aVh (xs x0 0 (K0 (dB r n))) k) (cHp r n)
theorem cGu : D172 r n aSc x0 (K0 (dB r n)) = (K2 (aQy r n) 1 4) :=
 (by kernel_rfl : D172 r n aSc x0 (K0 (dB r n)) = D172 r n aBx (xs x0 0 (K0 (dB r n))) (K0 (dB r n))).trans
 ((bHl r n).trans
 ((by kernel_rfl)))
theorem bFt : D172 r n aEi x0 r172 = D172 r n xD x0 (K0 (dB r n)) :=
 congrArg (fun k => D172 r n xD x0 k) (cCs r n)
theorem bUv : D172 r n xD x0 (K0 (dB r n)) = D172 r n aUl x0 (K2 (aQy r n) 1 4) :=
 congrArg (fun k => D172 r n aUl x0 k) (cGu r n)
theorem cAo : D172 r n aEi x0 r172 = (K1 (yT r n) 1) :=
 (bFt r n).trans
 ((bUv r n).trans
 ((by kernel_rfl)))
theorem cXn : D172 r n c172 x0 r172 = D172 r n aGh x0 (K1 (yT r n) 1) :=
 congrArg (fun k => D172 r n aGh x0 k) (cAo r n)
theorem cRs (q0 : TT1) : D172 r n aGh x0 (K1 q0 1) = fun (env : bA) (h : Hp) =>
 bnd (bU (env 0) h) fun v1 h1 =>
  q0 v1 h1 := by kernel_rfl
theorem cEa : (fun (env : bA) (h : Hp) =>
 bnd (bU (env 0) h) fun v1 h1 =>
  yT r n v1 h1) = (K1 (s172 r n) 0) := by kernel_rfl
theorem dGx : D172 r n c172 x0 r172 = (K1 (s172 r n) 0) :=
 (cXn r n).trans
 ((cRs r n (yT r n)).trans (cEa r n))
theorem cUf : aF CF r n 172 args h = s172 r n (aW args 0) h :=
 (by kernel_rfl : aF CF r n 172 args h = D172 r n c172 x0 r172 (aJ args) h).trans ((congrFun (congrFun (dGx r n) (aJ args)) h).trans (by kernel_rfl))
noncomputable def fO (r : RT) (n : Nat) (x0 x7 : DV) (h0 : Hp) : aH :=
 bnd (aZ x0 h0) fun v1 h1 =>
 bnd (aB 0 v1 h1) fun v2 h2 =>
 bnd (aA v2 h2) fun v3 h3 =>
 bnd (aZ x0 h3) fun v4 h4 =>
 bnd (aB 1 v4 h4) fun v5 h5 =>
 bnd (aA v5 h5) fun v6 h6 =>
 bnd (jT v3 (some x7) (some v6) h6) fun v7 h7 =>
 some (v7, h7)
noncomputable def aWt (r : RT) (n : Nat) (kk4 : bZ) (x0 x1 x2 x7 : DV) (h0 : Hp) : aH :=
 bnd (aZ x0 h0) fun v1 h1 =>
 bnd (aB 1 v1 h1) fun v2 h2 =>
 bnd (aA v2 h2) fun v3 h3 =>
 bnd (aZ x0 h3) fun v4 h4 =>
 bnd (aB 0 v4 h4) fun v5 h5 =>
 bnd (aA v5 h5) fun v6 h6 =>
 bnd (dN v6 h6) fun v7 h7 =>
 bnd (aD .lss v3 v7 h7) fun v8 h8 =>
 bnd (gD v8 true (some (x0, h8)) h8) fun v9 h9 =>
 bnd (gD v8 true (aZ v9 h9) h9) fun v10 h10 =>
 bnd (gD v8 true (aB 1 v10 h10) h10) fun v11 h11 =>
 bnd (gD v8 true (aA v11 h11) h11) fun v12 h12 =>
 bnd (gD v8 true (some (x7, h12)) h12) fun v13 h13 =>
 bnd (gD v8 true (aD .sub v12 v13 h13) h13) fun v14 h14 =>
 bnd (gD v8 true (some (x2, h14)) h14) fun v15 h15 =>
 bnd (gD v8 true (aD .lss v14 v15 h15) h15) fun v16 h16 =>
 bnd (aQ v8 v16 (.b false) h16) fun v17 h17 =>
 bnd (gD v17 true (some (x1, h17)) h17) fun v18 h18 =>
 bnd (gD v17 true (some (x0, h18)) h18) fun v19 h19 =>
 bnd (gD v17 true (aZ v19 h19) h19) fun v20 h20 =>
 bnd (gD v17 true (aB 0 v20 h20) h20) fun v21 h21 =>
 bnd (gD v17 true (aA v21 h21) h21) fun v22 h22 =>
 bnd (gD v17 true (some (x0, h22)) h22) fun v23 h23 =>
 bnd (gD v17 true (aZ v23 h23) h23) fun v24 h24 =>
 bnd (gD v17 true (aB 1 v24 h24) h24) fun v25 h25 =>
 bnd (gD v17 true (aA v25 h25) h25) fun v26 h26 =>
 bnd (gD v17 true (fI v22 v26 h26) h26) fun v27 h27 =>
 bnd (gD v17 true (gJ CF r v18 [v27] h27) h27) fun v28 h28 =>
 bnd (aQ v17 v28 (.b false) h28) fun v29 h29 =>
 aX v29 (
 bnd (aZ x0 h29) fun v30 h30 =>
 bnd (aB 1 v30 h30) fun v31 h31 =>
 bnd (aA v31 h31) fun v32 h32 =>
 bnd (aD .add v32 (aG 1) h32) fun v33 h33 =>
 bnd (aZ x0 h33) fun v34 h34 =>
 bnd (aB 1 v34 h34) fun v35 h35 =>
 bnd (aI 1 v35 v33 h35) fun _ h36 =>
      kk4 x0 x1 x2 x7 h36) (
      fO r n x0 x7 h29)
noncomputable def tV (r : RT) (n : Nat) (m : Nat) : bZ :=
 Nat.rec (motive := fun _ => bZ) (fun _ _ _ _ _ => none) (fun _ ih => aWt r n ih) m
noncomputable def bOp (r : RT) (n : Nat) : bZ := tV r n n
noncomputable def aRh (r : RT) (n : Nat) (x0 x1 x2 x7 : DV) (h0 : Hp) : aH :=
 bOp r n x0 x1 x2 x7 h0
noncomputable def aQp (r : RT) (n : Nat) (x0 x1 x2 : DV) (h0 : Hp) : aH :=
 bnd (aZ x0 h0) fun v1 h1 =>
 bnd (aB 1 v1 h1) fun v2 h2 =>
 bnd (aA v2 h2) fun v3 h3 =>
  aRh r n x0 x1 x2 v3 h3
noncomputable def s175 (r : RT) (n : Nat) (x0 x1 x2 : DV) (h0 : Hp) : aH :=
 aQp r n x0 x1 x2 h0
noncomputable abbrev c175 : Code := cf Tryz.f175
noncomputable abbrev aDg : Code := cR c175
noncomputable abbrev aJq : Code := cR aDg
noncomputable abbrev cPa : Code := cR aJq
noncomputable abbrev aHz : Code := cL aJq
noncomputable abbrev aEh : Code := cL aHz
noncomputable abbrev oM : Code := cL aEh
noncomputable abbrev bUo : Code := cL aDg
noncomputable abbrev bHv : Code := cL c175
noncomputable abbrev r175 : K := aV CF Tryz.f175
noncomputable def D175 (r : RT) (n : Nat) (c : Code) (X : Nat → K) (k : K) : K := aP CF r 62 n c X r175 k
theorem cCg : D175 r n cPa x0 r175 = (K2 (fO r n) 0 7) :=
 (by kernel_rfl)
theorem bIe (kk4 : bZ) : D175 r n oM (xs x0 0 (K2 (fO r n) 0 7)) (K4 kk4 0 1 2 7) = (K4 (aWt r n kk4) 0 1 2 7) :=
 (by kernel_rfl)
theorem bSn (m : Nat) : aM (fun kk => D175 r n oM (xs x0 0 (K2 (fO r n) 0 7)) kk) m = (K4 (tV r n m) 0 1 2 7) := by
 induction m with
 | zero => exact (by kernel_rfl : aM (fun kk => D175 r n oM (xs x0 0 (K2 (fO r n) 0 7)) kk) 0 = (K4 (tV r n 0) 0 1 2 7))
 | succ m ih =>
  refine (by kernel_rfl : aM (fun kk => D175 r n oM (xs x0 0 (K2 (fO r n) 0 7)) kk) (m + 1) = D175 r n oM (xs x0 0 (K2 (fO r n) 0 7)) (aM (fun kk => D175 r n oM (xs x0 0 (K2 (fO r n) 0 7)) kk) m)).trans ?_
  rw [ih]
  exact (bIe r n (tV r n m)).trans (by kernel_rfl)
theorem cEf : D175 r n aEh (xs x0 0 (K2 (fO r n) 0 7)) (K2 (fO r n) 0 7) = (K4 (bOp r n) 0 1 2 7) :=
 (by kernel_rfl : D175 r n aEh (xs x0 0 (K2 (fO r n) 0 7)) (K2 (fO r n) 0 7) = aM (fun kk => D175 r n oM (xs x0 0 (K2 (fO r n) 0 7)) kk) n).trans ((bSn r n n).trans (by kernel_rfl))
theorem bWw : D175 r n aJq x0 r175 = D175 r n aHz x0 (K2 (fO r n) 0 7) :=
 congrArg (fun k => D175 r n aHz x0 k) (cCg r n)
theorem cJi : D175 r n aJq x0 r175 = (K4 (aRh r n) 0 1 2 7) :=
 (bWw r n).trans
 ((by kernel_rfl : D175 r n aHz x0 (K2 (fO r n) 0 7) = D175 r n aEh (xs x0 0 (K2 (fO r n) 0 7)) (K2 (fO r n) 0 7)).trans
 ((cEf r n).trans (by kernel_rfl)))
theorem bKi : D175 r n aDg x0 r175 = D175 r n bUo x0 (K4 (aRh r n) 0 1 2 7) :=
 congrArg (fun k => D175 r n bUo x0 k) (cJi r n)
theorem cAv : D175 r n aDg x0 r175 = (K3 (aQp r n) 0 1 2) :=
 (bKi r n).trans
 ((by kernel_rfl))
theorem cPw : D175 r n c175 x0 r175 = D175 r n bHv x0 (K3 (aQp r n) 0 1 2) :=
 congrArg (fun k => D175 r n bHv x0 k) (cAv r n)
theorem dBt : D175 r n c175 x0 r175 = (K3 (s175 r n) 0 1 2) :=
 (cPw r n).trans
 ((by kernel_rfl))
theorem cTi : aF CF r n 175 args h = s175 r n (aW args 0) (aW args 1) (aW args 2) h :=
 (by kernel_rfl : aF CF r n 175 args h = D175 r n c175 x0 r175 (aJ args) h).trans ((congrFun (congrFun (dBt r n) (aJ args)) h).trans (by kernel_rfl))
noncomputable def s176 (r : RT) (n : Nat) (x0 : DV) (h0 : Hp) : aH :=
 bnd (bU x0 h0) fun v1 h1 =>
 some ((.f 200 [] [v1]), h1)
noncomputable abbrev c176 : Code := cf Tryz.f176
noncomputable abbrev r176 : K := aV CF Tryz.f176
noncomputable def D176 (r : RT) (n : Nat) (c : Code) (X : Nat → K) (k : K) : K := aP CF r 4 n c X r176 k
theorem dGl : D176 r n c176 x0 r176 = (K1 (s176 r n) 0) :=
 (by kernel_rfl)
theorem cRd : aF CF r n 176 args h = s176 r n (aW args 0) h :=
 (by kernel_rfl : aF CF r n 176 args h = D176 r n c176 x0 r176 (aJ args) h).trans ((congrFun (congrFun (dGl r n) (aJ args)) h).trans (by kernel_rfl))
noncomputable def s177 (r : RT) (n : Nat) (x0 x1 : DV) (h0 : Hp) : aH :=
 bnd (r 201 [x0, x1] h0) fun v1 h1 =>
 some (v1, h1)
noncomputable abbrev c177 : Code := cf Tryz.f177
noncomputable abbrev r177 : K := aV CF Tryz.f177
noncomputable def D177 (r : RT) (n : Nat) (c : Code) (X : Nat → K) (k : K) : K := aP CF r 8 n c X r177 k
theorem dAx : D177 r n c177 x0 r177 = (K2 (s177 r n) 0 1) :=
 (by kernel_rfl)
theorem cPx : aF CF r n 177 args h = s177 r n (aW args 0) (aW args 1) h :=
 (by kernel_rfl : aF CF r n 177 args h = D177 r n c177 x0 r177 (aJ args) h).trans ((congrFun (congrFun (dAx r n) (aJ args)) h).trans (by kernel_rfl))
noncomputable def iT (r : RT) (n : Nat) (x2 x4 x5 : DV) (h0 : Hp) : aH :=
 bnd (aK 4 x4 h0) fun v1 h1 =>
 bnd (aI 4 x2 v1 h1) fun _ h2 =>
 bnd (aK 4 x2 h2) fun v3 _ =>
 some (.t [v3, x5], h2)
noncomputable def aOb (r : RT) (n : Nat) (x0 x2 x4 x5 x6 : DV) (h0 : Hp) : aH :=
 bnd (r 203 [x6] h0) fun v1 h1 =>
 aX v1 (
 bnd (aB 0 x4 h1) fun v2 h2 =>
 bnd (aI 1 v2 (aG 1) h2) fun _ h3 =>
 bnd (r 204 [x0] h3) fun v4 h4 =>
 bnd (aC 0 v4 h4) fun v5 h5 =>
 bnd (aC 1 v4 h5) fun v6 h6 =>
 bnd (aB 1 x4 h6) fun v7 h7 =>
 bnd (aI 1 v7 v5 h7) fun _ h8 =>
 bnd (aD .eql v6 (aG 0) h8) fun v9 h9 =>
 bnd (gD v9 true (some (x0, h9)) h9) fun v10 h10 =>
 bnd (gD v9 true (r 205 [v10] h10) h10) fun v11 h11 =>
 bnd (aQ v9 v11 (.b false) h11) fun v12 h12 =>
 aX v12 (
 bnd (aB 1 x4 h12) fun v13 h13 =>
 bnd (aA v13 h13) fun v14 h14 =>
 bnd (gC .add v14 (.s [58]) h14) fun v15 h15 =>
 bnd (aB 0 x4 h15) fun v16 h16 =>
 bnd (aI 1 v16 (aG 2) h16) fun _ h17 =>
 bnd (aB 1 x4 h17) fun v18 h18 =>
 bnd (aI 1 v18 v15 h18) fun _ h19 =>
      iT r n x2 x4 v6 h19) (
      iT r n x2 x4 v6 h12)) (
 bnd (r 206 [x6] h1) fun v20 h20 =>
 aX v20 (
 bnd (aB 0 x4 h20) fun v21 h21 =>
 bnd (aI 1 v21 (aG 4) h21) fun _ h22 =>
 bnd (r 207 [x0] h22) fun v23 h23 =>
 bnd (aC 0 v23 h23) fun v24 h24 =>
 bnd (aC 1 v23 h24) fun v25 h25 =>
 bnd (aB 2 x4 h25) fun v26 h26 =>
 bnd (aI 1 v26 v24 h26) fun _ h27 =>
      iT r n x2 x4 v25 h27) (
 bnd (aD .eql x6 (.i .u8 (Int.ofNat 39)) h20) fun v28 h28 =>
 aX v28 (
 bnd (aZ x0 h28) fun v29 h29 =>
 bnd (aB 1 v29 h29) fun v30 h30 =>
 bnd (aA v30 h30) fun v31 h31 =>
 bnd (aD .add v31 (aG 1) h31) fun v32 h32 =>
 bnd (aZ x0 h32) fun v33 h33 =>
 bnd (aB 1 v33 h33) fun v34 h34 =>
 bnd (aI 1 v34 v32 h34) fun _ h35 =>
 bnd (aB 0 x4 h35) fun v36 h36 =>
 bnd (aI 1 v36 (aG 5) h36) fun _ h37 =>
 bnd (r 208 [x0] h37) fun v38 h38 =>
 bnd (aC 0 v38 h38) fun v39 h39 =>
 bnd (aC 1 v38 h39) fun v40 h40 =>
 bnd (aB 1 x4 h40) fun v41 h41 =>
 bnd (aI 1 v41 v39 h41) fun _ h42 =>
    iT r n x2 x4 v40 h42) (
 bnd (aD .eql x6 (.i .u8 (Int.ofNat 35)) h28) fun v43 h43 =>
 bnd (gD v43 true (some (x0, h43)) h43) fun v44 h44 =>
 bnd (gD v43 true (r 202 [v44, (aG 1)] h44) h44) fun v45 h45 =>
 bnd (gD v43 true (aD .eql v45 (.i .u8 (Int.ofNat 40)) h45) h45) fun v46 h46 =>
 bnd (aQ v43 v46 (.b false) h46) fun v47 h47 =>
 aX v47 (
 bnd (aZ x0 h47) fun v48 h48 =>
 bnd (aB 1 v48 h48) fun v49 h49 =>
 bnd (aA v49 h49) fun v50 h50 =>
 bnd (aD .add v50 (aG 2) h50) fun v51 h51 =>
 bnd (aZ x0 h51) fun v52 h52 =>
 bnd (aB 1 v52 h52) fun v53 h53 =>
 bnd (aI 1 v53 v51 h53) fun _ h54 =>
 bnd (aB 0 x4 h54) fun v55 h55 =>
 bnd (aI 1 v55 (aG 7) h55) fun _ h56 =>
     iT r n x2 x4 x5 h56) (
 bnd (aD .eql x6 (.i .u8 (Int.ofNat 35)) h47) fun v57 h57 =>
 aX v57 (
 bnd (aZ x0 h57) fun v58 h58 =>
 bnd (aB 1 v58 h58) fun v59 h59 =>
 bnd (aA v59 h59) fun v60 h60 =>
 bnd (aD .add v60 (aG 1) h60) fun v61 h61 =>
 bnd (aZ x0 h61) fun v62 h62 =>
 bnd (aB 1 v62 h62) fun v63 h63 =>
 bnd (aI 1 v63 v61 h63) fun _ h64 =>
 bnd (aB 0 x4 h64) fun v65 h65 =>
 bnd (aI 1 v65 (aG 6) h65) fun _ h66 =>
 bnd (r 209 [x0] h66) fun v67 h67 =>
 bnd (aC 0 v67 h67) fun v68 h68 =>
 bnd (aC 1 v67 h68) fun v69 h69 =>
 bnd (aB 1 x4 h69) fun v70 h70 =>
 bnd (aI 1 v70 v68 h70) fun _ h71 =>
      iT r n x2 x4 v69 h71) (
 bnd (aD .eql x6 (.i .u8 (Int.ofNat 58)) h57) fun v72 h72 =>
 bnd (gD v72 true (some (x0, h72)) h72) fun v73 h73 =>
 bnd (gD v72 true (r 202 [v73, (aG 1)] h73) h73) fun v74 h74 =>
 bnd (gD v72 true (aD .eql v74 (.i .u8 (Int.ofNat 61)) h74) h74) fun v75 h75 =>
 bnd (aQ v72 v75 (.b false) h75) fun v76 h76 =>
 aX v76 (
 bnd (aZ x0 h76) fun v77 h77 =>
 bnd (aB 1 v77 h77) fun v78 h78 =>
 bnd (aA v78 h78) fun v79 h79 =>
 bnd (aD .add v79 (aG 2) h79) fun v80 h80 =>
 bnd (aZ x0 h80) fun v81 h81 =>
 bnd (aB 1 v81 h81) fun v82 h82 =>
 bnd (aI 1 v82 v80 h82) fun _ h83 =>
 bnd (aB 0 x4 h83) fun v84 h84 =>
 bnd (aI 1 v84 (aG 9) h84) fun _ h85 =>
       iT r n x2 x4 x5 h85) (
 bnd (aD .eql x6 (.i .u8 (Int.ofNat 58)) h76) fun v86 h86 =>
 bnd (gD v86 true (some (x0, h86)) h86) fun v87 h87 =>
 bnd (gD v86 true (r 202 [v87, (aG 1)] h87) h87) fun v88 h88 =>
 bnd (gD v86 true (r 203 [v88] h88) h88) fun v89 h89 =>
 bnd (aQ v86 v89 (.b false) h89) fun v90 h90 =>
 aX v90 (
 bnd (aZ x0 h90) fun v91 h91 =>
 bnd (aB 1 v91 h91) fun v92 h92 =>
 bnd (aA v92 h92) fun v93 h93 =>
 bnd (aD .add v93 (aG 1) h93) fun v94 h94 =>
 bnd (aZ x0 h94) fun v95 h95 =>
 bnd (aB 1 v95 h95) fun v96 h96 =>
 bnd (aI 1 v96 v94 h96) fun _ h97 =>
 bnd (aB 0 x4 h97) fun v98 h98 =>
 bnd (aI 1 v98 (aG 8) h98) fun _ h99 =>
 bnd (r 204 [x0] h99) fun v100 h100 =>
 bnd (aC 0 v100 h100) fun v101 h101 =>
 bnd (aC 1 v100 h101) fun v102 h102 =>
 bnd (aB 1 x4 h102) fun v103 h103 =>
 bnd (aI 1 v103 v101 h103) fun _ h104 =>
        iT r n x2 x4 v102 h104) (
 bnd (r 176 [(.s [43, 45, 42, 47, 60, 62, 61, 126, 44, 64, 38, 37])] h90) fun v105 h105 =>
 bnd (gJ CF r v105 [x6] h105) fun v106 h106 =>
 aX v106 (
 bnd (r 176 [(.s [43, 45, 42, 47, 60, 62, 61, 126, 44, 64, 38, 37])] h106) fun v107 h107 =>
 bnd (r 175 [x0, v107, (aG 2)] h107) fun v108 h108 =>
 bnd (aB 0 x4 h108) fun v109 h109 =>
 bnd (aI 1 v109 (aG 3) h109) fun _ h110 =>
 bnd (aB 1 x4 h110) fun v111 h111 =>
 bnd (aI 1 v111 v108 h111) fun _ h112 =>
         iT r n x2 x4 x5 h112) (
 bnd (r 176 [(.s [94, 46, 59, 40, 41, 91, 93, 124])] h106) fun v113 h113 =>
 bnd (gJ CF r v113 [x6] h113) fun v114 h114 =>
 aX v114 (
 bnd (r 176 [(.s [94, 46, 59, 40, 41, 91, 93, 124])] h114) fun v115 h115 =>
 bnd (r 175 [x0, v115, (aG 1)] h115) fun v116 h116 =>
 bnd (aB 0 x4 h116) fun v117 h117 =>
 bnd (aI 1 v117 (aG 10) h117) fun _ h118 =>
 bnd (aB 1 x4 h118) fun v119 h119 =>
 bnd (aI 1 v119 v116 h119) fun _ h120 =>
          iT r n x2 x4 x5 h120) (
          iT r n x2 x4 (aG 10) h114)))))))))
noncomputable def aOh (r : RT) (n : Nat) (x0 x2 x4 x5 : DV) (h0 : Hp) : aH :=
 bnd (r 202 [x0, (aG 0)] h0) fun v1 h1 =>
  aOb r n x0 x2 x4 x5 v1 h1
noncomputable def wK (r : RT) (n : Nat) (x0 x2 x4 : DV) (h0 : Hp) : aH :=
 aOh r n x0 x2 x4 (aG 0) h0
noncomputable def sP (r : RT) (n : Nat) (x0 x2 : DV) (h0 : Hp) : aH :=
 bnd (aZ x0 h0) fun v1 h1 =>
 bnd (aB 1 v1 h1) fun v2 h2 =>
 bnd (aA v2 h2) fun v3 h3 =>
 bnd (bE [(aG 0), (.s []), (aG 0), (aG 0)] [(3, 1, v3)] h3) fun v4 h4 =>
 bnd (bY [(aG 0), (.s []), (aG 0), (aG 0)] h4) fun v5 h5 =>
 bnd (aI 4 v5 v4 h5) fun _ h6 =>
  wK r n x0 x2 v5 h6
noncomputable def s178 (r : RT) (n : Nat) (x0 : DV) (h0 : Hp) : aH :=
 bnd (bY [(aG 0), (.s []), (aG 0), (aG 0)] h0) fun v1 h1 =>
  sP r n x0 v1 h1
noncomputable abbrev c178 : Code := cf Tryz.f178
noncomputable abbrev aGj : Code := cR c178
noncomputable abbrev aGo : Code := cR aGj
noncomputable abbrev aDb : Code := cR aGo
noncomputable abbrev aEp : Code := cR aDb
noncomputable abbrev cZv : Code := cR aEp
noncomputable abbrev bJd : Code := cL aEp
noncomputable abbrev bMv : Code := cL aDb
noncomputable abbrev bIn : Code := cL aGo
noncomputable abbrev aNp : Code := cL aGj
noncomputable abbrev aGs : Code := cL c178
noncomputable abbrev r178 : K := aV CF Tryz.f178
noncomputable def D178 (r : RT) (n : Nat) (c : Code) (X : Nat → K) (k : K) : K := aP CF r 153 n c X r178 k
theorem cGk : D178 r n cZv x0 r178 = (K3 (iT r n) 2 4 5) :=
 (by kernel_rfl)
theorem bRn : D178 r n aEp x0 r178 = D178 r n bJd x0 (K3 (iT r n) 2 4 5) :=
 congrArg (fun k => D178 r n bJd x0 k) (cGk r n)
theorem cGy : D178 r n aEp x0 r178 = (K5 (aOb r n) 0 2 4 5 6) :=
 (bRn r n).trans
 ((by kernel_rfl))
theorem bUj : D178 r n aDb x0 r178 = D178 r n bMv x0 (K5 (aOb r n) 0 2 4 5 6) :=
 congrArg (fun k => D178 r n bMv x0 k) (cGy r n)
theorem cFt : D178 r n aDb x0 r178 = (K4 (aOh r n) 0 2 4 5) :=
 (bUj r n).trans
 ((by kernel_rfl))
theorem bUx : D178 r n aGo x0 r178 = D178 r n bIn x0 (K4 (aOh r n) 0 2 4 5) :=
 congrArg (fun k => D178 r n bIn x0 k) (cFt r n)
theorem cJy : D178 r n aGo x0 r178 = (K3 (wK r n) 0 2 4) :=
 (bUx r n).trans
 ((by kernel_rfl))
theorem bLx : D178 r n aGj x0 r178 = D178 r n aNp x0 (K3 (wK r n) 0 2 4) :=
 congrArg (fun k => D178 r n aNp x0 k) (cJy r n)
theorem bQg (q0 : jF) : D178 r n aNp x0 (K3 q0 0 2 4) = fun (env : bA) (h : Hp) =>
 bnd (aZ (env 0) h) fun v1 h1 =>
 bnd (aB 1 v1 h1) fun v2 h2 =>
 bnd (aA v2 h2) fun v3 h3 =>
 bnd (bE [(aG 0), (.s []), (aG 0), (aG 0)] [(3, 1, v3)] h3) fun v4 h4 =>
 bnd (bY [(aG 0), (.s []), (aG 0), (aG 0)] h4) fun v5 h5 =>
 bnd (aI 4 v5 v4 h5) fun _ h6 =>
  q0 (env 0) (env 2) v5 h6 := by kernel_rfl
theorem bEr : (fun (env : bA) (h : Hp) =>
 bnd (aZ (env 0) h) fun v1 h1 =>
 bnd (aB 1 v1 h1) fun v2 h2 =>
 bnd (aA v2 h2) fun v3 h3 =>
 bnd (bE [(aG 0), (.s []), (aG 0), (aG 0)] [(3, 1, v3)] h3) fun v4 h4 =>
 bnd (bY [(aG 0), (.s []), (aG 0), (aG 0)] h4) fun v5 h5 =>
 bnd (aI 4 v5 v4 h5) fun _ h6 =>
  wK r n (env 0) (env 2) v5 h6) = (K2 (sP r n) 0 2) := by kernel_rfl
theorem cDv : D178 r n aGj x0 r178 = (K2 (sP r n) 0 2) :=
 (bLx r n).trans
 ((bQg r n (wK r n)).trans (bEr r n))
theorem cYe : D178 r n c178 x0 r178 = D178 r n aGs x0 (K2 (sP r n) 0 2) :=
 congrArg (fun k => D178 r n aGs x0 k) (cDv r n)
theorem cRl (q0 : tS) : D178 r n aGs x0 (K2 q0 0 2) = fun (env : bA) (h : Hp) =>
 bnd (bY [(aG 0), (.s []), (aG 0), (aG 0)] h) fun v1 h1 =>
  q0 (env 0) v1 h1 := by kernel_rfl
theorem cDb : (fun (env : bA) (h : Hp) =>
 bnd (bY [(aG 0), (.s []), (aG 0), (aG 0)] h) fun v1 h1 =>
  sP r n (env 0) v1 h1) = (K1 (s178 r n) 0) := by kernel_rfl
theorem dGw : D178 r n c178 x0 r178 = (K1 (s178 r n) 0) :=
 (cYe r n).trans
 ((cRl r n (sP r n)).trans (cDb r n))
theorem cVr : aF CF r n 178 args h = s178 r n (aW args 0) h :=
 (by kernel_rfl : aF CF r n 178 args h = D178 r n c178 x0 r178 (aJ args) h).trans ((congrFun (congrFun (dGw r n) (aJ args)) h).trans (by kernel_rfl))
noncomputable def s179 (r : RT) (n : Nat) (x0 x1 x2 : DV) (h0 : Hp) : aH :=
 bnd (r 183 [x0, (aG 0)] h0) fun v1 h1 =>
 bnd (bY [(aG 0), (.s []), (aG 0), (aG 0)] h1) fun v2 h2 =>
 bnd (aI 4 v2 v1 h2) fun _ h3 =>
 bnd (aZ x0 h3) fun v4 h4 =>
 bnd (aB 3 v4 h4) fun v5 h5 =>
 bnd (aA v5 h5) fun v6 h6 =>
 bnd (aD .eql v6 (aG 0) h6) fun v7 h7 =>
 bnd (gD v7 true (aB 0 v2 h7) h7) fun v8 h8 =>
 bnd (gD v7 true (aA v8 h8) h8) fun v9 h9 =>
 bnd (gD v7 true (some (x1, h9)) h9) fun v10 h10 =>
 bnd (gD v7 true (aD .eql v9 v10 h10) h10) fun v11 h11 =>
 bnd (aQ v7 v11 (.b false) h11) fun v12 h12 =>
 bnd (gD v12 true (some (x2, h12)) h12) fun v13 h13 =>
 bnd (gD v12 true (gC .eql v13 (.s []) h13) h13) fun v14 h14 =>
 bnd (gD v12 true (some (v14, h14)) h14) fun v15 h15 =>
 bnd (gD v15 false (aB 1 v2 h15) h15) fun v16 h16 =>
 bnd (gD v15 false (aA v16 h16) h16) fun v17 h17 =>
 bnd (gD v15 false (some (x2, h17)) h17) fun v18 h18 =>
 bnd (gD v15 false (gC .eql v17 v18 h18) h18) fun v19 h19 =>
 bnd (gD v12 true (aQ v15 (.b true) v19 h19) h19) fun v20 h20 =>
 bnd (aQ v12 v20 (.b false) h20) fun v21 h21 =>
 some (v21, h21)
noncomputable abbrev c179 : Code := cf Tryz.f179
noncomputable abbrev r179 : K := aV CF Tryz.f179
noncomputable def D179 (r : RT) (n : Nat) (c : Code) (X : Nat → K) (k : K) : K := aP CF r 31 n c X r179 k
theorem dGt : D179 r n c179 x0 r179 = (K3 (s179 r n) 0 1 2) :=
 (by kernel_rfl)
theorem cWa : aF CF r n 179 args h = s179 r n (aW args 0) (aW args 1) (aW args 2) h :=
 (by kernel_rfl : aF CF r n 179 args h = D179 r n c179 x0 r179 (aJ args) h).trans ((congrFun (congrFun (dGt r n) (aJ args)) h).trans (by kernel_rfl))
noncomputable def aDt (r : RT) (n : Nat) (x2 x3 : DV) (h0 : Hp) : aH :=
 bnd (aK 4 x3 h0) fun v1 h1 =>
 bnd (aI 4 x2 v1 h1) fun _ h2 =>
 bnd (aK 4 x2 h2) fun v3 _ =>
 some (v3, h2)
noncomputable def xT (r : RT) (n : Nat) (x0 x2 x3 : DV) (h0 : Hp) : aH :=
 bnd (aB 0 x3 h0) fun v1 h1 =>
 bnd (aA v1 h1) fun v2 h2 =>
 bnd (aD .neq v2 (aG 0) h2) fun v3 h3 =>
 aX v3 (
 bnd (aZ x0 h3) fun v4 h4 =>
 bnd (aB 0 v4 h4) fun v5 h5 =>
 bnd (aA v5 h5) fun v6 h6 =>
 bnd (cX 4 v6 (some (aG 1)) none h6) fun v7 h7 =>
 bnd (aZ x0 h7) fun v8 h8 =>
 bnd (aB 0 v8 h8) fun v9 h9 =>
 bnd (aI 1 v9 v7 h9) fun _ h10 =>
  aDt r n x2 x3 h10) (
  aDt r n x2 x3 h3)
noncomputable def rD (r : RT) (n : Nat) (x0 x2 : DV) (h0 : Hp) : aH :=
 bnd (r 183 [x0, (aG 0)] h0) fun v1 h1 =>
 bnd (bY [(aG 0), (.s []), (aG 0), (aG 0)] h1) fun v2 h2 =>
 bnd (aI 4 v2 v1 h2) fun _ h3 =>
  xT r n x0 x2 v2 h3
noncomputable def s180 (r : RT) (n : Nat) (x0 : DV) (h0 : Hp) : aH :=
 bnd (bY [(aG 0), (.s []), (aG 0), (aG 0)] h0) fun v1 h1 =>
  rD r n x0 v1 h1
noncomputable abbrev c180 : Code := cf Tryz.f180
noncomputable abbrev aDs : Code := cR c180
noncomputable abbrev aFs : Code := cR aDs
noncomputable abbrev cWg : Code := cR aFs
noncomputable abbrev bGt : Code := cL aFs
noncomputable abbrev aQd : Code := cL aDs
noncomputable abbrev aRd : Code := cL c180
noncomputable abbrev r180 : K := aV CF Tryz.f180
noncomputable def D180 (r : RT) (n : Nat) (c : Code) (X : Nat → K) (k : K) : K := aP CF r 18 n c X r180 k
theorem cGb : D180 r n cWg x0 r180 = (K2 (aDt r n) 2 3) :=
 (by kernel_rfl)
theorem bNv : D180 r n aFs x0 r180 = D180 r n bGt x0 (K2 (aDt r n) 2 3) :=
 congrArg (fun k => D180 r n bGt x0 k) (cGb r n)
theorem cDo : D180 r n aFs x0 r180 = (K3 (xT r n) 0 2 3) :=
 (bNv r n).trans
 ((by kernel_rfl))
theorem bJv : D180 r n aDs x0 r180 = D180 r n aQd x0 (K3 (xT r n) 0 2 3) :=
 congrArg (fun k => D180 r n aQd x0 k) (cDo r n)
theorem bVa (q0 : jF) : D180 r n aQd x0 (K3 q0 0 2 3) = fun (env : bA) (h : Hp) =>
 bnd (r 183 [(env 0), (aG 0)] h) fun v1 h1 =>
 bnd (bY [(aG 0), (.s []), (aG 0), (aG 0)] h1) fun v2 h2 =>
 bnd (aI 4 v2 v1 h2) fun _ h3 =>
  q0 (env 0) (env 2) v2 h3 := by kernel_rfl
theorem bDt : (fun (env : bA) (h : Hp) =>
 bnd (r 183 [(env 0), (aG 0)] h) fun v1 h1 =>
 bnd (bY [(aG 0), (.s []), (aG 0), (aG 0)] h1) fun v2 h2 =>
 bnd (aI 4 v2 v1 h2) fun _ h3 =>
  xT r n (env 0) (env 2) v2 h3) = (K2 (rD r n) 0 2) := by kernel_rfl
theorem cFf : D180 r n aDs x0 r180 = (K2 (rD r n) 0 2) :=
 (bJv r n).trans
 ((bVa r n (xT r n)).trans (bDt r n))
theorem cZq : D180 r n c180 x0 r180 = D180 r n aRd x0 (K2 (rD r n) 0 2) :=
 congrArg (fun k => D180 r n aRd x0 k) (cFf r n)
theorem cWz (q0 : tS) : D180 r n aRd x0 (K2 q0 0 2) = fun (env : bA) (h : Hp) =>
 bnd (bY [(aG 0), (.s []), (aG 0), (aG 0)] h) fun v1 h1 =>
  q0 (env 0) v1 h1 := by kernel_rfl
theorem bYk : (fun (env : bA) (h : Hp) =>
 bnd (bY [(aG 0), (.s []), (aG 0), (aG 0)] h) fun v1 h1 =>
  rD r n (env 0) v1 h1) = (K1 (s180 r n) 0) := by kernel_rfl
theorem dEu : D180 r n c180 x0 r180 = (K1 (s180 r n) 0) :=
 (cZq r n).trans
 ((cWz r n (rD r n)).trans (bYk r n))
theorem cSn : aF CF r n 180 args h = s180 r n (aW args 0) h :=
 (by kernel_rfl : aF CF r n 180 args h = D180 r n c180 x0 r180 (aJ args) h).trans ((congrFun (congrFun (dEu r n) (aJ args)) h).trans (by kernel_rfl))
noncomputable def s181 (r : RT) (n : Nat) (x0 : DV) (h0 : Hp) : aH :=
 bnd (bY tR h0) fun v1 h1 =>
 bnd (r 179 [x0, (aG 1), (.s [])] h1) fun v2 h2 =>
 bnd (gD v2 true (some (x0, h2)) h2) fun v3 h3 =>
 bnd (gD v2 true (r 183 [v3, (aG 1)] h3) h3) fun v4 h4 =>
 bnd (gD v2 true (jX 0 v4 h4) h4) fun v5 h5 =>
 bnd (gD v2 true (aD .eql v5 (aG 9) h5) h5) fun v6 h6 =>
 bnd (aQ v2 v6 (.b false) h6) fun v7 h7 =>
 aX v7 (
 bnd (r 180 [x0] h7) fun v8 h8 =>
 bnd (jX 1 v8 h8) fun v9 h9 =>
 bnd (bE tR [(0, 1, (aG 6)), (1, 1, v9)] h9) fun v10 h10 =>
 bnd (bY tR h10) fun v11 h11 =>
 bnd (aI 6 v11 v10 h11) fun _ h12 =>
 bnd (r 180 [x0] h12) fun v13 h13 =>
 bnd (r 181 [x0] h13) fun v14 h14 =>
 bnd (aN tR 1 [(0, 6, v14)] h14) fun v15 h15 =>
 bnd (aB 5 v11 h15) fun v16 h16 =>
 bnd (aI 1 v16 v15 h16) fun _ h17 =>
 bnd (aK 6 v11 h17) fun v18 h18 =>
 bnd (aI 6 v1 v18 h18) fun _ h19 =>
 bnd (aK 6 v1 h19) fun v20 _ =>
 some (v20, h19)) (
 bnd (r 210 [x0] h7) fun v21 h21 =>
 bnd (aI 6 v1 v21 h21) fun _ h22 =>
 bnd (aK 6 v1 h22) fun v23 _ =>
 some (v23, h22))
noncomputable abbrev c181 : Code := cf Tryz.f181
noncomputable abbrev r181 : K := aV CF Tryz.f181
noncomputable def D181 (r : RT) (n : Nat) (c : Code) (X : Nat → K) (k : K) : K := aP CF r 25 n c X r181 k
theorem dHb : D181 r n c181 x0 r181 = (K1 (s181 r n) 0) :=
 (by kernel_rfl)
theorem cWy : aF CF r n 181 args h = s181 r n (aW args 0) h :=
 (by kernel_rfl : aF CF r n 181 args h = D181 r n c181 x0 r181 (aJ args) h).trans ((congrFun (congrFun (dHb r n) (aJ args)) h).trans (by kernel_rfl))
noncomputable def s183 (r : RT) (n : Nat) (x0 x1 : DV) (h0 : Hp) : aH :=
 bnd (bY [(aG 0), (.s []), (aG 0), (aG 0)] h0) fun v1 h1 =>
 bnd (aZ x0 h1) fun v2 h2 =>
 bnd (aB 0 v2 h2) fun v3 h3 =>
 bnd (aA v3 h3) fun v4 h4 =>
 bnd (aZ x0 h4) fun v5 h5 =>
 bnd (aB 0 v5 h5) fun v6 h6 =>
 bnd (aA v6 h6) fun v7 h7 =>
 bnd (cB v7 h7) fun v8 h8 =>
 bnd (aD .sub v8 (aG 1) h8) fun v9 h9 =>
 bnd (aOn x1 v9 h9) fun v10 h10 =>
 bnd (aE 4 v4 v10 h10) fun v11 h11 =>
 bnd (aK 4 v11 h11) fun v12 h12 =>
 bnd (aI 4 v1 v12 h12) fun v13 h13 =>
 bnd (aK 4 v1 h13) fun v14 _ =>
 some (v14, h13)
noncomputable abbrev c183 : Code := cf Tryz.f183
noncomputable abbrev r183 : K := aV CF Tryz.f183
noncomputable def D183 (r : RT) (n : Nat) (c : Code) (X : Nat → K) (k : K) : K := aP CF r 19 n c X r183 k
theorem dDg : D183 r n c183 x0 r183 = (K2 (s183 r n) 0 1) :=
 (by kernel_rfl)
theorem cRh : aF CF r n 183 args h = s183 r n (aW args 0) (aW args 1) h :=
 (by kernel_rfl : aF CF r n 183 args h = D183 r n c183 x0 r183 (aJ args) h).trans ((congrFun (congrFun (dDg r n) (aJ args)) h).trans (by kernel_rfl))
end Go.Dd

namespace Go.Dd
open Go.Proofs
variable (r : RT) (n : Nat) (args : List DV) (h : Hp)
noncomputable def sB (r : RT) (n : Nat) (x0 x3 x11 x14 : DV) (h0 : Hp) : aH :=
 aX x14 (
 bnd (aK 6 x3 h0) fun v1 h1 =>
 bnd (r 215 [x0, v1] h1) fun v2 h2 =>
 bnd (mQ [x0, v2] h2) fun v3 h3 =>
 bnd (r 187 [x0, (aG 6), v3, (aG 0)] h3) fun v4 h4 =>
 some (.t [], h4)) (
 bnd (aD .eql x11 (aG 5) h0) fun v5 h5 =>
 aX v5 (
 bnd (aB 1 x3 h5) fun v6 h6 =>
 bnd (aA v6 h6) fun v7 h7 =>
 bnd (r 216 [x0, v7] h7) fun v8 h8 =>
 some (.t [], h8)) (
 bnd (aD .eql x11 (aG 6) h5) fun v9 h9 =>
 aX v9 (
 bnd (aK 6 x3 h9) fun v10 h10 =>
 bnd (r 217 [x0, v10] h10) fun v11 h11 =>
 some (.t [], h11)) (
 bnd (aD .eql x11 (aG 7) h9) fun v12 h12 =>
 aX v12 (
 bnd (aK 6 x3 h12) fun v13 h13 =>
 bnd (r 218 [x0, v13] h13) fun v14 h14 =>
 some (.t [], h14)) (
 bnd (aD .eql x11 (aG 8) h12) fun v15 h15 =>
 aX v15 (
 bnd (aK 6 x3 h15) fun v16 h16 =>
 bnd (r 219 [x0, v16] h16) fun v17 h17 =>
 some (.t [], h17)) (
 bnd (aD .eql x11 (aG 9) h15) fun v18 h18 =>
 aX v18 (
 bnd (aZ x0 h18) fun v19 h19 =>
 bnd (aB 0 v19 h19) fun v20 h20 =>
 bnd (aB 2 v20 h20) fun v21 h21 =>
 bnd (aA v21 h21) fun v22 h22 =>
 bnd (aB 3 x3 h22) fun v23 h23 =>
 bnd (aA v23 h23) fun v24 h24 =>
 bnd (cB v24 h24) fun v25 h25 =>
 bnd (r 187 [x0, (aG 18), v22, v25] h25) fun v26 h26 =>
 bnd (r 220 [x0, (aG 16)] h26) fun v27 h27 =>
 bnd (aK 6 x3 h27) fun v28 h28 =>
 bnd (r 221 [x0, v28] h28) fun v29 h29 =>
 bnd (r 187 [x0, (aG 19), (aG 0), (aG 0)] h29) fun v30 h30 =>
 bnd (gJ CF r v27 [] h30) fun v31 h31 =>
 some (.t [], h31)) (
 bnd (aD .eql x11 (aG 10) h18) fun v32 h32 =>
 aX v32 (
 bnd (aK 6 x3 h32) fun v33 h33 =>
 bnd (r 222 [x0, v33] h33) fun v34 h34 =>
 aX v34 (
 bnd (aB 5 x3 h34) fun v35 h35 =>
 bnd (aA v35 h35) fun v36 h36 =>
 bnd (aE 6 v36 (aG 0) h36) fun v37 h37 =>
 bnd (aK 6 v37 h37) fun v38 h38 =>
 bnd (r 186 [x0, v38] h38) fun v39 h39 =>
 bnd (r 187 [x0, (aG 20), (aG 0), (aG 0)] h39) fun v40 h40 =>
 some (.t [], h40)) (
 some (.t [], h34))) (
 bnd (r 213 [x0, (.s []), (aG 1)] h32) fun v41 h41 =>
 some (.t [], h41))))))))
noncomputable def aQg (r : RT) (n : Nat) (x0 x3 x11 : DV) (h0 : Hp) : aH :=
 bnd (aD .eql x11 (aG 1) h0) fun v1 h1 =>
 aX v1 (
  sB r n x0 x3 x11 v1 h1) (
 bnd (aD .eql x11 (aG 2) h1) fun v2 h2 =>
 aX v2 (
   sB r n x0 x3 x11 v2 h2) (
 bnd (aD .eql x11 (aG 3) h2) fun v3 h3 =>
 aX v3 (
    sB r n x0 x3 x11 v3 h3) (
 bnd (aD .eql x11 (aG 4) h3) fun v4 h4 =>
    sB r n x0 x3 x11 v4 h4)))
noncomputable def aNn (r : RT) (n : Nat) (x0 x3 : DV) (h0 : Hp) : aH :=
 bnd (aB 0 x3 h0) fun v1 h1 =>
 bnd (aA v1 h1) fun v2 h2 =>
  aQg r n x0 x3 v2 h2
noncomputable def yD (r : RT) (n : Nat) (x0 x3 : DV) (h0 : Hp) : aH :=
 bnd (aZ x0 h0) fun v1 h1 =>
 bnd (aB 8 v1 h1) fun v2 h2 =>
 bnd (aA v2 h2) fun v3 h3 =>
 bnd (aD .neq v3 (aG 0) h3) fun v4 h4 =>
 aX v4 (
 some (.t [], h4)) (
  aNn r n x0 x3 h4)
noncomputable def s186 (r : RT) (n : Nat) (x0 x1 : DV) (h0 : Hp) : aH :=
 bnd (bU x1 h0) fun v1 h1 =>
  yD r n x0 v1 h1
noncomputable abbrev c186 : Code := cf Tryz.f186
noncomputable abbrev aFu : Code := cR c186
noncomputable abbrev aIe : Code := cR aFu
noncomputable abbrev aSi : Code := cR aIe
noncomputable abbrev aIs : Code := cL aSi
noncomputable abbrev dAc : Code := cR aIs
noncomputable abbrev bRi : Code := cL aIs
noncomputable abbrev bKy : Code := cL aIe
noncomputable abbrev bUw : Code := cL aFu
noncomputable abbrev aOc : Code := cL c186
noncomputable abbrev r186 : K := aV CF Tryz.f186
noncomputable def D186 (r : RT) (n : Nat) (c : Code) (X : Nat → K) (k : K) : K := aP CF r 81 n c X r186 k
theorem cEv : D186 r n dAc (xs x0 0 r186) r186 = (K4 (sB r n) 0 3 11 14) :=
 (by kernel_rfl)
theorem bWn : D186 r n aIs (xs x0 0 r186) r186 = D186 r n bRi (xs x0 0 r186) (K4 (sB r n) 0 3 11 14) :=
 congrArg (fun k => D186 r n bRi (xs x0 0 r186) k) (cEv r n)
theorem cGe : D186 r n aSi x0 r186 = (K3 (aQg r n) 0 3 11) :=
 (by kernel_rfl : D186 r n aSi x0 r186 = D186 r n aIs (xs x0 0 r186) r186).trans
 ((bWn r n).trans
 ((by kernel_rfl)))
theorem bTr : D186 r n aIe x0 r186 = D186 r n bKy x0 (K3 (aQg r n) 0 3 11) :=
 congrArg (fun k => D186 r n bKy x0 k) (cGe r n)
theorem cBb : D186 r n aIe x0 r186 = (K2 (aNn r n) 0 3) :=
 (bTr r n).trans
 ((by kernel_rfl))
theorem bOq : D186 r n aFu x0 r186 = D186 r n bUw x0 (K2 (aNn r n) 0 3) :=
 congrArg (fun k => D186 r n bUw x0 k) (cBb r n)
theorem bZc : D186 r n aFu x0 r186 = (K2 (yD r n) 0 3) :=
 (bOq r n).trans
 ((by kernel_rfl))
theorem cZw : D186 r n c186 x0 r186 = D186 r n aOc x0 (K2 (yD r n) 0 3) :=
 congrArg (fun k => D186 r n aOc x0 k) (bZc r n)
theorem cVf (q0 : tS) : D186 r n aOc x0 (K2 q0 0 3) = fun (env : bA) (h : Hp) =>
 bnd (bU (env 1) h) fun v1 h1 =>
  q0 (env 0) v1 h1 := by kernel_rfl
theorem cFc : (fun (env : bA) (h : Hp) =>
 bnd (bU (env 1) h) fun v1 h1 =>
  yD r n (env 0) v1 h1) = (K2 (s186 r n) 0 1) := by kernel_rfl
theorem dBr : D186 r n c186 x0 r186 = (K2 (s186 r n) 0 1) :=
 (cZw r n).trans
 ((cVf r n (yD r n)).trans (cFc r n))
theorem cSu : aF CF r n 186 args h = s186 r n (aW args 0) (aW args 1) h :=
 (by kernel_rfl : aF CF r n 186 args h = D186 r n c186 x0 r186 (aJ args) h).trans ((congrFun (congrFun (dBr r n) (aJ args)) h).trans (by kernel_rfl))
noncomputable def s187 (r : RT) (n : Nat) (x0 x1 x2 x3 : DV) (h0 : Hp) : aH :=
 bnd (aZ x0 h0) fun v1 h1 =>
 bnd (aB 0 v1 h1) fun v2 h2 =>
 bnd (aB 5 v2 h2) fun v3 h3 =>
 bnd (aA v3 h3) fun v4 h4 =>
 bnd (bE [(aG 0), (aG 0), (aG 0)] [(0, 1, x1), (1, 1, x2), (2, 1, x3)] h4) fun v5 h5 =>
 bnd (aN [(aG 0), (aG 0), (aG 0)] 1 [(0, 3, v5)] h5) fun v6 h6 =>
 bnd (aY 3 24 v4 v6 h6) fun v7 h7 =>
 bnd (aZ x0 h7) fun v8 h8 =>
 bnd (aB 0 v8 h8) fun v9 h9 =>
 bnd (aB 5 v9 h9) fun v10 h10 =>
 bnd (aI 1 v10 v7 h10) fun _ h11 =>
 some (.t [], h11)
noncomputable abbrev c187 : Code := cf Tryz.f187
noncomputable abbrev r187 : K := aV CF Tryz.f187
noncomputable def D187 (r : RT) (n : Nat) (c : Code) (X : Nat → K) (k : K) : K := aP CF r 23 n c X r187 k
theorem dEt : D187 r n c187 x0 r187 = (K4 (s187 r n) 0 1 2 3) :=
 (by kernel_rfl)
theorem cWm : aF CF r n 187 args h = s187 r n (aW args 0) (aW args 1) (aW args 2) (aW args 3) h :=
 (by kernel_rfl : aF CF r n 187 args h = D187 r n c187 x0 r187 (aJ args) h).trans ((congrFun (congrFun (dEt r n) (aJ args)) h).trans (by kernel_rfl))
noncomputable def s188 (r : RT) (n : Nat) (x0 : DV) (h0 : Hp) : aH :=
 bnd (aD .eql x0 (aG 16) h0) fun v1 h1 =>
 bnd (gD v1 false (some (x0, h1)) h1) fun v2 h2 =>
 bnd (gD v1 false (aD .eql v2 (aG 17) h2) h2) fun v3 h3 =>
 bnd (aQ v1 (.b true) v3 h3) fun v4 h4 =>
 some (v4, h4)
noncomputable abbrev c188 : Code := cf Tryz.f188
noncomputable abbrev r188 : K := aV CF Tryz.f188
noncomputable def D188 (r : RT) (n : Nat) (c : Code) (X : Nat → K) (k : K) : K := aP CF r 9 n c X r188 k
theorem dFq : D188 r n c188 x0 r188 = (K1 (s188 r n) 0) :=
 (by kernel_rfl)
theorem cRb : aF CF r n 188 args h = s188 r n (aW args 0) h :=
 (by kernel_rfl : aF CF r n 188 args h = D188 r n c188 x0 r188 (aJ args) h).trans ((congrFun (congrFun (dFq r n) (aJ args)) h).trans (by kernel_rfl))
end Go.Dd

namespace Go.Dd
open Go.Proofs
variable (r : RT) (n : Nat) (args : List DV) (h : Hp)
end Go.Dd

