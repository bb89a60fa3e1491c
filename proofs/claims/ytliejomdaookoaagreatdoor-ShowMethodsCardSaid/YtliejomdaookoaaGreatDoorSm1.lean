/- A part of the proof: Q0 Q1 Q2 Q3 Q4: each text has a comment of its own. -/
import Derived.Test.YtliejomdaookoaaGreatDoorSm0
set_option linter.unusedVariables false
set_option linter.unusedSimpArgs false
set_option linter.constructorNameAsVariable false
set_option maxRecDepth 100000
namespace Go.Dd
open Go.Proofs
noncomputable section
variable (r : RT) (n : Nat) (args : List DV) (h : Hp)
def s3 (r : RT) (n : Nat) (x0 : DV) (h0 : Hp) : aF :=
 bnd (eR x0 h0) fun v1 h1 =>
 bnd (aD 6 v1 h1) fun v2 h2 =>
 bnd (r 9 [v2] h2) fun v3 h3 =>
 bnd (lS .not v3 h3) fun v4 h4 =>
 aV v4 (
 bnd (r 10 [] h4) fun v5 h5 =>
 some (v5, h5)) (
 bnd (aD 6 v1 h4) fun v6 h6 =>
 bnd (r 11 [v6] h6) fun v7 h7 =>
 bnd (aP 0 v7 h7) fun v8 h8 =>
 bnd (aP 1 v7 h8) fun v9 h9 =>
 bnd (aD 6 v1 h9) fun v10 h10 =>
 bnd (r 12 [v10, (.b true)] h10) fun v11 h11 =>
 bnd (aP 0 v11 h11) fun v12 h12 =>
 bnd (aP 1 v11 h12) fun v13 h13 =>
 bnd (cB .eql v8 v12 h13) fun v14 h14 =>
 bnd (gD v14 true (some (v9, h14)) h14) fun v15 h15 =>
 bnd (gD v14 true (some (v13, h15)) h15) fun v16 h16 =>
 bnd (gD v14 true (aH .eql v15 v16 h16) h16) fun v17 h17 =>
 bnd (bA v14 v17 (.b false) h17) fun v18 h18 =>
 bnd (gD v18 true (r 10 [] h18) h18) fun v19 h19 =>
 bnd (bA v18 v19 (.b false) h19) fun v20 h20 =>
 some (v20, h20))
abbrev c3 : Code := cf Tryz.f3
abbrev r3 : K := bF CF Tryz.f3
def D3 (r : RT) (n : Nat) (c : Code) (X : Nat → K) (k : K) : K := aR CF r 34 n c X r3 k
theorem s3m : D3 r n c3 x0 r3 = (K1 (s3 r n) 0) :=
 (by kernel_rfl)
theorem dPb : aL CF r n 3 args h = s3 r n (aS args 0) h :=
 dI (s3m r n) args h (by kernel_rfl) (by kernel_rfl)
def mY (r : RT) (n : Nat) (h0 : Hp) : aF :=
 some ((.b true), h0)
def aEs (r : RT) (n : Nat) (kk8 : dS) (x1 x5 : DV) (h0 : Hp) : aF :=
 bnd (aA 5 x1 h0) fun v1 h1 =>
 bnd (aB v1 h1) fun v2 h2 =>
 bnd (dG v2 h2) fun v3 h3 =>
 bnd (aH .lss x5 v3 h3) fun v4 h4 =>
 aV v4 (
 bnd (aA 5 x1 h4) fun v5 h5 =>
 bnd (aB v5 h5) fun v6 h6 =>
 bnd (aO 6 v6 x5 h6) fun v7 h7 =>
 bnd (aD 6 v7 h7) fun v8 h8 =>
 bnd (r 9 [v8] h8) fun v9 h9 =>
 bnd (lS .not v9 h9) fun v10 h10 =>
 aV v10 (
 some ((.b false), h10)) (
 bnd (aH .add x5 (aG 1) h10) fun v11 h11 =>
  kk8 x1 v11 h11)) (
      mY r n h4)
def tL (r : RT) (n : Nat) (m : Nat) : dS :=
 Nat.rec (motive := fun _ => dS) (fun _ _ _ => none) (fun _ ih => aEs r n ih) m
def dLn (r : RT) (n : Nat) : dS := tL r n n
def cVg (r : RT) (n : Nat) (x1 x5 : DV) (h0 : Hp) : aF :=
 dLn r n x1 x5 h0
def mI (r : RT) (n : Nat) (x1 : DV) (h0 : Hp) : aF :=
 cVg r n x1 (aG 0) h0
def uQ (r : RT) (n : Nat) (kk10 : dS) (x1 x4 : DV) (h0 : Hp) : aF :=
 bnd (aA 4 x1 h0) fun v1 h1 =>
 bnd (aB v1 h1) fun v2 h2 =>
 bnd (dG v2 h2) fun v3 h3 =>
 bnd (aH .lss x4 v3 h3) fun v4 h4 =>
 aV v4 (
 bnd (aA 4 x1 h4) fun v5 h5 =>
 bnd (aB v5 h5) fun v6 h6 =>
 bnd (aO 1 v6 x4 h6) fun v7 h7 =>
 bnd (aB v7 h7) fun v8 h8 =>
 bnd (dE v8 h8) fun v9 h9 =>
 bnd (aH .gtr v9 (aG 40) h9) fun v10 h10 =>
 aV v10 (
 some ((.b false), h10)) (
 bnd (aH .add x4 (aG 1) h10) fun v11 h11 =>
  kk10 x1 v11 h11)) (
      mI r n x1 h4)
def oC (r : RT) (n : Nat) (m : Nat) : dS :=
 Nat.rec (motive := fun _ => dS) (fun _ _ _ => none) (fun _ ih => uQ r n ih) m
def bPg (r : RT) (n : Nat) : dS := oC r n n
def cGr (r : RT) (n : Nat) (x1 x4 : DV) (h0 : Hp) : aF :=
 bPg r n x1 x4 h0
def mD (r : RT) (n : Nat) (x1 : DV) (h0 : Hp) : aF :=
 cGr r n x1 (aG 0) h0
def vG (r : RT) (n : Nat) (kk12 : dS) (x1 x3 : DV) (h0 : Hp) : aF :=
 bnd (aA 3 x1 h0) fun v1 h1 =>
 bnd (aB v1 h1) fun v2 h2 =>
 bnd (dG v2 h2) fun v3 h3 =>
 bnd (aH .lss x3 v3 h3) fun v4 h4 =>
 aV v4 (
 bnd (aA 3 x1 h4) fun v5 h5 =>
 bnd (aB v5 h5) fun v6 h6 =>
 bnd (aO 1 v6 x3 h6) fun v7 h7 =>
 bnd (aB v7 h7) fun v8 h8 =>
 bnd (dE v8 h8) fun v9 h9 =>
 bnd (aH .gtr v9 (aG 40) h9) fun v10 h10 =>
 aV v10 (
 some ((.b false), h10)) (
 bnd (aH .add x3 (aG 1) h10) fun v11 h11 =>
  kk12 x1 v11 h11)) (
      mD r n x1 h4)
def oO (r : RT) (n : Nat) (m : Nat) : dS :=
 Nat.rec (motive := fun _ => dS) (fun _ _ _ => none) (fun _ ih => vG r n ih) m
def cEk (r : RT) (n : Nat) : dS := oO r n n
def bGo (r : RT) (n : Nat) (x1 x3 : DV) (h0 : Hp) : aF :=
 cEk r n x1 x3 h0
def bMl (r : RT) (n : Nat) (x1 : DV) (h0 : Hp) : aF :=
 bGo r n x1 (aG 0) h0
def cHz (r : RT) (n : Nat) (x1 : DV) (h0 : Hp) : aF :=
 bnd (aA 1 x1 h0) fun v1 h1 =>
 bnd (aB v1 h1) fun v2 h2 =>
 bnd (dE v2 h2) fun v3 h3 =>
 bnd (aH .gtr v3 (aG 40) h3) fun v4 h4 =>
 bnd (gD v4 false (aA 3 x1 h4) h4) fun v5 h5 =>
 bnd (gD v4 false (aB v5 h5) h5) fun v6 h6 =>
 bnd (gD v4 false (dG v6 h6) h6) fun v7 h7 =>
 bnd (gD v4 false (aH .gtr v7 (aG 10) h7) h7) fun v8 h8 =>
 bnd (bA v4 (.b true) v8 h8) fun v9 h9 =>
 bnd (gD v9 false (aA 4 x1 h9) h9) fun v10 h10 =>
 bnd (gD v9 false (aB v10 h10) h10) fun v11 h11 =>
 bnd (gD v9 false (dG v11 h11) h11) fun v12 h12 =>
 bnd (gD v9 false (aH .gtr v12 (aG 10) h12) h12) fun v13 h13 =>
 bnd (bA v9 (.b true) v13 h13) fun v14 h14 =>
 aV v14 (
 some ((.b false), h14)) (
  bMl r n x1 h14)
def cVd (r : RT) (n : Nat) (x1 : DV) (h0 : Hp) : aF :=
 bnd (aD 6 x1 h0) fun v1 h1 =>
 bnd (r 18 [v1, (aG 100)] h1) fun v2 h2 =>
 bnd (aH .lss v2 (aG 0) h2) fun v3 h3 =>
 aV v3 (
 some ((.b false), h3)) (
  cHz r n x1 h3)
def s9 (r : RT) (n : Nat) (x0 : DV) (h0 : Hp) : aF :=
 bnd (eR x0 h0) fun v1 h1 =>
  cVd r n v1 h1
abbrev c9 : Code := cf Tryz.f9
abbrev cVj := cR c9
abbrev cMu := cR cVj
abbrev cQp := cR cMu
abbrev cHe := cR cQp
abbrev cOt := cR cHe
abbrev dYc := cR cOt
abbrev bLu := cL cOt
abbrev dFp := cR bLu
abbrev cKt := cL dFp
abbrev zG := cL cKt
abbrev cYl := cL bLu
abbrev aPd := cL cHe
abbrev cEc := cR aPd
abbrev bIs := cL cEc
abbrev aBk := cL bIs
abbrev cWy := cL aPd
abbrev aQd := cL cQp
abbrev bXi := cR aQd
abbrev bAy := cL bXi
abbrev aAq := cL bAy
abbrev cXj := cL aQd
abbrev cZn := cL cMu
abbrev cXi := cL cVj
abbrev cYi := cL c9
abbrev r9 : K := bF CF Tryz.f9
def D9 (r : RT) (n : Nat) (c : Code) (X : Nat → K) (k : K) : K := aR CF r 69 n c X r9 k
theorem dTn : D9 r n dYc x0 r9 = (K0 (mY r n)) := by kernel_rfl
theorem dGb (kk8 : dS) : D9 r n zG (xs x0 4 (K0 (mY r n))) (K2 kk8 1 5) = (K2 (aEs r n kk8) 1 5) := by kernel_rfl
theorem dAe (m : Nat) : aE (fun kk => D9 r n zG (xs x0 4 (K0 (mY r n))) kk) m = (K2 (tL r n m) 1 5) := by
 induction m with
 | zero => exact (by kernel_rfl : aE (fun kk => D9 r n zG (xs x0 4 (K0 (mY r n))) kk) 0 = (K2 (tL r n 0) 1 5))
 | succ m ih =>
  refine (by kernel_rfl : aE (fun kk => D9 r n zG (xs x0 4 (K0 (mY r n))) kk) (m + 1) = D9 r n zG (xs x0 4 (K0 (mY r n))) (aE (fun kk => D9 r n zG (xs x0 4 (K0 (mY r n))) kk) m)).trans ?_
  rw [ih]
  exact (dGb r n (tL r n m)).trans (by kernel_rfl)
theorem dQt : D9 r n cKt (xs x0 4 (K0 (mY r n))) (K0 (mY r n)) = (K2 (dLn r n) 1 5) :=
 (by kernel_rfl : D9 r n cKt (xs x0 4 (K0 (mY r n))) (K0 (mY r n)) = aE (fun kk => D9 r n zG (xs x0 4 (K0 (mY r n))) kk) n).trans ((dAe r n n).trans (by kernel_rfl))
theorem dSt : D9 r n dFp x0 (K0 (mY r n)) = (K2 (cVg r n) 1 5) :=
 (by kernel_rfl : D9 r n dFp x0 (K0 (mY r n)) = D9 r n cKt (xs x0 4 (K0 (mY r n))) (K0 (mY r n))).trans
 ((dQt r n).trans (by kernel_rfl))
theorem dMn : D9 r n cOt x0 r9 = D9 r n bLu x0 (K0 (mY r n)) :=
 congrArg (fun k => D9 r n bLu x0 k) (dTn r n)
theorem dAs : D9 r n bLu x0 (K0 (mY r n)) = D9 r n cYl x0 (K2 (cVg r n) 1 5) :=
 congrArg (fun k => D9 r n cYl x0 k) (dSt r n)
theorem dRm : D9 r n cOt x0 r9 = (K1 (mI r n) 1) :=
 (dMn r n).trans
 ((dAs r n).trans
 ((by kernel_rfl)))
theorem cPs (kk10 : dS) : D9 r n aBk (xs x0 2 (K1 (mI r n) 1)) (K2 kk10 1 4) = (K2 (uQ r n kk10) 1 4) := by kernel_rfl
theorem cLf (m : Nat) : aE (fun kk => D9 r n aBk (xs x0 2 (K1 (mI r n) 1)) kk) m = (K2 (oC r n m) 1 4) := by
 induction m with
 | zero => exact (by kernel_rfl : aE (fun kk => D9 r n aBk (xs x0 2 (K1 (mI r n) 1)) kk) 0 = (K2 (oC r n 0) 1 4))
 | succ m ih =>
  refine (by kernel_rfl : aE (fun kk => D9 r n aBk (xs x0 2 (K1 (mI r n) 1)) kk) (m + 1) = D9 r n aBk (xs x0 2 (K1 (mI r n) 1)) (aE (fun kk => D9 r n aBk (xs x0 2 (K1 (mI r n) 1)) kk) m)).trans ?_
  rw [ih]
  exact (cPs r n (oC r n m)).trans (by kernel_rfl)
theorem dCl : D9 r n bIs (xs x0 2 (K1 (mI r n) 1)) (K1 (mI r n) 1) = (K2 (bPg r n) 1 4) :=
 (by kernel_rfl : D9 r n bIs (xs x0 2 (K1 (mI r n) 1)) (K1 (mI r n) 1) = aE (fun kk => D9 r n aBk (xs x0 2 (K1 (mI r n) 1)) kk) n).trans ((cLf r n n).trans (by kernel_rfl))
theorem dVk : D9 r n cEc x0 (K1 (mI r n) 1) = (K2 (cGr r n) 1 4) :=
 (by kernel_rfl : D9 r n cEc x0 (K1 (mI r n) 1) = D9 r n bIs (xs x0 2 (K1 (mI r n) 1)) (K1 (mI r n) 1)).trans
 ((dCl r n).trans (by kernel_rfl))
theorem dHg : D9 r n cHe x0 r9 = D9 r n aPd x0 (K1 (mI r n) 1) :=
 congrArg (fun k => D9 r n aPd x0 k) (dRm r n)
theorem dMl : D9 r n aPd x0 (K1 (mI r n) 1) = D9 r n cWy x0 (K2 (cGr r n) 1 4) :=
 congrArg (fun k => D9 r n cWy x0 k) (dVk r n)
theorem dSo : D9 r n cHe x0 r9 = (K1 (mD r n) 1) :=
 (dHg r n).trans
 ((dMl r n).trans
 ((by kernel_rfl)))
theorem cLq (kk12 : dS) : D9 r n aAq (xs x0 0 (K1 (mD r n) 1)) (K2 kk12 1 3) = (K2 (vG r n kk12) 1 3) := by kernel_rfl
theorem cGz (m : Nat) : aE (fun kk => D9 r n aAq (xs x0 0 (K1 (mD r n) 1)) kk) m = (K2 (oO r n m) 1 3) := by
 induction m with
 | zero => exact (by kernel_rfl : aE (fun kk => D9 r n aAq (xs x0 0 (K1 (mD r n) 1)) kk) 0 = (K2 (oO r n 0) 1 3))
 | succ m ih =>
  refine (by kernel_rfl : aE (fun kk => D9 r n aAq (xs x0 0 (K1 (mD r n) 1)) kk) (m + 1) = D9 r n aAq (xs x0 0 (K1 (mD r n) 1)) (aE (fun kk => D9 r n aAq (xs x0 0 (K1 (mD r n) 1)) kk) m)).trans ?_
  rw [ih]
  exact (cLq r n (oO r n m)).trans (by kernel_rfl)
theorem dLb : D9 r n bAy (xs x0 0 (K1 (mD r n) 1)) (K1 (mD r n) 1) = (K2 (cEk r n) 1 3) :=
 (by kernel_rfl : D9 r n bAy (xs x0 0 (K1 (mD r n) 1)) (K1 (mD r n) 1) = aE (fun kk => D9 r n aAq (xs x0 0 (K1 (mD r n) 1)) kk) n).trans ((cGz r n n).trans (by kernel_rfl))
theorem dLu : D9 r n bXi x0 (K1 (mD r n) 1) = (K2 (bGo r n) 1 3) :=
 (by kernel_rfl : D9 r n bXi x0 (K1 (mD r n) 1) = D9 r n bAy (xs x0 0 (K1 (mD r n) 1)) (K1 (mD r n) 1)).trans
 ((dLb r n).trans (by kernel_rfl))
theorem dIy : D9 r n cQp x0 r9 = D9 r n aQd x0 (K1 (mD r n) 1) :=
 congrArg (fun k => D9 r n aQd x0 k) (dSo r n)
theorem dBe : D9 r n aQd x0 (K1 (mD r n) 1) = D9 r n cXj x0 (K2 (bGo r n) 1 3) :=
 congrArg (fun k => D9 r n cXj x0 k) (dLu r n)
theorem dUg : D9 r n cQp x0 r9 = (K1 (bMl r n) 1) :=
 (dIy r n).trans
 ((dBe r n).trans
 ((by kernel_rfl)))
theorem dOk : D9 r n cMu x0 r9 = D9 r n cZn x0 (K1 (bMl r n) 1) :=
 congrArg (fun k => D9 r n cZn x0 k) (dUg r n)
theorem dPu : D9 r n cMu x0 r9 = (K1 (cHz r n) 1) :=
 (dOk r n).trans
 ((by kernel_rfl))
theorem dJk : D9 r n cVj x0 r9 = D9 r n cXi x0 (K1 (cHz r n) 1) :=
 congrArg (fun k => D9 r n cXi x0 k) (dPu r n)
theorem dVc : D9 r n cVj x0 r9 = (K1 (cVd r n) 1) :=
 (dJk r n).trans
 ((by kernel_rfl))
theorem dWi : D9 r n c9 x0 r9 = D9 r n cYi x0 (K1 (cVd r n) 1) :=
 congrArg (fun k => D9 r n cYi x0 k) (dVc r n)
theorem s9m : D9 r n c9 x0 r9 = (K1 (s9 r n) 0) :=
 (dWi r n).trans
 ((by kernel_rfl))
theorem dZt : aL CF r n 9 args h = s9 r n (aS args 0) h :=
 dI (s9m r n) args h (by kernel_rfl) (by kernel_rfl)
def s11 (r : RT) (n : Nat) (x0 : DV) (h0 : Hp) : aF :=
 bnd (eR x0 h0) fun v1 h1 =>
 bnd (aD 6 v1 (fP 1 h1)) fun v2 h2 =>
 bnd (r 20 [v2] h2) fun v3 h3 =>
 bnd (aD 6 v1 h3) fun v4 h4 =>
 cnd (bM (aD 6 v1 (fP 1 h1)) v4 && true) (
 bnd (r 21 [v4] h4) fun v5 h5 =>
 bnd (aW (cS 0 h1.next) [(.s []), (.s [])] 2 [(0, 1, v3), (1, 1, v5)] h5) fun v6 h6 =>
 bnd (r 19 [v6] h6) fun v7 h7 =>
 bnd (r 17 [v7] h7) fun v8 h8 =>
 bnd (aP 0 v8 h8) fun v9 h9 =>
 bnd (aP 1 v8 h9) fun v10 h10 =>
 bnd (aP 2 v8 h10) fun v11 h11 =>
 bnd (bL cY h11) fun v12 h12 =>
 bnd (aC 6 v12 v9 h12) fun _ h13 =>
 bnd (aD 6 v1 h13) fun v14 h14 =>
 bnd (aD 6 v12 h14) fun v15 h15 =>
 bnd (r 22 [v7, v14, v15, v11] h15) fun v16 h16 =>
 bnd (aP 0 v16 h16) fun v17 h17 =>
 bnd (aP 1 v16 h17) fun v18 h18 =>
 some (.t [v17, v18], h18))
abbrev c11 : Code := cf Tryz.f11
abbrev r11 : K := bF CF Tryz.f11
def D11 (r : RT) (n : Nat) (c : Code) (X : Nat → K) (k : K) : K := aR CF r 27 n c X r11 k
theorem dXf : D11 r n c11 x0 r11 = (K1 (s11 r n) 0) :=
 (by kernel_rfl)
theorem dRl : aL CF r n 11 args h = s11 r n (aS args 0) h :=
 dI (dXf r n) args h (by kernel_rfl) (by kernel_rfl)
def bBu (r : RT) (n : Nat) (x1 x2 x6 : DV) (h0 : Hp) : aF :=
 bnd (r 25 [x6, x1] h0) fun v1 h1 =>
 bnd (aP 0 v1 h1) fun v2 h2 =>
 bnd (aP 1 v1 h2) fun v3 h3 =>
 bnd (aP 2 v1 h3) fun v4 h4 =>
 bnd (bL cY h4) fun v5 h5 =>
 bnd (aC 6 v5 v2 h5) fun _ h6 =>
 bnd (aD 6 x2 h6) fun v7 h7 =>
 bnd (aD 6 v5 h7) fun v8 h8 =>
 bnd (r 16 [v7, v8] h8) fun v9 h9 =>
 bnd (aH .neq v4 (aG 0) h9) fun v10 h10 =>
 bnd (gD v10 false (some (v9, h10)) h10) fun v11 h11 =>
 bnd (gD v10 false (lS .not v11 h11) h11) fun v12 h12 =>
 bnd (bA v10 (.b true) v12 h12) fun v13 h13 =>
 aV v13 (
 some (.t [(.s []), (aG 1)], h13)) (
 some (.t [x6, (aG 0)], h13))
def cYz (r : RT) (n : Nat) (x1 x2 x6 : DV) (h0 : Hp) : aF :=
 aV x1 (
 bnd (aD 6 x2 h0) fun v1 h1 =>
 bnd (r 24 [v1] h1) fun v2 h2 =>
 bnd (cB .add v2 x6 h2) fun v3 h3 =>
  bBu r n x1 x2 v3 h3) (
  bBu r n x1 x2 x6 h0)
def cZk (r : RT) (n : Nat) (x1 x2 : DV) (h0 : Hp) : aF :=
 bnd (aD 6 x2 h0) fun v1 h1 =>
 bnd (r 23 [v1] h1) fun v2 h2 =>
  cYz r n x1 x2 v2 h2
def s12 (r : RT) (n : Nat) (x0 x1 : DV) (h0 : Hp) : aF :=
 bnd (eR x0 h0) fun v1 h1 =>
  cZk r n x1 v1 h1
abbrev c12 : Code := cf Tryz.f12
abbrev r12 : K := bF CF Tryz.f12
def D12 (r : RT) (n : Nat) (c : Code) (X : Nat → K) (k : K) : K := aR CF r 35 n c X r12 k
theorem dZf : D12 r n c12 x0 r12 = (K2 (s12 r n) 0 1) := by kernel_rfl
theorem dUc : aL CF r n 12 args h = s12 r n (aS args 0) (aS args 1) h :=
 dI (dZf r n) args h (by kernel_rfl) (by kernel_rfl)
def iF (r : RT) (n : Nat) (h0 : Hp) : aF :=
 some ((.b true), h0)
def vC (r : RT) (n : Nat) (kk7 : cZ) (x2 x3 x7 : DV) (h0 : Hp) : aF :=
 bnd (aA 5 x2 h0) fun v1 h1 =>
 bnd (aB v1 h1) fun v2 h2 =>
 bnd (dG v2 h2) fun v3 h3 =>
 bnd (aH .lss x7 v3 h3) fun v4 h4 =>
 aV v4 (
 bnd (aA 5 x2 h4) fun v5 h5 =>
 bnd (aB v5 h5) fun v6 h6 =>
 bnd (aO 6 v6 x7 h6) fun v7 h7 =>
 bnd (aD 6 v7 h7) fun v8 h8 =>
 bnd (aA 5 x3 h8) fun v9 h9 =>
 bnd (aB v9 h9) fun v10 h10 =>
 bnd (aO 6 v10 x7 h10) fun v11 h11 =>
 bnd (aD 6 v11 h11) fun v12 h12 =>
 bnd (r 16 [v8, v12] h12) fun v13 h13 =>
 bnd (lS .not v13 h13) fun v14 h14 =>
 aV v14 (
 some ((.b false), h14)) (
 bnd (aH .add x7 (aG 1) h14) fun v15 h15 =>
  kk7 x2 x3 v15 h15)) (
      iF r n h4)
def mA (r : RT) (n : Nat) (m : Nat) : cZ :=
 Nat.rec (motive := fun _ => cZ) (fun _ _ _ _ => none) (fun _ ih => vC r n ih) m
def cYy (r : RT) (n : Nat) : cZ := mA r n n
def bHq (r : RT) (n : Nat) (x2 x3 x7 : DV) (h0 : Hp) : aF :=
 cYy r n x2 x3 x7 h0
def bEg (r : RT) (n : Nat) (x2 x3 : DV) (h0 : Hp) : aF :=
 bHq r n x2 x3 (aG 0) h0
def aQr (r : RT) (n : Nat) (x2 x3 x5 x6 : DV) (h0 : Hp) : aF :=
 bnd (lS .not x5 h0) fun v1 h1 =>
 bnd (gD v1 false (some (x6, h1)) h1) fun v2 h2 =>
 bnd (gD v1 false (lS .not v2 h2) h2) fun v3 h3 =>
 bnd (bA v1 (.b true) v3 h3) fun v4 h4 =>
 bnd (gD v4 false (aA 0 x2 h4) h4) fun v5 h5 =>
 bnd (gD v4 false (aB v5 h5) h5) fun v6 h6 =>
 bnd (gD v4 false (aA 0 x3 h6) h6) fun v7 h7 =>
 bnd (gD v4 false (aB v7 h7) h7) fun v8 h8 =>
 bnd (gD v4 false (aH .neq v6 v8 h8) h8) fun v9 h9 =>
 bnd (bA v4 (.b true) v9 h9) fun v10 h10 =>
 bnd (gD v10 false (aA 1 x2 h10) h10) fun v11 h11 =>
 bnd (gD v10 false (aB v11 h11) h11) fun v12 h12 =>
 bnd (gD v10 false (aA 1 x3 h12) h12) fun v13 h13 =>
 bnd (gD v10 false (aB v13 h13) h13) fun v14 h14 =>
 bnd (gD v10 false (cB .neq v12 v14 h14) h14) fun v15 h15 =>
 bnd (bA v10 (.b true) v15 h15) fun v16 h16 =>
 bnd (gD v16 false (aA 2 x2 h16) h16) fun v17 h17 =>
 bnd (gD v16 false (aB v17 h17) h17) fun v18 h18 =>
 bnd (gD v16 false (aA 2 x3 h18) h18) fun v19 h19 =>
 bnd (gD v16 false (aB v19 h19) h19) fun v20 h20 =>
 bnd (gD v16 false (aH .neq v18 v20 h20) h20) fun v21 h21 =>
 bnd (bA v16 (.b true) v21 h21) fun v22 h22 =>
 bnd (gD v22 false (aA 5 x2 h22) h22) fun v23 h23 =>
 bnd (gD v22 false (aB v23 h23) h23) fun v24 h24 =>
 bnd (gD v22 false (dG v24 h24) h24) fun v25 h25 =>
 bnd (gD v22 false (aA 5 x3 h25) h25) fun v26 h26 =>
 bnd (gD v22 false (aB v26 h26) h26) fun v27 h27 =>
 bnd (gD v22 false (dG v27 h27) h27) fun v28 h28 =>
 bnd (gD v22 false (aH .neq v25 v28 h28) h28) fun v29 h29 =>
 bnd (bA v22 (.b true) v29 h29) fun v30 h30 =>
 aV v30 (
 some ((.b false), h30)) (
  bEg r n x2 x3 h30)
def bAv (r : RT) (n : Nat) (x2 x3 x5 : DV) (h0 : Hp) : aF :=
 bnd (aA 4 x2 h0) fun v1 h1 =>
 bnd (aB v1 h1) fun v2 h2 =>
 bnd (aA 4 x3 h2) fun v3 h3 =>
 bnd (aB v3 h3) fun v4 h4 =>
 bnd (r 28 [v2, v4] h4) fun v5 h5 =>
  aQr r n x2 x3 x5 v5 h5
def bIr (r : RT) (n : Nat) (x2 x3 : DV) (h0 : Hp) : aF :=
 bnd (aA 3 x2 h0) fun v1 h1 =>
 bnd (aB v1 h1) fun v2 h2 =>
 bnd (aA 3 x3 h2) fun v3 h3 =>
 bnd (aB v3 h3) fun v4 h4 =>
 bnd (r 28 [v2, v4] h4) fun v5 h5 =>
  bAv r n x2 x3 v5 h5
def s16 (r : RT) (n : Nat) (x0 x1 : DV) (h0 : Hp) : aF :=
 bnd (eR x0 h0) fun v1 h1 =>
 bnd (eR x1 h1) fun v2 h2 =>
  bIr r n v1 v2 h2
abbrev c16 : Code := cf Tryz.f16
abbrev bAt := cR c16
abbrev bEa := cR bAt
abbrev aWx := cR bEa
abbrev bDr := cR aWx
abbrev dTz := cR bDr
abbrev aQl := cL bDr
abbrev bVh := cR aQl
abbrev bEq := cL bVh
abbrev yN := cL bEq
abbrev bQp := cL aQl
abbrev bOn := cL aWx
abbrev bWe := cL bEa
abbrev cEx := cL bAt
abbrev cDm := cL c16
abbrev r16 : K := bF CF Tryz.f16
def D16 (r : RT) (n : Nat) (c : Code) (X : Nat → K) (k : K) : K := aR CF r 75 n c X r16 k
theorem dJg : D16 r n dTz x0 r16 = (K0 (iF r n)) := by kernel_rfl
theorem cPh (kk7 : cZ) : D16 r n yN (xs x0 0 (K0 (iF r n))) (K3 kk7 2 3 7) = (K3 (vC r n kk7) 2 3 7) := by kernel_rfl
theorem cGt (m : Nat) : aE (fun kk => D16 r n yN (xs x0 0 (K0 (iF r n))) kk) m = (K3 (mA r n m) 2 3 7) := by
 induction m with
 | zero => exact (by kernel_rfl : aE (fun kk => D16 r n yN (xs x0 0 (K0 (iF r n))) kk) 0 = (K3 (mA r n 0) 2 3 7))
 | succ m ih =>
  refine (by kernel_rfl : aE (fun kk => D16 r n yN (xs x0 0 (K0 (iF r n))) kk) (m + 1) = D16 r n yN (xs x0 0 (K0 (iF r n))) (aE (fun kk => D16 r n yN (xs x0 0 (K0 (iF r n))) kk) m)).trans ?_
  rw [ih]
  exact (cPh r n (mA r n m)).trans (by kernel_rfl)
theorem dBx : D16 r n bEq (xs x0 0 (K0 (iF r n))) (K0 (iF r n)) = (K3 (cYy r n) 2 3 7) :=
 (by kernel_rfl : D16 r n bEq (xs x0 0 (K0 (iF r n))) (K0 (iF r n)) = aE (fun kk => D16 r n yN (xs x0 0 (K0 (iF r n))) kk) n).trans ((cGt r n n).trans (by kernel_rfl))
theorem dCw : D16 r n bVh x0 (K0 (iF r n)) = (K3 (bHq r n) 2 3 7) :=
 (by kernel_rfl : D16 r n bVh x0 (K0 (iF r n)) = D16 r n bEq (xs x0 0 (K0 (iF r n))) (K0 (iF r n))).trans
 ((dBx r n).trans (by kernel_rfl))
theorem cJd : D16 r n bDr x0 r16 = D16 r n aQl x0 (K0 (iF r n)) :=
 congrArg (fun k => D16 r n aQl x0 k) (dJg r n)
theorem cRz : D16 r n aQl x0 (K0 (iF r n)) = D16 r n bQp x0 (K3 (bHq r n) 2 3 7) :=
 congrArg (fun k => D16 r n bQp x0 k) (dCw r n)
theorem dGp : D16 r n bDr x0 r16 = (K2 (bEg r n) 2 3) :=
 (cJd r n).trans
 ((cRz r n).trans
 ((by kernel_rfl)))
theorem cOb : D16 r n aWx x0 r16 = D16 r n bOn x0 (K2 (bEg r n) 2 3) :=
 congrArg (fun k => D16 r n bOn x0 k) (dGp r n)
theorem dGa : D16 r n aWx x0 r16 = (K4 (aQr r n) 2 3 5 6) :=
 (cOb r n).trans
 ((by kernel_rfl))
theorem cNa : D16 r n bEa x0 r16 = D16 r n bWe x0 (K4 (aQr r n) 2 3 5 6) :=
 congrArg (fun k => D16 r n bWe x0 k) (dGa r n)
theorem dHe : D16 r n bEa x0 r16 = (K3 (bAv r n) 2 3 5) :=
 (cNa r n).trans
 ((by kernel_rfl))
theorem cIa : D16 r n bAt x0 r16 = D16 r n cEx x0 (K3 (bAv r n) 2 3 5) :=
 congrArg (fun k => D16 r n cEx x0 k) (dHe r n)
theorem dGr : D16 r n bAt x0 r16 = (K2 (bIr r n) 2 3) :=
 (cIa r n).trans
 ((by kernel_rfl))
theorem dRv : D16 r n c16 x0 r16 = D16 r n cDm x0 (K2 (bIr r n) 2 3) :=
 congrArg (fun k => D16 r n cDm x0 k) (dGr r n)
theorem dXb : D16 r n c16 x0 r16 = (K2 (s16 r n) 0 1) :=
 (dRv r n).trans
 ((by kernel_rfl))
theorem dVs : aL CF r n 16 args h = s16 r n (aS args 0) (aS args 1) h :=
 dI (dXb r n) args h (by kernel_rfl) (by kernel_rfl)
def s17 (r : RT) (n : Nat) (x0 : DV) (h0 : Hp) : aF :=
 bnd (bL cY h0) fun v1 h1 =>
 bnd (r 26 [x0, (.f 29 [] [])] h1) fun v2 h2 =>
 bnd (aP 0 v2 h2) fun v3 h3 =>
 bnd (aP 1 v2 h3) fun v4 h4 =>
 bnd (aP 2 v2 h4) fun v5 h5 =>
 bnd (aC 6 v1 v3 h5) fun _ h6 =>
 bnd (aD 6 v1 h6) fun v7 _ =>
 some (.t [v7, v4, v5], h6)
abbrev c17 : Code := cf Tryz.f17
abbrev r17 : K := bF CF Tryz.f17
def D17 (r : RT) (n : Nat) (c : Code) (X : Nat → K) (k : K) : K := aR CF r 10 n c X r17 k
theorem eAp : D17 r n c17 x0 r17 = (K1 (s17 r n) 0) :=
 (by kernel_rfl)
theorem dQg : aL CF r n 17 args h = s17 r n (aS args 0) h :=
 dI (eAp r n) args h (by kernel_rfl) (by kernel_rfl)
def hK (r : RT) (n : Nat) (x1 x5 : DV) (h0 : Hp) : aF :=
 bnd (aH .gtr x5 x1 h0) fun v1 h1 =>
 aV v1 (
 some ((.i .i64 (Int.negSucc 0)), h1)) (
 some (x5, h1))
def uX (r : RT) (n : Nat) (kk5 : gO) (x1 x2 x5 x6 : DV) (h0 : Hp) : aF :=
 bnd (aA 5 x2 h0) fun v1 h1 =>
 bnd (aB v1 h1) fun v2 h2 =>
 bnd (dG v2 h2) fun v3 h3 =>
 bnd (aH .lss x6 v3 h3) fun v4 h4 =>
 aV v4 (
 bnd (aH .geq x5 x1 h4) fun v5 h5 =>
 aV v5 (
 some ((.i .i64 (Int.negSucc 0)), h5)) (
 bnd (aA 5 x2 h5) fun v6 h6 =>
 bnd (aB v6 h6) fun v7 h7 =>
 bnd (aO 6 v7 x6 h7) fun v8 h8 =>
 bnd (aD 6 v8 h8) fun v9 h9 =>
 bnd (aH .sub x1 x5 h9) fun v10 h10 =>
 bnd (r 18 [v9, v10] h10) fun v11 h11 =>
 bnd (aH .lss v11 (aG 0) h11) fun v12 h12 =>
 aV v12 (
 some ((.i .i64 (Int.negSucc 0)), h12)) (
 bnd (aH .add x5 v11 h12) fun v13 h13 =>
 bnd (aH .add x6 (aG 1) h13) fun v14 h14 =>
  kk5 x1 x2 v13 v14 h14))) (
      hK r n x1 x5 h4)
def nT (r : RT) (n : Nat) (m : Nat) : gO :=
 Nat.rec (motive := fun _ => gO) (fun _ _ _ _ _ => none) (fun _ ih => uX r n ih) m
def bTs (r : RT) (n : Nat) : gO := nT r n n
def aZy (r : RT) (n : Nat) (x1 x2 x5 x6 : DV) (h0 : Hp) : aF :=
 bTs r n x1 x2 x5 x6 h0
def aZr (r : RT) (n : Nat) (x1 x2 x5 : DV) (h0 : Hp) : aF :=
 aZy r n x1 x2 x5 (aG 0) h0
def aXy (r : RT) (n : Nat) (x1 x2 : DV) (h0 : Hp) : aF :=
 aZr r n x1 x2 (aG 1) h0
def s18 (r : RT) (n : Nat) (x0 x1 : DV) (h0 : Hp) : aF :=
 bnd (eR x0 h0) fun v1 h1 =>
  aXy r n x1 v1 h1
abbrev c18 : Code := cf Tryz.f18
abbrev bGs := cR c18
abbrev bAo := cR bGs
abbrev dRg := cR bAo
abbrev aOy := cL bAo
abbrev bUi := cR aOy
abbrev aYr := cL bUi
abbrev aAs := cL aYr
abbrev cYp := cL aOy
abbrev cWz := cL bGs
abbrev bLt := cL c18
abbrev r18 : K := bF CF Tryz.f18
def D18 (r : RT) (n : Nat) (c : Code) (X : Nat → K) (k : K) : K := aR CF r 36 n c X r18 k
theorem dLc : D18 r n dRg x0 r18 = (K2 (hK r n) 1 5) := by kernel_rfl
theorem cMj (kk5 : gO) : D18 r n aAs (xs x0 0 (K2 (hK r n) 1 5)) (K4 kk5 1 2 5 6) = (K4 (uX r n kk5) 1 2 5 6) := by kernel_rfl
theorem cJj (m : Nat) : aE (fun kk => D18 r n aAs (xs x0 0 (K2 (hK r n) 1 5)) kk) m = (K4 (nT r n m) 1 2 5 6) := by
 induction m with
 | zero => exact (by kernel_rfl : aE (fun kk => D18 r n aAs (xs x0 0 (K2 (hK r n) 1 5)) kk) 0 = (K4 (nT r n 0) 1 2 5 6))
 | succ m ih =>
  refine (by kernel_rfl : aE (fun kk => D18 r n aAs (xs x0 0 (K2 (hK r n) 1 5)) kk) (m + 1) = D18 r n aAs (xs x0 0 (K2 (hK r n) 1 5)) (aE (fun kk => D18 r n aAs (xs x0 0 (K2 (hK r n) 1 5)) kk) m)).trans ?_
  rw [ih]
  exact (cMj r n (nT r n m)).trans (by kernel_rfl)
theorem dMy : D18 r n aYr (xs x0 0 (K2 (hK r n) 1 5)) (K2 (hK r n) 1 5) = (K4 (bTs r n) 1 2 5 6) :=
 (by kernel_rfl : D18 r n aYr (xs x0 0 (K2 (hK r n) 1 5)) (K2 (hK r n) 1 5) = aE (fun kk => D18 r n aAs (xs x0 0 (K2 (hK r n) 1 5)) kk) n).trans ((cJj r n n).trans (by kernel_rfl))
theorem dGq : D18 r n bUi x0 (K2 (hK r n) 1 5) = (K4 (aZy r n) 1 2 5 6) :=
 (by kernel_rfl : D18 r n bUi x0 (K2 (hK r n) 1 5) = D18 r n aYr (xs x0 0 (K2 (hK r n) 1 5)) (K2 (hK r n) 1 5)).trans
 ((dMy r n).trans (by kernel_rfl))
theorem cIs : D18 r n bAo x0 r18 = D18 r n aOy x0 (K2 (hK r n) 1 5) :=
 congrArg (fun k => D18 r n aOy x0 k) (dLc r n)
theorem cOr : D18 r n aOy x0 (K2 (hK r n) 1 5) = D18 r n cYp x0 (K4 (aZy r n) 1 2 5 6) :=
 congrArg (fun k => D18 r n cYp x0 k) (dGq r n)
theorem dEq : D18 r n bAo x0 r18 = (K3 (aZr r n) 1 2 5) :=
 (cIs r n).trans
 ((cOr r n).trans
 ((by kernel_rfl)))
theorem cGs : D18 r n bGs x0 r18 = D18 r n cWz x0 (K3 (aZr r n) 1 2 5) :=
 congrArg (fun k => D18 r n cWz x0 k) (dEq r n)
theorem dDp : D18 r n bGs x0 r18 = (K2 (aXy r n) 1 2) :=
 (cGs r n).trans
 ((by kernel_rfl))
theorem dQe : D18 r n c18 x0 r18 = D18 r n bLt x0 (K2 (aXy r n) 1 2) :=
 congrArg (fun k => D18 r n bLt x0 k) (dDp r n)
theorem dYi : D18 r n c18 x0 r18 = (K2 (s18 r n) 0 1) :=
 (dQe r n).trans
 ((by kernel_rfl))
theorem dPw : aL CF r n 18 args h = s18 r n (aS args 0) (aS args 1) h :=
 dI (dYi r n) args h (by kernel_rfl) (by kernel_rfl)
def s19 (r : RT) (n : Nat) (x0 : DV) (h0 : Hp) : aF :=
 bnd (mQ [x0, (.s [])] h0) fun v1 h1 =>
 some (v1, h1)
abbrev c19 : Code := cf Tryz.f19
abbrev r19 : K := bF CF Tryz.f19
def D19 (r : RT) (n : Nat) (c : Code) (X : Nat → K) (k : K) : K := aR CF r 5 n c X r19 k
theorem eAi : D19 r n c19 x0 r19 = (K1 (s19 r n) 0) :=
 (by kernel_rfl)
theorem dUl : aL CF r n 19 args h = s19 r n (aS args 0) h :=
 dI (eAi r n) args h (by kernel_rfl) (by kernel_rfl)
def bIq (r : RT) (n : Nat) (x4 : DV) (h0 : Hp) : aF :=
 bnd (aN [(.s []), (.s [])] 2 [(0, 1, x4), (1, 1, (.s [32]))] h0) fun v1 h1 =>
 bnd (r 19 [v1] h1) fun v2 h2 =>
 some (v2, h2)
def bO (r : RT) (n : Nat) (x1 x4 : DV) (h0 : Hp) : aF :=
 bnd (aA 2 x1 h0) fun v1 h1 =>
 bnd (aB v1 h1) fun v2 h2 =>
 bnd (aH .neq v2 (aG 0) h2) fun v3 h3 =>
 aV v3 (
 bnd (aA 2 x1 h3) fun v4 h4 =>
 bnd (aB v4 h4) fun v5 h5 =>
 bnd (aAk [v5] h5) fun v6 h6 =>
 bnd (aN [(.s []), (.s []), (.s []), (.s [])] 4 [(0, 1, x4), (1, 1, (.s [32, 60, 112, 114, 105, 109, 105, 116, 105, 118, 101, 58, 32])), (2, 1, v6), (3, 1, (.s [62]))] h6) fun v7 h7 =>
 bnd (r 19 [v7] h7) fun v8 h8 =>
  bIq r n v8 h8) (
  bIq r n x4 h3)
def eO (r : RT) (n : Nat) (x1 x5 : DV) (h0 : Hp) : aF :=
 bnd (mQ [x5, (.s [32])] h0) fun v1 h1 =>
  bO r n x1 v1 h1
def pW (r : RT) (n : Nat) (kk14 : TT6) (x1 x3 x5 x26 x27 x28 : DV) (h0 : Hp) : aF :=
 bnd (aH .lss x28 x27 h0) fun v1 h1 =>
 aV v1 (
 bnd (aO 1 x26 x28 h1) fun v2 h2 =>
 bnd (aB v2 h2) fun v3 h3 =>
 bnd (eA CF r x3 [x28] h3) fun v4 h4 =>
 bnd (aN [(.s []), (.s []), (.s [])] 3 [(0, 1, v3), (1, 1, (.s [32])), (2, 1, v4)] h4) fun v5 h5 =>
 bnd (r 19 [v5] h5) fun v6 h6 =>
 bnd (aN [(.s [])] 1 [(0, 1, v6)] h6) fun v7 h7 =>
 bnd (aY 1 16 x5 v7 h7) fun v8 h8 =>
 bnd (aH .add x28 (aG 1) h8) fun v9 h9 =>
      kk14 x1 x3 v8 x26 x27 v9 h9) (
      eO r n x1 x5 h1)
def kM (r : RT) (n : Nat) (m : Nat) : TT6 :=
 Nat.rec (motive := fun _ => TT6) (fun _ _ _ _ _ _ _ => none) (fun _ ih => pW r n ih) m
def aTw (r : RT) (n : Nat) : TT6 := kM r n n
def aNz (r : RT) (n : Nat) (x1 x3 x5 x26 x27 x28 : DV) (h0 : Hp) : aF :=
 aTw r n x1 x3 x5 x26 x27 x28 h0
def aMo (r : RT) (n : Nat) (x1 x3 x5 : DV) (h0 : Hp) : aF :=
 bnd (aA 1 x1 h0) fun v1 h1 =>
 bnd (aB v1 h1) fun v2 h2 =>
 bnd (r 33 [v2] h2) fun v3 h3 =>
 bnd (dG v3 h3) fun v4 h4 =>
  aNz r n x1 x3 x5 v3 v4 (aG 0) h4
def aUx (r : RT) (n : Nat) (x1 x3 : DV) (h0 : Hp) : aF :=
 aMo r n x1 x3 .l0 h0
def aRx (r : RT) (n : Nat) (x1 x3 x4 x22 : DV) (h0 : Hp) : aF :=
 aV x22 (
  aUx r n x1 x3 h0) (
  bO r n x1 x4 h0)
def cEb (r : RT) (n : Nat) (x1 x3 x4 x13 : DV) (h0 : Hp) : aF :=
 bnd (aH .eql x13 (aG 3) h0) fun v1 h1 =>
  aRx r n x1 x3 x4 v1 h1
def aSy (r : RT) (n : Nat) (x1 x3 x4 x13 x14 : DV) (h0 : Hp) : aF :=
 aV x14 (
 bnd (aA 1 x1 (fP 1 h0)) fun v1 h1 =>
 bnd (aB v1 h1) fun v2 h2 =>
 bnd (eA CF r x3 [(aG 0)] h2) fun v3 h3 =>
 cnd (bM (aB v1 h3) v2 && true) (
 bnd (aW (cS 0 h0.next) [(.s []), (.s []), (.s [])] 3 [(0, 1, v2), (1, 1, (.s [32])), (2, 1, v3)] h3) fun v4 h4 =>
 bnd (r 19 [v4] h4) fun v5 h5 =>
  bO r n x1 v5 h5)) (
  cEb r n x1 x3 x4 x13 h0)
def bFk (r : RT) (n : Nat) (x1 x3 x4 x13 : DV) (h0 : Hp) : aF :=
 bnd (aH .eql x13 (aG 2) h0) fun v1 h1 =>
  aSy r n x1 x3 x4 x13 v1 h1
def aXc (r : RT) (n : Nat) (x1 x3 x4 : DV) (h0 : Hp) : aF :=
 bnd (aA 1 x1 h0) fun v1 h1 =>
 bnd (aB v1 h1) fun v2 h2 =>
 bnd (r 32 [v2] h2) fun v3 h3 =>
  bFk r n x1 x3 x4 v3 h3
def bIe (r : RT) (n : Nat) (x1 x3 : DV) (h0 : Hp) : aF :=
 bnd (aA 1 x1 h0) fun v1 h1 =>
 bnd (aB v1 h1) fun v2 h2 =>
  aXc r n x1 x3 v2 h2
def bDt (r : RT) (n : Nat) (x1 : DV) (h0 : Hp) : aF :=
 bIe r n x1 (.f 31 [] [x1]) h0
def s20 (r : RT) (n : Nat) (x0 : DV) (h0 : Hp) : aF :=
 bnd (eR x0 h0) fun v1 h1 =>
  bDt r n v1 h1
abbrev c20 : Code := cf Tryz.f20
abbrev aYw := cR c20
abbrev aXm := cR aYw
abbrev aXg := cR aXm
abbrev dSa := cR aXg
abbrev aQj := cL aXg
abbrev cAh := cR aQj
abbrev bBs := cL cAh
abbrev aDh := cR bBs
abbrev yY := cR aDh
abbrev aAh := cR yY
abbrev yC := cL aAh
abbrev aHf := cR yC
abbrev dCb := cR aHf
abbrev aCk := cL aHf
abbrev aUy := cR aCk
abbrev aKr := cL aUy
abbrev rC := cL aKr
abbrev bTc := cL aCk
abbrev cDw := cL yC
abbrev dKt := cR aAh
abbrev cDj := cL yY
abbrev dEp := cL aDh
abbrev bXl := cL bBs
abbrev bQs := cL aQj
abbrev bSz := cL aXm
abbrev bSf := cL aYw
abbrev bQw := cL c20
abbrev r20 : K := bF CF Tryz.f20
def D20 (r : RT) (n : Nat) (c : Code) (X : Nat → K) (k : K) : K := aR CF r 57 n c X r20 k
theorem dKw : D20 r n dSa x0 r20 = (K2 (bO r n) 1 4) := by kernel_rfl
theorem cKb : D20 r n dCb (xs x0 0 (K2 (bO r n) 1 4)) (K2 (bO r n) 1 4) = (K2 (eO r n) 1 5) := by kernel_rfl
theorem bXj (kk14 : TT6) : D20 r n rC (xs (xs x0 0 (K2 (bO r n) 1 4)) 1 (K2 (eO r n) 1 5)) (K6 kk14 1 3 5 26 27 28) = (K6 (pW r n kk14) 1 3 5 26 27 28) := by kernel_rfl
theorem bPb (m : Nat) : aE (fun kk => D20 r n rC (xs (xs x0 0 (K2 (bO r n) 1 4)) 1 (K2 (eO r n) 1 5)) kk) m = (K6 (kM r n m) 1 3 5 26 27 28) := by
 induction m with
 | zero => exact (by kernel_rfl : aE (fun kk => D20 r n rC (xs (xs x0 0 (K2 (bO r n) 1 4)) 1 (K2 (eO r n) 1 5)) kk) 0 = (K6 (kM r n 0) 1 3 5 26 27 28))
 | succ m ih =>
  refine (by kernel_rfl : aE (fun kk => D20 r n rC (xs (xs x0 0 (K2 (bO r n) 1 4)) 1 (K2 (eO r n) 1 5)) kk) (m + 1) = D20 r n rC (xs (xs x0 0 (K2 (bO r n) 1 4)) 1 (K2 (eO r n) 1 5)) (aE (fun kk => D20 r n rC (xs (xs x0 0 (K2 (bO r n) 1 4)) 1 (K2 (eO r n) 1 5)) kk) m)).trans ?_
  rw [ih]
  exact (bXj r n (kM r n m)).trans (by kernel_rfl)
theorem cQu : D20 r n aKr (xs (xs x0 0 (K2 (bO r n) 1 4)) 1 (K2 (eO r n) 1 5)) (K2 (eO r n) 1 5) = (K6 (aTw r n) 1 3 5 26 27 28) :=
 (by kernel_rfl : D20 r n aKr (xs (xs x0 0 (K2 (bO r n) 1 4)) 1 (K2 (eO r n) 1 5)) (K2 (eO r n) 1 5) = aE (fun kk => D20 r n rC (xs (xs x0 0 (K2 (bO r n) 1 4)) 1 (K2 (eO r n) 1 5)) kk) n).trans ((bPb r n n).trans (by kernel_rfl))
theorem cFx : D20 r n aUy (xs x0 0 (K2 (bO r n) 1 4)) (K2 (eO r n) 1 5) = (K6 (aNz r n) 1 3 5 26 27 28) :=
 (by kernel_rfl : D20 r n aUy (xs x0 0 (K2 (bO r n) 1 4)) (K2 (eO r n) 1 5) = D20 r n aKr (xs (xs x0 0 (K2 (bO r n) 1 4)) 1 (K2 (eO r n) 1 5)) (K2 (eO r n) 1 5)).trans
 ((cQu r n).trans (by kernel_rfl))
theorem cBx : D20 r n aHf (xs x0 0 (K2 (bO r n) 1 4)) (K2 (bO r n) 1 4) = D20 r n aCk (xs x0 0 (K2 (bO r n) 1 4)) (K2 (eO r n) 1 5) :=
 congrArg (fun k => D20 r n aCk (xs x0 0 (K2 (bO r n) 1 4)) k) (cKb r n)
theorem bNp : D20 r n aCk (xs x0 0 (K2 (bO r n) 1 4)) (K2 (eO r n) 1 5) = D20 r n bTc (xs x0 0 (K2 (bO r n) 1 4)) (K6 (aNz r n) 1 3 5 26 27 28) :=
 congrArg (fun k => D20 r n bTc (xs x0 0 (K2 (bO r n) 1 4)) k) (cFx r n)
theorem cRp : D20 r n aHf (xs x0 0 (K2 (bO r n) 1 4)) (K2 (bO r n) 1 4) = (K3 (aMo r n) 1 3 5) :=
 (cBx r n).trans
 ((bNp r n).trans
 ((by kernel_rfl)))
theorem bNo : D20 r n yC (xs x0 0 (K2 (bO r n) 1 4)) (K2 (bO r n) 1 4) = D20 r n cDw (xs x0 0 (K2 (bO r n) 1 4)) (K3 (aMo r n) 1 3 5) :=
 congrArg (fun k => D20 r n cDw (xs x0 0 (K2 (bO r n) 1 4)) k) (cRp r n)
theorem cNs : D20 r n yC (xs x0 0 (K2 (bO r n) 1 4)) (K2 (bO r n) 1 4) = (K2 (aUx r n) 1 3) :=
 (bNo r n).trans
 ((by kernel_rfl))
theorem dJx : D20 r n aAh (xs x0 0 (K2 (bO r n) 1 4)) (K2 (bO r n) 1 4) = (K4 (aRx r n) 1 3 4 22) :=
 (by kernel_rfl : D20 r n aAh (xs x0 0 (K2 (bO r n) 1 4)) (K2 (bO r n) 1 4) = (fun (env : eJ) (h : Hp) => aV (opr env (cC aAh)) (D20 r n yC (xs x0 0 (K2 (bO r n) 1 4)) (K2 (bO r n) 1 4) env h) (D20 r n dKt (xs x0 0 (K2 (bO r n) 1 4)) (K2 (bO r n) 1 4) env h))).trans (by rw [cNs r n]; kernel_rfl)
theorem cIl : D20 r n yY (xs x0 0 (K2 (bO r n) 1 4)) (K2 (bO r n) 1 4) = D20 r n cDj (xs x0 0 (K2 (bO r n) 1 4)) (K4 (aRx r n) 1 3 4 22) :=
 congrArg (fun k => D20 r n cDj (xs x0 0 (K2 (bO r n) 1 4)) k) (dJx r n)
theorem dKq : D20 r n yY (xs x0 0 (K2 (bO r n) 1 4)) (K2 (bO r n) 1 4) = (K4 (cEb r n) 1 3 4 13) :=
 (cIl r n).trans
 ((by kernel_rfl))
theorem dJp : D20 r n aDh (xs x0 0 (K2 (bO r n) 1 4)) (K2 (bO r n) 1 4) = (K5 (aSy r n) 1 3 4 13 14) :=
 (by kernel_rfl : D20 r n aDh (xs x0 0 (K2 (bO r n) 1 4)) (K2 (bO r n) 1 4) = (fun (env : eJ) (h : Hp) => aV (opr env (cC aDh)) (D20 r n dEp (xs x0 0 (K2 (bO r n) 1 4)) (K2 (bO r n) 1 4) env h) (D20 r n yY (xs x0 0 (K2 (bO r n) 1 4)) (K2 (bO r n) 1 4) env h))).trans (by rw [dKq r n]; kernel_rfl)
theorem cSg : D20 r n bBs (xs x0 0 (K2 (bO r n) 1 4)) (K2 (bO r n) 1 4) = D20 r n bXl (xs x0 0 (K2 (bO r n) 1 4)) (K5 (aSy r n) 1 3 4 13 14) :=
 congrArg (fun k => D20 r n bXl (xs x0 0 (K2 (bO r n) 1 4)) k) (dJp r n)
theorem dKa : D20 r n cAh x0 (K2 (bO r n) 1 4) = (K4 (bFk r n) 1 3 4 13) :=
 (by kernel_rfl : D20 r n cAh x0 (K2 (bO r n) 1 4) = D20 r n bBs (xs x0 0 (K2 (bO r n) 1 4)) (K2 (bO r n) 1 4)).trans
 ((cSg r n).trans
 ((by kernel_rfl)))
theorem cHy : D20 r n aXg x0 r20 = D20 r n aQj x0 (K2 (bO r n) 1 4) :=
 congrArg (fun k => D20 r n aQj x0 k) (dKw r n)
theorem bYv : D20 r n aQj x0 (K2 (bO r n) 1 4) = D20 r n bQs x0 (K4 (bFk r n) 1 3 4 13) :=
 congrArg (fun k => D20 r n bQs x0 k) (dKa r n)
theorem dFb : D20 r n aXg x0 r20 = (K3 (aXc r n) 1 3 4) :=
 (cHy r n).trans
 ((bYv r n).trans
 ((by kernel_rfl)))
theorem cCd : D20 r n aXm x0 r20 = D20 r n bSz x0 (K3 (aXc r n) 1 3 4) :=
 congrArg (fun k => D20 r n bSz x0 k) (dFb r n)
theorem dHn : D20 r n aXm x0 r20 = (K2 (bIe r n) 1 3) :=
 (cCd r n).trans
 ((by kernel_rfl))
theorem bRt : D20 r n aYw x0 r20 = D20 r n bSf x0 (K2 (bIe r n) 1 3) :=
 congrArg (fun k => D20 r n bSf x0 k) (dHn r n)
theorem dGt : D20 r n aYw x0 r20 = (K1 (bDt r n) 1) :=
 (bRt r n).trans
 ((by kernel_rfl))
theorem dDg : D20 r n c20 x0 r20 = D20 r n bQw x0 (K1 (bDt r n) 1) :=
 congrArg (fun k => D20 r n bQw x0 k) (dGt r n)
theorem dXk : D20 r n c20 x0 r20 = (K1 (s20 r n) 0) :=
 (dDg r n).trans
 ((by kernel_rfl))
theorem dRc : aL CF r n 20 args h = s20 r n (aS args 0) h :=
 dI (dXk r n) args h (by kernel_rfl) (by kernel_rfl)
def bAw (r : RT) (n : Nat) (x1 x3 : DV) (h0 : Hp) : aF :=
 bnd (aA 5 x1 h0) fun v1 h1 =>
 bnd (aB v1 h1) fun v2 h2 =>
 bnd (r 35 [v2, (.s [46, 32]), (.f 36 [] [])] h2) fun v3 h3 =>
 bnd (aN [(.s []), (.s [])] 2 [(0, 1, x3), (1, 1, v3)] h3) fun v4 h4 =>
 bnd (r 19 [v4] h4) fun v5 h5 =>
 some (v5, h5)
def cWn (r : RT) (n : Nat) (x1 x3 : DV) (h0 : Hp) : aF :=
 bnd (aA 4 x1 h0) fun v1 h1 =>
 bnd (aB v1 h1) fun v2 h2 =>
 bnd (dG v2 h2) fun v3 h3 =>
 bnd (aH .gtr v3 (aG 0) h3) fun v4 h4 =>
 aV v4 (
 bnd (aA 4 x1 h4) fun v5 h5 =>
 bnd (aB v5 h5) fun v6 h6 =>
 bnd (mQ [v6, (.s [32])] h6) fun v7 h7 =>
 bnd (aN [(.s []), (.s []), (.s [])] 3 [(0, 1, (.s [124, 32])), (1, 1, v7), (2, 1, (.s [32, 124, 32]))] h7) fun v8 h8 =>
 bnd (r 19 [v8] h8) fun v9 h9 =>
  bAw r n x1 v9 h9) (
  bAw r n x1 x3 h4)
def cZq (r : RT) (n : Nat) (x1 : DV) (h0 : Hp) : aF :=
 cWn r n x1 (.s []) h0
def s21 (r : RT) (n : Nat) (x0 : DV) (h0 : Hp) : aF :=
 bnd (eR x0 h0) fun v1 h1 =>
  cZq r n v1 h1
abbrev c21 : Code := cf Tryz.f21
abbrev r21 : K := bF CF Tryz.f21
def D21 (r : RT) (n : Nat) (c : Code) (X : Nat → K) (k : K) : K := aR CF r 19 n c X r21 k
theorem dXm : D21 r n c21 x0 r21 = (K1 (s21 r n) 0) := by kernel_rfl
theorem dTh : aL CF r n 21 args h = s21 r n (aS args 0) h :=
 dI (dXm r n) args h (by kernel_rfl) (by kernel_rfl)
def s22 (r : RT) (n : Nat) (x0 x1 x2 x3 : DV) (h0 : Hp) : aF :=
 bnd (eR x1 h0) fun v1 h1 =>
 bnd (eR x2 h1) fun v2 h2 =>
 bnd (aH .neq x3 (aG 0) h2) fun v3 h3 =>
 bnd (gD v3 false (aD 6 v1 h3) h3) fun v4 h4 =>
 bnd (gD v3 false (aD 6 v2 h4) h4) fun v5 h5 =>
 bnd (gD v3 false (r 37 [v4, v5] h5) h5) fun v6 h6 =>
 bnd (gD v3 false (lS .not v6 h6) h6) fun v7 h7 =>
 bnd (bA v3 (.b true) v7 h7) fun v8 h8 =>
 aV v8 (
 some (.t [(.s []), (aG 1)], h8)) (
 some (.t [x0, (aG 0)], h8))
abbrev c22 : Code := cf Tryz.f22
abbrev r22 : K := bF CF Tryz.f22
def D22 (r : RT) (n : Nat) (c : Code) (X : Nat → K) (k : K) : K := aR CF r 19 n c X r22 k
theorem dXn : D22 r n c22 x0 r22 = (K4 (s22 r n) 0 1 2 3) :=
 (by kernel_rfl)
theorem dSr : aL CF r n 22 args h = s22 r n (aS args 0) (aS args 1) (aS args 2) (aS args 3) h :=
 dI (dXn r n) args h (by kernel_rfl) (by kernel_rfl)
def kF (r : RT) (n : Nat) (x1 x3 : DV) (h0 : Hp) : aF :=
 bnd (aA 5 x1 h0) fun v1 h1 =>
 bnd (aB v1 h1) fun v2 h2 =>
 bnd (r 38 [v2, (.s [46, 32])] h2) fun v3 h3 =>
 bnd (cB .add x3 v3 h3) fun v4 h4 =>
 some (v4, h4)
def gQ (r : RT) (n : Nat) (x1 x3 : DV) (h0 : Hp) : aF :=
 bnd (cB .add x3 (.s [124, 32]) h0) fun v1 h1 =>
  kF r n x1 v1 h1
def vO (r : RT) (n : Nat) (kk9 : cZ) (x1 x3 x4 : DV) (h0 : Hp) : aF :=
 bnd (aA 4 x1 h0) fun v1 h1 =>
 bnd (aB v1 h1) fun v2 h2 =>
 bnd (dG v2 h2) fun v3 h3 =>
 bnd (aH .lss x4 v3 h3) fun v4 h4 =>
 aV v4 (
 bnd (aA 4 x1 h4) fun v5 h5 =>
 bnd (aB v5 h5) fun v6 h6 =>
 bnd (aO 1 v6 x4 h6) fun v7 h7 =>
 bnd (aB v7 h7) fun v8 h8 =>
 bnd (cB .add x3 v8 h8) fun v9 h9 =>
 bnd (cB .add v9 (.s [32]) h9) fun v10 h10 =>
 bnd (aH .add x4 (aG 1) h10) fun v11 h11 =>
      kk9 x1 v10 v11 h11) (
      gQ r n x1 x3 h4)
def oF (r : RT) (n : Nat) (m : Nat) : cZ :=
 Nat.rec (motive := fun _ => cZ) (fun _ _ _ _ => none) (fun _ ih => vO r n ih) m
def bVu (r : RT) (n : Nat) : cZ := oF r n n
def bFg (r : RT) (n : Nat) (x1 x3 x4 : DV) (h0 : Hp) : aF :=
 bVu r n x1 x3 x4 h0
def bEe (r : RT) (n : Nat) (x1 x3 : DV) (h0 : Hp) : aF :=
 bFg r n x1 x3 (aG 0) h0
def bWt (r : RT) (n : Nat) (x1 : DV) (h0 : Hp) : aF :=
 bEe r n x1 (.s [124, 32]) h0
def aXx (r : RT) (n : Nat) (x1 x3 x8 : DV) (h0 : Hp) : aF :=
 aV x8 (
  bWt r n x1 h0) (
  kF r n x1 x3 h0)
def bHc (r : RT) (n : Nat) (x1 x3 : DV) (h0 : Hp) : aF :=
 bnd (aA 4 x1 h0) fun v1 h1 =>
 bnd (aB v1 h1) fun v2 h2 =>
 bnd (dG v2 h2) fun v3 h3 =>
 bnd (aH .gtr v3 (aG 0) h3) fun v4 h4 =>
  aXx r n x1 x3 v4 h4
def bAp (r : RT) (n : Nat) (x1 : DV) (h0 : Hp) : aF :=
 bHc r n x1 (.s []) h0
def s23 (r : RT) (n : Nat) (x0 : DV) (h0 : Hp) : aF :=
 bnd (eR x0 h0) fun v1 h1 =>
  bAp r n v1 h1
abbrev c23 : Code := cf Tryz.f23
abbrev bFv := cR c23
abbrev aXd := cR bFv
abbrev dPz := cR aXd
abbrev aOf := cL aXd
abbrev aSq := cR aOf
abbrev aRw := cL aSq
abbrev aYp := cR aRw
abbrev dOz := cR aYp
abbrev aSh := cL aYp
abbrev aTe := cR aSh
abbrev aHp := cL aTe
abbrev sP := cL aHp
abbrev bXo := cL aSh
abbrev bZy := cL aRw
abbrev dDb := cR aSq
abbrev cBp := cL aOf
abbrev cBa := cL bFv
abbrev bWr := cL c23
abbrev r23 : K := bF CF Tryz.f23
def D23 (r : RT) (n : Nat) (c : Code) (X : Nat → K) (k : K) : K := aR CF r 31 n c X r23 k
theorem dKd : D23 r n dPz x0 r23 = (K2 (kF r n) 1 3) := by kernel_rfl
theorem dCy : D23 r n dOz x0 (K2 (kF r n) 1 3) = (K2 (gQ r n) 1 3) := by kernel_rfl
theorem cWd (kk9 : cZ) : D23 r n sP (xs x0 0 (K2 (gQ r n) 1 3)) (K3 kk9 1 3 4) = (K3 (vO r n kk9) 1 3 4) := by kernel_rfl
theorem cJa (m : Nat) : aE (fun kk => D23 r n sP (xs x0 0 (K2 (gQ r n) 1 3)) kk) m = (K3 (oF r n m) 1 3 4) := by
 induction m with
 | zero => exact (by kernel_rfl : aE (fun kk => D23 r n sP (xs x0 0 (K2 (gQ r n) 1 3)) kk) 0 = (K3 (oF r n 0) 1 3 4))
 | succ m ih =>
  refine (by kernel_rfl : aE (fun kk => D23 r n sP (xs x0 0 (K2 (gQ r n) 1 3)) kk) (m + 1) = D23 r n sP (xs x0 0 (K2 (gQ r n) 1 3)) (aE (fun kk => D23 r n sP (xs x0 0 (K2 (gQ r n) 1 3)) kk) m)).trans ?_
  rw [ih]
  exact (cWd r n (oF r n m)).trans (by kernel_rfl)
theorem dNj : D23 r n aHp (xs x0 0 (K2 (gQ r n) 1 3)) (K2 (gQ r n) 1 3) = (K3 (bVu r n) 1 3 4) :=
 (by kernel_rfl : D23 r n aHp (xs x0 0 (K2 (gQ r n) 1 3)) (K2 (gQ r n) 1 3) = aE (fun kk => D23 r n sP (xs x0 0 (K2 (gQ r n) 1 3)) kk) n).trans ((cJa r n n).trans (by kernel_rfl))
theorem dCm : D23 r n aTe x0 (K2 (gQ r n) 1 3) = (K3 (bFg r n) 1 3 4) :=
 (by kernel_rfl : D23 r n aTe x0 (K2 (gQ r n) 1 3) = D23 r n aHp (xs x0 0 (K2 (gQ r n) 1 3)) (K2 (gQ r n) 1 3)).trans
 ((dNj r n).trans (by kernel_rfl))
theorem cOp : D23 r n aYp x0 (K2 (kF r n) 1 3) = D23 r n aSh x0 (K2 (gQ r n) 1 3) :=
 congrArg (fun k => D23 r n aSh x0 k) (dCy r n)
theorem cGx : D23 r n aSh x0 (K2 (gQ r n) 1 3) = D23 r n bXo x0 (K3 (bFg r n) 1 3 4) :=
 congrArg (fun k => D23 r n bXo x0 k) (dCm r n)
theorem dOi : D23 r n aYp x0 (K2 (kF r n) 1 3) = (K2 (bEe r n) 1 3) :=
 (cOp r n).trans
 ((cGx r n).trans
 ((by kernel_rfl)))
theorem cSf : D23 r n aRw x0 (K2 (kF r n) 1 3) = D23 r n bZy x0 (K2 (bEe r n) 1 3) :=
 congrArg (fun k => D23 r n bZy x0 k) (dOi r n)
theorem dIo : D23 r n aRw x0 (K2 (kF r n) 1 3) = (K1 (bWt r n) 1) :=
 (cSf r n).trans
 ((by kernel_rfl))
theorem dAp : D23 r n aSq x0 (K2 (kF r n) 1 3) = (K3 (aXx r n) 1 3 8) :=
 (by kernel_rfl : D23 r n aSq x0 (K2 (kF r n) 1 3) = (fun (env : eJ) (h : Hp) => aV (opr env (cC aSq)) (D23 r n aRw x0 (K2 (kF r n) 1 3) env h) (D23 r n dDb x0 (K2 (kF r n) 1 3) env h))).trans (by rw [dIo r n]; kernel_rfl)
theorem cUs : D23 r n aXd x0 r23 = D23 r n aOf x0 (K2 (kF r n) 1 3) :=
 congrArg (fun k => D23 r n aOf x0 k) (dKd r n)
theorem cLe : D23 r n aOf x0 (K2 (kF r n) 1 3) = D23 r n cBp x0 (K3 (aXx r n) 1 3 8) :=
 congrArg (fun k => D23 r n cBp x0 k) (dAp r n)
theorem dJm : D23 r n aXd x0 r23 = (K2 (bHc r n) 1 3) :=
 (cUs r n).trans
 ((cLe r n).trans
 ((by kernel_rfl)))
theorem cVz : D23 r n bFv x0 r23 = D23 r n cBa x0 (K2 (bHc r n) 1 3) :=
 congrArg (fun k => D23 r n cBa x0 k) (dJm r n)
theorem dHp : D23 r n bFv x0 r23 = (K1 (bAp r n) 1) :=
 (cVz r n).trans
 ((by kernel_rfl))
theorem dVq : D23 r n c23 x0 r23 = D23 r n bWr x0 (K1 (bAp r n) 1) :=
 congrArg (fun k => D23 r n bWr x0 k) (dHp r n)
theorem eAm : D23 r n c23 x0 r23 = (K1 (s23 r n) 0) :=
 (dVq r n).trans
 ((by kernel_rfl))
theorem dVm : aL CF r n 23 args h = s23 r n (aS args 0) h :=
 dI (eAm r n) args h (by kernel_rfl) (by kernel_rfl)
def bAu (r : RT) (n : Nat) (x3 : DV) (h0 : Hp) : aF :=
 bnd (cB .add x3 (.s [32]) h0) fun v1 h1 =>
 some (v1, h1)
def dR (r : RT) (n : Nat) (x1 x3 : DV) (h0 : Hp) : aF :=
 bnd (aA 2 x1 h0) fun v1 h1 =>
 bnd (aB v1 h1) fun v2 h2 =>
 bnd (aH .neq v2 (aG 0) h2) fun v3 h3 =>
 aV v3 (
 bnd (cB .add x3 (.s [32, 60, 112, 114, 105, 109, 105, 116, 105, 118, 101, 58, 32]) h3) fun v4 h4 =>
 bnd (aA 2 x1 h4) fun v5 h5 =>
 bnd (aB v5 h5) fun v6 h6 =>
 bnd (r 42 [v6] h6) fun v7 h7 =>
 bnd (cB .add v4 v7 h7) fun v8 h8 =>
 bnd (cB .add v8 (.s [62]) h8) fun v9 h9 =>
  bAu r n v9 h9) (
  bAu r n x3 h3)
def bPc (r : RT) (n : Nat) (kk11 : gO) (x1 x3 x4 x5 : DV) (h0 : Hp) : aF :=
 bnd (aH .add x5 (aG 1) h0) fun v1 h1 =>
  kk11 x1 x3 x4 v1 h1
def aNx (r : RT) (n : Nat) (kk11 : gO) (x1 x3 x4 x5 : DV) (h0 : Hp) : aF :=
 bnd (aO 1 x4 x5 h0) fun v1 h1 =>
 bnd (aB v1 h1) fun v2 h2 =>
 bnd (cB .add x3 v2 h2) fun v3 h3 =>
 bnd (cB .add v3 (.s [32]) h3) fun v4 h4 =>
 bnd (aD 6 x1 h4) fun v5 h5 =>
 bnd (r 40 [v5, x5] h5) fun v6 h6 =>
 cnd (bM (aB v1 h6) v2 && true) (
 bnd (cB .add v4 v6 h6) fun v7 h7 =>
  bPc r n kk11 x1 v7 x4 x5 h7)
def bWm (r : RT) (n : Nat) (kk11 : gO) (x1 x3 x4 x5 : DV) (h0 : Hp) : aF :=
 bnd (aH .gtr x5 (aG 0) h0) fun v1 h1 =>
 aV v1 (
 bnd (cB .add x3 (.s [32]) h1) fun v2 h2 =>
  aNx r n kk11 x1 v2 x4 x5 h2) (
  aNx r n kk11 x1 x3 x4 x5 h1)
def qC (r : RT) (n : Nat) (kk11 : gO) (x1 x3 x4 x5 : DV) (h0 : Hp) : aF :=
 bnd (dG x4 h0) fun v1 h1 =>
 bnd (aH .lss x5 v1 h1) fun v2 h2 =>
 aV v2 (
  bWm r n kk11 x1 x3 x4 x5 h2) (
  dR r n x1 x3 h2)
def jN (r : RT) (n : Nat) (m : Nat) : gO :=
 Nat.rec (motive := fun _ => gO) (fun _ _ _ _ _ => none) (fun _ ih => qC r n ih) m
def aTj (r : RT) (n : Nat) : gO := jN r n n
def aKu (r : RT) (n : Nat) (x1 x3 x4 x5 : DV) (h0 : Hp) : aF :=
 aTj r n x1 x3 x4 x5 h0
def bFl (r : RT) (n : Nat) (x1 x3 x4 : DV) (h0 : Hp) : aF :=
 aKu r n x1 x3 x4 (aG 0) h0
def bBk (r : RT) (n : Nat) (x1 x3 : DV) (h0 : Hp) : aF :=
 bnd (aA 1 x1 h0) fun v1 h1 =>
 bnd (aB v1 h1) fun v2 h2 =>
 bnd (r 41 [v2] h2) fun v3 h3 =>
  bFl r n x1 x3 v3 h3
def cAu (r : RT) (n : Nat) (x1 : DV) (h0 : Hp) : aF :=
 bBk r n x1 (.s []) h0
def aOe (r : RT) (n : Nat) (x1 x3 x21 : DV) (h0 : Hp) : aF :=
 aV x21 (
  cAu r n x1 h0) (
  dR r n x1 x3 h0)
def aEn (r : RT) (n : Nat) (x1 x3 : DV) (h0 : Hp) : aF :=
 bnd (aA 1 x1 h0) fun v1 h1 =>
 bnd (aB v1 h1) fun v2 h2 =>
 bnd (r 39 [v2] h2) fun v3 h3 =>
 bnd (aH .eql v3 (aG 3) h3) fun v4 h4 =>
  aOe r n x1 x3 v4 h4
def bDc (r : RT) (n : Nat) (x1 x3 : DV) (h0 : Hp) : aF :=
 bnd (aA 1 x1 h0) fun v1 h1 =>
 bnd (aB v1 h1) fun v2 h2 =>
 bnd (r 39 [v2] h2) fun v3 h3 =>
 bnd (aH .eql v3 (aG 2) h3) fun v4 h4 =>
 aV v4 (
 bnd (aA 1 x1 h4) fun v5 h5 =>
 bnd (aB v5 h5) fun v6 h6 =>
 bnd (cB .add v6 (.s [32]) h6) fun v7 h7 =>
 bnd (aD 6 x1 h7) fun v8 h8 =>
 bnd (r 40 [v8, (aG 0)] h8) fun v9 h9 =>
 cnd (bM (aB v5 h9) v6 && true) (
 bnd (cB .add v7 v9 h9) fun v10 h10 =>
  aEn r n x1 v10 h10)) (
  aEn r n x1 x3 h4)
def bHl (r : RT) (n : Nat) (x1 : DV) (h0 : Hp) : aF :=
 bnd (aA 1 x1 h0) fun v1 h1 =>
 bnd (aB v1 h1) fun v2 h2 =>
  bDc r n x1 v2 h2
def s24 (r : RT) (n : Nat) (x0 : DV) (h0 : Hp) : aF :=
 bnd (eR x0 h0) fun v1 h1 =>
  bHl r n v1 h1
abbrev c24 : Code := cf Tryz.f24
abbrev bHt := cR c24
abbrev aXw := cR bHt
abbrev bHn := cR aXw
abbrev dTt := cR bHn
abbrev aPa := cL bHn
abbrev aSe := cR aPa
abbrev aSo := cL aSe
abbrev aJv := cR aSo
abbrev aKb := cR aJv
abbrev aTn := cR aKb
abbrev aHo := cL aTn
abbrev sB := cL aHo
abbrev bTn := cL aKb
abbrev bPd := cL aJv
abbrev cEv := cL aSo
abbrev dIc := cR aSe
abbrev bRo := cL aPa
abbrev bUl := cL aXw
abbrev bLs := cL bHt
abbrev bYc := cL c24
abbrev r24 : K := bF CF Tryz.f24
def D24 (r : RT) (n : Nat) (c : Code) (X : Nat → K) (k : K) : K := aR CF r 58 n c X r24 k
theorem dKv : D24 r n dTt x0 r24 = (K2 (dR r n) 1 3) := by kernel_rfl
theorem bZm (kk11 : gO) : D24 r n sB (xs x0 0 (K2 (dR r n) 1 3)) (K4 kk11 1 3 4 5) = (K4 (qC r n kk11) 1 3 4 5) := by kernel_rfl
theorem bNe (m : Nat) : aE (fun kk => D24 r n sB (xs x0 0 (K2 (dR r n) 1 3)) kk) m = (K4 (jN r n m) 1 3 4 5) := by
 induction m with
 | zero => exact (by kernel_rfl : aE (fun kk => D24 r n sB (xs x0 0 (K2 (dR r n) 1 3)) kk) 0 = (K4 (jN r n 0) 1 3 4 5))
 | succ m ih =>
  refine (by kernel_rfl : aE (fun kk => D24 r n sB (xs x0 0 (K2 (dR r n) 1 3)) kk) (m + 1) = D24 r n sB (xs x0 0 (K2 (dR r n) 1 3)) (aE (fun kk => D24 r n sB (xs x0 0 (K2 (dR r n) 1 3)) kk) m)).trans ?_
  rw [ih]
  exact (bZm r n (jN r n m)).trans (by kernel_rfl)
theorem cMm : D24 r n aHo (xs x0 0 (K2 (dR r n) 1 3)) (K2 (dR r n) 1 3) = (K4 (aTj r n) 1 3 4 5) :=
 (by kernel_rfl : D24 r n aHo (xs x0 0 (K2 (dR r n) 1 3)) (K2 (dR r n) 1 3) = aE (fun kk => D24 r n sB (xs x0 0 (K2 (dR r n) 1 3)) kk) n).trans ((bNe r n n).trans (by kernel_rfl))
theorem cHk : D24 r n aTn x0 (K2 (dR r n) 1 3) = (K4 (aKu r n) 1 3 4 5) :=
 (by kernel_rfl : D24 r n aTn x0 (K2 (dR r n) 1 3) = D24 r n aHo (xs x0 0 (K2 (dR r n) 1 3)) (K2 (dR r n) 1 3)).trans
 ((cMm r n).trans (by kernel_rfl))
theorem cSm : D24 r n aKb x0 (K2 (dR r n) 1 3) = D24 r n bTn x0 (K4 (aKu r n) 1 3 4 5) :=
 congrArg (fun k => D24 r n bTn x0 k) (cHk r n)
theorem dLm : D24 r n aKb x0 (K2 (dR r n) 1 3) = (K3 (bFl r n) 1 3 4) :=
 (cSm r n).trans
 ((by kernel_rfl))
theorem cLp : D24 r n aJv x0 (K2 (dR r n) 1 3) = D24 r n bPd x0 (K3 (bFl r n) 1 3 4) :=
 congrArg (fun k => D24 r n bPd x0 k) (dLm r n)
theorem dGx : D24 r n aJv x0 (K2 (dR r n) 1 3) = (K2 (bBk r n) 1 3) :=
 (cLp r n).trans
 ((by kernel_rfl))
theorem cUm : D24 r n aSo x0 (K2 (dR r n) 1 3) = D24 r n cEv x0 (K2 (bBk r n) 1 3) :=
 congrArg (fun k => D24 r n cEv x0 k) (dGx r n)
theorem dIv : D24 r n aSo x0 (K2 (dR r n) 1 3) = (K1 (cAu r n) 1) :=
 (cUm r n).trans
 ((by kernel_rfl))
theorem dBc : D24 r n aSe x0 (K2 (dR r n) 1 3) = (K3 (aOe r n) 1 3 21) :=
 (by kernel_rfl : D24 r n aSe x0 (K2 (dR r n) 1 3) = (fun (env : eJ) (h : Hp) => aV (opr env (cC aSe)) (D24 r n aSo x0 (K2 (dR r n) 1 3) env h) (D24 r n dIc x0 (K2 (dR r n) 1 3) env h))).trans (by rw [dIv r n]; kernel_rfl)
theorem cMx : D24 r n bHn x0 r24 = D24 r n aPa x0 (K2 (dR r n) 1 3) :=
 congrArg (fun k => D24 r n aPa x0 k) (dKv r n)
theorem cJl : D24 r n aPa x0 (K2 (dR r n) 1 3) = D24 r n bRo x0 (K3 (aOe r n) 1 3 21) :=
 congrArg (fun k => D24 r n bRo x0 k) (dBc r n)
theorem dGg : D24 r n bHn x0 r24 = (K2 (aEn r n) 1 3) :=
 (cMx r n).trans
 ((cJl r n).trans
 ((by kernel_rfl)))
theorem bVp : D24 r n aXw x0 r24 = D24 r n bUl x0 (K2 (aEn r n) 1 3) :=
 congrArg (fun k => D24 r n bUl x0 k) (dGg r n)
theorem dFw : D24 r n aXw x0 r24 = (K2 (bDc r n) 1 3) :=
 (bVp r n).trans
 ((by kernel_rfl))
theorem cFu : D24 r n bHt x0 r24 = D24 r n bLs x0 (K2 (bDc r n) 1 3) :=
 congrArg (fun k => D24 r n bLs x0 k) (dFw r n)
theorem dGz : D24 r n bHt x0 r24 = (K1 (bHl r n) 1) :=
 (cFu r n).trans
 ((by kernel_rfl))
theorem dCk : D24 r n c24 x0 r24 = D24 r n bYc x0 (K1 (bHl r n) 1) :=
 congrArg (fun k => D24 r n bYc x0 k) (dGz r n)
theorem eAh : D24 r n c24 x0 r24 = (K1 (s24 r n) 0) :=
 (dCk r n).trans
 ((by kernel_rfl))
theorem dUs : aL CF r n 24 args h = s24 r n (aS args 0) h :=
 dI (eAh r n) args h (by kernel_rfl) (by kernel_rfl)
end
end Go.Dd

namespace Go.Dd
open Go.Proofs
noncomputable section
variable (r : RT) (n : Nat) (args : List DV) (h : Hp)
def bAn (r : RT) (n : Nat) (x4 x10 x11 : DV) (h0 : Hp) : aF :=
 bnd (r 45 [x10] h0) fun v1 h1 =>
 bnd (aA 4 x11 h1) fun v2 h2 =>
 bnd (aC 1 v2 v1 h2) fun _ h3 =>
 bnd (r 46 [x10] h3) fun v4 h4 =>
 bnd (aA 5 x11 h4) fun v5 h5 =>
 bnd (aC 1 v5 v4 h5) fun _ h6 =>
 bnd (r 47 [x10, (aG 0), (.s [])] h6) fun v7 h7 =>
 bnd (bI x10 h7) fun v8 h8 =>
 bnd (aA 3 v8 h8) fun v9 h9 =>
 bnd (aB v9 h9) fun v10 h10 =>
 bnd (aH .neq v10 (aG 0) h10) fun v11 h11 =>
 aV v11 (
 bnd (bC cY [] h11) fun v12 h12 =>
 bnd (bI x10 h12) fun v13 h13 =>
 bnd (aA 4 v13 h13) fun v14 h14 =>
 bnd (aB v14 h14) fun v15 h15 =>
 bnd (bI x10 h15) fun v16 h16 =>
 bnd (aA 3 v16 h16) fun v17 h17 =>
 bnd (aB v17 h17) fun v18 h18 =>
 bnd (aC 6 x4 v12 h18) fun v19 h19 =>
 cnd (bM (aB v17 h19) v18 && (bM (aB v14 h19) v15 && true)) (
 bnd (aD 6 x4 h19) fun v20 _ =>
 some (.t [v20, v15, v18], h19))) (
 bnd (aD 6 x11 h11) fun v21 h21 =>
 bnd (aC 6 x4 v21 h21) fun _ h22 =>
 bnd (aD 6 x4 h22) fun v23 _ =>
 some (.t [v23, (aG 0), (aG 0)], h22))
def cZf (r : RT) (n : Nat) (x1 x4 x10 x11 : DV) (h0 : Hp) : aF :=
 aV x1 (
 bnd (r 44 [x10] h0) fun v1 h1 =>
 bnd (aC 6 x11 v1 h1) fun _ h2 =>
  bAn r n x4 x10 x11 h2) (
  bAn r n x4 x10 x11 h0)
def cZj (r : RT) (n : Nat) (x1 x4 x10 : DV) (h0 : Hp) : aF :=
 bnd (bC cY [(0, 1, (aG 11)), (1, 1, (.s [100, 111, 73, 116]))] h0) fun v1 h1 =>
 bnd (bL cY h1) fun v2 h2 =>
 bnd (aC 6 v2 v1 h2) fun _ h3 =>
  cZf r n x1 x4 x10 v2 h3
def cXu (r : RT) (n : Nat) (x1 x4 x7 : DV) (h0 : Hp) : aF :=
 bnd (bC [.l0, (aG 0), (aG 0), (aG 0), (aG 0)] [(0, 1, x7)] h0) fun v1 h1 =>
 bnd (eR v1 h1) fun v2 h2 =>
  cZj r n x1 x4 v2 h2
def cXe (r : RT) (n : Nat) (x1 x4 x7 x8 x9 : DV) (h0 : Hp) : aF :=
 bnd (aH .neq x9 (aG 0) h0) fun v1 h1 =>
 aV v1 (
 bnd (bC cY [] h1) fun v2 h2 =>
 bnd (aC 6 x4 v2 h2) fun _ h3 =>
 bnd (aD 6 x4 h3) fun v4 _ =>
 some (.t [v4, x8, x9], h3)) (
  cXu r n x1 x4 x7 h1)
def cYg (r : RT) (n : Nat) (x0 x1 x4 : DV) (h0 : Hp) : aF :=
 bnd (r 43 [x0] h0) fun v1 h1 =>
 bnd (aP 0 v1 h1) fun v2 h2 =>
 bnd (aP 1 v1 h2) fun v3 h3 =>
 bnd (aP 2 v1 h3) fun v4 h4 =>
  cXe r n x1 x4 v2 v3 v4 h4
def s25 (r : RT) (n : Nat) (x0 x1 : DV) (h0 : Hp) : aF :=
 bnd (bL cY h0) fun v1 h1 =>
  cYg r n x0 x1 v1 h1
abbrev c25 : Code := cf Tryz.f25
abbrev r25 : K := bF CF Tryz.f25
def D25 (r : RT) (n : Nat) (c : Code) (X : Nat → K) (k : K) : K := aR CF r 53 n c X r25 k
theorem dYu : D25 r n c25 x0 r25 = (K2 (s25 r n) 0 1) := by kernel_rfl
theorem dQw : aL CF r n 25 args h = s25 r n (aS args 0) (aS args 1) h :=
 dI (dYu r n) args h (by kernel_rfl) (by kernel_rfl)
def s26 (r : RT) (n : Nat) (x0 x1 : DV) (h0 : Hp) : aF :=
 bnd (bL cY h0) fun v1 h1 =>
 bnd (r 48 [x0] h1) fun v2 h2 =>
 bnd (aP 0 v2 h2) fun v3 h3 =>
 bnd (aP 1 v2 h3) fun v4 h4 =>
 bnd (aP 2 v2 h4) fun v5 h5 =>
 bnd (aH .neq v5 (aG 0) h5) fun v6 h6 =>
 aV v6 (
 bnd (bC cY [] h6) fun v7 h7 =>
 bnd (aC 6 v1 v7 h7) fun _ h8 =>
 bnd (aD 6 v1 h8) fun v9 _ =>
 some (.t [v9, v4, v5], h8)) (
 bnd (bC [.l0, (aG 0), (aG 0), (aG 0)] [(0, 1, v3)] h6) fun v10 h10 =>
 bnd (eR v10 h10) fun v11 h11 =>
 bnd (eA CF r x1 [v11] h11) fun v12 h12 =>
 bnd (bL cY h12) fun v13 h13 =>
 bnd (aC 6 v13 v12 h13) fun _ h14 =>
 bnd (r 49 [v11] h14) fun v15 h15 =>
 bnd (aA 4 v13 h15) fun v16 h16 =>
 bnd (aC 1 v16 v15 h16) fun _ h17 =>
 bnd (r 50 [v11] h17) fun v18 h18 =>
 bnd (aA 5 v13 h18) fun v19 h19 =>
 bnd (aC 1 v19 v18 h19) fun _ h20 =>
 bnd (r 51 [v11, (aG 0), (.s [])] h20) fun v21 h21 =>
 bnd (bI v11 h21) fun v22 h22 =>
 bnd (aA 3 v22 h22) fun v23 h23 =>
 bnd (aB v23 h23) fun v24 h24 =>
 bnd (aH .neq v24 (aG 0) h24) fun v25 h25 =>
 aV v25 (
 bnd (bC cY [] h25) fun v26 h26 =>
 bnd (bI v11 h26) fun v27 h27 =>
 bnd (aA 2 v27 h27) fun v28 h28 =>
 bnd (aB v28 h28) fun v29 h29 =>
 bnd (bI v11 h29) fun v30 h30 =>
 bnd (aA 3 v30 h30) fun v31 h31 =>
 bnd (aB v31 h31) fun v32 h32 =>
 bnd (aC 6 v1 v26 h32) fun v33 h33 =>
 cnd (bM (aB v31 h33) v32 && (bM (aB v28 h33) v29 && true)) (
 bnd (aD 6 v1 h33) fun v34 _ =>
 some (.t [v34, v29, v32], h33))) (
 bnd (aD 6 v13 h25) fun v35 h35 =>
 bnd (aC 6 v1 v35 h35) fun _ h36 =>
 bnd (aD 6 v1 h36) fun v37 _ =>
 some (.t [v37, (aG 0), (aG 0)], h36)))
abbrev c26 : Code := cf Tryz.f26
abbrev r26 : K := bF CF Tryz.f26
def D26 (r : RT) (n : Nat) (c : Code) (X : Nat → K) (k : K) : K := aR CF r 52 n c X r26 k
theorem dYs : D26 r n c26 x0 r26 = (K2 (s26 r n) 0 1) :=
 (by kernel_rfl)
theorem dRr : aL CF r n 26 args h = s26 r n (aS args 0) (aS args 1) h :=
 dI (dYs r n) args h (by kernel_rfl) (by kernel_rfl)
def hZ (r : RT) (n : Nat) (h0 : Hp) : aF :=
 some ((.b true), h0)
def vV (r : RT) (n : Nat) (kk5 : cZ) (x0 x1 x5 : DV) (h0 : Hp) : aF :=
 bnd (dG x0 h0) fun v1 h1 =>
 bnd (aH .lss x5 v1 h1) fun v2 h2 =>
 aV v2 (
 bnd (aO 1 x0 x5 h2) fun v3 h3 =>
 bnd (aB v3 h3) fun v4 h4 =>
 bnd (aO 1 x1 x5 h4) fun v5 h5 =>
 bnd (aB v5 h5) fun v6 h6 =>
 bnd (cB .neq v4 v6 h6) fun v7 h7 =>
 aV v7 (
 some ((.b false), h7)) (
 bnd (aH .add x5 (aG 1) h7) fun v8 h8 =>
  kk5 x0 x1 v8 h8)) (
      hZ r n h2)
def nP (r : RT) (n : Nat) (m : Nat) : cZ :=
 Nat.rec (motive := fun _ => cZ) (fun _ _ _ _ => none) (fun _ ih => vV r n ih) m
def cXr (r : RT) (n : Nat) : cZ := nP r n n
def bBh (r : RT) (n : Nat) (x0 x1 x5 : DV) (h0 : Hp) : aF :=
 cXr r n x0 x1 x5 h0
def bHr (r : RT) (n : Nat) (x0 x1 : DV) (h0 : Hp) : aF :=
 bBh r n x0 x1 (aG 0) h0
def aYa (r : RT) (n : Nat) (x0 x1 : DV) (h0 : Hp) : aF :=
 bnd (dG x0 h0) fun v1 h1 =>
 bnd (dG x1 h1) fun v2 h2 =>
 bnd (aH .neq v1 v2 h2) fun v3 h3 =>
 aV v3 (
 some ((.b false), h3)) (
  bHr r n x0 x1 h3)
def s28 (r : RT) (n : Nat) (x0 x1 : DV) (h0 : Hp) : aF :=
 aYa r n x0 x1 h0
abbrev c28 : Code := cf Tryz.f28
abbrev bAl := cR c28
abbrev aZb := cR bAl
abbrev dOq := cR aZb
abbrev aPo := cL aZb
abbrev bXf := cR aPo
abbrev bFu := cL bXf
abbrev aAw := cL bFu
abbrev cXg := cL aPo
abbrev cWh := cL bAl
abbrev cDs := cL c28
abbrev r28 : K := bF CF Tryz.f28
def D28 (r : RT) (n : Nat) (c : Code) (X : Nat → K) (k : K) : K := aR CF r 26 n c X r28 k
theorem dNa : D28 r n dOq x0 r28 = (K0 (hZ r n)) := by kernel_rfl
theorem cIp (kk5 : cZ) : D28 r n aAw (xs x0 0 (K0 (hZ r n))) (K3 kk5 0 1 5) = (K3 (vV r n kk5) 0 1 5) := by kernel_rfl
theorem cTv (m : Nat) : aE (fun kk => D28 r n aAw (xs x0 0 (K0 (hZ r n))) kk) m = (K3 (nP r n m) 0 1 5) := by
 induction m with
 | zero => exact (by kernel_rfl : aE (fun kk => D28 r n aAw (xs x0 0 (K0 (hZ r n))) kk) 0 = (K3 (nP r n 0) 0 1 5))
 | succ m ih =>
  refine (by kernel_rfl : aE (fun kk => D28 r n aAw (xs x0 0 (K0 (hZ r n))) kk) (m + 1) = D28 r n aAw (xs x0 0 (K0 (hZ r n))) (aE (fun kk => D28 r n aAw (xs x0 0 (K0 (hZ r n))) kk) m)).trans ?_
  rw [ih]
  exact (cIp r n (nP r n m)).trans (by kernel_rfl)
theorem dGe : D28 r n bFu (xs x0 0 (K0 (hZ r n))) (K0 (hZ r n)) = (K3 (cXr r n) 0 1 5) :=
 (by kernel_rfl : D28 r n bFu (xs x0 0 (K0 (hZ r n))) (K0 (hZ r n)) = aE (fun kk => D28 r n aAw (xs x0 0 (K0 (hZ r n))) kk) n).trans ((cTv r n n).trans (by kernel_rfl))
theorem dDe : D28 r n bXf x0 (K0 (hZ r n)) = (K3 (bBh r n) 0 1 5) :=
 (by kernel_rfl : D28 r n bXf x0 (K0 (hZ r n)) = D28 r n bFu (xs x0 0 (K0 (hZ r n))) (K0 (hZ r n))).trans
 ((dGe r n).trans (by kernel_rfl))
theorem cOo : D28 r n aZb x0 r28 = D28 r n aPo x0 (K0 (hZ r n)) :=
 congrArg (fun k => D28 r n aPo x0 k) (dNa r n)
theorem cFw : D28 r n aPo x0 (K0 (hZ r n)) = D28 r n cXg x0 (K3 (bBh r n) 0 1 5) :=
 congrArg (fun k => D28 r n cXg x0 k) (dDe r n)
theorem dDv : D28 r n aZb x0 r28 = (K2 (bHr r n) 0 1) :=
 (cOo r n).trans
 ((cFw r n).trans
 ((by kernel_rfl)))
theorem cMa : D28 r n bAl x0 r28 = D28 r n cWh x0 (K2 (bHr r n) 0 1) :=
 congrArg (fun k => D28 r n cWh x0 k) (dDv r n)
theorem dGf : D28 r n bAl x0 r28 = (K2 (aYa r n) 0 1) :=
 (cMa r n).trans
 ((by kernel_rfl))
theorem dWe : D28 r n c28 x0 r28 = D28 r n cDs x0 (K2 (aYa r n) 0 1) :=
 congrArg (fun k => D28 r n cDs x0 k) (dGf r n)
theorem dWx : D28 r n c28 x0 r28 = (K2 (s28 r n) 0 1) :=
 (dWe r n).trans
 ((by kernel_rfl))
theorem dQp : aL CF r n 28 args h = s28 r n (aS args 0) (aS args 1) h :=
 dI (dWx r n) args h (by kernel_rfl) (by kernel_rfl)
def s29 (r : RT) (n : Nat) (x0 : DV) (h0 : Hp) : aF :=
 bnd (bL cY h0) fun v1 h1 =>
 bnd (bC cY [(0, 1, (aG 11))] h1) fun v2 h2 =>
 bnd (bL cY h2) fun v3 h3 =>
 bnd (aC 6 v3 v2 h3) fun _ h4 =>
 bnd (r 52 [x0, v3] h4) fun v5 h5 =>
 bnd (r 53 [x0] h5) fun v6 h6 =>
 bnd (aA 2 v3 h6) fun v7 h7 =>
 bnd (aC 1 v7 v6 h7) fun _ h8 =>
 bnd (aD 6 v3 h8) fun v9 h9 =>
 bnd (aC 6 v1 v9 h9) fun _ h10 =>
 bnd (aD 6 v1 h10) fun v11 _ =>
 some (v11, h10)
abbrev c29 : Code := cf Tryz.f29
abbrev r29 : K := bF CF Tryz.f29
def D29 (r : RT) (n : Nat) (c : Code) (X : Nat → K) (k : K) : K := aR CF r 11 n c X r29 k
theorem dXc : D29 r n c29 x0 r29 = (K1 (s29 r n) 0) :=
 (by kernel_rfl)
theorem dTu : aL CF r n 29 args h = s29 r n (aS args 0) h :=
 dI (dXc r n) args h (by kernel_rfl) (by kernel_rfl)
def s31 (r : RT) (n : Nat) (x0 x1 : DV) (h0 : Hp) : aF :=
 bnd (aA 3 x1 h0) fun v1 h1 =>
 bnd (aB v1 h1) fun v2 h2 =>
 bnd (dG v2 h2) fun v3 h3 =>
 bnd (aH .geq x0 v3 h3) fun v4 h4 =>
 aV v4 (
 some ((.s []), h4)) (
 bnd (aA 3 x1 h4) fun v5 h5 =>
 bnd (aB v5 h5) fun v6 h6 =>
 bnd (aO 1 v6 x0 h6) fun v7 h7 =>
 bnd (aB v7 h7) fun v8 h8 =>
 some (v8, h8))
abbrev c31 : Code := cf Tryz.f31
abbrev r31 : K := bF CF Tryz.f31
def D31 (r : RT) (n : Nat) (c : Code) (X : Nat → K) (k : K) : K := aR CF r 14 n c X r31 k
theorem eAc : D31 r n c31 x0 r31 = (K2 (s31 r n) 0 1) :=
 (by kernel_rfl)
theorem dTc : aL CF r n 31 args h = s31 r n (aS args 0) (aS args 1) h :=
 dI (eAc r n) args h (by kernel_rfl) (by kernel_rfl)
def s32 (r : RT) (n : Nat) (x0 : DV) (h0 : Hp) : aF :=
 bnd (r 57 [x0, (.i .u8 (Int.ofNat 58))] h0) fun v1 h1 =>
 bnd (aH .geq v1 (aG 0) h1) fun v2 h2 =>
 aV v2 (
 some ((aG 3), h2)) (
 bnd (cB .neq x0 (.s []) h2) fun v3 h3 =>
 bnd (gD v3 true (some (x0, h3)) h3) fun v4 h4 =>
 bnd (gD v3 true (bK v4 (aG 0) h4) h4) fun v5 h5 =>
 bnd (gD v3 true (aH .geq v5 (.i .u8 (Int.ofNat 97)) h5) h5) fun v6 h6 =>
 bnd (gD v3 true (some (v6, h6)) h6) fun v7 h7 =>
 bnd (gD v7 true (some (x0, h7)) h7) fun v8 h8 =>
 bnd (gD v7 true (bK v8 (aG 0) h8) h8) fun v9 h9 =>
 bnd (gD v7 true (aH .leq v9 (.i .u8 (Int.ofNat 122)) h9) h9) fun v10 h10 =>
 bnd (gD v3 true (bA v7 v10 (.b false) h10) h10) fun v11 h11 =>
 bnd (gD v3 true (some (v11, h11)) h11) fun v12 h12 =>
 bnd (gD v12 false (some (x0, h12)) h12) fun v13 h13 =>
 bnd (gD v12 false (bK v13 (aG 0) h13) h13) fun v14 h14 =>
 bnd (gD v12 false (aH .geq v14 (.i .u8 (Int.ofNat 65)) h14) h14) fun v15 h15 =>
 bnd (gD v12 false (some (v15, h15)) h15) fun v16 h16 =>
 bnd (gD v16 true (some (x0, h16)) h16) fun v17 h17 =>
 bnd (gD v16 true (bK v17 (aG 0) h17) h17) fun v18 h18 =>
 bnd (gD v16 true (aH .leq v18 (.i .u8 (Int.ofNat 90)) h18) h18) fun v19 h19 =>
 bnd (gD v12 false (bA v16 v19 (.b false) h19) h19) fun v20 h20 =>
 bnd (gD v3 true (bA v12 (.b true) v20 h20) h20) fun v21 h21 =>
 bnd (bA v3 v21 (.b false) h21) fun v22 h22 =>
 aV v22 (
 some ((aG 1), h22)) (
 some ((aG 2), h22)))
abbrev c32 : Code := cf Tryz.f32
abbrev r32 : K := bF CF Tryz.f32
def D32 (r : RT) (n : Nat) (c : Code) (X : Nat → K) (k : K) : K := aR CF r 30 n c X r32 k
theorem dXp : D32 r n c32 x0 r32 = (K1 (s32 r n) 0) :=
 (by kernel_rfl)
theorem dTi : aL CF r n 32 args h = s32 r n (aS args 0) h :=
 dI (dXp r n) args h (by kernel_rfl) (by kernel_rfl)
def s33 (r : RT) (n : Nat) (x0 : DV) (h0 : Hp) : aF :=
 bnd (r 58 [x0, (.s [58])] h0) fun v1 h1 =>
 bnd (dG v1 h1) fun v2 h2 =>
 bnd (aH .sub v2 (aG 1) h2) fun v3 h3 =>
 bnd (dB 1 v1 none (some v3) h3) fun v4 h4 =>
 some (v4, h4)
abbrev c33 : Code := cf Tryz.f33
abbrev r33 : K := bF CF Tryz.f33
def D33 (r : RT) (n : Nat) (c : Code) (X : Nat → K) (k : K) : K := aR CF r 11 n c X r33 k
theorem dXw : D33 r n c33 x0 r33 = (K1 (s33 r n) 0) :=
 (by kernel_rfl)
theorem dPo : aL CF r n 33 args h = s33 r n (aS args 0) h :=
 dI (dXw r n) args h (by kernel_rfl) (by kernel_rfl)
def gY (r : RT) (n : Nat) (x1 x7 : DV) (h0 : Hp) : aF :=
 bnd (mQ [x7, x1] h0) fun v1 h1 =>
 some (v1, h1)
def vJ (r : RT) (n : Nat) (kk5 : TT6) (x1 x2 x7 x10 x11 x12 : DV) (h0 : Hp) : aF :=
 bnd (aH .lss x12 x11 h0) fun v1 h1 =>
 aV v1 (
 bnd (aO 6 x10 x12 h1) fun v2 h2 =>
 bnd (aD 6 v2 h2) fun v3 h3 =>
 bnd (bL cY h3) fun v4 h4 =>
 bnd (aC 6 v4 v3 h4) fun _ h5 =>
 bnd (aD 6 v4 h5) fun v6 h6 =>
 bnd (eA CF r x2 [v6] h6) fun v7 h7 =>
 bnd (aN [(.s [])] 1 [(0, 1, v7)] h7) fun v8 h8 =>
 bnd (aY 1 16 x7 v8 h8) fun v9 h9 =>
 bnd (aH .add x12 (aG 1) h9) fun v10 h10 =>
      kk5 x1 x2 v9 x10 x11 v10 h10) (
      gY r n x1 x7 h1)
def nE (r : RT) (n : Nat) (m : Nat) : TT6 :=
 Nat.rec (motive := fun _ => TT6) (fun _ _ _ _ _ _ _ => none) (fun _ ih => vJ r n ih) m
def bWn (r : RT) (n : Nat) : TT6 := nE r n n
def bFp (r : RT) (n : Nat) (x1 x2 x7 x10 x11 x12 : DV) (h0 : Hp) : aF :=
 bWn r n x1 x2 x7 x10 x11 x12 h0
def bFq (r : RT) (n : Nat) (x0 x1 x2 x7 : DV) (h0 : Hp) : aF :=
 bnd (dG x0 h0) fun v1 h1 =>
  bFp r n x1 x2 x7 x0 v1 (aG 0) h1
def aXf (r : RT) (n : Nat) (x0 x1 x2 : DV) (h0 : Hp) : aF :=
 bFq r n x0 x1 x2 .l0 h0
def s35 (r : RT) (n : Nat) (x0 x1 x2 : DV) (h0 : Hp) : aF :=
 aXf r n x0 x1 x2 h0
abbrev c35 : Code := cf Tryz.f35
abbrev bIv := cR c35
abbrev aYf := cR bIv
abbrev dOt := cR aYf
abbrev aRd := cL aYf
abbrev bQx := cR aRd
abbrev bHs := cL bQx
abbrev yQ := cL bHs
abbrev cZd := cL aRd
abbrev cYn := cL bIv
abbrev bSg := cL c35
abbrev r35 : K := bF CF Tryz.f35
def D35 (r : RT) (n : Nat) (c : Code) (X : Nat → K) (k : K) : K := aR CF r 26 n c X r35 k
theorem dHo : D35 r n dOt x0 r35 = (K2 (gY r n) 1 7) := by kernel_rfl
theorem cRa (kk5 : TT6) : D35 r n yQ (xs x0 0 (K2 (gY r n) 1 7)) (K6 kk5 1 2 7 10 11 12) = (K6 (vJ r n kk5) 1 2 7 10 11 12) := by kernel_rfl
theorem cVk (m : Nat) : aE (fun kk => D35 r n yQ (xs x0 0 (K2 (gY r n) 1 7)) kk) m = (K6 (nE r n m) 1 2 7 10 11 12) := by
 induction m with
 | zero => exact (by kernel_rfl : aE (fun kk => D35 r n yQ (xs x0 0 (K2 (gY r n) 1 7)) kk) 0 = (K6 (nE r n 0) 1 2 7 10 11 12))
 | succ m ih =>
  refine (by kernel_rfl : aE (fun kk => D35 r n yQ (xs x0 0 (K2 (gY r n) 1 7)) kk) (m + 1) = D35 r n yQ (xs x0 0 (K2 (gY r n) 1 7)) (aE (fun kk => D35 r n yQ (xs x0 0 (K2 (gY r n) 1 7)) kk) m)).trans ?_
  rw [ih]
  exact (cRa r n (nE r n m)).trans (by kernel_rfl)
theorem dJc : D35 r n bHs (xs x0 0 (K2 (gY r n) 1 7)) (K2 (gY r n) 1 7) = (K6 (bWn r n) 1 2 7 10 11 12) :=
 (by kernel_rfl : D35 r n bHs (xs x0 0 (K2 (gY r n) 1 7)) (K2 (gY r n) 1 7) = aE (fun kk => D35 r n yQ (xs x0 0 (K2 (gY r n) 1 7)) kk) n).trans ((cVk r n n).trans (by kernel_rfl))
theorem dBz : D35 r n bQx x0 (K2 (gY r n) 1 7) = (K6 (bFp r n) 1 2 7 10 11 12) :=
 (by kernel_rfl : D35 r n bQx x0 (K2 (gY r n) 1 7) = D35 r n bHs (xs x0 0 (K2 (gY r n) 1 7)) (K2 (gY r n) 1 7)).trans
 ((dJc r n).trans (by kernel_rfl))
theorem cMs : D35 r n aYf x0 r35 = D35 r n aRd x0 (K2 (gY r n) 1 7) :=
 congrArg (fun k => D35 r n aRd x0 k) (dHo r n)
theorem cGb : D35 r n aRd x0 (K2 (gY r n) 1 7) = D35 r n cZd x0 (K6 (bFp r n) 1 2 7 10 11 12) :=
 congrArg (fun k => D35 r n cZd x0 k) (dBz r n)
theorem dJj : D35 r n aYf x0 r35 = (K4 (bFq r n) 0 1 2 7) :=
 (cMs r n).trans
 ((cGb r n).trans
 ((by kernel_rfl)))
theorem cNy : D35 r n bIv x0 r35 = D35 r n cYn x0 (K4 (bFq r n) 0 1 2 7) :=
 congrArg (fun k => D35 r n cYn x0 k) (dJj r n)
theorem dHc : D35 r n bIv x0 r35 = (K3 (aXf r n) 0 1 2) :=
 (cNy r n).trans
 ((by kernel_rfl))
theorem dTk : D35 r n c35 x0 r35 = D35 r n bSg x0 (K3 (aXf r n) 0 1 2) :=
 congrArg (fun k => D35 r n bSg x0 k) (dHc r n)
theorem dZi : D35 r n c35 x0 r35 = (K3 (s35 r n) 0 1 2) :=
 (dTk r n).trans
 ((by kernel_rfl))
theorem dQy : aL CF r n 35 args h = s35 r n (aS args 0) (aS args 1) (aS args 2) h :=
 dI (dZi r n) args h (by kernel_rfl) (by kernel_rfl)
def aM (r : RT) (n : Nat) (x1 : DV) (h0 : Hp) : aF :=
 bnd (aA 1 x1 h0) fun v1 h1 =>
 bnd (aB v1 h1) fun v2 h2 =>
 some (v2, h2)
def aJi (r : RT) (n : Nat) (x1 x3 : DV) (h0 : Hp) : aF :=
 bnd (aD 6 x1 h0) fun v1 h1 =>
 bnd (r 21 [v1] h1) fun v2 h2 =>
 bnd (aN [(.s []), (.s []), (.s []), (.s [])] 4 [(0, 1, (.s [91])), (1, 1, x3), (2, 1, v2), (3, 1, (.s [93]))] h2) fun v3 h3 =>
 bnd (r 19 [v3] h3) fun v4 h4 =>
 some (v4, h4)
def eK (r : RT) (n : Nat) (x1 x3 : DV) (h0 : Hp) : aF :=
 bnd (cB .neq x3 (.s []) h0) fun v1 h1 =>
 aV v1 (
 bnd (aN [(.s []), (.s [])] 2 [(0, 1, x3), (1, 1, (.s [124, 32]))] h1) fun v2 h2 =>
 bnd (r 19 [v2] h2) fun v3 h3 =>
  aJi r n x1 v3 h3) (
  aJi r n x1 x3 h1)
def qA (r : RT) (n : Nat) (kk26 : TT5) (x1 x3 x64 x65 x66 : DV) (h0 : Hp) : aF :=
 bnd (aH .lss x66 x65 h0) fun v1 h1 =>
 aV v1 (
 bnd (aO 1 x64 x66 h1) fun v2 h2 =>
 bnd (aB v2 h2) fun v3 h3 =>
 bnd (aN [(.s []), (.s []), (.s []), (.s [])] 4 [(0, 1, x3), (1, 1, (.s [58])), (2, 1, v3), (3, 1, (.s [32]))] h3) fun v4 h4 =>
 bnd (r 19 [v4] h4) fun v5 h5 =>
 bnd (aH .add x66 (aG 1) h5) fun v6 h6 =>
      kk26 x1 v5 x64 x65 v6 h6) (
      eK r n x1 x3 h1)
def kQ (r : RT) (n : Nat) (m : Nat) : TT5 :=
 Nat.rec (motive := fun _ => TT5) (fun _ _ _ _ _ _ => none) (fun _ ih => qA r n ih) m
def aTf (r : RT) (n : Nat) : TT5 := kQ r n n
def aIw (r : RT) (n : Nat) (x1 x3 x64 x65 x66 : DV) (h0 : Hp) : aF :=
 aTf r n x1 x3 x64 x65 x66 h0
def aLk (r : RT) (n : Nat) (x1 x3 : DV) (h0 : Hp) : aF :=
 bnd (aA 3 x1 h0) fun v1 h1 =>
 bnd (aB v1 h1) fun v2 h2 =>
 bnd (dG v2 h2) fun v3 h3 =>
  aIw r n x1 x3 v2 v3 (aG 0) h3
def aWc (r : RT) (n : Nat) (x1 : DV) (h0 : Hp) : aF :=
 aLk r n x1 (.s []) h0
def zW (r : RT) (n : Nat) (x1 x61 : DV) (h0 : Hp) : aF :=
 aV x61 (
  aWc r n x1 h0) (
  aM r n x1 h0)
def aUg (r : RT) (n : Nat) (x1 x7 : DV) (h0 : Hp) : aF :=
 bnd (aH .eql x7 (aG 9) h0) fun v1 h1 =>
  zW r n x1 v1 h1
def yM (r : RT) (n : Nat) (x1 x7 x56 : DV) (h0 : Hp) : aF :=
 aV x56 (
 bnd (aA 5 x1 h0) fun v1 h1 =>
 bnd (aB v1 h1) fun v2 h2 =>
 bnd (r 62 [v2] h2) fun v3 h3 =>
 some (v3, h3)) (
  aUg r n x1 x7 h0)
def aVi (r : RT) (n : Nat) (x1 x7 : DV) (h0 : Hp) : aF :=
 bnd (aH .eql x7 (aG 8) h0) fun v1 h1 =>
  yM r n x1 x7 v1 h1
def yH (r : RT) (n : Nat) (x1 x7 x49 : DV) (h0 : Hp) : aF :=
 aV x49 (
 bnd (aA 1 x1 h0) fun v1 h1 =>
 bnd (aB v1 h1) fun v2 h2 =>
 bnd (aA 5 x1 h2) fun v3 h3 =>
 bnd (aB v3 h3) fun v4 h4 =>
 bnd (r 61 [v2, v4] h4) fun v5 h5 =>
 some (v5, h5)) (
  aVi r n x1 x7 h0)
def aVu (r : RT) (n : Nat) (x1 x7 : DV) (h0 : Hp) : aF :=
 bnd (aH .eql x7 (aG 7) h0) fun v1 h1 =>
  yH r n x1 x7 v1 h1
def aBf (r : RT) (n : Nat) (x1 x7 x42 : DV) (h0 : Hp) : aF :=
 aV x42 (
 bnd (aA 5 x1 h0) fun v1 h1 =>
 bnd (aB v1 h1) fun v2 h2 =>
 bnd (r 35 [v2, (.s []), (.f 36 [] [])] h2) fun v3 h3 =>
 bnd (aN [(.s []), (.s [])] 2 [(0, 1, (.s [94])), (1, 1, v3)] h3) fun v4 h4 =>
 bnd (r 19 [v4] h4) fun v5 h5 =>
 some (v5, h5)) (
  aVu r n x1 x7 h0)
def aWn (r : RT) (n : Nat) (x1 x7 : DV) (h0 : Hp) : aF :=
 bnd (aH .eql x7 (aG 10) h0) fun v1 h1 =>
  aBf r n x1 x7 v1 h1
def aBm (r : RT) (n : Nat) (x1 x7 x33 : DV) (h0 : Hp) : aF :=
 aV x33 (
 bnd (aA 1 x1 (fP 1 h0)) fun v1 h1 =>
 bnd (aB v1 h1) fun v2 h2 =>
 bnd (aA 5 x1 h2) fun v3 h3 =>
 bnd (aB v3 h3) fun v4 h4 =>
 bnd (r 35 [v4, (.s []), (.f 36 [] [])] h4) fun v5 h5 =>
 cnd (bM (aB v1 h5) v2 && true) (
 bnd (aW (cS 0 h0.next) [(.s []), (.s []), (.s [])] 3 [(0, 1, v2), (1, 1, (.s [32, 58, 61, 32])), (2, 1, v5)] h5) fun v6 h6 =>
 bnd (r 19 [v6] h6) fun v7 h7 =>
 some (v7, h7))) (
  aWn r n x1 x7 h0)
def aWd (r : RT) (n : Nat) (x1 x7 : DV) (h0 : Hp) : aF :=
 bnd (aH .eql x7 (aG 6) h0) fun v1 h1 =>
  aBm r n x1 x7 v1 h1
def aDj (r : RT) (n : Nat) (x1 x7 x26 : DV) (h0 : Hp) : aF :=
 aV x26 (
 bnd (aA 5 x1 h0) fun v1 h1 =>
 bnd (aB v1 h1) fun v2 h2 =>
 bnd (r 35 [v2, (.s [32]), (.f 36 [] [])] h2) fun v3 h3 =>
 bnd (aN [(.s []), (.s []), (.s [])] 3 [(0, 1, (.s [35, 40])), (1, 1, v3), (2, 1, (.s [41]))] h3) fun v4 h4 =>
 bnd (r 19 [v4] h4) fun v5 h5 =>
 some (v5, h5)) (
  aWd r n x1 x7 h0)
def bNw (r : RT) (n : Nat) (x1 x7 : DV) (h0 : Hp) : aF :=
 bnd (aH .eql x7 (aG 4) h0) fun v1 h1 =>
  aDj r n x1 x7 v1 h1
def aQu (r : RT) (n : Nat) (x1 x7 x20 : DV) (h0 : Hp) : aF :=
 aV x20 (
 bnd (aA 1 x1 h0) fun v1 h1 =>
 bnd (aB v1 h1) fun v2 h2 =>
 bnd (aN [(.s []), (.s [])] 2 [(0, 1, (.s [35])), (1, 1, v2)] h2) fun v3 h3 =>
 bnd (r 19 [v3] h3) fun v4 h4 =>
 some (v4, h4)) (
  bNw r n x1 x7 h0)
def bSr (r : RT) (n : Nat) (x1 x7 : DV) (h0 : Hp) : aF :=
 bnd (aH .eql x7 (aG 3) h0) fun v1 h1 =>
  aQu r n x1 x7 v1 h1
def aPk (r : RT) (n : Nat) (x1 x7 x13 : DV) (h0 : Hp) : aF :=
 aV x13 (
 bnd (aA 1 x1 h0) fun v1 h1 =>
 bnd (aB v1 h1) fun v2 h2 =>
 bnd (aEa [v2, (.s [39]), (.s [39, 39])] h2) fun v3 h3 =>
 bnd (aN [(.s []), (.s []), (.s [])] 3 [(0, 1, (.s [39])), (1, 1, v3), (2, 1, (.s [39]))] h3) fun v4 h4 =>
 bnd (r 19 [v4] h4) fun v5 h5 =>
 some (v5, h5)) (
  bSr r n x1 x7 h0)
def bYw (r : RT) (n : Nat) (x1 x7 : DV) (h0 : Hp) : aF :=
 bnd (aH .eql x7 (aG 2) h0) fun v1 h1 =>
  aPk r n x1 x7 v1 h1
def aOk (r : RT) (n : Nat) (x1 x7 x8 : DV) (h0 : Hp) : aF :=
 aV x8 (
 bnd (aA 2 x1 h0) fun v1 h1 =>
 bnd (aB v1 h1) fun v2 h2 =>
 bnd (aAk [v2] h2) fun v3 h3 =>
 some (v3, h3)) (
  bYw r n x1 x7 h0)
def bEb (r : RT) (n : Nat) (x1 x7 : DV) (h0 : Hp) : aF :=
 bnd (aH .eql x7 (aG 1) h0) fun v1 h1 =>
  aOk r n x1 x7 v1 h1
def bCw (r : RT) (n : Nat) (x1 : DV) (h0 : Hp) : aF :=
 bnd (aA 0 x1 h0) fun v1 h1 =>
 bnd (aB v1 h1) fun v2 h2 =>
  bEb r n x1 v2 h2
def s36 (r : RT) (n : Nat) (x0 : DV) (h0 : Hp) : aF :=
 bnd (eR x0 h0) fun v1 h1 =>
  bCw r n v1 h1
abbrev c36 : Code := cf Tryz.f36
abbrev aZn := cR c36
abbrev dQf := cR aZn
abbrev aRc := cL aZn
abbrev bRf := cR aRc
abbrev bHx := cL bRf
abbrev aSc := cR bHx
abbrev aOj := cR aSc
abbrev aTa := cR aOj
abbrev aOl := cR aTa
abbrev aDg := cR aOl
abbrev aAy := cR aDg
abbrev yI := cR aAy
abbrev aCp := cR yI
abbrev xT := cR aCp
abbrev zK := cR xT
abbrev aBi := cR zK
abbrev aBc := cR aBi
abbrev zD := cR aBc
abbrev aBy := cR zD
abbrev aCn := cR aBy
abbrev aAx := cR aCn
abbrev zP := cR aAx
abbrev aAc := cL zP
abbrev aHc := cR aAc
abbrev dLz := cR aHc
abbrev xZ := cL aHc
abbrev aTk := cR xZ
abbrev aJh := cL aTk
abbrev sL := cL aJh
abbrev bWx := cL xZ
abbrev cAw := cL aAc
abbrev dNb := cR zP
abbrev bUr := cL aAx
abbrev dFm := cL aCn
abbrev cAe := cL aBy
abbrev dBd := cL zD
abbrev bMn := cL aBc
abbrev dMq := cL aBi
abbrev bUv := cL zK
abbrev dFh := cL xT
abbrev bYj := cL aCp
abbrev dHs := cL yI
abbrev bWp := cL aAy
abbrev dId := cL aDg
abbrev bNf := cL aOl
abbrev dJl := cL aTa
abbrev cDq := cL aOj
abbrev dMb := cL aSc
abbrev bQd := cL bHx
abbrev bVt := cL aRc
abbrev bMm := cL c36
abbrev r36 : K := bF CF Tryz.f36
def D36 (r : RT) (n : Nat) (c : Code) (X : Nat → K) (k : K) : K := aR CF r 87 n c X r36 k
theorem dGw : D36 r n dQf x0 r36 = (K1 (aM r n) 1) := by kernel_rfl
theorem cVc : D36 r n dLz (xs x0 0 (K1 (aM r n) 1)) (K1 (aM r n) 1) = (K2 (eK r n) 1 3) := by kernel_rfl
theorem bOy (kk26 : TT5) : D36 r n sL (xs (xs x0 0 (K1 (aM r n) 1)) 1 (K2 (eK r n) 1 3)) (K5 kk26 1 3 64 65 66) = (K5 (qA r n kk26) 1 3 64 65 66) := by kernel_rfl
theorem bOw (m : Nat) : aE (fun kk => D36 r n sL (xs (xs x0 0 (K1 (aM r n) 1)) 1 (K2 (eK r n) 1 3)) kk) m = (K5 (kQ r n m) 1 3 64 65 66) := by
 induction m with
 | zero => exact (by kernel_rfl : aE (fun kk => D36 r n sL (xs (xs x0 0 (K1 (aM r n) 1)) 1 (K2 (eK r n) 1 3)) kk) 0 = (K5 (kQ r n 0) 1 3 64 65 66))
 | succ m ih =>
  refine (by kernel_rfl : aE (fun kk => D36 r n sL (xs (xs x0 0 (K1 (aM r n) 1)) 1 (K2 (eK r n) 1 3)) kk) (m + 1) = D36 r n sL (xs (xs x0 0 (K1 (aM r n) 1)) 1 (K2 (eK r n) 1 3)) (aE (fun kk => D36 r n sL (xs (xs x0 0 (K1 (aM r n) 1)) 1 (K2 (eK r n) 1 3)) kk) m)).trans ?_
  rw [ih]
  exact (bOy r n (kQ r n m)).trans (by kernel_rfl)
theorem cHh : D36 r n aJh (xs (xs x0 0 (K1 (aM r n) 1)) 1 (K2 (eK r n) 1 3)) (K2 (eK r n) 1 3) = (K5 (aTf r n) 1 3 64 65 66) :=
 (by kernel_rfl : D36 r n aJh (xs (xs x0 0 (K1 (aM r n) 1)) 1 (K2 (eK r n) 1 3)) (K2 (eK r n) 1 3) = aE (fun kk => D36 r n sL (xs (xs x0 0 (K1 (aM r n) 1)) 1 (K2 (eK r n) 1 3)) kk) n).trans ((bOw r n n).trans (by kernel_rfl))
theorem cVr : D36 r n aTk (xs x0 0 (K1 (aM r n) 1)) (K2 (eK r n) 1 3) = (K5 (aIw r n) 1 3 64 65 66) :=
 (by kernel_rfl : D36 r n aTk (xs x0 0 (K1 (aM r n) 1)) (K2 (eK r n) 1 3) = D36 r n aJh (xs (xs x0 0 (K1 (aM r n) 1)) 1 (K2 (eK r n) 1 3)) (K2 (eK r n) 1 3)).trans
 ((cHh r n).trans (by kernel_rfl))
theorem bMb : D36 r n aHc (xs x0 0 (K1 (aM r n) 1)) (K1 (aM r n) 1) = D36 r n xZ (xs x0 0 (K1 (aM r n) 1)) (K2 (eK r n) 1 3) :=
 congrArg (fun k => D36 r n xZ (xs x0 0 (K1 (aM r n) 1)) k) (cVc r n)
theorem bTy : D36 r n xZ (xs x0 0 (K1 (aM r n) 1)) (K2 (eK r n) 1 3) = D36 r n bWx (xs x0 0 (K1 (aM r n) 1)) (K5 (aIw r n) 1 3 64 65 66) :=
 congrArg (fun k => D36 r n bWx (xs x0 0 (K1 (aM r n) 1)) k) (cVr r n)
theorem cHm : D36 r n aHc (xs x0 0 (K1 (aM r n) 1)) (K1 (aM r n) 1) = (K2 (aLk r n) 1 3) :=
 (bMb r n).trans
 ((bTy r n).trans
 ((by kernel_rfl)))
theorem bZb : D36 r n aAc (xs x0 0 (K1 (aM r n) 1)) (K1 (aM r n) 1) = D36 r n cAw (xs x0 0 (K1 (aM r n) 1)) (K2 (aLk r n) 1 3) :=
 congrArg (fun k => D36 r n cAw (xs x0 0 (K1 (aM r n) 1)) k) (cHm r n)
theorem cNh : D36 r n aAc (xs x0 0 (K1 (aM r n) 1)) (K1 (aM r n) 1) = (K1 (aWc r n) 1) :=
 (bZb r n).trans
 ((by kernel_rfl))
theorem cLg : D36 r n zP (xs x0 0 (K1 (aM r n) 1)) (K1 (aM r n) 1) = (K2 (zW r n) 1 61) :=
 (by kernel_rfl : D36 r n zP (xs x0 0 (K1 (aM r n) 1)) (K1 (aM r n) 1) = (fun (env : eJ) (h : Hp) => aV (opr env (cC zP)) (D36 r n aAc (xs x0 0 (K1 (aM r n) 1)) (K1 (aM r n) 1) env h) (D36 r n dNb (xs x0 0 (K1 (aM r n) 1)) (K1 (aM r n) 1) env h))).trans (by rw [cNh r n]; kernel_rfl)
theorem bYd : D36 r n aAx (xs x0 0 (K1 (aM r n) 1)) (K1 (aM r n) 1) = D36 r n bUr (xs x0 0 (K1 (aM r n) 1)) (K2 (zW r n) 1 61) :=
 congrArg (fun k => D36 r n bUr (xs x0 0 (K1 (aM r n) 1)) k) (cLg r n)
theorem cRw : D36 r n aAx (xs x0 0 (K1 (aM r n) 1)) (K1 (aM r n) 1) = (K2 (aUg r n) 1 7) :=
 (bYd r n).trans
 ((by kernel_rfl))
theorem cQe : D36 r n aCn (xs x0 0 (K1 (aM r n) 1)) (K1 (aM r n) 1) = (K3 (yM r n) 1 7 56) :=
 (by kernel_rfl : D36 r n aCn (xs x0 0 (K1 (aM r n) 1)) (K1 (aM r n) 1) = (fun (env : eJ) (h : Hp) => aV (opr env (cC aCn)) (D36 r n dFm (xs x0 0 (K1 (aM r n) 1)) (K1 (aM r n) 1) env h) (D36 r n aAx (xs x0 0 (K1 (aM r n) 1)) (K1 (aM r n) 1) env h))).trans (by rw [cRw r n]; kernel_rfl)
theorem bTp : D36 r n aBy (xs x0 0 (K1 (aM r n) 1)) (K1 (aM r n) 1) = D36 r n cAe (xs x0 0 (K1 (aM r n) 1)) (K3 (yM r n) 1 7 56) :=
 congrArg (fun k => D36 r n cAe (xs x0 0 (K1 (aM r n) 1)) k) (cQe r n)
theorem cLa : D36 r n aBy (xs x0 0 (K1 (aM r n) 1)) (K1 (aM r n) 1) = (K2 (aVi r n) 1 7) :=
 (bTp r n).trans
 ((by kernel_rfl))
theorem cOs : D36 r n zD (xs x0 0 (K1 (aM r n) 1)) (K1 (aM r n) 1) = (K3 (yH r n) 1 7 49) :=
 (by kernel_rfl : D36 r n zD (xs x0 0 (K1 (aM r n) 1)) (K1 (aM r n) 1) = (fun (env : eJ) (h : Hp) => aV (opr env (cC zD)) (D36 r n dBd (xs x0 0 (K1 (aM r n) 1)) (K1 (aM r n) 1) env h) (D36 r n aBy (xs x0 0 (K1 (aM r n) 1)) (K1 (aM r n) 1) env h))).trans (by rw [cLa r n]; kernel_rfl)
theorem bLd : D36 r n aBc (xs x0 0 (K1 (aM r n) 1)) (K1 (aM r n) 1) = D36 r n bMn (xs x0 0 (K1 (aM r n) 1)) (K3 (yH r n) 1 7 49) :=
 congrArg (fun k => D36 r n bMn (xs x0 0 (K1 (aM r n) 1)) k) (cOs r n)
theorem cJf : D36 r n aBc (xs x0 0 (K1 (aM r n) 1)) (K1 (aM r n) 1) = (K2 (aVu r n) 1 7) :=
 (bLd r n).trans
 ((by kernel_rfl))
theorem cSw : D36 r n aBi (xs x0 0 (K1 (aM r n) 1)) (K1 (aM r n) 1) = (K3 (aBf r n) 1 7 42) :=
 (by kernel_rfl : D36 r n aBi (xs x0 0 (K1 (aM r n) 1)) (K1 (aM r n) 1) = (fun (env : eJ) (h : Hp) => aV (opr env (cC aBi)) (D36 r n dMq (xs x0 0 (K1 (aM r n) 1)) (K1 (aM r n) 1) env h) (D36 r n aBc (xs x0 0 (K1 (aM r n) 1)) (K1 (aM r n) 1) env h))).trans (by rw [cJf r n]; kernel_rfl)
theorem bJu : D36 r n zK (xs x0 0 (K1 (aM r n) 1)) (K1 (aM r n) 1) = D36 r n bUv (xs x0 0 (K1 (aM r n) 1)) (K3 (aBf r n) 1 7 42) :=
 congrArg (fun k => D36 r n bUv (xs x0 0 (K1 (aM r n) 1)) k) (cSw r n)
theorem cVp : D36 r n zK (xs x0 0 (K1 (aM r n) 1)) (K1 (aM r n) 1) = (K2 (aWn r n) 1 7) :=
 (bJu r n).trans
 ((by kernel_rfl))
theorem cUi : D36 r n xT (xs x0 0 (K1 (aM r n) 1)) (K1 (aM r n) 1) = (K3 (aBm r n) 1 7 33) :=
 (by kernel_rfl : D36 r n xT (xs x0 0 (K1 (aM r n) 1)) (K1 (aM r n) 1) = (fun (env : eJ) (h : Hp) => aV (opr env (cC xT)) (D36 r n dFh (xs x0 0 (K1 (aM r n) 1)) (K1 (aM r n) 1) env h) (D36 r n zK (xs x0 0 (K1 (aM r n) 1)) (K1 (aM r n) 1) env h))).trans (by rw [cVp r n]; kernel_rfl)
theorem bJp : D36 r n aCp (xs x0 0 (K1 (aM r n) 1)) (K1 (aM r n) 1) = D36 r n bYj (xs x0 0 (K1 (aM r n) 1)) (K3 (aBm r n) 1 7 33) :=
 congrArg (fun k => D36 r n bYj (xs x0 0 (K1 (aM r n) 1)) k) (cUi r n)
theorem cOn : D36 r n aCp (xs x0 0 (K1 (aM r n) 1)) (K1 (aM r n) 1) = (K2 (aWd r n) 1 7) :=
 (bJp r n).trans
 ((by kernel_rfl))
theorem cVn : D36 r n yI (xs x0 0 (K1 (aM r n) 1)) (K1 (aM r n) 1) = (K3 (aDj r n) 1 7 26) :=
 (by kernel_rfl : D36 r n yI (xs x0 0 (K1 (aM r n) 1)) (K1 (aM r n) 1) = (fun (env : eJ) (h : Hp) => aV (opr env (cC yI)) (D36 r n dHs (xs x0 0 (K1 (aM r n) 1)) (K1 (aM r n) 1) env h) (D36 r n aCp (xs x0 0 (K1 (aM r n) 1)) (K1 (aM r n) 1) env h))).trans (by rw [cOn r n]; kernel_rfl)
theorem bVy : D36 r n aAy (xs x0 0 (K1 (aM r n) 1)) (K1 (aM r n) 1) = D36 r n bWp (xs x0 0 (K1 (aM r n) 1)) (K3 (aDj r n) 1 7 26) :=
 congrArg (fun k => D36 r n bWp (xs x0 0 (K1 (aM r n) 1)) k) (cVn r n)
theorem dIx : D36 r n aAy (xs x0 0 (K1 (aM r n) 1)) (K1 (aM r n) 1) = (K2 (bNw r n) 1 7) :=
 (bVy r n).trans
 ((by kernel_rfl))
theorem dCf : D36 r n aDg (xs x0 0 (K1 (aM r n) 1)) (K1 (aM r n) 1) = (K3 (aQu r n) 1 7 20) :=
 (by kernel_rfl : D36 r n aDg (xs x0 0 (K1 (aM r n) 1)) (K1 (aM r n) 1) = (fun (env : eJ) (h : Hp) => aV (opr env (cC aDg)) (D36 r n dId (xs x0 0 (K1 (aM r n) 1)) (K1 (aM r n) 1) env h) (D36 r n aAy (xs x0 0 (K1 (aM r n) 1)) (K1 (aM r n) 1) env h))).trans (by rw [dIx r n]; kernel_rfl)
theorem bPy : D36 r n aOl (xs x0 0 (K1 (aM r n) 1)) (K1 (aM r n) 1) = D36 r n bNf (xs x0 0 (K1 (aM r n) 1)) (K3 (aQu r n) 1 7 20) :=
 congrArg (fun k => D36 r n bNf (xs x0 0 (K1 (aM r n) 1)) k) (dCf r n)
theorem dMp : D36 r n aOl (xs x0 0 (K1 (aM r n) 1)) (K1 (aM r n) 1) = (K2 (bSr r n) 1 7) :=
 (bPy r n).trans
 ((by kernel_rfl))
theorem dMi : D36 r n aTa (xs x0 0 (K1 (aM r n) 1)) (K1 (aM r n) 1) = (K3 (aPk r n) 1 7 13) :=
 (by kernel_rfl : D36 r n aTa (xs x0 0 (K1 (aM r n) 1)) (K1 (aM r n) 1) = (fun (env : eJ) (h : Hp) => aV (opr env (cC aTa)) (D36 r n dJl (xs x0 0 (K1 (aM r n) 1)) (K1 (aM r n) 1) env h) (D36 r n aOl (xs x0 0 (K1 (aM r n) 1)) (K1 (aM r n) 1) env h))).trans (by rw [dMp r n]; kernel_rfl)
theorem bPv : D36 r n aOj (xs x0 0 (K1 (aM r n) 1)) (K1 (aM r n) 1) = D36 r n cDq (xs x0 0 (K1 (aM r n) 1)) (K3 (aPk r n) 1 7 13) :=
 congrArg (fun k => D36 r n cDq (xs x0 0 (K1 (aM r n) 1)) k) (dMi r n)
theorem dEy : D36 r n aOj (xs x0 0 (K1 (aM r n) 1)) (K1 (aM r n) 1) = (K2 (bYw r n) 1 7) :=
 (bPv r n).trans
 ((by kernel_rfl))
theorem dAq : D36 r n aSc (xs x0 0 (K1 (aM r n) 1)) (K1 (aM r n) 1) = (K3 (aOk r n) 1 7 8) :=
 (by kernel_rfl : D36 r n aSc (xs x0 0 (K1 (aM r n) 1)) (K1 (aM r n) 1) = (fun (env : eJ) (h : Hp) => aV (opr env (cC aSc)) (D36 r n dMb (xs x0 0 (K1 (aM r n) 1)) (K1 (aM r n) 1) env h) (D36 r n aOj (xs x0 0 (K1 (aM r n) 1)) (K1 (aM r n) 1) env h))).trans (by rw [dEy r n]; kernel_rfl)
theorem cBr : D36 r n bHx (xs x0 0 (K1 (aM r n) 1)) (K1 (aM r n) 1) = D36 r n bQd (xs x0 0 (K1 (aM r n) 1)) (K3 (aOk r n) 1 7 8) :=
 congrArg (fun k => D36 r n bQd (xs x0 0 (K1 (aM r n) 1)) k) (dAq r n)
theorem dEk : D36 r n bRf x0 (K1 (aM r n) 1) = (K2 (bEb r n) 1 7) :=
 (by kernel_rfl : D36 r n bRf x0 (K1 (aM r n) 1) = D36 r n bHx (xs x0 0 (K1 (aM r n) 1)) (K1 (aM r n) 1)).trans
 ((cBr r n).trans
 ((by kernel_rfl)))
theorem bXq : D36 r n aZn x0 r36 = D36 r n aRc x0 (K1 (aM r n) 1) :=
 congrArg (fun k => D36 r n aRc x0 k) (dGw r n)
theorem bOf : D36 r n aRc x0 (K1 (aM r n) 1) = D36 r n bVt x0 (K2 (bEb r n) 1 7) :=
 congrArg (fun k => D36 r n bVt x0 k) (dEk r n)
theorem dLl : D36 r n aZn x0 r36 = (K1 (bCw r n) 1) :=
 (bXq r n).trans
 ((bOf r n).trans
 ((by kernel_rfl)))
theorem dHa : D36 r n c36 x0 r36 = D36 r n bMm x0 (K1 (bCw r n) 1) :=
 congrArg (fun k => D36 r n bMm x0 k) (dLl r n)
theorem dZu : D36 r n c36 x0 r36 = (K1 (s36 r n) 0) :=
 (dHa r n).trans
 ((by kernel_rfl))
theorem dTd : aL CF r n 36 args h = s36 r n (aS args 0) h :=
 dI (dZu r n) args h (by kernel_rfl) (by kernel_rfl)
def s37 (r : RT) (n : Nat) (x0 x1 : DV) (h0 : Hp) : aF :=
 bnd (eR x0 h0) fun v1 h1 =>
 bnd (eR x1 h1) fun v2 h2 =>
 bnd (aA 0 v1 h2) fun v3 h3 =>
 bnd (aB v3 h3) fun v4 h4 =>
 bnd (aA 0 v2 h4) fun v5 h5 =>
 bnd (aB v5 h5) fun v6 h6 =>
 bnd (aH .eql v4 v6 h6) fun v7 h7 =>
 bnd (gD v7 true (aA 1 v1 h7) h7) fun v8 h8 =>
 bnd (gD v7 true (aB v8 h8) h8) fun v9 h9 =>
 bnd (gD v7 true (aA 1 v2 h9) h9) fun v10 h10 =>
 bnd (gD v7 true (aB v10 h10) h10) fun v11 h11 =>
 bnd (gD v7 true (cB .eql v9 v11 h11) h11) fun v12 h12 =>
 bnd (bA v7 v12 (.b false) h12) fun v13 h13 =>
 bnd (gD v13 true (aA 2 v1 h13) h13) fun v14 h14 =>
 bnd (gD v13 true (aB v14 h14) h14) fun v15 h15 =>
 bnd (gD v13 true (aA 2 v2 h15) h15) fun v16 h16 =>
 bnd (gD v13 true (aB v16 h16) h16) fun v17 h17 =>
 bnd (gD v13 true (aH .eql v15 v17 h17) h17) fun v18 h18 =>
 bnd (bA v13 v18 (.b false) h18) fun v19 h19 =>
 bnd (gD v19 true (aA 3 v1 h19) h19) fun v20 h20 =>
 bnd (gD v19 true (aB v20 h20) h20) fun v21 h21 =>
 bnd (gD v19 true (aA 3 v2 h21) h21) fun v22 h22 =>
 bnd (gD v19 true (aB v22 h22) h22) fun v23 h23 =>
 bnd (gD v19 true (r 63 [v21, v23] h23) h23) fun v24 h24 =>
 bnd (bA v19 v24 (.b false) h24) fun v25 h25 =>
 bnd (gD v25 true (aA 4 v1 h25) h25) fun v26 h26 =>
 bnd (gD v25 true (aB v26 h26) h26) fun v27 h27 =>
 bnd (gD v25 true (aA 4 v2 h27) h27) fun v28 h28 =>
 bnd (gD v25 true (aB v28 h28) h28) fun v29 h29 =>
 bnd (gD v25 true (r 63 [v27, v29] h29) h29) fun v30 h30 =>
 bnd (bA v25 v30 (.b false) h30) fun v31 h31 =>
 bnd (gD v31 true (aA 5 v1 h31) h31) fun v32 h32 =>
 bnd (gD v31 true (aB v32 h32) h32) fun v33 h33 =>
 bnd (gD v31 true (aA 5 v2 h33) h33) fun v34 h34 =>
 bnd (gD v31 true (aB v34 h34) h34) fun v35 h35 =>
 bnd (gD v31 true (r 64 [v33, v35, (.f 37 [] [])] h35) h35) fun v36 h36 =>
 bnd (bA v31 v36 (.b false) h36) fun v37 h37 =>
 some (v37, h37)
abbrev c37 : Code := cf Tryz.f37
abbrev r37 : K := bF CF Tryz.f37
def D37 (r : RT) (n : Nat) (c : Code) (X : Nat → K) (k : K) : K := aR CF r 47 n c X r37 k
theorem dYw : D37 r n c37 x0 r37 = (K2 (s37 r n) 0 1) :=
 (by kernel_rfl)
theorem dUf : aL CF r n 37 args h = s37 r n (aS args 0) (aS args 1) h :=
 dI (dYw r n) args h (by kernel_rfl) (by kernel_rfl)
def iB (r : RT) (n : Nat) (x5 : DV) (h0 : Hp) : aF :=
 some (x5, h0)
def cYu (r : RT) (n : Nat) (kk5 : gO) (x0 x1 x5 x6 : DV) (h0 : Hp) : aF :=
 bnd (aH .add x6 (aG 1) h0) fun v1 h1 =>
  kk5 x0 x1 x5 v1 h1
def bBw (r : RT) (n : Nat) (kk5 : gO) (x0 x1 x5 x6 : DV) (h0 : Hp) : aF :=
 bnd (aO 6 x0 x6 h0) fun v1 h1 =>
 bnd (aD 6 v1 h1) fun v2 h2 =>
 bnd (r 65 [v2] h2) fun v3 h3 =>
 bnd (cB .add x5 v3 h3) fun v4 h4 =>
  cYu r n kk5 x0 x1 v4 x6 h4
def cXn (r : RT) (n : Nat) (kk5 : gO) (x0 x1 x5 x6 : DV) (h0 : Hp) : aF :=
 bnd (aH .gtr x6 (aG 0) h0) fun v1 h1 =>
 aV v1 (
 bnd (cB .add x5 x1 h1) fun v2 h2 =>
  bBw r n kk5 x0 x1 v2 x6 h2) (
  bBw r n kk5 x0 x1 x5 x6 h1)
def uL (r : RT) (n : Nat) (kk5 : gO) (x0 x1 x5 x6 : DV) (h0 : Hp) : aF :=
 bnd (dG x0 h0) fun v1 h1 =>
 bnd (aH .lss x6 v1 h1) fun v2 h2 =>
 aV v2 (
  cXn r n kk5 x0 x1 x5 x6 h2) (
  iB r n x5 h2)
def mG (r : RT) (n : Nat) (m : Nat) : gO :=
 Nat.rec (motive := fun _ => gO) (fun _ _ _ _ _ => none) (fun _ ih => uL r n ih) m
def bXw (r : RT) (n : Nat) : gO := mG r n n
def bFm (r : RT) (n : Nat) (x0 x1 x5 x6 : DV) (h0 : Hp) : aF :=
 bXw r n x0 x1 x5 x6 h0
def aWy (r : RT) (n : Nat) (x0 x1 x5 : DV) (h0 : Hp) : aF :=
 bFm r n x0 x1 x5 (aG 0) h0
def aXk (r : RT) (n : Nat) (x0 x1 : DV) (h0 : Hp) : aF :=
 aWy r n x0 x1 (.s []) h0
def s38 (r : RT) (n : Nat) (x0 x1 : DV) (h0 : Hp) : aF :=
 aXk r n x0 x1 h0
abbrev c38 : Code := cf Tryz.f38
abbrev bGn := cR c38
abbrev bCj := cR bGn
abbrev dQm := cR bCj
abbrev aPb := cL bCj
abbrev bVv := cR aPb
abbrev bGv := cL bVv
abbrev zX := cL bGv
abbrev bTq := cL aPb
abbrev cAf := cL bGn
abbrev bTf := cL c38
abbrev r38 : K := bF CF Tryz.f38
def D38 (r : RT) (n : Nat) (c : Code) (X : Nat → K) (k : K) : K := aR CF r 26 n c X r38 k
theorem dNs : D38 r n dQm x0 r38 = (K1 (iB r n) 5) := by kernel_rfl
theorem cOm (kk5 : gO) : D38 r n zX (xs x0 0 (K1 (iB r n) 5)) (K4 kk5 0 1 5 6) = (K4 (uL r n kk5) 0 1 5 6) := by kernel_rfl
theorem cPf (m : Nat) : aE (fun kk => D38 r n zX (xs x0 0 (K1 (iB r n) 5)) kk) m = (K4 (mG r n m) 0 1 5 6) := by
 induction m with
 | zero => exact (by kernel_rfl : aE (fun kk => D38 r n zX (xs x0 0 (K1 (iB r n) 5)) kk) 0 = (K4 (mG r n 0) 0 1 5 6))
 | succ m ih =>
  refine (by kernel_rfl : aE (fun kk => D38 r n zX (xs x0 0 (K1 (iB r n) 5)) kk) (m + 1) = D38 r n zX (xs x0 0 (K1 (iB r n) 5)) (aE (fun kk => D38 r n zX (xs x0 0 (K1 (iB r n) 5)) kk) m)).trans ?_
  rw [ih]
  exact (cOm r n (mG r n m)).trans (by kernel_rfl)
theorem dAf : D38 r n bGv (xs x0 0 (K1 (iB r n) 5)) (K1 (iB r n) 5) = (K4 (bXw r n) 0 1 5 6) :=
 (by kernel_rfl : D38 r n bGv (xs x0 0 (K1 (iB r n) 5)) (K1 (iB r n) 5) = aE (fun kk => D38 r n zX (xs x0 0 (K1 (iB r n) 5)) kk) n).trans ((cPf r n n).trans (by kernel_rfl))
theorem dLf : D38 r n bVv x0 (K1 (iB r n) 5) = (K4 (bFm r n) 0 1 5 6) :=
 (by kernel_rfl : D38 r n bVv x0 (K1 (iB r n) 5) = D38 r n bGv (xs x0 0 (K1 (iB r n) 5)) (K1 (iB r n) 5)).trans
 ((dAf r n).trans (by kernel_rfl))
theorem cLl : D38 r n bCj x0 r38 = D38 r n aPb x0 (K1 (iB r n) 5) :=
 congrArg (fun k => D38 r n aPb x0 k) (dNs r n)
theorem cLs : D38 r n aPb x0 (K1 (iB r n) 5) = D38 r n bTq x0 (K4 (bFm r n) 0 1 5 6) :=
 congrArg (fun k => D38 r n bTq x0 k) (dLf r n)
theorem dLd : D38 r n bCj x0 r38 = (K3 (aWy r n) 0 1 5) :=
 (cLl r n).trans
 ((cLs r n).trans
 ((by kernel_rfl)))
theorem cWb : D38 r n bGn x0 r38 = D38 r n cAf x0 (K3 (aWy r n) 0 1 5) :=
 congrArg (fun k => D38 r n cAf x0 k) (dLd r n)
theorem dLw : D38 r n bGn x0 r38 = (K2 (aXk r n) 0 1) :=
 (cWb r n).trans
 ((by kernel_rfl))
theorem dSh : D38 r n c38 x0 r38 = D38 r n bTf x0 (K2 (aXk r n) 0 1) :=
 congrArg (fun k => D38 r n bTf x0 k) (dLw r n)
theorem dYf : D38 r n c38 x0 r38 = (K2 (s38 r n) 0 1) :=
 (dSh r n).trans
 ((by kernel_rfl))
theorem dQb : aL CF r n 38 args h = s38 r n (aS args 0) (aS args 1) h :=
 dI (dYf r n) args h (by kernel_rfl) (by kernel_rfl)
def gT (r : RT) (n : Nat) (x0 : DV) (h0 : Hp) : aF :=
 bnd (dE x0 h0) fun v1 h1 =>
 bnd (aH .gtr v1 (aG 0) h1) fun v2 h2 =>
 bnd (gD v2 true (some (x0, h2)) h2) fun v3 h3 =>
 bnd (gD v2 true (bK v3 (aG 0) h3) h3) fun v4 h4 =>
 bnd (gD v2 true (aH .geq v4 (.i .u8 (Int.ofNat 97)) h4) h4) fun v5 h5 =>
 bnd (gD v2 true (some (v5, h5)) h5) fun v6 h6 =>
 bnd (gD v6 true (some (x0, h6)) h6) fun v7 h7 =>
 bnd (gD v6 true (bK v7 (aG 0) h7) h7) fun v8 h8 =>
 bnd (gD v6 true (aH .leq v8 (.i .u8 (Int.ofNat 122)) h8) h8) fun v9 h9 =>
 bnd (gD v2 true (bA v6 v9 (.b false) h9) h9) fun v10 h10 =>
 bnd (gD v2 true (some (v10, h10)) h10) fun v11 h11 =>
 bnd (gD v11 false (some (x0, h11)) h11) fun v12 h12 =>
 bnd (gD v11 false (bK v12 (aG 0) h12) h12) fun v13 h13 =>
 bnd (gD v11 false (aH .geq v13 (.i .u8 (Int.ofNat 65)) h13) h13) fun v14 h14 =>
 bnd (gD v11 false (some (v14, h14)) h14) fun v15 h15 =>
 bnd (gD v15 true (some (x0, h15)) h15) fun v16 h16 =>
 bnd (gD v15 true (bK v16 (aG 0) h16) h16) fun v17 h17 =>
 bnd (gD v15 true (aH .leq v17 (.i .u8 (Int.ofNat 90)) h17) h17) fun v18 h18 =>
 bnd (gD v11 false (bA v15 v18 (.b false) h18) h18) fun v19 h19 =>
 bnd (gD v2 true (bA v11 (.b true) v19 h19) h19) fun v20 h20 =>
 bnd (bA v2 v20 (.b false) h20) fun v21 h21 =>
 aV v21 (
 some ((aG 1), h21)) (
 some ((aG 2), h21))
def uJ (r : RT) (n : Nat) (kk4 : dS) (x0 x3 : DV) (h0 : Hp) : aF :=
 bnd (dE x0 h0) fun v1 h1 =>
 bnd (aH .lss x3 v1 h1) fun v2 h2 =>
 aV v2 (
 bnd (bK x0 x3 h2) fun v3 h3 =>
 bnd (aH .eql v3 (.i .u8 (Int.ofNat 58)) h3) fun v4 h4 =>
 aV v4 (
 some ((aG 3), h4)) (
 bnd (aH .add x3 (aG 1) h4) fun v5 h5 =>
  kk4 x0 v5 h5)) (
      gT r n x0 h2)
def oH (r : RT) (n : Nat) (m : Nat) : dS :=
 Nat.rec (motive := fun _ => dS) (fun _ _ _ => none) (fun _ ih => uJ r n ih) m
def bLv (r : RT) (n : Nat) : dS := oH r n n
def bCe (r : RT) (n : Nat) (x0 x3 : DV) (h0 : Hp) : aF :=
 bLv r n x0 x3 h0
def aXu (r : RT) (n : Nat) (x0 : DV) (h0 : Hp) : aF :=
 bCe r n x0 (aG 0) h0
def s39 (r : RT) (n : Nat) (x0 : DV) (h0 : Hp) : aF :=
 aXu r n x0 h0
abbrev c39 : Code := cf Tryz.f39
abbrev bEl := cR c39
abbrev dQi := cR bEl
abbrev aRp := cL bEl
abbrev bZu := cR aRp
abbrev bEd := cL bZu
abbrev aBl := cL bEd
abbrev dAa := cL aRp
abbrev cYb := cL c39
abbrev r39 : K := bF CF Tryz.f39
def D39 (r : RT) (n : Nat) (c : Code) (X : Nat → K) (k : K) : K := aR CF r 37 n c X r39 k
theorem dNf : D39 r n dQi x0 r39 = (K1 (gT r n) 0) := by kernel_rfl
theorem cQm (kk4 : dS) : D39 r n aBl (xs x0 0 (K1 (gT r n) 0)) (K2 kk4 0 3) = (K2 (uJ r n kk4) 0 3) := by kernel_rfl
theorem cFy (m : Nat) : aE (fun kk => D39 r n aBl (xs x0 0 (K1 (gT r n) 0)) kk) m = (K2 (oH r n m) 0 3) := by
 induction m with
 | zero => exact (by kernel_rfl : aE (fun kk => D39 r n aBl (xs x0 0 (K1 (gT r n) 0)) kk) 0 = (K2 (oH r n 0) 0 3))
 | succ m ih =>
  refine (by kernel_rfl : aE (fun kk => D39 r n aBl (xs x0 0 (K1 (gT r n) 0)) kk) (m + 1) = D39 r n aBl (xs x0 0 (K1 (gT r n) 0)) (aE (fun kk => D39 r n aBl (xs x0 0 (K1 (gT r n) 0)) kk) m)).trans ?_
  rw [ih]
  exact (cQm r n (oH r n m)).trans (by kernel_rfl)
theorem dBp : D39 r n bEd (xs x0 0 (K1 (gT r n) 0)) (K1 (gT r n) 0) = (K2 (bLv r n) 0 3) :=
 (by kernel_rfl : D39 r n bEd (xs x0 0 (K1 (gT r n) 0)) (K1 (gT r n) 0) = aE (fun kk => D39 r n aBl (xs x0 0 (K1 (gT r n) 0)) kk) n).trans ((cFy r n n).trans (by kernel_rfl))
theorem dKj : D39 r n bZu x0 (K1 (gT r n) 0) = (K2 (bCe r n) 0 3) :=
 (by kernel_rfl : D39 r n bZu x0 (K1 (gT r n) 0) = D39 r n bEd (xs x0 0 (K1 (gT r n) 0)) (K1 (gT r n) 0)).trans
 ((dBp r n).trans (by kernel_rfl))
theorem cVe : D39 r n bEl x0 r39 = D39 r n aRp x0 (K1 (gT r n) 0) :=
 congrArg (fun k => D39 r n aRp x0 k) (dNf r n)
theorem cQh : D39 r n aRp x0 (K1 (gT r n) 0) = D39 r n dAa x0 (K2 (bCe r n) 0 3) :=
 congrArg (fun k => D39 r n dAa x0 k) (dKj r n)
theorem dMo : D39 r n bEl x0 r39 = (K1 (aXu r n) 0) :=
 (cVe r n).trans
 ((cQh r n).trans
 ((by kernel_rfl)))
theorem dTf : D39 r n c39 x0 r39 = D39 r n cYb x0 (K1 (aXu r n) 0) :=
 congrArg (fun k => D39 r n cYb x0 k) (dMo r n)
theorem eAj : D39 r n c39 x0 r39 = (K1 (s39 r n) 0) :=
 (dTf r n).trans
 ((by kernel_rfl))
theorem dSb : aL CF r n 39 args h = s39 r n (aS args 0) h :=
 dI (eAj r n) args h (by kernel_rfl) (by kernel_rfl)
def s40 (r : RT) (n : Nat) (x0 x1 : DV) (h0 : Hp) : aF :=
 bnd (eR x0 h0) fun v1 h1 =>
 bnd (aA 3 v1 h1) fun v2 h2 =>
 bnd (aB v2 h2) fun v3 h3 =>
 bnd (dG v3 h3) fun v4 h4 =>
 bnd (aH .geq x1 v4 h4) fun v5 h5 =>
 aV v5 (
 some ((.s []), h5)) (
 bnd (aA 3 v1 h5) fun v6 h6 =>
 bnd (aB v6 h6) fun v7 h7 =>
 bnd (aO 1 v7 x1 h7) fun v8 h8 =>
 bnd (aB v8 h8) fun v9 h9 =>
 some (v9, h9))
abbrev c40 : Code := cf Tryz.f40
abbrev r40 : K := bF CF Tryz.f40
def D40 (r : RT) (n : Nat) (c : Code) (X : Nat → K) (k : K) : K := aR CF r 15 n c X r40 k
theorem dXe : D40 r n c40 x0 r40 = (K2 (s40 r n) 0 1) :=
 (by kernel_rfl)
theorem dSe : aL CF r n 40 args h = s40 r n (aS args 0) (aS args 1) h :=
 dI (dXe r n) args h (by kernel_rfl) (by kernel_rfl)
def iG (r : RT) (n : Nat) (x3 : DV) (h0 : Hp) : aF :=
 some (x3, h0)
def bIy (r : RT) (n : Nat) (kk6 : gO) (x0 x3 x4 x5 : DV) (h0 : Hp) : aF :=
 bnd (aH .add x5 (aG 1) h0) fun v1 h1 =>
  kk6 x0 x3 x4 v1 h1
def cZa (r : RT) (n : Nat) (kk6 : gO) (x0 x3 x4 x5 : DV) (h0 : Hp) : aF :=
 bnd (bK x0 x5 h0) fun v1 h1 =>
 bnd (aH .eql v1 (.i .u8 (Int.ofNat 58)) h1) fun v2 h2 =>
 aV v2 (
 bnd (aH .add x5 (aG 1) h2) fun v3 h3 =>
 bnd (dC x0 (some x4) (some v3) h3) fun v4 h4 =>
 bnd (aN [(.s [])] 1 [(0, 1, v4)] h4) fun v5 h5 =>
 bnd (aY 1 16 x3 v5 h5) fun v6 h6 =>
 bnd (aH .add x5 (aG 1) h6) fun v7 h7 =>
  bIy r n kk6 x0 v6 v7 x5 h7) (
  bIy r n kk6 x0 x3 x4 x5 h2)
def uK (r : RT) (n : Nat) (kk6 : gO) (x0 x3 x4 x5 : DV) (h0 : Hp) : aF :=
 bnd (dE x0 h0) fun v1 h1 =>
 bnd (aH .lss x5 v1 h1) fun v2 h2 =>
 aV v2 (
  cZa r n kk6 x0 x3 x4 x5 h2) (
  iG r n x3 h2)
def nH (r : RT) (n : Nat) (m : Nat) : gO :=
 Nat.rec (motive := fun _ => gO) (fun _ _ _ _ _ => none) (fun _ ih => uK r n ih) m
def bVw (r : RT) (n : Nat) : gO := nH r n n
def bBp (r : RT) (n : Nat) (x0 x3 x4 x5 : DV) (h0 : Hp) : aF :=
 bVw r n x0 x3 x4 x5 h0
def aZa (r : RT) (n : Nat) (x0 x3 x4 : DV) (h0 : Hp) : aF :=
 bBp r n x0 x3 x4 (aG 0) h0
def bCv (r : RT) (n : Nat) (x0 x3 : DV) (h0 : Hp) : aF :=
 aZa r n x0 x3 (aG 0) h0
def bCs (r : RT) (n : Nat) (x0 : DV) (h0 : Hp) : aF :=
 bCv r n x0 .l0 h0
def s41 (r : RT) (n : Nat) (x0 : DV) (h0 : Hp) : aF :=
 bCs r n x0 h0
abbrev c41 : Code := cf Tryz.f41
abbrev aYd := cR c41
abbrev bCf := cR aYd
abbrev bHo := cR bCf
abbrev dRy := cR bHo
abbrev aRu := cL bHo
abbrev bYq := cR aRu
abbrev bGw := cL bYq
abbrev aCv := cL bGw
abbrev bZw := cL aRu
abbrev bXe := cL bCf
abbrev bRm := cL aYd
abbrev bXm := cL c41
abbrev r41 : K := bF CF Tryz.f41
def D41 (r : RT) (n : Nat) (c : Code) (X : Nat → K) (k : K) : K := aR CF r 27 n c X r41 k
theorem dIq : D41 r n dRy x0 r41 = (K1 (iG r n) 3) := by kernel_rfl
theorem cTe (kk6 : gO) : D41 r n aCv (xs x0 0 (K1 (iG r n) 3)) (K4 kk6 0 3 4 5) = (K4 (uK r n kk6) 0 3 4 5) := by kernel_rfl
theorem cNq (m : Nat) : aE (fun kk => D41 r n aCv (xs x0 0 (K1 (iG r n) 3)) kk) m = (K4 (nH r n m) 0 3 4 5) := by
 induction m with
 | zero => exact (by kernel_rfl : aE (fun kk => D41 r n aCv (xs x0 0 (K1 (iG r n) 3)) kk) 0 = (K4 (nH r n 0) 0 3 4 5))
 | succ m ih =>
  refine (by kernel_rfl : aE (fun kk => D41 r n aCv (xs x0 0 (K1 (iG r n) 3)) kk) (m + 1) = D41 r n aCv (xs x0 0 (K1 (iG r n) 3)) (aE (fun kk => D41 r n aCv (xs x0 0 (K1 (iG r n) 3)) kk) m)).trans ?_
  rw [ih]
  exact (cTe r n (nH r n m)).trans (by kernel_rfl)
theorem dEs : D41 r n bGw (xs x0 0 (K1 (iG r n) 3)) (K1 (iG r n) 3) = (K4 (bVw r n) 0 3 4 5) :=
 (by kernel_rfl : D41 r n bGw (xs x0 0 (K1 (iG r n) 3)) (K1 (iG r n) 3) = aE (fun kk => D41 r n aCv (xs x0 0 (K1 (iG r n) 3)) kk) n).trans ((cNq r n n).trans (by kernel_rfl))
theorem dNc : D41 r n bYq x0 (K1 (iG r n) 3) = (K4 (bBp r n) 0 3 4 5) :=
 (by kernel_rfl : D41 r n bYq x0 (K1 (iG r n) 3) = D41 r n bGw (xs x0 0 (K1 (iG r n) 3)) (K1 (iG r n) 3)).trans
 ((dEs r n).trans (by kernel_rfl))
theorem cSv : D41 r n bHo x0 r41 = D41 r n aRu x0 (K1 (iG r n) 3) :=
 congrArg (fun k => D41 r n aRu x0 k) (dIq r n)
theorem cTl : D41 r n aRu x0 (K1 (iG r n) 3) = D41 r n bZw x0 (K4 (bBp r n) 0 3 4 5) :=
 congrArg (fun k => D41 r n bZw x0 k) (dNc r n)
theorem dIr : D41 r n bHo x0 r41 = (K3 (aZa r n) 0 3 4) :=
 (cSv r n).trans
 ((cTl r n).trans
 ((by kernel_rfl)))
theorem cPa : D41 r n bCf x0 r41 = D41 r n bXe x0 (K3 (aZa r n) 0 3 4) :=
 congrArg (fun k => D41 r n bXe x0 k) (dIr r n)
theorem dBg : D41 r n bCf x0 r41 = (K2 (bCv r n) 0 3) :=
 (cPa r n).trans
 ((by kernel_rfl))
theorem cJt : D41 r n aYd x0 r41 = D41 r n bRm x0 (K2 (bCv r n) 0 3) :=
 congrArg (fun k => D41 r n bRm x0 k) (dBg r n)
theorem dBw : D41 r n aYd x0 r41 = (K1 (bCs r n) 0) :=
 (cJt r n).trans
 ((by kernel_rfl))
theorem dQz : D41 r n c41 x0 r41 = D41 r n bXm x0 (K1 (bCs r n) 0) :=
 congrArg (fun k => D41 r n bXm x0 k) (dBw r n)
theorem dXj : D41 r n c41 x0 r41 = (K1 (s41 r n) 0) :=
 (dQz r n).trans
 ((by kernel_rfl))
theorem dRi : aL CF r n 41 args h = s41 r n (aS args 0) h :=
 dI (dXj r n) args h (by kernel_rfl) (by kernel_rfl)
def jI (r : RT) (n : Nat) (x3 : DV) (h0 : Hp) : aF :=
 bnd (cB .add (.s [45]) x3 h0) fun v1 h1 =>
 some (v1, h1)
def uU (r : RT) (n : Nat) (kk6 : dS) (x0 x3 : DV) (h0 : Hp) : aF :=
 bnd (aH .lss x0 (aG 0) h0) fun v1 h1 =>
 aV v1 (
 bnd (aH .rem x0 (aG 10) h1) fun v2 h2 =>
 bnd (aH .sub (aG 48) v2 h2) fun v3 h3 =>
 bnd (lB .u8 v3 h3) fun v4 h4 =>
 bnd (aN [(.i .u8 (Int.ofNat 0))] 1 [(0, 1, v4)] h4) fun v5 h5 =>
 bnd (pB v5 h5) fun v6 h6 =>
 bnd (cB .add v6 x3 h6) fun v7 h7 =>
 bnd (aH .quo x0 (aG 10) h7) fun v8 h8 =>
      kk6 v8 v7 h8) (
      jI r n x3 h1)
def nW (r : RT) (n : Nat) (m : Nat) : dS :=
 Nat.rec (motive := fun _ => dS) (fun _ _ _ => none) (fun _ ih => uU r n ih) m
def bYx (r : RT) (n : Nat) : dS := nW r n n
def bJf (r : RT) (n : Nat) (x0 x3 : DV) (h0 : Hp) : aF :=
 bYx r n x0 x3 h0
def bHe (r : RT) (n : Nat) (x0 : DV) (h0 : Hp) : aF :=
 bJf r n x0 (.s []) h0
def aPp (r : RT) (n : Nat) (x0 : DV) (h0 : Hp) : aF :=
 bnd (aH .gtr x0 (aG 0) h0) fun v1 h1 =>
 aV v1 (
 bnd (aH .quo x0 (aG 10) h1) fun v2 h2 =>
 bnd (r 42 [v2] h2) fun v3 h3 =>
 bnd (aH .rem x0 (aG 10) h3) fun v4 h4 =>
 bnd (r 42 [v4] h4) fun v5 h5 =>
 bnd (cB .add v3 v5 h5) fun v6 h6 =>
 some (v6, h6)) (
  bHe r n x0 h1)
def aEx (r : RT) (n : Nat) (x0 : DV) (h0 : Hp) : aF :=
 bnd (aH .geq x0 (aG 0) h0) fun v1 h1 =>
 bnd (gD v1 true (some (x0, h1)) h1) fun v2 h2 =>
 bnd (gD v1 true (aH .lss v2 (aG 10) h2) h2) fun v3 h3 =>
 bnd (bA v1 v3 (.b false) h3) fun v4 h4 =>
 aV v4 (
 bnd (aH .add (aG 48) x0 h4) fun v5 h5 =>
 bnd (lB .u8 v5 h5) fun v6 h6 =>
 bnd (aN [(.i .u8 (Int.ofNat 0))] 1 [(0, 1, v6)] h6) fun v7 h7 =>
 bnd (pB v7 h7) fun v8 h8 =>
 some (v8, h8)) (
  aPp r n x0 h4)
def s42 (r : RT) (n : Nat) (x0 : DV) (h0 : Hp) : aF :=
 aEx r n x0 h0
abbrev c42 : Code := cf Tryz.f42
abbrev bAq := cR c42
abbrev aZh := cR bAq
abbrev bBf := cR aZh
abbrev bHf := cR bBf
abbrev dPd := cR bHf
abbrev aYi := cL bHf
abbrev bCp := cL aYi
abbrev aAa := cL bCp
abbrev cXm := cL bBf
abbrev cEz := cL aZh
abbrev bWu := cL bAq
abbrev cFc := cL c42
abbrev r42 : K := bF CF Tryz.f42
def D42 (r : RT) (n : Nat) (c : Code) (X : Nat → K) (k : K) : K := aR CF r 38 n c X r42 k
theorem dHr : D42 r n dPd x0 r42 = (K1 (jI r n) 3) := by kernel_rfl
theorem cJc (kk6 : dS) : D42 r n aAa (xs x0 0 (K1 (jI r n) 3)) (K2 kk6 0 3) = (K2 (uU r n kk6) 0 3) := by kernel_rfl
theorem cIq (m : Nat) : aE (fun kk => D42 r n aAa (xs x0 0 (K1 (jI r n) 3)) kk) m = (K2 (nW r n m) 0 3) := by
 induction m with
 | zero => exact (by kernel_rfl : aE (fun kk => D42 r n aAa (xs x0 0 (K1 (jI r n) 3)) kk) 0 = (K2 (nW r n 0) 0 3))
 | succ m ih =>
  refine (by kernel_rfl : aE (fun kk => D42 r n aAa (xs x0 0 (K1 (jI r n) 3)) kk) (m + 1) = D42 r n aAa (xs x0 0 (K1 (jI r n) 3)) (aE (fun kk => D42 r n aAa (xs x0 0 (K1 (jI r n) 3)) kk) m)).trans ?_
  rw [ih]
  exact (cJc r n (nW r n m)).trans (by kernel_rfl)
theorem dKx : D42 r n bCp (xs x0 0 (K1 (jI r n) 3)) (K1 (jI r n) 3) = (K2 (bYx r n) 0 3) :=
 (by kernel_rfl : D42 r n bCp (xs x0 0 (K1 (jI r n) 3)) (K1 (jI r n) 3) = aE (fun kk => D42 r n aAa (xs x0 0 (K1 (jI r n) 3)) kk) n).trans ((cIq r n n).trans (by kernel_rfl))
theorem cLk : D42 r n bHf x0 r42 = D42 r n aYi x0 (K1 (jI r n) 3) :=
 congrArg (fun k => D42 r n aYi x0 k) (dHr r n)
theorem dIe : D42 r n bHf x0 r42 = (K2 (bJf r n) 0 3) :=
 (cLk r n).trans
 ((by kernel_rfl : D42 r n aYi x0 (K1 (jI r n) 3) = D42 r n bCp (xs x0 0 (K1 (jI r n) 3)) (K1 (jI r n) 3)).trans
 ((dKx r n).trans (by kernel_rfl)))
theorem cTo : D42 r n bBf x0 r42 = D42 r n cXm x0 (K2 (bJf r n) 0 3) :=
 congrArg (fun k => D42 r n cXm x0 k) (dIe r n)
theorem dLx : D42 r n bBf x0 r42 = (K1 (bHe r n) 0) :=
 (cTo r n).trans
 ((by kernel_rfl))
theorem cOg : D42 r n aZh x0 r42 = D42 r n cEz x0 (K1 (bHe r n) 0) :=
 congrArg (fun k => D42 r n cEz x0 k) (dLx r n)
theorem dLv : D42 r n aZh x0 r42 = (K1 (aPp r n) 0) :=
 (cOg r n).trans
 ((by kernel_rfl))
theorem cTa : D42 r n bAq x0 r42 = D42 r n bWu x0 (K1 (aPp r n) 0) :=
 congrArg (fun k => D42 r n bWu x0 k) (dLv r n)
theorem dNv : D42 r n bAq x0 r42 = (K1 (aEx r n) 0) :=
 (cTa r n).trans
 ((by kernel_rfl))
theorem dSj : D42 r n c42 x0 r42 = D42 r n cFc x0 (K1 (aEx r n) 0) :=
 congrArg (fun k => D42 r n cFc x0 k) (dNv r n)
theorem dZn : D42 r n c42 x0 r42 = (K1 (s42 r n) 0) :=
 (dSj r n).trans
 ((by kernel_rfl))
theorem dSp : aL CF r n 42 args h = s42 r n (aS args 0) h :=
 dI (dZn r n) args h (by kernel_rfl) (by kernel_rfl)
def aGp (r : RT) (n : Nat) (kk5 : cZ) (x0 x5 x6 : DV) (h0 : Hp) : aF :=
 bnd (r 66 [x0, x6] h0) fun v1 h1 =>
 bnd (aP 0 v1 h1) fun v2 h2 =>
 bnd (aP 1 v1 h2) fun v3 h3 =>
 aV v3 (
 some (.t [.l0, v2, (aG 11)], h3)) (
 bnd (dE x0 h3) fun v4 h4 =>
 bnd (aH .eql v2 v4 h4) fun v5 h5 =>
 aV v5 (
 bnd (bC [(aG 0), (.s []), (aG 0), (aG 0)] [(3, 1, v2)] h5) fun v6 h6 =>
 bnd (aN [(aG 0), (.s []), (aG 0), (aG 0)] 1 [(0, 4, v6)] h6) fun v7 h7 =>
 bnd (aY 4 40 x5 v7 h7) fun v8 h8 =>
 some (.t [v8, (aG 0), (aG 0)], h8)) (
 bnd (r 67 [x0, v2] h5) fun v9 h9 =>
 bnd (aP 0 v9 h9) fun v10 h10 =>
 bnd (aP 1 v9 h10) fun v11 h11 =>
 bnd (aP 2 v9 h11) fun v12 h12 =>
 bnd (bL [(aG 0), (.s []), (aG 0), (aG 0)] h12) fun v13 h13 =>
 bnd (aC 4 v13 v10 h13) fun _ h14 =>
 bnd (aH .neq v12 (aG 0) h14) fun v15 h15 =>
 aV v15 (
 some (.t [.l0, v2, v12], h15)) (
 bnd (aD 4 v13 h15) fun v16 h16 =>
 bnd (aN [(aG 0), (.s []), (aG 0), (aG 0)] 1 [(0, 4, v16)] h16) fun v17 h17 =>
 bnd (aY 4 40 x5 v17 h17) fun v18 h18 =>
  kk5 x0 v18 v11 h18)))
def sS (r : RT) (n : Nat) (m : Nat) : cZ :=
 Nat.rec (motive := fun _ => cZ) (fun _ _ _ _ => none) (fun _ ih => aGp r n ih) m
def cFr (r : RT) (n : Nat) : cZ := sS r n n
def bAe (r : RT) (n : Nat) (x0 x5 x6 : DV) (h0 : Hp) : aF :=
 cFr r n x0 x5 x6 h0
def aYj (r : RT) (n : Nat) (x0 x5 : DV) (h0 : Hp) : aF :=
 bAe r n x0 x5 (aG 0) h0
def aZp (r : RT) (n : Nat) (x0 : DV) (h0 : Hp) : aF :=
 aYj r n x0 .l0 h0
def bIo (r : RT) (n : Nat) (x0 : DV) (h0 : Hp) : aF :=
 bnd (dE x0 h0) fun v1 h1 =>
 bnd (aH .gtr v1 (aG 2000) h1) fun v2 h2 =>
 aV v2 (
 some (.t [.l0, (aG 0), (aG 12)], h2)) (
  aZp r n x0 h2)
def s43 (r : RT) (n : Nat) (x0 : DV) (h0 : Hp) : aF :=
 bIo r n x0 h0
abbrev c43 : Code := cf Tryz.f43
abbrev bDe := cR c43
abbrev bBi := cR bDe
abbrev aZo := cR bBi
abbrev bSp := cR aZo
abbrev bBl := cL bSp
abbrev zY := cL bBl
abbrev cYo := cL aZo
abbrev cYa := cL bBi
abbrev cZb := cL bDe
abbrev bYp := cL c43
abbrev r43 : K := bF CF Tryz.f43
def D43 (r : RT) (n : Nat) (c : Code) (X : Nat → K) (k : K) : K := aR CF r 48 n c X r43 k
theorem cGi (kk5 : cZ) : D43 r n zY (xs x0 0 r43) (K3 kk5 0 5 6) = (K3 (aGp r n kk5) 0 5 6) := by kernel_rfl
theorem cGk (m : Nat) : aE (fun kk => D43 r n zY (xs x0 0 r43) kk) m = (K3 (sS r n m) 0 5 6) := by
 induction m with
 | zero => exact (by kernel_rfl : aE (fun kk => D43 r n zY (xs x0 0 r43) kk) 0 = (K3 (sS r n 0) 0 5 6))
 | succ m ih =>
  refine (by kernel_rfl : aE (fun kk => D43 r n zY (xs x0 0 r43) kk) (m + 1) = D43 r n zY (xs x0 0 r43) (aE (fun kk => D43 r n zY (xs x0 0 r43) kk) m)).trans ?_
  rw [ih]
  exact (cGi r n (sS r n m)).trans (by kernel_rfl)
theorem dLj : D43 r n bBl (xs x0 0 r43) r43 = (K3 (cFr r n) 0 5 6) :=
 (by kernel_rfl : D43 r n bBl (xs x0 0 r43) r43 = aE (fun kk => D43 r n zY (xs x0 0 r43) kk) n).trans ((cGk r n n).trans (by kernel_rfl))
theorem dJq : D43 r n bSp x0 r43 = (K3 (bAe r n) 0 5 6) :=
 (by kernel_rfl : D43 r n bSp x0 r43 = D43 r n bBl (xs x0 0 r43) r43).trans
 ((dLj r n).trans (by kernel_rfl))
theorem cNd : D43 r n aZo x0 r43 = D43 r n cYo x0 (K3 (bAe r n) 0 5 6) :=
 congrArg (fun k => D43 r n cYo x0 k) (dJq r n)
theorem dOh : D43 r n aZo x0 r43 = (K2 (aYj r n) 0 5) :=
 (cNd r n).trans
 ((by kernel_rfl))
theorem cJv : D43 r n bBi x0 r43 = D43 r n cYa x0 (K2 (aYj r n) 0 5) :=
 congrArg (fun k => D43 r n cYa x0 k) (dOh r n)
theorem dOf : D43 r n bBi x0 r43 = (K1 (aZp r n) 0) :=
 (cJv r n).trans
 ((by kernel_rfl))
theorem cMg : D43 r n bDe x0 r43 = D43 r n cZb x0 (K1 (aZp r n) 0) :=
 congrArg (fun k => D43 r n cZb x0 k) (dOf r n)
theorem dHw : D43 r n bDe x0 r43 = (K1 (bIo r n) 0) :=
 (cMg r n).trans
 ((by kernel_rfl))
theorem dRh : D43 r n c43 x0 r43 = D43 r n bYp x0 (K1 (bIo r n) 0) :=
 congrArg (fun k => D43 r n bYp x0 k) (dHw r n)
theorem eAq : D43 r n c43 x0 r43 = (K1 (s43 r n) 0) :=
 (dRh r n).trans
 ((by kernel_rfl))
theorem dQs : aL CF r n 43 args h = s43 r n (aS args 0) h :=
 dI (eAq r n) args h (by kernel_rfl) (by kernel_rfl)
end
end Go.Dd

namespace Go.Dd
open Go.Proofs
noncomputable section
variable (r : RT) (n : Nat) (args : List DV) (h : Hp)
def aZs (r : RT) (n : Nat) (x2 x3 : DV) (h0 : Hp) : aF :=
 bnd (aD 6 x3 h0) fun v1 h1 =>
 bnd (aC 6 x2 v1 h1) fun _ h2 =>
 bnd (aD 6 x2 h2) fun v3 _ =>
 some (v3, h2)
def aHj (r : RT) (n : Nat) (x0 x2 x3 x4 : DV) (h0 : Hp) : aF :=
 bnd (r 47 [x0, (aG 3), (.s [62])] h0) fun v1 h1 =>
 bnd (aA 2 x4 h1) fun v2 h2 =>
 bnd (aB v2 h2) fun v3 h3 =>
 bnd (aA 2 x3 h3) fun v4 h4 =>
 bnd (aC 1 v4 v3 h4) fun _ h5 =>
  aZs r n x2 x3 h5
def cZp (r : RT) (n : Nat) (x0 x2 x3 x4 : DV) (h0 : Hp) : aF :=
 bnd (aA 2 x4 h0) fun v1 h1 =>
 bnd (aB v1 h1) fun v2 h2 =>
 bnd (aH .gtr v2 (aG 255) h2) fun v3 h3 =>
 aV v3 (
 bnd (aD 4 x4 h3) fun v4 h4 =>
 bnd (r 71 [x0, v4, (aG 2)] h4) fun v5 h5 =>
  aHj r n x0 x2 x3 x4 h5) (
  aHj r n x0 x2 x3 x4 h3)
def cWk (r : RT) (n : Nat) (x0 x2 x3 : DV) (h0 : Hp) : aF :=
 bnd (r 47 [x0, (aG 4), (.s [])] h0) fun v1 h1 =>
 bnd (bL [(aG 0), (.s []), (aG 0), (aG 0)] h1) fun v2 h2 =>
 bnd (aC 4 v2 v1 h2) fun _ h3 =>
  cZp r n x0 x2 x3 v2 h3
def cZw (r : RT) (n : Nat) (x0 x2 x3 : DV) (h0 : Hp) : aF :=
 bnd (r 47 [x0, (aG 2), (.s [112, 114, 105, 109, 105, 116, 105, 118, 101, 58])] h0) fun v1 h1 =>
  cWk r n x0 x2 x3 h1
def cXv (r : RT) (n : Nat) (x0 x2 x3 : DV) (h0 : Hp) : aF :=
 bnd (r 69 [x0] h0) fun v1 h1 =>
  cZw r n x0 x2 x3 h1
def cWq (r : RT) (n : Nat) (x0 x2 x3 x43 : DV) (h0 : Hp) : aF :=
 aV x43 (
  cXv r n x0 x2 x3 h0) (
  aZs r n x2 x3 h0)
def dH (r : RT) (n : Nat) (x0 x2 x3 : DV) (h0 : Hp) : aF :=
 bnd (r 68 [x0, (aG 3), (.s [60])] h0) fun v1 h1 =>
  cWq r n x0 x2 x3 v1 h1
def wZ (r : RT) (n : Nat) (kk17 : cZ) (x0 x2 x3 : DV) (h0 : Hp) : aF :=
 bnd (r 68 [x0, (aG 2), (.s [])] h0) fun v1 h1 =>
 aV v1 (
 bnd (aA 1 x3 h1) fun v2 h2 =>
 bnd (aB v2 h2) fun v3 h3 =>
 bnd (r 69 [x0] h3) fun v4 h4 =>
 cnd (bM (aB v2 h4) v3 && true) (
 bnd (bY 1 v4 h4) fun v5 h5 =>
 bnd (cB .add v3 v5 h5) fun v6 h6 =>
 bnd (aA 1 x3 h6) fun v7 h7 =>
 bnd (aC 1 v7 v6 h7) fun v8 h8 =>
 bnd (aA 3 x3 h8) fun v9 h9 =>
 bnd (aB v9 h9) fun v10 h10 =>
 bnd (r 70 [x0, (aG 1), v10] h10) fun v11 h11 =>
 bnd (aA 3 x3 h11) fun v12 h12 =>
 bnd (aC 1 v12 v11 h12) fun _ h13 =>
      kk17 x0 x2 x3 h13)) (
      dH r n x0 x2 x3 h1)
def oI (r : RT) (n : Nat) (m : Nat) : cZ :=
 Nat.rec (motive := fun _ => cZ) (fun _ _ _ _ => none) (fun _ ih => wZ r n ih) m
def aVw (r : RT) (n : Nat) : cZ := oI r n n
def aKd (r : RT) (n : Nat) (x0 x2 x3 : DV) (h0 : Hp) : aF :=
 aVw r n x0 x2 x3 h0
def aJs (r : RT) (n : Nat) (x0 x2 x3 : DV) (h0 : Hp) : aF :=
 bnd (r 70 [x0, (aG 1), .l0] h0) fun v1 h1 =>
 bnd (aA 3 x3 h1) fun v2 h2 =>
 bnd (aC 1 v2 v1 h2) fun _ h3 =>
  aKd r n x0 x2 x3 h3
def aTo (r : RT) (n : Nat) (x0 x2 x3 : DV) (h0 : Hp) : aF :=
 bnd (r 47 [x0, (aG 2), (.s [])] h0) fun v1 h1 =>
 bnd (bY 1 v1 h1) fun v2 h2 =>
 bnd (aA 1 x3 h2) fun v3 h3 =>
 bnd (aC 1 v3 v2 h3) fun _ h4 =>
  aJs r n x0 x2 x3 h4
def aGl (r : RT) (n : Nat) (x0 x2 x3 x13 : DV) (h0 : Hp) : aF :=
 aV x13 (
 bnd (r 69 [x0] h0) fun v1 h1 =>
 bnd (bY 1 v1 h1) fun v2 h2 =>
 bnd (aA 1 x3 h2) fun v3 h3 =>
 bnd (aC 1 v3 v2 h3) fun _ h4 =>
 bnd (r 70 [x0, (aG 1), .l0] h4) fun v5 h5 =>
 bnd (aA 3 x3 h5) fun v6 h6 =>
 bnd (aC 1 v6 v5 h6) fun _ h7 =>
  dH r n x0 x2 x3 h7) (
  aTo r n x0 x2 x3 h0)
def aVj (r : RT) (n : Nat) (x0 x2 x3 : DV) (h0 : Hp) : aF :=
 bnd (r 68 [x0, (aG 3), (.s [])] h0) fun v1 h1 =>
  aGl r n x0 x2 x3 v1 h1
def aKn (r : RT) (n : Nat) (x0 x2 x3 x7 : DV) (h0 : Hp) : aF :=
 aV x7 (
 bnd (r 69 [x0] h0) fun v1 h1 =>
 bnd (bY 1 v1 h1) fun v2 h2 =>
 bnd (aA 1 x3 h2) fun v3 h3 =>
 bnd (aC 1 v3 v2 h3) fun _ h4 =>
  dH r n x0 x2 x3 h4) (
  aVj r n x0 x2 x3 h0)
def bHi (r : RT) (n : Nat) (x0 x2 x3 : DV) (h0 : Hp) : aF :=
 bnd (r 68 [x0, (aG 1), (.s [])] h0) fun v1 h1 =>
  aKn r n x0 x2 x3 v1 h1
def bGe (r : RT) (n : Nat) (x0 x2 : DV) (h0 : Hp) : aF :=
 bnd (bC cY [(0, 1, (aG 11))] h0) fun v1 h1 =>
 bnd (bL cY h1) fun v2 h2 =>
 bnd (aC 6 v2 v1 h2) fun _ h3 =>
  bHi r n x0 x2 v2 h3
def s44 (r : RT) (n : Nat) (x0 : DV) (h0 : Hp) : aF :=
 bnd (bL cY h0) fun v1 h1 =>
  bGe r n x0 v1 h1
abbrev c44 : Code := cf Tryz.f44
abbrev bEn := cR c44
abbrev bEo := cR bEn
abbrev dRo := cR bEo
abbrev aCq := cL bEo
abbrev aCg := cR aCq
abbrev yR := cR aCg
abbrev aDd := cR yR
abbrev aBv := cR aDd
abbrev aJp := cR aBv
abbrev aWj := cR aJp
abbrev aHx := cL aWj
abbrev sE := cL aHx
abbrev bVk := cL aJp
abbrev bRr := cL aBv
abbrev dJh := cL aDd
abbrev cCb := cL yR
abbrev dOd := cL aCg
abbrev cCl := cL aCq
abbrev bQn := cL bEn
abbrev bNn := cL c44
abbrev r44 : K := bF CF Tryz.f44
def D44 (r : RT) (n : Nat) (c : Code) (X : Nat → K) (k : K) : K := aR CF r 62 n c X r44 k
theorem dBq : D44 r n dRo x0 r44 = (K3 (dH r n) 0 2 3) := by kernel_rfl
theorem bXp (kk17 : cZ) : D44 r n sE (xs x0 0 (K3 (dH r n) 0 2 3)) (K3 kk17 0 2 3) = (K3 (wZ r n kk17) 0 2 3) := by kernel_rfl
theorem bRp (m : Nat) : aE (fun kk => D44 r n sE (xs x0 0 (K3 (dH r n) 0 2 3)) kk) m = (K3 (oI r n m) 0 2 3) := by
 induction m with
 | zero => exact (by kernel_rfl : aE (fun kk => D44 r n sE (xs x0 0 (K3 (dH r n) 0 2 3)) kk) 0 = (K3 (oI r n 0) 0 2 3))
 | succ m ih =>
  refine (by kernel_rfl : aE (fun kk => D44 r n sE (xs x0 0 (K3 (dH r n) 0 2 3)) kk) (m + 1) = D44 r n sE (xs x0 0 (K3 (dH r n) 0 2 3)) (aE (fun kk => D44 r n sE (xs x0 0 (K3 (dH r n) 0 2 3)) kk) m)).trans ?_
  rw [ih]
  exact (bXp r n (oI r n m)).trans (by kernel_rfl)
theorem cTi : D44 r n aHx (xs x0 0 (K3 (dH r n) 0 2 3)) (K3 (dH r n) 0 2 3) = (K3 (aVw r n) 0 2 3) :=
 (by kernel_rfl : D44 r n aHx (xs x0 0 (K3 (dH r n) 0 2 3)) (K3 (dH r n) 0 2 3) = aE (fun kk => D44 r n sE (xs x0 0 (K3 (dH r n) 0 2 3)) kk) n).trans ((bRp r n n).trans (by kernel_rfl))
theorem cMe : D44 r n aWj x0 (K3 (dH r n) 0 2 3) = (K3 (aKd r n) 0 2 3) :=
 (by kernel_rfl : D44 r n aWj x0 (K3 (dH r n) 0 2 3) = D44 r n aHx (xs x0 0 (K3 (dH r n) 0 2 3)) (K3 (dH r n) 0 2 3)).trans
 ((cTi r n).trans (by kernel_rfl))
theorem bQj : D44 r n aJp x0 (K3 (dH r n) 0 2 3) = D44 r n bVk x0 (K3 (aKd r n) 0 2 3) :=
 congrArg (fun k => D44 r n bVk x0 k) (cMe r n)
theorem cGg : D44 r n aJp x0 (K3 (dH r n) 0 2 3) = (K3 (aJs r n) 0 2 3) :=
 (bQj r n).trans
 ((by kernel_rfl))
theorem bUo : D44 r n aBv x0 (K3 (dH r n) 0 2 3) = D44 r n bRr x0 (K3 (aJs r n) 0 2 3) :=
 congrArg (fun k => D44 r n bRr x0 k) (cGg r n)
theorem cGv : D44 r n aBv x0 (K3 (dH r n) 0 2 3) = (K3 (aTo r n) 0 2 3) :=
 (bUo r n).trans
 ((by kernel_rfl))
theorem cTq : D44 r n aDd x0 (K3 (dH r n) 0 2 3) = (K4 (aGl r n) 0 2 3 13) :=
 (by kernel_rfl : D44 r n aDd x0 (K3 (dH r n) 0 2 3) = (fun (env : eJ) (h : Hp) => aV (opr env (cC aDd)) (D44 r n dJh x0 (K3 (dH r n) 0 2 3) env h) (D44 r n aBv x0 (K3 (dH r n) 0 2 3) env h))).trans (by rw [cGv r n]; kernel_rfl)
theorem bJk : D44 r n yR x0 (K3 (dH r n) 0 2 3) = D44 r n cCb x0 (K4 (aGl r n) 0 2 3 13) :=
 congrArg (fun k => D44 r n cCb x0 k) (cTq r n)
theorem cOy : D44 r n yR x0 (K3 (dH r n) 0 2 3) = (K3 (aVj r n) 0 2 3) :=
 (bJk r n).trans
 ((by kernel_rfl))
theorem cVx : D44 r n aCg x0 (K3 (dH r n) 0 2 3) = (K4 (aKn r n) 0 2 3 7) :=
 (by kernel_rfl : D44 r n aCg x0 (K3 (dH r n) 0 2 3) = (fun (env : eJ) (h : Hp) => aV (opr env (cC aCg)) (D44 r n dOd x0 (K3 (dH r n) 0 2 3) env h) (D44 r n yR x0 (K3 (dH r n) 0 2 3) env h))).trans (by rw [cOy r n]; kernel_rfl)
theorem bPk : D44 r n bEo x0 r44 = D44 r n aCq x0 (K3 (dH r n) 0 2 3) :=
 congrArg (fun k => D44 r n aCq x0 k) (dBq r n)
theorem bSm : D44 r n aCq x0 (K3 (dH r n) 0 2 3) = D44 r n cCl x0 (K4 (aKn r n) 0 2 3 7) :=
 congrArg (fun k => D44 r n cCl x0 k) (cVx r n)
theorem dHh : D44 r n bEo x0 r44 = (K3 (bHi r n) 0 2 3) :=
 (bPk r n).trans
 ((bSm r n).trans
 ((by kernel_rfl)))
theorem cDn : D44 r n bEn x0 r44 = D44 r n bQn x0 (K3 (bHi r n) 0 2 3) :=
 congrArg (fun k => D44 r n bQn x0 k) (dHh r n)
theorem dIt : D44 r n bEn x0 r44 = (K2 (bGe r n) 0 2) :=
 (cDn r n).trans
 ((by kernel_rfl))
theorem dBo : D44 r n c44 x0 r44 = D44 r n bNn x0 (K2 (bGe r n) 0 2) :=
 congrArg (fun k => D44 r n bNn x0 k) (dIt r n)
theorem dXi : D44 r n c44 x0 r44 = (K1 (s44 r n) 0) :=
 (dBo r n).trans
 ((by kernel_rfl))
theorem dWa : aL CF r n 44 args h = s44 r n (aS args 0) h :=
 dI (dXi r n) args h (by kernel_rfl) (by kernel_rfl)
def kG (r : RT) (n : Nat) (x3 : DV) (h0 : Hp) : aF :=
 some (x3, h0)
def jF (r : RT) (n : Nat) (x0 x3 : DV) (h0 : Hp) : aF :=
 bnd (r 47 [x0, (aG 10), (.s [124])] h0) fun v1 h1 =>
  kG r n x3 h1
def aIh (r : RT) (n : Nat) (kk8 : dS) (x0 x3 : DV) (h0 : Hp) : aF :=
 bnd (r 68 [x0, (aG 1), (.s [])] h0) fun v1 h1 =>
 aV v1 (
 bnd (r 69 [x0] h1) fun v2 h2 =>
 bnd (bY 1 v2 h2) fun v3 h3 =>
 bnd (aN [(.s [])] 1 [(0, 1, v3)] h3) fun v4 h4 =>
 bnd (aY 1 16 x3 v4 h4) fun v5 h5 =>
      kk8 x0 v5 h5) (
      jF r n x0 x3 h1)
def rO (r : RT) (n : Nat) (m : Nat) : dS :=
 Nat.rec (motive := fun _ => dS) (fun _ _ _ => none) (fun _ ih => aIh r n ih) m
def cFq (r : RT) (n : Nat) : dS := rO r n n
def bBm (r : RT) (n : Nat) (x0 x3 : DV) (h0 : Hp) : aF :=
 cFq r n x0 x3 h0
def bTo (r : RT) (n : Nat) (x0 x3 : DV) (h0 : Hp) : aF :=
 bnd (r 69 [x0] h0) fun v1 h1 =>
  bBm r n x0 x3 h1
def bIw (r : RT) (n : Nat) (x0 x3 x5 : DV) (h0 : Hp) : aF :=
 aV x5 (
  bTo r n x0 x3 h0) (
  kG r n x3 h0)
def bBj (r : RT) (n : Nat) (x0 x3 : DV) (h0 : Hp) : aF :=
 bnd (r 68 [x0, (aG 10), (.s [124])] h0) fun v1 h1 =>
  bIw r n x0 x3 v1 h1
def bDq (r : RT) (n : Nat) (x0 : DV) (h0 : Hp) : aF :=
 bBj r n x0 .l0 h0
def s45 (r : RT) (n : Nat) (x0 : DV) (h0 : Hp) : aF :=
 bDq r n x0 h0
abbrev c45 : Code := cf Tryz.f45
abbrev bCn := cR c45
abbrev bFd := cR bCn
abbrev dVx := cR bFd
abbrev aRo := cL bFd
abbrev aSn := cR aRo
abbrev aQt := cL aSn
abbrev bBg := cR aQt
abbrev dSf := cR bBg
abbrev bEr := cL bBg
abbrev aHh := cL bEr
abbrev rP := cL aHh
abbrev bWz := cL aQt
abbrev dJw := cR aSn
abbrev bQb := cL aRo
abbrev bRw := cL bCn
abbrev bXh := cL c45
abbrev r45 : K := bF CF Tryz.f45
def D45 (r : RT) (n : Nat) (c : Code) (X : Nat → K) (k : K) : K := aR CF r 19 n c X r45 k
theorem dFs : D45 r n dVx x0 r45 = (K1 (kG r n) 3) := by kernel_rfl
theorem dEg : D45 r n dSf x0 (K1 (kG r n) 3) = (K2 (jF r n) 0 3) := by kernel_rfl
theorem cMn (kk8 : dS) : D45 r n rP (xs x0 0 (K2 (jF r n) 0 3)) (K2 kk8 0 3) = (K2 (aIh r n kk8) 0 3) := by kernel_rfl
theorem cVa (m : Nat) : aE (fun kk => D45 r n rP (xs x0 0 (K2 (jF r n) 0 3)) kk) m = (K2 (rO r n m) 0 3) := by
 induction m with
 | zero => exact (by kernel_rfl : aE (fun kk => D45 r n rP (xs x0 0 (K2 (jF r n) 0 3)) kk) 0 = (K2 (rO r n 0) 0 3))
 | succ m ih =>
  refine (by kernel_rfl : aE (fun kk => D45 r n rP (xs x0 0 (K2 (jF r n) 0 3)) kk) (m + 1) = D45 r n rP (xs x0 0 (K2 (jF r n) 0 3)) (aE (fun kk => D45 r n rP (xs x0 0 (K2 (jF r n) 0 3)) kk) m)).trans ?_
  rw [ih]
  exact (cMn r n (rO r n m)).trans (by kernel_rfl)
theorem dGi : D45 r n aHh (xs x0 0 (K2 (jF r n) 0 3)) (K2 (jF r n) 0 3) = (K2 (cFq r n) 0 3) :=
 (by kernel_rfl : D45 r n aHh (xs x0 0 (K2 (jF r n) 0 3)) (K2 (jF r n) 0 3) = aE (fun kk => D45 r n rP (xs x0 0 (K2 (jF r n) 0 3)) kk) n).trans ((cVa r n n).trans (by kernel_rfl))
theorem cUc : D45 r n bBg x0 (K1 (kG r n) 3) = D45 r n bEr x0 (K2 (jF r n) 0 3) :=
 congrArg (fun k => D45 r n bEr x0 k) (dEg r n)
theorem dBr : D45 r n bBg x0 (K1 (kG r n) 3) = (K2 (bBm r n) 0 3) :=
 (cUc r n).trans
 ((by kernel_rfl : D45 r n bEr x0 (K2 (jF r n) 0 3) = D45 r n aHh (xs x0 0 (K2 (jF r n) 0 3)) (K2 (jF r n) 0 3)).trans
 ((dGi r n).trans (by kernel_rfl)))
theorem cRi : D45 r n aQt x0 (K1 (kG r n) 3) = D45 r n bWz x0 (K2 (bBm r n) 0 3) :=
 congrArg (fun k => D45 r n bWz x0 k) (dBr r n)
theorem dEo : D45 r n aQt x0 (K1 (kG r n) 3) = (K2 (bTo r n) 0 3) :=
 (cRi r n).trans
 ((by kernel_rfl))
theorem dDs : D45 r n aSn x0 (K1 (kG r n) 3) = (K3 (bIw r n) 0 3 5) :=
 (by kernel_rfl : D45 r n aSn x0 (K1 (kG r n) 3) = (fun (env : eJ) (h : Hp) => aV (opr env (cC aSn)) (D45 r n aQt x0 (K1 (kG r n) 3) env h) (D45 r n dJw x0 (K1 (kG r n) 3) env h))).trans (by rw [dEo r n]; kernel_rfl)
theorem cQa : D45 r n bFd x0 r45 = D45 r n aRo x0 (K1 (kG r n) 3) :=
 congrArg (fun k => D45 r n aRo x0 k) (dFs r n)
theorem cOj : D45 r n aRo x0 (K1 (kG r n) 3) = D45 r n bQb x0 (K3 (bIw r n) 0 3 5) :=
 congrArg (fun k => D45 r n bQb x0 k) (dDs r n)
theorem dEf : D45 r n bFd x0 r45 = (K2 (bBj r n) 0 3) :=
 (cQa r n).trans
 ((cOj r n).trans
 ((by kernel_rfl)))
theorem cUv : D45 r n bCn x0 r45 = D45 r n bRw x0 (K2 (bBj r n) 0 3) :=
 congrArg (fun k => D45 r n bRw x0 k) (dEf r n)
theorem dGy : D45 r n bCn x0 r45 = (K1 (bDq r n) 0) :=
 (cUv r n).trans
 ((by kernel_rfl))
theorem dPj : D45 r n c45 x0 r45 = D45 r n bXh x0 (K1 (bDq r n) 0) :=
 congrArg (fun k => D45 r n bXh x0 k) (dGy r n)
theorem dXd : D45 r n c45 x0 r45 = (K1 (s45 r n) 0) :=
 (dPj r n).trans
 ((by kernel_rfl))
theorem dPs : aL CF r n 45 args h = s45 r n (aS args 0) h :=
 dI (dXd r n) args h (by kernel_rfl) (by kernel_rfl)
def gR (r : RT) (n : Nat) (x3 : DV) (h0 : Hp) : aF :=
 some (x3, h0)
def aMu (r : RT) (n : Nat) (kk4 : dS) (x0 x3 : DV) (h0 : Hp) : aF :=
 bnd (bI x0 h0) fun v1 h1 =>
 bnd (aA 3 v1 h1) fun v2 h2 =>
 bnd (aB v2 h2) fun v3 h3 =>
 bnd (aH .eql v3 (aG 0) h3) fun v4 h4 =>
 bnd (gD v4 true (some (x0, h4)) h4) fun v5 h5 =>
 bnd (gD v4 true (r 68 [v5, (aG 0), (.s [])] h5) h5) fun v6 h6 =>
 bnd (gD v4 true (lS .not v6 h6) h6) fun v7 h7 =>
 bnd (bA v4 v7 (.b false) h7) fun v8 h8 =>
 bnd (gD v8 true (some (x0, h8)) h8) fun v9 h9 =>
 bnd (gD v8 true (r 68 [v9, (aG 10), (.s [93])] h9) h9) fun v10 h10 =>
 bnd (gD v8 true (lS .not v10 h10) h10) fun v11 h11 =>
 bnd (bA v8 v11 (.b false) h11) fun v12 h12 =>
 aV v12 (
 bnd (r 68 [x0, (aG 10), (.s [94])] h12) fun v13 h13 =>
 aV v13 (
 bnd (r 69 [x0] h13) fun v14 h14 =>
 bnd (r 72 [x0] h14) fun v15 h15 =>
 bnd (bL cY h15) fun v16 h16 =>
 bnd (aC 6 v16 v15 h16) fun _ h17 =>
 bnd (aD 6 v16 h17) fun v18 h18 =>
 bnd (aN cY 1 [(0, 6, v18)] h18) fun v19 h19 =>
 bnd (bC cY [(0, 1, (aG 10)), (5, 1, v19)] h19) fun v20 h20 =>
 bnd (aN cY 1 [(0, 6, v20)] h20) fun v21 h21 =>
 bnd (aY 6 104 x3 v21 h21) fun v22 h22 =>
 bnd (r 68 [x0, (aG 10), (.s [46])] h22) fun v23 h23 =>
 aV v23 (
 bnd (r 69 [x0] h23) fun v24 h24 =>
  gR r n v22 h24) (
  gR r n v22 h23)) (
 bnd (r 72 [x0] h13) fun v25 h25 =>
 bnd (aN cY 1 [(0, 6, v25)] h25) fun v26 h26 =>
 bnd (aY 6 104 x3 v26 h26) fun v27 h27 =>
 bnd (r 68 [x0, (aG 10), (.s [46])] h27) fun v28 h28 =>
 bnd (lS .not v28 h28) fun v29 h29 =>
 aV v29 (
  gR r n v27 h29) (
 bnd (r 69 [x0] h29) fun v30 h30 =>
  kk4 x0 v27 h30))) (
      gR r n x3 h12)
def tE (r : RT) (n : Nat) (m : Nat) : dS :=
 Nat.rec (motive := fun _ => dS) (fun _ _ _ => none) (fun _ ih => aMu r n ih) m
def bSi (r : RT) (n : Nat) : dS := tE r n n
def bDp (r : RT) (n : Nat) (x0 x3 : DV) (h0 : Hp) : aF :=
 bSi r n x0 x3 h0
def aXn (r : RT) (n : Nat) (x0 : DV) (h0 : Hp) : aF :=
 bDp r n x0 .l0 h0
def s46 (r : RT) (n : Nat) (x0 : DV) (h0 : Hp) : aF :=
 aXn r n x0 h0
abbrev c46 : Code := cf Tryz.f46
abbrev bFz := cR c46
abbrev bDb := cR bFz
abbrev dQq := cR bDb
abbrev bEj := cL bDb
abbrev bBy := cL bEj
abbrev aBd := cL bBy
abbrev cWx := cL bFz
abbrev cWf := cL c46
abbrev r46 : K := bF CF Tryz.f46
def D46 (r : RT) (n : Nat) (c : Code) (X : Nat → K) (k : K) : K := aR CF r 47 n c X r46 k
theorem dOe : D46 r n dQq x0 r46 = (K1 (gR r n) 3) := by kernel_rfl
theorem cTw (kk4 : dS) : D46 r n aBd (xs x0 0 (K1 (gR r n) 3)) (K2 kk4 0 3) = (K2 (aMu r n kk4) 0 3) := by kernel_rfl
theorem cRd (m : Nat) : aE (fun kk => D46 r n aBd (xs x0 0 (K1 (gR r n) 3)) kk) m = (K2 (tE r n m) 0 3) := by
 induction m with
 | zero => exact (by kernel_rfl : aE (fun kk => D46 r n aBd (xs x0 0 (K1 (gR r n) 3)) kk) 0 = (K2 (tE r n 0) 0 3))
 | succ m ih =>
  refine (by kernel_rfl : aE (fun kk => D46 r n aBd (xs x0 0 (K1 (gR r n) 3)) kk) (m + 1) = D46 r n aBd (xs x0 0 (K1 (gR r n) 3)) (aE (fun kk => D46 r n aBd (xs x0 0 (K1 (gR r n) 3)) kk) m)).trans ?_
  rw [ih]
  exact (cTw r n (tE r n m)).trans (by kernel_rfl)
theorem dHk : D46 r n bBy (xs x0 0 (K1 (gR r n) 3)) (K1 (gR r n) 3) = (K2 (bSi r n) 0 3) :=
 (by kernel_rfl : D46 r n bBy (xs x0 0 (K1 (gR r n) 3)) (K1 (gR r n) 3) = aE (fun kk => D46 r n aBd (xs x0 0 (K1 (gR r n) 3)) kk) n).trans ((cRd r n n).trans (by kernel_rfl))
theorem cGw : D46 r n bDb x0 r46 = D46 r n bEj x0 (K1 (gR r n) 3) :=
 congrArg (fun k => D46 r n bEj x0 k) (dOe r n)
theorem dFr : D46 r n bDb x0 r46 = (K2 (bDp r n) 0 3) :=
 (cGw r n).trans
 ((by kernel_rfl : D46 r n bEj x0 (K1 (gR r n) 3) = D46 r n bBy (xs x0 0 (K1 (gR r n) 3)) (K1 (gR r n) 3)).trans
 ((dHk r n).trans (by kernel_rfl)))
theorem cNb : D46 r n bFz x0 r46 = D46 r n cWx x0 (K2 (bDp r n) 0 3) :=
 congrArg (fun k => D46 r n cWx x0 k) (dFr r n)
theorem dCg : D46 r n bFz x0 r46 = (K1 (aXn r n) 0) :=
 (cNb r n).trans
 ((by kernel_rfl))
theorem dVj : D46 r n c46 x0 r46 = D46 r n cWf x0 (K1 (aXn r n) 0) :=
 congrArg (fun k => D46 r n cWf x0 k) (dCg r n)
theorem dYx : D46 r n c46 x0 r46 = (K1 (s46 r n) 0) :=
 (dVj r n).trans
 ((by kernel_rfl))
theorem dSs : aL CF r n 46 args h = s46 r n (aS args 0) h :=
 dI (dYx r n) args h (by kernel_rfl) (by kernel_rfl)
def s47 (r : RT) (n : Nat) (x0 x1 x2 : DV) (h0 : Hp) : aF :=
 bnd (bL [(aG 0), (.s []), (aG 0), (aG 0)] h0) fun v1 h1 =>
 bnd (r 68 [x0, x1, x2] h1) fun v2 h2 =>
 bnd (lS .not v2 h2) fun v3 h3 =>
 aV v3 (
 bnd (r 73 [x0, (aG 0)] h3) fun v4 h4 =>
 bnd (r 71 [x0, v4, (aG 13)] h4) fun v5 h5 =>
 bnd (bC [(aG 0), (.s []), (aG 0), (aG 0)] [] h5) fun v6 h6 =>
 bnd (aC 4 v1 v6 h6) fun _ h7 =>
 bnd (aD 4 v1 h7) fun v8 _ =>
 some (v8, h7)) (
 bnd (r 69 [x0] h3) fun v9 h9 =>
 bnd (aC 4 v1 v9 h9) fun _ h10 =>
 bnd (aD 4 v1 h10) fun v11 _ =>
 some (v11, h10))
abbrev c47 : Code := cf Tryz.f47
abbrev r47 : K := bF CF Tryz.f47
def D47 (r : RT) (n : Nat) (c : Code) (X : Nat → K) (k : K) : K := aR CF r 21 n c X r47 k
theorem dXq : D47 r n c47 x0 r47 = (K3 (s47 r n) 0 1 2) :=
 (by kernel_rfl)
theorem dRf : aL CF r n 47 args h = s47 r n (aS args 0) (aS args 1) (aS args 2) h :=
 dI (dXq r n) args h (by kernel_rfl) (by kernel_rfl)
def jG (r : RT) (n : Nat) (x0 x6 : DV) (h0 : Hp) : aF :=
 bnd (dE x0 h0) fun v1 h1 =>
 bnd (bC [(aG 0), (.s []), (aG 0), (aG 0)] [(3, 1, v1)] h1) fun v2 h2 =>
 bnd (aN [(aG 0), (.s []), (aG 0), (aG 0)] 1 [(0, 4, v2)] h2) fun v3 h3 =>
 bnd (aY 4 40 x6 v3 h3) fun v4 h4 =>
 some (.t [v4, (aG 0), (aG 0)], h4)
def aGx (r : RT) (n : Nat) (kk7 : cZ) (x0 x5 x6 : DV) (h0 : Hp) : aF :=
 bnd (r 75 [(.s [9, 10, 13, 32])] h0) fun v1 h1 =>
 bnd (dE x0 h1) fun v2 h2 =>
 bnd (r 74 [x5, v1, v2] h2) fun v3 h3 =>
 bnd (bI x5 h3) fun v4 h4 =>
 bnd (aA 1 v4 h4) fun v5 h5 =>
 bnd (aB v5 h5) fun v6 h6 =>
 bnd (dE x0 h6) fun v7 h7 =>
 bnd (aH .geq v6 v7 h7) fun v8 h8 =>
 aV v8 (
  jG r n x0 x6 h8) (
 bnd (bI x5 h8) fun v9 h9 =>
 bnd (aA 1 v9 h9) fun v10 h10 =>
 bnd (aB v10 h10) fun v11 h11 =>
 bnd (bK x0 v11 h11) fun v12 h12 =>
 bnd (aH .eql v12 (.i .u8 (Int.ofNat 34)) h12) fun v13 h13 =>
 aV v13 (
 bnd (bI x5 h13) fun v14 h14 =>
 bnd (aA 1 v14 h14) fun v15 h15 =>
 bnd (aB v15 h15) fun v16 h16 =>
 bnd (aH .add v16 (aG 1) h16) fun v17 h17 =>
 bnd (dC x0 (some v17) none h17) fun v18 h18 =>
 bnd (r 57 [v18, (.i .u8 (Int.ofNat 34))] h18) fun v19 h19 =>
 bnd (aH .lss v19 (aG 0) h19) fun v20 h20 =>
 aV v20 (
 bnd (bI x5 h20) fun v21 h21 =>
 bnd (aA 1 v21 h21) fun v22 h22 =>
 bnd (aB v22 h22) fun v23 h23 =>
 some (.t [.l0, v23, (aG 11)], h23)) (
 bnd (bI x5 h20) fun v24 h24 =>
 bnd (aA 1 v24 h24) fun v25 h25 =>
 bnd (aB v25 h25) fun v26 h26 =>
 bnd (aH .add v19 (aG 2) h26) fun v27 h27 =>
 bnd (aH .add v26 v27 h27) fun v28 h28 =>
 bnd (bI x5 h28) fun v29 h29 =>
 bnd (aA 1 v29 h29) fun v30 h30 =>
 bnd (aC 1 v30 v28 h30) fun _ h31 =>
  kk7 x0 x5 x6 h31)) (
 bnd (r 76 [x5] h13) fun v32 h32 =>
 bnd (aP 0 v32 h32) fun v33 h33 =>
 bnd (aP 1 v32 h33) fun v34 h34 =>
 bnd (bL [(aG 0), (.s []), (aG 0), (aG 0)] h34) fun v35 h35 =>
 bnd (aC 4 v35 v33 h35) fun _ h36 =>
 bnd (aH .neq v34 (aG 0) h36) fun v37 h37 =>
 aV v37 (
 bnd (aA 3 v35 h37) fun v38 h38 =>
 bnd (aB v38 h38) fun v39 h39 =>
 some (.t [.l0, v39, v34], h39)) (
 bnd (aD 4 v35 h37) fun v40 h40 =>
 bnd (aN [(aG 0), (.s []), (aG 0), (aG 0)] 1 [(0, 4, v40)] h40) fun v41 h41 =>
 bnd (aY 4 40 x6 v41 h41) fun v42 h42 =>
  kk7 x0 x5 v42 h42)))
def rB (r : RT) (n : Nat) (m : Nat) : cZ :=
 Nat.rec (motive := fun _ => cZ) (fun _ _ _ _ => none) (fun _ ih => aGx r n ih) m
def bXu (r : RT) (n : Nat) : cZ := rB r n n
def bJd (r : RT) (n : Nat) (x0 x5 x6 : DV) (h0 : Hp) : aF :=
 bXu r n x0 x5 x6 h0
def bIi (r : RT) (n : Nat) (x0 x5 x6 : DV) (h0 : Hp) : aF :=
 bJd r n x0 x5 x6 h0
def bBb (r : RT) (n : Nat) (x0 x5 : DV) (h0 : Hp) : aF :=
 bIi r n x0 x5 .l0 h0
def bJb (r : RT) (n : Nat) (x0 : DV) (h0 : Hp) : aF :=
 bnd (bC [(.s []), (aG 0)] [(0, 1, x0)] h0) fun v1 h1 =>
 bnd (eR v1 h1) fun v2 h2 =>
  bBb r n x0 v2 h2
def aZe (r : RT) (n : Nat) (x0 : DV) (h0 : Hp) : aF :=
 bnd (dE x0 h0) fun v1 h1 =>
 bnd (aH .gtr v1 (aG 2000) h1) fun v2 h2 =>
 aV v2 (
 some (.t [.l0, (aG 0), (aG 12)], h2)) (
  bJb r n x0 h2)
def s48 (r : RT) (n : Nat) (x0 : DV) (h0 : Hp) : aF :=
 aZe r n x0 h0
abbrev c48 : Code := cf Tryz.f48
abbrev bNl := cR c48
abbrev aZv := cL bNl
abbrev bDh := cR aZv
abbrev bEx := cR bDh
abbrev bBe := cR bEx
abbrev bFb := cR bBe
abbrev dSl := cR bFb
abbrev aZz := cL bFb
abbrev bIz := cL aZz
abbrev sC := cL bIz
abbrev cCm := cL bBe
abbrev bSd := cL bEx
abbrev bNx := cL bDh
abbrev bPu := cL aZv
abbrev bOh := cL c48
abbrev r48 : K := bF CF Tryz.f48
def D48 (r : RT) (n : Nat) (c : Code) (X : Nat → K) (k : K) : K := aR CF r 80 n c X r48 k
theorem dEb : D48 r n dSl x0 r48 = (K2 (jG r n) 0 6) := by kernel_rfl
theorem cSh (kk7 : cZ) : D48 r n sC (xs x0 0 (K2 (jG r n) 0 6)) (K3 kk7 0 5 6) = (K3 (aGx r n kk7) 0 5 6) := by kernel_rfl
theorem cPw (m : Nat) : aE (fun kk => D48 r n sC (xs x0 0 (K2 (jG r n) 0 6)) kk) m = (K3 (rB r n m) 0 5 6) := by
 induction m with
 | zero => exact (by kernel_rfl : aE (fun kk => D48 r n sC (xs x0 0 (K2 (jG r n) 0 6)) kk) 0 = (K3 (rB r n 0) 0 5 6))
 | succ m ih =>
  refine (by kernel_rfl : aE (fun kk => D48 r n sC (xs x0 0 (K2 (jG r n) 0 6)) kk) (m + 1) = D48 r n sC (xs x0 0 (K2 (jG r n) 0 6)) (aE (fun kk => D48 r n sC (xs x0 0 (K2 (jG r n) 0 6)) kk) m)).trans ?_
  rw [ih]
  exact (cSh r n (rB r n m)).trans (by kernel_rfl)
theorem dJb : D48 r n bIz (xs x0 0 (K2 (jG r n) 0 6)) (K2 (jG r n) 0 6) = (K3 (bXu r n) 0 5 6) :=
 (by kernel_rfl : D48 r n bIz (xs x0 0 (K2 (jG r n) 0 6)) (K2 (jG r n) 0 6) = aE (fun kk => D48 r n sC (xs x0 0 (K2 (jG r n) 0 6)) kk) n).trans ((cPw r n n).trans (by kernel_rfl))
theorem cIu : D48 r n bFb x0 r48 = D48 r n aZz x0 (K2 (jG r n) 0 6) :=
 congrArg (fun k => D48 r n aZz x0 k) (dEb r n)
theorem dAj : D48 r n bFb x0 r48 = (K3 (bJd r n) 0 5 6) :=
 (cIu r n).trans
 ((by kernel_rfl : D48 r n aZz x0 (K2 (jG r n) 0 6) = D48 r n bIz (xs x0 0 (K2 (jG r n) 0 6)) (K2 (jG r n) 0 6)).trans
 ((dJb r n).trans (by kernel_rfl)))
theorem cUa : D48 r n bBe x0 r48 = D48 r n cCm x0 (K3 (bJd r n) 0 5 6) :=
 congrArg (fun k => D48 r n cCm x0 k) (dAj r n)
theorem dDl : D48 r n bBe x0 r48 = (K3 (bIi r n) 0 5 6) :=
 (cUa r n).trans
 ((by kernel_rfl))
theorem cPn : D48 r n bEx x0 r48 = D48 r n bSd x0 (K3 (bIi r n) 0 5 6) :=
 congrArg (fun k => D48 r n bSd x0 k) (dDl r n)
theorem dEt : D48 r n bEx x0 r48 = (K2 (bBb r n) 0 5) :=
 (cPn r n).trans
 ((by kernel_rfl))
theorem cKz : D48 r n bDh x0 r48 = D48 r n bNx x0 (K2 (bBb r n) 0 5) :=
 congrArg (fun k => D48 r n bNx x0 k) (dEt r n)
theorem dGc : D48 r n bDh x0 r48 = (K1 (bJb r n) 0) :=
 (cKz r n).trans
 ((by kernel_rfl))
theorem cNt : D48 r n aZv x0 r48 = D48 r n bPu x0 (K1 (bJb r n) 0) :=
 congrArg (fun k => D48 r n bPu x0 k) (dGc r n)
theorem dJz : D48 r n bNl x0 r48 = (K1 (aZe r n) 0) :=
 (by kernel_rfl : D48 r n bNl x0 r48 = D48 r n aZv x0 r48).trans
 ((cNt r n).trans
 ((by kernel_rfl)))
theorem dPf : D48 r n c48 x0 r48 = D48 r n bOh x0 (K1 (aZe r n) 0) :=
 congrArg (fun k => D48 r n bOh x0 k) (dJz r n)
theorem dXy : D48 r n c48 x0 r48 = (K1 (s48 r n) 0) :=
 (dPf r n).trans
 ((by kernel_rfl))
theorem dTq : aL CF r n 48 args h = s48 r n (aS args 0) h :=
 dI (dXy r n) args h (by kernel_rfl) (by kernel_rfl)
def jH (r : RT) (n : Nat) (x0 x3 : DV) (h0 : Hp) : aF :=
 bnd (r 51 [x0, (aG 10), (.s [124])] h0) fun v1 h1 =>
 some (x3, h1)
def aKe (r : RT) (n : Nat) (kk6 : dS) (x0 x3 : DV) (h0 : Hp) : aF :=
 bnd (r 77 [x0, (aG 1), (.s [])] h0) fun v1 h1 =>
 aV v1 (
 bnd (r 78 [x0] h1) fun v2 h2 =>
 bnd (bY 1 v2 h2) fun v3 h3 =>
 bnd (aN [(.s [])] 1 [(0, 1, v3)] h3) fun v4 h4 =>
 bnd (aY 1 16 x3 v4 h4) fun v5 h5 =>
      kk6 x0 v5 h5) (
      jH r n x0 x3 h1)
def sO (r : RT) (n : Nat) (m : Nat) : dS :=
 Nat.rec (motive := fun _ => dS) (fun _ _ _ => none) (fun _ ih => aKe r n ih) m
def cAc (r : RT) (n : Nat) : dS := sO r n n
def bBd (r : RT) (n : Nat) (x0 x3 : DV) (h0 : Hp) : aF :=
 cAc r n x0 x3 h0
def bIc (r : RT) (n : Nat) (x0 x3 : DV) (h0 : Hp) : aF :=
 bnd (r 78 [x0] h0) fun v1 h1 =>
  bBd r n x0 x3 h1
def bEp (r : RT) (n : Nat) (x0 x3 : DV) (h0 : Hp) : aF :=
 bnd (r 77 [x0, (aG 10), (.s [124])] h0) fun v1 h1 =>
 bnd (lS .not v1 h1) fun v2 h2 =>
 aV v2 (
 some (.l0, h2)) (
  bIc r n x0 x3 h2)
def bHb (r : RT) (n : Nat) (x0 : DV) (h0 : Hp) : aF :=
 bEp r n x0 .l0 h0
def s49 (r : RT) (n : Nat) (x0 : DV) (h0 : Hp) : aF :=
 bHb r n x0 h0
abbrev c49 : Code := cf Tryz.f49
abbrev bEc := cR c49
abbrev bAg := cR bEc
abbrev bGh := cR bAg
abbrev aWw := cR bGh
abbrev dSk := cR aWw
abbrev bGr := cL aWw
abbrev bHp := cL bGr
abbrev aDa := cL bHp
abbrev cXb := cL bGh
abbrev bWs := cL bAg
abbrev cEf := cL bEc
abbrev cCg := cL c49
abbrev r49 : K := bF CF Tryz.f49
def D49 (r : RT) (n : Nat) (c : Code) (X : Nat → K) (k : K) : K := aR CF r 20 n c X r49 k
theorem dMd : D49 r n dSk x0 r49 = (K2 (jH r n) 0 3) := by kernel_rfl
theorem cRo (kk6 : dS) : D49 r n aDa (xs x0 0 (K2 (jH r n) 0 3)) (K2 kk6 0 3) = (K2 (aKe r n kk6) 0 3) := by kernel_rfl
theorem cUu (m : Nat) : aE (fun kk => D49 r n aDa (xs x0 0 (K2 (jH r n) 0 3)) kk) m = (K2 (sO r n m) 0 3) := by
 induction m with
 | zero => exact (by kernel_rfl : aE (fun kk => D49 r n aDa (xs x0 0 (K2 (jH r n) 0 3)) kk) 0 = (K2 (sO r n 0) 0 3))
 | succ m ih =>
  refine (by kernel_rfl : aE (fun kk => D49 r n aDa (xs x0 0 (K2 (jH r n) 0 3)) kk) (m + 1) = D49 r n aDa (xs x0 0 (K2 (jH r n) 0 3)) (aE (fun kk => D49 r n aDa (xs x0 0 (K2 (jH r n) 0 3)) kk) m)).trans ?_
  rw [ih]
  exact (cRo r n (sO r n m)).trans (by kernel_rfl)
theorem dGm : D49 r n bHp (xs x0 0 (K2 (jH r n) 0 3)) (K2 (jH r n) 0 3) = (K2 (cAc r n) 0 3) :=
 (by kernel_rfl : D49 r n bHp (xs x0 0 (K2 (jH r n) 0 3)) (K2 (jH r n) 0 3) = aE (fun kk => D49 r n aDa (xs x0 0 (K2 (jH r n) 0 3)) kk) n).trans ((cUu r n n).trans (by kernel_rfl))
theorem cQv : D49 r n aWw x0 r49 = D49 r n bGr x0 (K2 (jH r n) 0 3) :=
 congrArg (fun k => D49 r n bGr x0 k) (dMd r n)
theorem dFe : D49 r n aWw x0 r49 = (K2 (bBd r n) 0 3) :=
 (cQv r n).trans
 ((by kernel_rfl : D49 r n bGr x0 (K2 (jH r n) 0 3) = D49 r n bHp (xs x0 0 (K2 (jH r n) 0 3)) (K2 (jH r n) 0 3)).trans
 ((dGm r n).trans (by kernel_rfl)))
theorem cId : D49 r n bGh x0 r49 = D49 r n cXb x0 (K2 (bBd r n) 0 3) :=
 congrArg (fun k => D49 r n cXb x0 k) (dFe r n)
theorem dDo : D49 r n bGh x0 r49 = (K2 (bIc r n) 0 3) :=
 (cId r n).trans
 ((by kernel_rfl))
theorem cPb : D49 r n bAg x0 r49 = D49 r n bWs x0 (K2 (bIc r n) 0 3) :=
 congrArg (fun k => D49 r n bWs x0 k) (dDo r n)
theorem dDh : D49 r n bAg x0 r49 = (K2 (bEp r n) 0 3) :=
 (cPb r n).trans
 ((by kernel_rfl))
theorem cIi : D49 r n bEc x0 r49 = D49 r n cEf x0 (K2 (bEp r n) 0 3) :=
 congrArg (fun k => D49 r n cEf x0 k) (dDh r n)
theorem dFt : D49 r n bEc x0 r49 = (K1 (bHb r n) 0) :=
 (cIi r n).trans
 ((by kernel_rfl))
theorem dUm : D49 r n c49 x0 r49 = D49 r n cCg x0 (K1 (bHb r n) 0) :=
 congrArg (fun k => D49 r n cCg x0 k) (dFt r n)
theorem dZd : D49 r n c49 x0 r49 = (K1 (s49 r n) 0) :=
 (dUm r n).trans
 ((by kernel_rfl))
theorem dTs : aL CF r n 49 args h = s49 r n (aS args 0) h :=
 dI (dZd r n) args h (by kernel_rfl) (by kernel_rfl)
def jE (r : RT) (n : Nat) (x3 : DV) (h0 : Hp) : aF :=
 some (x3, h0)
def cWt (r : RT) (n : Nat) (kk4 : dS) (x0 x3 : DV) (h0 : Hp) : aF :=
 bnd (r 79 [x0] h0) fun v1 h1 =>
 bnd (aN cY 1 [(0, 6, v1)] h1) fun v2 h2 =>
 bnd (aY 6 104 x3 v2 h2) fun v3 h3 =>
 bnd (r 77 [x0, (aG 10), (.s [46])] h3) fun v4 h4 =>
 bnd (lS .not v4 h4) fun v5 h5 =>
 aV v5 (
 some (v3, h5)) (
 bnd (r 78 [x0] h5) fun v6 h6 =>
  kk4 x0 v3 h6)
def aWm (r : RT) (n : Nat) (kk4 : dS) (x3 : DV) (h0 : Hp) : aF :=
 some (x3, h0)
def bUn (r : RT) (n : Nat) (kk4 : dS) (x0 x3 : DV) (h0 : Hp) : aF :=
 bnd (r 77 [x0, (aG 10), (.s [46])] h0) fun v1 h1 =>
 aV v1 (
 bnd (r 78 [x0] h1) fun v2 h2 =>
  aWm r n kk4 x3 h2) (
  aWm r n kk4 x3 h1)
def cZr (r : RT) (n : Nat) (kk4 : dS) (x0 x3 : DV) (h0 : Hp) : aF :=
 bnd (r 79 [x0] h0) fun v1 h1 =>
 bnd (aN cY 1 [(0, 6, v1)] h1) fun v2 h2 =>
 bnd (bC cY [(0, 1, (aG 10)), (5, 1, v2)] h2) fun v3 h3 =>
 bnd (aN cY 1 [(0, 6, v3)] h3) fun v4 h4 =>
 bnd (aY 6 104 x3 v4 h4) fun v5 h5 =>
  bUn r n kk4 x0 v5 h5
def cXl (r : RT) (n : Nat) (kk4 : dS) (x0 x3 : DV) (h0 : Hp) : aF :=
 bnd (r 78 [x0] h0) fun v1 h1 =>
  cZr r n kk4 x0 x3 h1
def cXh (r : RT) (n : Nat) (kk4 : dS) (x0 x3 x20 : DV) (h0 : Hp) : aF :=
 aV x20 (
  cXl r n kk4 x0 x3 h0) (
  cWt r n kk4 x0 x3 h0)
def cYh (r : RT) (n : Nat) (kk4 : dS) (x0 x3 : DV) (h0 : Hp) : aF :=
 bnd (r 77 [x0, (aG 10), (.s [94])] h0) fun v1 h1 =>
  cXh r n kk4 x0 x3 v1 h1
def aKv (r : RT) (n : Nat) (kk4 : dS) (x0 x3 : DV) (h0 : Hp) : aF :=
 bnd (bI x0 h0) fun v1 h1 =>
 bnd (aA 3 v1 h1) fun v2 h2 =>
 bnd (aB v2 h2) fun v3 h3 =>
 bnd (aH .eql v3 (aG 0) h3) fun v4 h4 =>
 bnd (gD v4 true (some (x0, h4)) h4) fun v5 h5 =>
 bnd (gD v4 true (r 77 [v5, (aG 0), (.s [])] h5) h5) fun v6 h6 =>
 bnd (gD v4 true (lS .not v6 h6) h6) fun v7 h7 =>
 bnd (bA v4 v7 (.b false) h7) fun v8 h8 =>
 bnd (gD v8 true (some (x0, h8)) h8) fun v9 h9 =>
 bnd (gD v8 true (r 77 [v9, (aG 10), (.s [93])] h9) h9) fun v10 h10 =>
 bnd (gD v8 true (lS .not v10 h10) h10) fun v11 h11 =>
 bnd (bA v8 v11 (.b false) h11) fun v12 h12 =>
 aV v12 (
  cYh r n kk4 x0 x3 h12) (
  jE r n x3 h12)
def rM (r : RT) (n : Nat) (m : Nat) : dS :=
 Nat.rec (motive := fun _ => dS) (fun _ _ _ => none) (fun _ ih => aKv r n ih) m
def bZs (r : RT) (n : Nat) : dS := rM r n n
def bGz (r : RT) (n : Nat) (x0 x3 : DV) (h0 : Hp) : aF :=
 bZs r n x0 x3 h0
def bDv (r : RT) (n : Nat) (x0 : DV) (h0 : Hp) : aF :=
 bGz r n x0 .l0 h0
def s50 (r : RT) (n : Nat) (x0 : DV) (h0 : Hp) : aF :=
 bDv r n x0 h0
abbrev c50 : Code := cf Tryz.f50
abbrev bFr := cR c50
abbrev bAf := cR bFr
abbrev dRd := cR bAf
abbrev bBa := cL bAf
abbrev bEy := cL bBa
abbrev aCe := cL bEy
abbrev bLw := cL bFr
abbrev bVb := cL c50
abbrev r50 : K := bF CF Tryz.f50
def D50 (r : RT) (n : Nat) (c : Code) (X : Nat → K) (k : K) : K := aR CF r 47 n c X r50 k
theorem dFn : D50 r n dRd x0 r50 = (K1 (jE r n) 3) := by kernel_rfl
theorem cOw (kk4 : dS) : D50 r n aCe (xs x0 0 (K1 (jE r n) 3)) (K2 kk4 0 3) = (K2 (aKv r n kk4) 0 3) := by kernel_rfl
theorem cHu (m : Nat) : aE (fun kk => D50 r n aCe (xs x0 0 (K1 (jE r n) 3)) kk) m = (K2 (rM r n m) 0 3) := by
 induction m with
 | zero => exact (by kernel_rfl : aE (fun kk => D50 r n aCe (xs x0 0 (K1 (jE r n) 3)) kk) 0 = (K2 (rM r n 0) 0 3))
 | succ m ih =>
  refine (by kernel_rfl : aE (fun kk => D50 r n aCe (xs x0 0 (K1 (jE r n) 3)) kk) (m + 1) = D50 r n aCe (xs x0 0 (K1 (jE r n) 3)) (aE (fun kk => D50 r n aCe (xs x0 0 (K1 (jE r n) 3)) kk) m)).trans ?_
  rw [ih]
  exact (cOw r n (rM r n m)).trans (by kernel_rfl)
theorem dDk : D50 r n bEy (xs x0 0 (K1 (jE r n) 3)) (K1 (jE r n) 3) = (K2 (bZs r n) 0 3) :=
 (by kernel_rfl : D50 r n bEy (xs x0 0 (K1 (jE r n) 3)) (K1 (jE r n) 3) = aE (fun kk => D50 r n aCe (xs x0 0 (K1 (jE r n) 3)) kk) n).trans ((cHu r n n).trans (by kernel_rfl))
theorem cUf : D50 r n bAf x0 r50 = D50 r n bBa x0 (K1 (jE r n) 3) :=
 congrArg (fun k => D50 r n bBa x0 k) (dFn r n)
theorem dCe : D50 r n bAf x0 r50 = (K2 (bGz r n) 0 3) :=
 (cUf r n).trans
 ((by kernel_rfl : D50 r n bBa x0 (K1 (jE r n) 3) = D50 r n bEy (xs x0 0 (K1 (jE r n) 3)) (K1 (jE r n) 3)).trans
 ((dDk r n).trans (by kernel_rfl)))
theorem bQi : D50 r n bFr x0 r50 = D50 r n bLw x0 (K2 (bGz r n) 0 3) :=
 congrArg (fun k => D50 r n bLw x0 k) (dCe r n)
theorem dKc : D50 r n bFr x0 r50 = (K1 (bDv r n) 0) :=
 (bQi r n).trans
 ((by kernel_rfl))
theorem dJv : D50 r n c50 x0 r50 = D50 r n bVb x0 (K1 (bDv r n) 0) :=
 congrArg (fun k => D50 r n bVb x0 k) (dKc r n)
theorem dWo : D50 r n c50 x0 r50 = (K1 (s50 r n) 0) :=
 (dJv r n).trans
 ((by kernel_rfl))
theorem dRb : aL CF r n 50 args h = s50 r n (aS args 0) h :=
 dI (dWo r n) args h (by kernel_rfl) (by kernel_rfl)
def s51 (r : RT) (n : Nat) (x0 x1 x2 : DV) (h0 : Hp) : aF :=
 bnd (bL [(aG 0), (.s []), (aG 0), (aG 0)] h0) fun v1 h1 =>
 bnd (r 77 [x0, x1, x2] h1) fun v2 h2 =>
 bnd (lS .not v2 h2) fun v3 h3 =>
 aV v3 (
 bnd (r 81 [x0, (aG 0)] h3) fun v4 h4 =>
 bnd (r 80 [x0, v4, (aG 13)] h4) fun v5 h5 =>
 bnd (bC [(aG 0), (.s []), (aG 0), (aG 0)] [] h5) fun v6 h6 =>
 bnd (aC 4 v1 v6 h6) fun _ h7 =>
 bnd (aD 4 v1 h7) fun v8 _ =>
 some (v8, h7)) (
 bnd (r 78 [x0] h3) fun v9 h9 =>
 bnd (aC 4 v1 v9 h9) fun _ h10 =>
 bnd (aD 4 v1 h10) fun v11 _ =>
 some (v11, h10))
abbrev c51 : Code := cf Tryz.f51
abbrev r51 : K := bF CF Tryz.f51
def D51 (r : RT) (n : Nat) (c : Code) (X : Nat → K) (k : K) : K := aR CF r 19 n c X r51 k
theorem dWm : D51 r n c51 x0 r51 = (K3 (s51 r n) 0 1 2) :=
 (by kernel_rfl)
theorem dUh : aL CF r n 51 args h = s51 r n (aS args 0) (aS args 1) (aS args 2) h :=
 dI (dWm r n) args h (by kernel_rfl) (by kernel_rfl)
def aKy (r : RT) (n : Nat) (kk6 : cZ) (x0 x1 x4 : DV) (h0 : Hp) : aF :=
 bnd (gD x4 false (some (x0, h0)) h0) fun v1 h1 =>
 bnd (gD x4 false (r 77 [v1, (aG 2), (.s [])] h1) h1) fun v2 h2 =>
 bnd (bA x4 (.b true) v2 h2) fun v3 h3 =>
 aV v3 (
 bnd (bI x1 h3) fun v4 h4 =>
 bnd (aA 1 v4 h4) fun v5 h5 =>
 bnd (aB v5 h5) fun v6 h6 =>
 bnd (r 51 [x0, (aG 2), (.s [])] h6) fun v7 h7 =>
 cnd (bM (aB v5 h7) v6 && true) (
 bnd (bY 1 v7 h7) fun v8 h8 =>
 bnd (cB .add v6 v8 h8) fun v9 h9 =>
 bnd (bI x1 h9) fun v10 h10 =>
 bnd (aA 1 v10 h10) fun v11 h11 =>
 bnd (aC 1 v11 v9 h11) fun v12 h12 =>
 bnd (bI x1 (fP 1 h12)) fun v13 h13 =>
 bnd (aA 3 v13 h13) fun v14 h14 =>
 bnd (aB v14 h14) fun v15 h15 =>
 bnd (bI x1 h15) fun v16 h16 =>
 bnd (aA 3 v16 h16) fun v17 h17 =>
 bnd (aB v17 h17) fun v18 h18 =>
 bnd (r 82 [x0, (aG 1), v18] h18) fun v19 h19 =>
 cnd (bM (aB v14 h19) v15 && true) (
 bnd (aW (cS 0 h12.next) [(.s [])] 1 [(0, 1, v19)] h19) fun v20 h20 =>
 bnd (aY 1 16 v15 v20 h20) fun v21 h21 =>
 bnd (bI x1 h21) fun v22 h22 =>
 bnd (aA 3 v22 h22) fun v23 h23 =>
 bnd (aC 1 v23 v21 h23) fun v24 h24 =>
      kk6 x0 x1 (.b false) h24))) (
 some (.t [], h3))
def pG (r : RT) (n : Nat) (m : Nat) : cZ :=
 Nat.rec (motive := fun _ => cZ) (fun _ _ _ _ => none) (fun _ ih => aKy r n ih) m
def bZq (r : RT) (n : Nat) : cZ := pG r n n
def aYs (r : RT) (n : Nat) (x0 x1 x4 : DV) (h0 : Hp) : aF :=
 bZq r n x0 x1 x4 h0
def bOb (r : RT) (n : Nat) (x0 x1 : DV) (h0 : Hp) : aF :=
 aYs r n x0 x1 (.b true) h0
def bBz (r : RT) (n : Nat) (x0 x1 x44 : DV) (h0 : Hp) : aF :=
 aV x44 (
 bnd (r 78 [x0] h0) fun v1 h1 =>
 bnd (bY 1 v1 h1) fun v2 h2 =>
 bnd (bI x1 h2) fun v3 h3 =>
 bnd (aA 1 v3 h3) fun v4 h4 =>
 bnd (aC 1 v4 v2 h4) fun _ h5 =>
 bnd (bI x1 (fP 1 h5)) fun v6 h6 =>
 bnd (aA 3 v6 h6) fun v7 h7 =>
 bnd (aB v7 h7) fun v8 h8 =>
 bnd (bI x1 h8) fun v9 h9 =>
 bnd (aA 3 v9 h9) fun v10 h10 =>
 bnd (aB v10 h10) fun v11 h11 =>
 bnd (r 82 [x0, (aG 1), v11] h11) fun v12 h12 =>
 cnd (bM (aB v7 h12) v8 && true) (
 bnd (aW (cS 0 h5.next) [(.s [])] 1 [(0, 1, v12)] h12) fun v13 h13 =>
 bnd (aY 1 16 v8 v13 h13) fun v14 h14 =>
 bnd (bI x1 h14) fun v15 h15 =>
 bnd (aA 3 v15 h15) fun v16 h16 =>
 bnd (aC 1 v16 v14 h16) fun v17 h17 =>
 some (.t [], h17))) (
  bOb r n x0 x1 h0)
def cBv (r : RT) (n : Nat) (x0 x1 : DV) (h0 : Hp) : aF :=
 bnd (r 77 [x0, (aG 3), (.s [])] h0) fun v1 h1 =>
  bBz r n x0 x1 v1 h1
def bBn (r : RT) (n : Nat) (x0 x1 x35 : DV) (h0 : Hp) : aF :=
 aV x35 (
 bnd (r 78 [x0] h0) fun v1 h1 =>
 bnd (bY 1 v1 h1) fun v2 h2 =>
 bnd (bI x1 h2) fun v3 h3 =>
 bnd (aA 1 v3 h3) fun v4 h4 =>
 bnd (aC 1 v4 v2 h4) fun _ h5 =>
 some (.t [], h5)) (
  cBv r n x0 x1 h0)
def s52 (r : RT) (n : Nat) (x0 x1 : DV) (h0 : Hp) : aF :=
 bnd (r 77 [x0, (aG 1), (.s [])] h0) fun v1 h1 =>
  bBn r n x0 x1 v1 h1
abbrev c52 : Code := cf Tryz.f52
abbrev bIl := cL c52
abbrev aRb := cR bIl
abbrev aPy := cR aRb
abbrev aPz := cR aPy
abbrev aSs := cR aPz
abbrev cBm := cR aSs
abbrev aXq := cL cBm
abbrev zE := cL aXq
abbrev cZc := cL aSs
abbrev dAc := cL aPz
abbrev bYu := cL aPy
abbrev dFf := cL aRb
abbrev bNq := cL bIl
abbrev r52 : K := bF CF Tryz.f52
def D52 (r : RT) (n : Nat) (c : Code) (X : Nat → K) (k : K) : K := aR CF r 68 n c X r52 k
theorem cGm (kk6 : cZ) : D52 r n zE (xs (xs x0 0 r52) 1 r52) (K3 kk6 0 1 4) = (K3 (aKy r n kk6) 0 1 4) := by kernel_rfl
theorem cIg (m : Nat) : aE (fun kk => D52 r n zE (xs (xs x0 0 r52) 1 r52) kk) m = (K3 (pG r n m) 0 1 4) := by
 induction m with
 | zero => exact (by kernel_rfl : aE (fun kk => D52 r n zE (xs (xs x0 0 r52) 1 r52) kk) 0 = (K3 (pG r n 0) 0 1 4))
 | succ m ih =>
  refine (by kernel_rfl : aE (fun kk => D52 r n zE (xs (xs x0 0 r52) 1 r52) kk) (m + 1) = D52 r n zE (xs (xs x0 0 r52) 1 r52) (aE (fun kk => D52 r n zE (xs (xs x0 0 r52) 1 r52) kk) m)).trans ?_
  rw [ih]
  exact (cGm r n (pG r n m)).trans (by kernel_rfl)
theorem dNi : D52 r n aXq (xs (xs x0 0 r52) 1 r52) r52 = (K3 (bZq r n) 0 1 4) :=
 (by kernel_rfl : D52 r n aXq (xs (xs x0 0 r52) 1 r52) r52 = aE (fun kk => D52 r n zE (xs (xs x0 0 r52) 1 r52) kk) n).trans ((cIg r n n).trans (by kernel_rfl))
theorem dGd : D52 r n cBm (xs x0 0 r52) r52 = (K3 (aYs r n) 0 1 4) :=
 (by kernel_rfl : D52 r n cBm (xs x0 0 r52) r52 = D52 r n aXq (xs (xs x0 0 r52) 1 r52) r52).trans
 ((dNi r n).trans (by kernel_rfl))
theorem cTj : D52 r n aSs (xs x0 0 r52) r52 = D52 r n cZc (xs x0 0 r52) (K3 (aYs r n) 0 1 4) :=
 congrArg (fun k => D52 r n cZc (xs x0 0 r52) k) (dGd r n)
theorem dCn : D52 r n aSs (xs x0 0 r52) r52 = (K2 (bOb r n) 0 1) :=
 (cTj r n).trans
 ((by kernel_rfl))
theorem dDw : D52 r n aPz (xs x0 0 r52) r52 = (K3 (bBz r n) 0 1 44) :=
 (by kernel_rfl : D52 r n aPz (xs x0 0 r52) r52 = (fun (env : eJ) (h : Hp) => aV (opr env (cC aPz)) (D52 r n dAc (xs x0 0 r52) r52 env h) (D52 r n aSs (xs x0 0 r52) r52 env h))).trans (by rw [dCn r n]; kernel_rfl)
theorem cUx : D52 r n aPy (xs x0 0 r52) r52 = D52 r n bYu (xs x0 0 r52) (K3 (bBz r n) 0 1 44) :=
 congrArg (fun k => D52 r n bYu (xs x0 0 r52) k) (dDw r n)
theorem dKm : D52 r n aPy (xs x0 0 r52) r52 = (K2 (cBv r n) 0 1) :=
 (cUx r n).trans
 ((by kernel_rfl))
theorem dMw : D52 r n aRb (xs x0 0 r52) r52 = (K3 (bBn r n) 0 1 35) :=
 (by kernel_rfl : D52 r n aRb (xs x0 0 r52) r52 = (fun (env : eJ) (h : Hp) => aV (opr env (cC aRb)) (D52 r n dFf (xs x0 0 r52) r52 env h) (D52 r n aPy (xs x0 0 r52) r52 env h))).trans (by rw [dKm r n]; kernel_rfl)
theorem dVr : D52 r n bIl (xs x0 0 r52) r52 = D52 r n bNq (xs x0 0 r52) (K3 (bBn r n) 0 1 35) :=
 congrArg (fun k => D52 r n bNq (xs x0 0 r52) k) (dMw r n)
theorem eAk : D52 r n c52 x0 r52 = (K2 (s52 r n) 0 1) :=
 (by kernel_rfl : D52 r n c52 x0 r52 = D52 r n bIl (xs x0 0 r52) r52).trans
 ((dVr r n).trans
 ((by kernel_rfl)))
theorem dRe : aL CF r n 52 args h = s52 r n (aS args 0) (aS args 1) h :=
 dI (eAk r n) args h (by kernel_rfl) (by kernel_rfl)
def cBg (r : RT) (n : Nat) (x0 x3 : DV) (h0 : Hp) : aF :=
 bnd (r 51 [x0, (aG 3), (.s [62])] h0) fun v1 h1 =>
 bnd (aA 2 x3 h1) fun v2 h2 =>
 bnd (aB v2 h2) fun v3 h3 =>
 some (v3, h3)
def cYw (r : RT) (n : Nat) (x0 x3 : DV) (h0 : Hp) : aF :=
 bnd (aA 2 x3 h0) fun v1 h1 =>
 bnd (aB v1 h1) fun v2 h2 =>
 bnd (aH .gtr v2 (aG 255) h2) fun v3 h3 =>
 aV v3 (
 bnd (aD 4 x3 h3) fun v4 h4 =>
 bnd (r 80 [x0, v4, (aG 2)] h4) fun v5 h5 =>
  cBg r n x0 x3 h5) (
  cBg r n x0 x3 h3)
def cXp (r : RT) (n : Nat) (x0 : DV) (h0 : Hp) : aF :=
 bnd (r 51 [x0, (aG 4), (.s [])] h0) fun v1 h1 =>
 bnd (bL [(aG 0), (.s []), (aG 0), (aG 0)] h1) fun v2 h2 =>
 bnd (aC 4 v2 v1 h2) fun _ h3 =>
  cYw r n x0 v2 h3
def cWw (r : RT) (n : Nat) (x0 : DV) (h0 : Hp) : aF :=
 bnd (r 51 [x0, (aG 2), (.s [112, 114, 105, 109, 105, 116, 105, 118, 101, 58])] h0) fun v1 h1 =>
  cXp r n x0 h1
def cXq (r : RT) (n : Nat) (x0 : DV) (h0 : Hp) : aF :=
 bnd (r 78 [x0] h0) fun v1 h1 =>
  cWw r n x0 h1
def cXy (r : RT) (n : Nat) (x0 : DV) (h0 : Hp) : aF :=
 bnd (r 77 [x0, (aG 3), (.s [60])] h0) fun v1 h1 =>
 bnd (lS .not v1 h1) fun v2 h2 =>
 aV v2 (
 some ((aG 0), h2)) (
  cXq r n x0 h2)
def s53 (r : RT) (n : Nat) (x0 : DV) (h0 : Hp) : aF :=
 cXy r n x0 h0
abbrev c53 : Code := cf Tryz.f53
abbrev r53 : K := bF CF Tryz.f53
def D53 (r : RT) (n : Nat) (c : Code) (X : Nat → K) (k : K) : K := aR CF r 23 n c X r53 k
theorem dYr : D53 r n c53 x0 r53 = (K1 (s53 r n) 0) := by kernel_rfl
theorem dRn : aL CF r n 53 args h = s53 r n (aS args 0) h :=
 dI (dYr r n) args h (by kernel_rfl) (by kernel_rfl)
def s57 (r : RT) (n : Nat) (x0 x1 : DV) (h0 : Hp) : aF :=
 bnd (r 85 [x0, x1] h0) fun v1 h1 =>
 some (v1, h1)
abbrev c57 : Code := cf Tryz.f57
abbrev r57 : K := bF CF Tryz.f57
def D57 (r : RT) (n : Nat) (c : Code) (X : Nat → K) (k : K) : K := aR CF r 8 n c X r57 k
theorem dWl : D57 r n c57 x0 r57 = (K2 (s57 r n) 0 1) :=
 (by kernel_rfl)
theorem dPa : aL CF r n 57 args h = s57 r n (aS args 0) (aS args 1) h :=
 dI (dWl r n) args h (by kernel_rfl) (by kernel_rfl)
def s58 (r : RT) (n : Nat) (x0 x1 : DV) (h0 : Hp) : aF :=
 bnd (dE x1 h0) fun v1 h1 =>
 bnd (uM [x0, x1, v1, (.i .i64 (Int.negSucc 0))] h1) fun v2 h2 =>
 some (v2, h2)
abbrev c58 : Code := cf Tryz.f58
abbrev r58 : K := bF CF Tryz.f58
def D58 (r : RT) (n : Nat) (c : Code) (X : Nat → K) (k : K) : K := aR CF r 10 n c X r58 k
theorem dYv : D58 r n c58 x0 r58 = (K2 (s58 r n) 0 1) :=
 (by kernel_rfl)
theorem dPe : aL CF r n 58 args h = s58 r n (aS args 0) (aS args 1) h :=
 dI (dYv r n) args h (by kernel_rfl) (by kernel_rfl)
def bGq (r : RT) (n : Nat) (x0 x1 x5 : DV) (h0 : Hp) : aF :=
 bnd (r 89 [x1, (aG 0), x5] (fP 1 h0)) fun v1 h1 =>
 bnd (dB 6 x1 (some (aG 1)) none h1) fun v2 h2 =>
 cnd (bM (dB 6 x1 (some (aG 1)) none (fP 1 h0)) v2 && true) (
 bnd (r 90 [x0, v2] h2) fun v3 h3 =>
 bnd (aW (cS 0 h0.next) [(.s []), (.s []), (.s [])] 3 [(0, 1, v1), (1, 1, (.s [32])), (2, 1, v3)] h3) fun v4 h4 =>
 bnd (r 19 [v4] h4) fun v5 h5 =>
 some (v5, h5))
def cWv (r : RT) (n : Nat) (x0 x1 x5 : DV) (h0 : Hp) : aF :=
 bnd (r 32 [x0] h0) fun v1 h1 =>
 bnd (aH .eql v1 (aG 1) h1) fun v2 h2 =>
 aV v2 (
  bGq r n x0 x1 (aG 1) h2) (
  bGq r n x0 x1 x5 h2)
def cWm (r : RT) (n : Nat) (x0 x1 : DV) (h0 : Hp) : aF :=
 cWv r n x0 x1 (aG 2) h0
def cWs (r : RT) (n : Nat) (x0 x1 : DV) (h0 : Hp) : aF :=
 bnd (dG x1 h0) fun v1 h1 =>
 bnd (aH .eql v1 (aG 0) h1) fun v2 h2 =>
 aV v2 (
 some ((.s []), h2)) (
  cWm r n x0 x1 h2)
def s61 (r : RT) (n : Nat) (x0 x1 : DV) (h0 : Hp) : aF :=
 cWs r n x0 x1 h0
abbrev c61 : Code := cf Tryz.f61
abbrev r61 : K := bF CF Tryz.f61
def D61 (r : RT) (n : Nat) (c : Code) (X : Nat → K) (k : K) : K := aR CF r 21 n c X r61 k
theorem dWj : D61 r n c61 x0 r61 = (K2 (s61 r n) 0 1) := by kernel_rfl
theorem dWf : aL CF r n 61 args h = s61 r n (aS args 0) (aS args 1) h :=
 dI (dWj r n) args h (by kernel_rfl) (by kernel_rfl)
def s62 (r : RT) (n : Nat) (x0 : DV) (h0 : Hp) : aF :=
 bnd (dG x0 h0) fun v1 h1 =>
 bnd (aH .lss v1 (aG 2) h1) fun v2 h2 =>
 aV v2 (
 some ((.s []), h2)) (
 bnd (aO 6 x0 (aG 0) (fP 1 h2)) fun v3 h3 =>
 bnd (aD 6 v3 h3) fun v4 h4 =>
 bnd (aW (cS 0 h2.next) cY 1 [(0, 6, v4)] h4) fun v5 h5 =>
 bnd (aO 6 x0 (aG 1) h5) fun v6 h6 =>
 bnd (aA 5 v6 h6) fun v7 h7 =>
 bnd (aB v7 h7) fun v8 h8 =>
 cnd (bM (aB v7 (fP 1 h2)) v8 && true) (
 bnd (aY 6 104 v5 v8 h8) fun v9 h9 =>
 bnd (dB 6 x0 (some (aG 2)) none h9) fun v10 h10 =>
 bnd (r 35 [v10, (.s []), (.f 91 [] [])] h10) fun v11 h11 =>
 bnd (aO 6 x0 (aG 1) h11) fun v12 h12 =>
 bnd (aA 1 v12 h12) fun v13 h13 =>
 bnd (aB v13 h13) fun v14 h14 =>
 bnd (r 61 [v14, v9] h14) fun v15 h15 =>
 bnd (aN [(.s []), (.s [])] 2 [(0, 1, v15), (1, 1, v11)] h15) fun v16 h16 =>
 bnd (r 19 [v16] h16) fun v17 h17 =>
 some (v17, h17)))
abbrev c62 : Code := cf Tryz.f62
abbrev r62 : K := bF CF Tryz.f62
def D62 (r : RT) (n : Nat) (c : Code) (X : Nat → K) (k : K) : K := aR CF r 29 n c X r62 k
theorem dWp : D62 r n c62 x0 r62 = (K1 (s62 r n) 0) :=
 (by kernel_rfl)
theorem dSd : aL CF r n 62 args h = s62 r n (aS args 0) h :=
 dI (dWp r n) args h (by kernel_rfl) (by kernel_rfl)
def iH (r : RT) (n : Nat) (h0 : Hp) : aF :=
 some ((.b true), h0)
def uI (r : RT) (n : Nat) (kk5 : gO) (x0 x1 x12 x13 : DV) (h0 : Hp) : aF :=
 bnd (aH .lss x13 x12 h0) fun v1 h1 =>
 aV v1 (
 bnd (aO 1 x0 x13 h1) fun v2 h2 =>
 bnd (aB v2 h2) fun v3 h3 =>
 bnd (aO 1 x1 x13 h3) fun v4 h4 =>
 bnd (aB v4 h4) fun v5 h5 =>
 bnd (cB .neq v3 v5 h5) fun v6 h6 =>
 aV v6 (
 some ((.b false), h6)) (
 bnd (aH .add x13 (aG 1) h6) fun v7 h7 =>
  kk5 x0 x1 x12 v7 h7)) (
      iH r n h1)
def nJ (r : RT) (n : Nat) (m : Nat) : gO :=
 Nat.rec (motive := fun _ => gO) (fun _ _ _ _ _ => none) (fun _ ih => uI r n ih) m
def bPo (r : RT) (n : Nat) : gO := nJ r n n
def bEk (r : RT) (n : Nat) (x0 x1 x12 x13 : DV) (h0 : Hp) : aF :=
 bPo r n x0 x1 x12 x13 h0
def aYh (r : RT) (n : Nat) (x0 x1 : DV) (h0 : Hp) : aF :=
 bnd (dG x0 h0) fun v1 h1 =>
  bEk r n x0 x1 v1 (aG 0) h1
def bFw (r : RT) (n : Nat) (x0 x1 : DV) (h0 : Hp) : aF :=
 bnd (dG x0 h0) fun v1 h1 =>
 bnd (dG x1 h1) fun v2 h2 =>
 bnd (aH .neq v1 v2 h2) fun v3 h3 =>
 aV v3 (
 some ((.b false), h3)) (
  aYh r n x0 x1 h3)
def s63 (r : RT) (n : Nat) (x0 x1 : DV) (h0 : Hp) : aF :=
 bFw r n x0 x1 h0
abbrev c63 : Code := cf Tryz.f63
abbrev aYo := cR c63
abbrev aXj := cR aYo
abbrev dRa := cR aXj
abbrev aSf := cL aXj
abbrev bSs := cR aSf
abbrev bIn := cL bSs
abbrev aBn := cL bIn
abbrev cXk := cL aSf
abbrev cYf := cL aYo
abbrev bNh := cL c63
abbrev r63 : K := bF CF Tryz.f63
def D63 (r : RT) (n : Nat) (c : Code) (X : Nat → K) (k : K) : K := aR CF r 26 n c X r63 k
theorem dFz : D63 r n dRa x0 r63 = (K0 (iH r n)) := by kernel_rfl
theorem cHr (kk5 : gO) : D63 r n aBn (xs x0 0 (K0 (iH r n))) (K4 kk5 0 1 12 13) = (K4 (uI r n kk5) 0 1 12 13) := by kernel_rfl
theorem cKh (m : Nat) : aE (fun kk => D63 r n aBn (xs x0 0 (K0 (iH r n))) kk) m = (K4 (nJ r n m) 0 1 12 13) := by
 induction m with
 | zero => exact (by kernel_rfl : aE (fun kk => D63 r n aBn (xs x0 0 (K0 (iH r n))) kk) 0 = (K4 (nJ r n 0) 0 1 12 13))
 | succ m ih =>
  refine (by kernel_rfl : aE (fun kk => D63 r n aBn (xs x0 0 (K0 (iH r n))) kk) (m + 1) = D63 r n aBn (xs x0 0 (K0 (iH r n))) (aE (fun kk => D63 r n aBn (xs x0 0 (K0 (iH r n))) kk) m)).trans ?_
  rw [ih]
  exact (cHr r n (nJ r n m)).trans (by kernel_rfl)
theorem dEj : D63 r n bIn (xs x0 0 (K0 (iH r n))) (K0 (iH r n)) = (K4 (bPo r n) 0 1 12 13) :=
 (by kernel_rfl : D63 r n bIn (xs x0 0 (K0 (iH r n))) (K0 (iH r n)) = aE (fun kk => D63 r n aBn (xs x0 0 (K0 (iH r n))) kk) n).trans ((cKh r n n).trans (by kernel_rfl))
theorem dNt : D63 r n bSs x0 (K0 (iH r n)) = (K4 (bEk r n) 0 1 12 13) :=
 (by kernel_rfl : D63 r n bSs x0 (K0 (iH r n)) = D63 r n bIn (xs x0 0 (K0 (iH r n))) (K0 (iH r n))).trans
 ((dEj r n).trans (by kernel_rfl))
theorem cNr : D63 r n aXj x0 r63 = D63 r n aSf x0 (K0 (iH r n)) :=
 congrArg (fun k => D63 r n aSf x0 k) (dFz r n)
theorem cUb : D63 r n aSf x0 (K0 (iH r n)) = D63 r n cXk x0 (K4 (bEk r n) 0 1 12 13) :=
 congrArg (fun k => D63 r n cXk x0 k) (dNt r n)
theorem dLt : D63 r n aXj x0 r63 = (K2 (aYh r n) 0 1) :=
 (cNr r n).trans
 ((cUb r n).trans
 ((by kernel_rfl)))
theorem cKu : D63 r n aYo x0 r63 = D63 r n cYf x0 (K2 (aYh r n) 0 1) :=
 congrArg (fun k => D63 r n cYf x0 k) (dLt r n)
theorem dJy : D63 r n aYo x0 r63 = (K2 (bFw r n) 0 1) :=
 (cKu r n).trans
 ((by kernel_rfl))
theorem dPg : D63 r n c63 x0 r63 = D63 r n bNh x0 (K2 (bFw r n) 0 1) :=
 congrArg (fun k => D63 r n bNh x0 k) (dJy r n)
theorem dYd : D63 r n c63 x0 r63 = (K2 (s63 r n) 0 1) :=
 (dPg r n).trans
 ((by kernel_rfl))
theorem dUp : aL CF r n 63 args h = s63 r n (aS args 0) (aS args 1) h :=
 dI (dYd r n) args h (by kernel_rfl) (by kernel_rfl)
def iD (r : RT) (n : Nat) (h0 : Hp) : aF :=
 some ((.b true), h0)
def uR (r : RT) (n : Nat) (kk5 : TT5) (x1 x2 x15 x16 x17 : DV) (h0 : Hp) : aF :=
 bnd (aH .lss x17 x16 h0) fun v1 h1 =>
 aV v1 (
 bnd (aO 6 x15 x17 h1) fun v2 h2 =>
 bnd (aD 6 v2 h2) fun v3 h3 =>
 bnd (bL cY h3) fun v4 h4 =>
 bnd (aC 6 v4 v3 h4) fun _ h5 =>
 bnd (aO 6 x1 x17 h5) fun v6 h6 =>
 bnd (aD 6 v6 h6) fun v7 h7 =>
 bnd (bL cY h7) fun v8 h8 =>
 bnd (aC 6 v8 v7 h8) fun _ h9 =>
 bnd (aD 6 v4 h9) fun v10 h10 =>
 bnd (aD 6 v8 h10) fun v11 h11 =>
 bnd (eA CF r x2 [v10, v11] h11) fun v12 h12 =>
 bnd (lS .not v12 h12) fun v13 h13 =>
 aV v13 (
 some ((.b false), h13)) (
 bnd (aH .add x17 (aG 1) h13) fun v14 h14 =>
  kk5 x1 x2 x15 x16 v14 h14)) (
      iD r n h1)
def mE (r : RT) (n : Nat) (m : Nat) : TT5 :=
 Nat.rec (motive := fun _ => TT5) (fun _ _ _ _ _ _ => none) (fun _ ih => uR r n ih) m
def bNc (r : RT) (n : Nat) : TT5 := mE r n n
def bCi (r : RT) (n : Nat) (x1 x2 x15 x16 x17 : DV) (h0 : Hp) : aF :=
 bNc r n x1 x2 x15 x16 x17 h0
def bEi (r : RT) (n : Nat) (x0 x1 x2 : DV) (h0 : Hp) : aF :=
 bnd (dG x0 h0) fun v1 h1 =>
  bCi r n x1 x2 x0 v1 (aG 0) h1
def bDn (r : RT) (n : Nat) (x0 x1 x2 : DV) (h0 : Hp) : aF :=
 bnd (dG x0 h0) fun v1 h1 =>
 bnd (dG x1 h1) fun v2 h2 =>
 bnd (aH .neq v1 v2 h2) fun v3 h3 =>
 aV v3 (
 some ((.b false), h3)) (
  bEi r n x0 x1 x2 h3)
def s64 (r : RT) (n : Nat) (x0 x1 x2 : DV) (h0 : Hp) : aF :=
 bDn r n x0 x1 x2 h0
abbrev c64 : Code := cf Tryz.f64
abbrev aXp := cR c64
abbrev aYq := cR aXp
abbrev dPr := cR aYq
abbrev aQg := cL aYq
abbrev bSy := cR aQg
abbrev aZg := cL bSy
abbrev zF := cL aZg
abbrev cXo := cL aQg
abbrev cZm := cL aXp
abbrev bRu := cL c64
abbrev r64 : K := bF CF Tryz.f64
def D64 (r : RT) (n : Nat) (c : Code) (X : Nat → K) (k : K) : K := aR CF r 32 n c X r64 k
theorem dGn : D64 r n dPr x0 r64 = (K0 (iD r n)) := by kernel_rfl
theorem cLw (kk5 : TT5) : D64 r n zF (xs x0 0 (K0 (iD r n))) (K5 kk5 1 2 15 16 17) = (K5 (uR r n kk5) 1 2 15 16 17) := by kernel_rfl
theorem cLm (m : Nat) : aE (fun kk => D64 r n zF (xs x0 0 (K0 (iD r n))) kk) m = (K5 (mE r n m) 1 2 15 16 17) := by
 induction m with
 | zero => exact (by kernel_rfl : aE (fun kk => D64 r n zF (xs x0 0 (K0 (iD r n))) kk) 0 = (K5 (mE r n 0) 1 2 15 16 17))
 | succ m ih =>
  refine (by kernel_rfl : aE (fun kk => D64 r n zF (xs x0 0 (K0 (iD r n))) kk) (m + 1) = D64 r n zF (xs x0 0 (K0 (iD r n))) (aE (fun kk => D64 r n zF (xs x0 0 (K0 (iD r n))) kk) m)).trans ?_
  rw [ih]
  exact (cLw r n (mE r n m)).trans (by kernel_rfl)
theorem dGu : D64 r n aZg (xs x0 0 (K0 (iD r n))) (K0 (iD r n)) = (K5 (bNc r n) 1 2 15 16 17) :=
 (by kernel_rfl : D64 r n aZg (xs x0 0 (K0 (iD r n))) (K0 (iD r n)) = aE (fun kk => D64 r n zF (xs x0 0 (K0 (iD r n))) kk) n).trans ((cLm r n n).trans (by kernel_rfl))
theorem dHl : D64 r n bSy x0 (K0 (iD r n)) = (K5 (bCi r n) 1 2 15 16 17) :=
 (by kernel_rfl : D64 r n bSy x0 (K0 (iD r n)) = D64 r n aZg (xs x0 0 (K0 (iD r n))) (K0 (iD r n))).trans
 ((dGu r n).trans (by kernel_rfl))
theorem cTn : D64 r n aYq x0 r64 = D64 r n aQg x0 (K0 (iD r n)) :=
 congrArg (fun k => D64 r n aQg x0 k) (dGn r n)
theorem cJe : D64 r n aQg x0 (K0 (iD r n)) = D64 r n cXo x0 (K5 (bCi r n) 1 2 15 16 17) :=
 congrArg (fun k => D64 r n cXo x0 k) (dHl r n)
theorem dNo : D64 r n aYq x0 r64 = (K3 (bEi r n) 0 1 2) :=
 (cTn r n).trans
 ((cJe r n).trans
 ((by kernel_rfl)))
theorem cQl : D64 r n aXp x0 r64 = D64 r n cZm x0 (K3 (bEi r n) 0 1 2) :=
 congrArg (fun k => D64 r n cZm x0 k) (dNo r n)
theorem dAt : D64 r n aXp x0 r64 = (K3 (bDn r n) 0 1 2) :=
 (cQl r n).trans
 ((by kernel_rfl))
theorem dUk : D64 r n c64 x0 r64 = D64 r n bRu x0 (K3 (bDn r n) 0 1 2) :=
 congrArg (fun k => D64 r n bRu x0 k) (dAt r n)
theorem dWw : D64 r n c64 x0 r64 = (K3 (s64 r n) 0 1 2) :=
 (dUk r n).trans
 ((by kernel_rfl))
theorem dVp : aL CF r n 64 args h = s64 r n (aS args 0) (aS args 1) (aS args 2) h :=
 dI (dWw r n) args h (by kernel_rfl) (by kernel_rfl)
end
end Go.Dd

namespace Go.Dd
open Go.Proofs
noncomputable section
variable (r : RT) (n : Nat) (args : List DV) (h : Hp)
def aJ (r : RT) (n : Nat) (x1 : DV) (h0 : Hp) : aF :=
 bnd (aA 1 x1 h0) fun v1 h1 =>
 bnd (aB v1 h1) fun v2 h2 =>
 some (v2, h2)
def iE (r : RT) (n : Nat) (x3 : DV) (h0 : Hp) : aF :=
 bnd (cB .add x3 (.s [39]) h0) fun v1 h1 =>
 some (v1, h1)
def bNi (r : RT) (n : Nat) (kk11 : cZ) (x1 x3 x4 : DV) (h0 : Hp) : aF :=
 bnd (aH .add x4 (aG 1) h0) fun v1 h1 =>
  kk11 x1 x3 v1 h1
def aJn (r : RT) (n : Nat) (kk11 : cZ) (x1 x3 x4 : DV) (h0 : Hp) : aF :=
 bnd (aA 1 x1 h0) fun v1 h1 =>
 bnd (aB v1 h1) fun v2 h2 =>
 bnd (aH .add x4 (aG 1) h2) fun v3 h3 =>
 bnd (dC v2 (some x4) (some v3) h3) fun v4 h4 =>
 bnd (cB .add x3 v4 h4) fun v5 h5 =>
  bNi r n kk11 x1 v5 x4 h5
def cAa (r : RT) (n : Nat) (kk11 : cZ) (x1 x3 x4 : DV) (h0 : Hp) : aF :=
 bnd (aA 1 x1 h0) fun v1 h1 =>
 bnd (aB v1 h1) fun v2 h2 =>
 bnd (bK v2 x4 h2) fun v3 h3 =>
 bnd (aH .eql v3 (.i .u8 (Int.ofNat 39)) h3) fun v4 h4 =>
 aV v4 (
 bnd (cB .add x3 (.s [39]) h4) fun v5 h5 =>
  aJn r n kk11 x1 v5 x4 h5) (
  aJn r n kk11 x1 x3 x4 h4)
def pT (r : RT) (n : Nat) (kk11 : cZ) (x1 x3 x4 : DV) (h0 : Hp) : aF :=
 bnd (aA 1 x1 h0) fun v1 h1 =>
 bnd (aB v1 h1) fun v2 h2 =>
 bnd (dE v2 h2) fun v3 h3 =>
 bnd (aH .lss x4 v3 h3) fun v4 h4 =>
 aV v4 (
  cAa r n kk11 x1 x3 x4 h4) (
  iE r n x3 h4)
def jR (r : RT) (n : Nat) (m : Nat) : cZ :=
 Nat.rec (motive := fun _ => cZ) (fun _ _ _ _ => none) (fun _ ih => pT r n ih) m
def aVc (r : RT) (n : Nat) : cZ := jR r n n
def aNm (r : RT) (n : Nat) (x1 x3 x4 : DV) (h0 : Hp) : aF :=
 aVc r n x1 x3 x4 h0
def bEs (r : RT) (n : Nat) (x1 x3 : DV) (h0 : Hp) : aF :=
 aNm r n x1 x3 (aG 0) h0
def cCp (r : RT) (n : Nat) (x1 : DV) (h0 : Hp) : aF :=
 bEs r n x1 (.s [39]) h0
def eT (r : RT) (n : Nat) (x6 : DV) (h0 : Hp) : aF :=
 some (x6, h0)
def qJ (r : RT) (n : Nat) (kk34 : cZ) (x1 x6 x7 : DV) (h0 : Hp) : aF :=
 bnd (aA 5 x1 h0) fun v1 h1 =>
 bnd (aB v1 h1) fun v2 h2 =>
 bnd (dG v2 h2) fun v3 h3 =>
 bnd (aH .lss x7 v3 h3) fun v4 h4 =>
 aV v4 (
 bnd (cB .add x6 (.s [59, 32]) h4) fun v5 h5 =>
 bnd (aA 5 x1 h5) fun v6 h6 =>
 bnd (aB v6 h6) fun v7 h7 =>
 bnd (aO 6 v7 x7 h7) fun v8 h8 =>
 bnd (aA 1 v8 h8) fun v9 h9 =>
 bnd (aB v9 h9) fun v10 h10 =>
 bnd (aA 5 x1 h10) fun v11 h11 =>
 bnd (aB v11 h11) fun v12 h12 =>
 bnd (aO 6 v12 x7 h12) fun v13 h13 =>
 bnd (aA 5 v13 h13) fun v14 h14 =>
 bnd (aB v14 h14) fun v15 h15 =>
 bnd (r 93 [v10, v15] h15) fun v16 h16 =>
 bnd (cB .add v5 v16 h16) fun v17 h17 =>
 bnd (aH .add x7 (aG 1) h17) fun v18 h18 =>
      kk34 x1 v17 v18 h18) (
      eT r n x6 h4)
def kW (r : RT) (n : Nat) (m : Nat) : cZ :=
 Nat.rec (motive := fun _ => cZ) (fun _ _ _ _ => none) (fun _ ih => qJ r n ih) m
def aVy (r : RT) (n : Nat) : cZ := kW r n n
def aMv (r : RT) (n : Nat) (x1 x6 x7 : DV) (h0 : Hp) : aF :=
 aVy r n x1 x6 x7 h0
def aMy (r : RT) (n : Nat) (x1 x6 : DV) (h0 : Hp) : aF :=
 aMv r n x1 x6 (aG 2) h0
def aMp (r : RT) (n : Nat) (x1 x5 : DV) (h0 : Hp) : aF :=
 bnd (aA 5 x1 h0) fun v1 h1 =>
 bnd (aB v1 h1) fun v2 h2 =>
 bnd (aO 6 v2 (aG 1) h2) fun v3 h3 =>
 bnd (aA 1 v3 h3) fun v4 h4 =>
 bnd (aB v4 h4) fun v5 h5 =>
 bnd (r 92 [v5, x5] h5) fun v6 h6 =>
  aMy r n x1 v6 h6
def aJc (r : RT) (n : Nat) (x1 x5 : DV) (h0 : Hp) : aF :=
 bnd (aA 5 x1 h0) fun v1 h1 =>
 bnd (aB v1 h1) fun v2 h2 =>
 bnd (aO 6 v2 (aG 1) h2) fun v3 h3 =>
 bnd (aA 5 v3 h3) fun v4 h4 =>
 bnd (aB v4 h4) fun v5 h5 =>
 bnd (aY 6 104 x5 v5 h5) fun v6 h6 =>
  aMp r n x1 v6 h6
def aLb (r : RT) (n : Nat) (x1 : DV) (h0 : Hp) : aF :=
 bnd (aA 5 x1 h0) fun v1 h1 =>
 bnd (aB v1 h1) fun v2 h2 =>
 bnd (aO 6 v2 (aG 0) h2) fun v3 h3 =>
 bnd (aD 6 v3 h3) fun v4 h4 =>
 bnd (aN cY 1 [(0, 6, v4)] h4) fun v5 h5 =>
  aJc r n x1 v5 h5
def aUa (r : RT) (n : Nat) (x1 : DV) (h0 : Hp) : aF :=
 bnd (aA 5 x1 h0) fun v1 h1 =>
 bnd (aB v1 h1) fun v2 h2 =>
 bnd (dG v2 h2) fun v3 h3 =>
 bnd (aH .lss v3 (aG 2) h3) fun v4 h4 =>
 aV v4 (
 some ((.s []), h4)) (
  aLb r n x1 h4)
def aGj (r : RT) (n : Nat) (x1 x8 : DV) (h0 : Hp) : aF :=
 bnd (aD 6 x1 h0) fun v1 h1 =>
 bnd (r 23 [v1] h1) fun v2 h2 =>
 bnd (cB .add x8 v2 h2) fun v3 h3 =>
 bnd (cB .add v3 (.s [93]) h3) fun v4 h4 =>
 some (v4, h4)
def eM (r : RT) (n : Nat) (x1 x8 : DV) (h0 : Hp) : aF :=
 bnd (aA 3 x1 h0) fun v1 h1 =>
 bnd (aB v1 h1) fun v2 h2 =>
 bnd (dG v2 h2) fun v3 h3 =>
 bnd (aH .gtr v3 (aG 0) h3) fun v4 h4 =>
 aV v4 (
 bnd (cB .add x8 (.s [124, 32]) h4) fun v5 h5 =>
  aGj r n x1 v5 h5) (
  aGj r n x1 x8 h4)
def pQ (r : RT) (n : Nat) (kk42 : cZ) (x1 x8 x9 : DV) (h0 : Hp) : aF :=
 bnd (aA 3 x1 h0) fun v1 h1 =>
 bnd (aB v1 h1) fun v2 h2 =>
 bnd (dG v2 h2) fun v3 h3 =>
 bnd (aH .lss x9 v3 h3) fun v4 h4 =>
 aV v4 (
 bnd (cB .add x8 (.s [58]) h4) fun v5 h5 =>
 bnd (aA 3 x1 h5) fun v6 h6 =>
 bnd (aB v6 h6) fun v7 h7 =>
 bnd (aO 1 v7 x9 h7) fun v8 h8 =>
 bnd (aB v8 h8) fun v9 h9 =>
 bnd (cB .add v5 v9 h9) fun v10 h10 =>
 bnd (cB .add v10 (.s [32]) h10) fun v11 h11 =>
 bnd (aH .add x9 (aG 1) h11) fun v12 h12 =>
      kk42 x1 v11 v12 h12) (
      eM r n x1 x8 h4)
def kR (r : RT) (n : Nat) (m : Nat) : cZ :=
 Nat.rec (motive := fun _ => cZ) (fun _ _ _ _ => none) (fun _ ih => pQ r n ih) m
def aVt (r : RT) (n : Nat) : cZ := kR r n n
def aIr (r : RT) (n : Nat) (x1 x8 x9 : DV) (h0 : Hp) : aF :=
 aVt r n x1 x8 x9 h0
def aGa (r : RT) (n : Nat) (x1 x8 : DV) (h0 : Hp) : aF :=
 aIr r n x1 x8 (aG 0) h0
def aVz (r : RT) (n : Nat) (x1 : DV) (h0 : Hp) : aF :=
 aGa r n x1 (.s [91]) h0
def aBt (r : RT) (n : Nat) (x1 x126 : DV) (h0 : Hp) : aF :=
 aV x126 (
  aVz r n x1 h0) (
  aJ r n x1 h0)
def aVe (r : RT) (n : Nat) (x1 x11 : DV) (h0 : Hp) : aF :=
 bnd (aH .eql x11 (aG 9) h0) fun v1 h1 =>
  aBt r n x1 v1 h1
def aAu (r : RT) (n : Nat) (x1 x11 x77 : DV) (h0 : Hp) : aF :=
 aV x77 (
  aUa r n x1 h0) (
  aVe r n x1 x11 h0)
def aVb (r : RT) (n : Nat) (x1 x11 : DV) (h0 : Hp) : aF :=
 bnd (aH .eql x11 (aG 8) h0) fun v1 h1 =>
  aAu r n x1 x11 v1 h1
def zI (r : RT) (n : Nat) (x1 x11 x70 : DV) (h0 : Hp) : aF :=
 aV x70 (
 bnd (aA 1 x1 h0) fun v1 h1 =>
 bnd (aB v1 h1) fun v2 h2 =>
 bnd (aA 5 x1 h2) fun v3 h3 =>
 bnd (aB v3 h3) fun v4 h4 =>
 bnd (r 92 [v2, v4] h4) fun v5 h5 =>
 some (v5, h5)) (
  aVb r n x1 x11 h0)
def aUh (r : RT) (n : Nat) (x1 x11 : DV) (h0 : Hp) : aF :=
 bnd (aH .eql x11 (aG 7) h0) fun v1 h1 =>
  zI r n x1 x11 v1 h1
def yG (r : RT) (n : Nat) (x1 x11 x64 : DV) (h0 : Hp) : aF :=
 aV x64 (
 bnd (aA 5 x1 h0) fun v1 h1 =>
 bnd (aB v1 h1) fun v2 h2 =>
 bnd (r 38 [v2, (.s [])] h2) fun v3 h3 =>
 bnd (cB .add (.s [94]) v3 h3) fun v4 h4 =>
 some (v4, h4)) (
  aUh r n x1 x11 h0)
def aUd (r : RT) (n : Nat) (x1 x11 : DV) (h0 : Hp) : aF :=
 bnd (aH .eql x11 (aG 10) h0) fun v1 h1 =>
  yG r n x1 x11 v1 h1
def aAm (r : RT) (n : Nat) (x1 x11 x55 : DV) (h0 : Hp) : aF :=
 aV x55 (
 bnd (aA 1 x1 h0) fun v1 h1 =>
 bnd (aB v1 h1) fun v2 h2 =>
 bnd (cB .add v2 (.s [32, 58, 61, 32]) h2) fun v3 h3 =>
 bnd (aA 5 x1 h3) fun v4 h4 =>
 bnd (aB v4 h4) fun v5 h5 =>
 bnd (r 38 [v5, (.s [])] h5) fun v6 h6 =>
 cnd (bM (aB v1 h6) v2 && true) (
 bnd (cB .add v3 v6 h6) fun v7 h7 =>
 some (v7, h7))) (
  aUd r n x1 x11 h0)
def aTh (r : RT) (n : Nat) (x1 x11 : DV) (h0 : Hp) : aF :=
 bnd (aH .eql x11 (aG 6) h0) fun v1 h1 =>
  aAm r n x1 x11 v1 h1
def zL (r : RT) (n : Nat) (x1 x11 x48 : DV) (h0 : Hp) : aF :=
 aV x48 (
 bnd (aA 5 x1 h0) fun v1 h1 =>
 bnd (aB v1 h1) fun v2 h2 =>
 bnd (r 38 [v2, (.s [32])] h2) fun v3 h3 =>
 bnd (cB .add (.s [35, 40]) v3 h3) fun v4 h4 =>
 bnd (cB .add v4 (.s [41]) h4) fun v5 h5 =>
 some (v5, h5)) (
  aTh r n x1 x11 h0)
def aWf (r : RT) (n : Nat) (x1 x11 : DV) (h0 : Hp) : aF :=
 bnd (aH .eql x11 (aG 4) h0) fun v1 h1 =>
  zL r n x1 x11 v1 h1
def aCa (r : RT) (n : Nat) (x1 x11 x43 : DV) (h0 : Hp) : aF :=
 aV x43 (
 bnd (aA 1 x1 h0) fun v1 h1 =>
 bnd (aB v1 h1) fun v2 h2 =>
 bnd (cB .add (.s [35]) v2 h2) fun v3 h3 =>
 some (v3, h3)) (
  aWf r n x1 x11 h0)
def aWq (r : RT) (n : Nat) (x1 x11 : DV) (h0 : Hp) : aF :=
 bnd (aH .eql x11 (aG 3) h0) fun v1 h1 =>
  aCa r n x1 x11 v1 h1
def aQh (r : RT) (n : Nat) (x1 x11 x17 : DV) (h0 : Hp) : aF :=
 aV x17 (
  cCp r n x1 h0) (
  aWq r n x1 x11 h0)
def cDk (r : RT) (n : Nat) (x1 x11 : DV) (h0 : Hp) : aF :=
 bnd (aH .eql x11 (aG 2) h0) fun v1 h1 =>
  aQh r n x1 x11 v1 h1
def aOo (r : RT) (n : Nat) (x1 x11 x12 : DV) (h0 : Hp) : aF :=
 aV x12 (
 bnd (aA 2 x1 h0) fun v1 h1 =>
 bnd (aB v1 h1) fun v2 h2 =>
 bnd (r 42 [v2] h2) fun v3 h3 =>
 some (v3, h3)) (
  cDk r n x1 x11 h0)
def bGy (r : RT) (n : Nat) (x1 x11 : DV) (h0 : Hp) : aF :=
 bnd (aH .eql x11 (aG 1) h0) fun v1 h1 =>
  aOo r n x1 x11 v1 h1
def bJc (r : RT) (n : Nat) (x1 : DV) (h0 : Hp) : aF :=
 bnd (aA 0 x1 h0) fun v1 h1 =>
 bnd (aB v1 h1) fun v2 h2 =>
  bGy r n x1 v2 h2
def s65 (r : RT) (n : Nat) (x0 : DV) (h0 : Hp) : aF :=
 bnd (eR x0 h0) fun v1 h1 =>
  bJc r n v1 h1
abbrev c65 : Code := cf Tryz.f65
abbrev aZf := cR c65
abbrev dQc := cR aZf
abbrev aOp := cL aZf
abbrev cCa := cR aOp
abbrev bCm := cL cCa
abbrev aRj := cR bCm
abbrev aRz := cR aRj
abbrev aQs := cR aRz
abbrev aPm := cL aQs
abbrev aId := cR aPm
abbrev dAh := cR aId
abbrev zB := cL aId
abbrev aUi := cR zB
abbrev aLv := cL aUi
abbrev qZ := cL aLv
abbrev bOm := cL zB
abbrev bXx := cL aPm
abbrev aCh := cR aQs
abbrev yP := cR aCh
abbrev yS := cR yP
abbrev yD := cR yS
abbrev zH := cR yD
abbrev aBx := cR zH
abbrev zV := cR aBx
abbrev aCj := cR zV
abbrev aAi := cR aCj
abbrev yE := cR aAi
abbrev aBq := cR yE
abbrev aAb := cR aBq
abbrev aCx := cL aAb
abbrev aHg := cR aCx
abbrev aOa := cR aHg
abbrev aLo := cR aOa
abbrev aIs := cR aLo
abbrev dHu := cR aIs
abbrev aAz := cL aIs
abbrev aTm := cR aAz
abbrev aMg := cL aTm
abbrev rH := cL aMg
abbrev bTj := cL aAz
abbrev bXz := cL aLo
abbrev cAi := cL aOa
abbrev cFa := cL aHg
abbrev cFt := cL aCx
abbrev aBz := cR aAb
abbrev aAo := cR aBz
abbrev aBo := cL aAo
abbrev aIk := cR aBo
abbrev dEc := cR aIk
abbrev xY := cL aIk
abbrev aVf := cR xY
abbrev aNu := cL aVf
abbrev sJ := cL aNu
abbrev bUu := cL xY
abbrev cAj := cL aBo
abbrev dKn := cR aAo
abbrev bLy := cL aBz
abbrev cDo := cL aBq
abbrev dBa := cL yE
abbrev bOl := cL aAi
abbrev dAg := cL aCj
abbrev cFe := cL zV
abbrev dAr := cL aBx
abbrev bVz := cL zH
abbrev dAu := cL yD
abbrev cBl := cL yS
abbrev dNg := cL yP
abbrev cDe := cL aCh
abbrev cEu := cL aRz
abbrev dCh := cL aRj
abbrev cBe := cL bCm
abbrev cBc := cL aOp
abbrev cAm := cL c65
abbrev r65 : K := bF CF Tryz.f65
def D65 (r : RT) (n : Nat) (c : Code) (X : Nat → K) (k : K) : K := aR CF r 157 n c X r65 k
theorem dBs : D65 r n dQc x0 r65 = (K1 (aJ r n) 1) := by kernel_rfl
theorem dLg : D65 r n dAh (xs x0 0 (K1 (aJ r n) 1)) (K1 (aJ r n) 1) = (K1 (iE r n) 3) := by kernel_rfl
theorem bUg (kk11 : cZ) : D65 r n qZ (xs (xs x0 0 (K1 (aJ r n) 1)) 1 (K1 (iE r n) 3)) (K3 kk11 1 3 4) = (K3 (pT r n kk11) 1 3 4) := by kernel_rfl
theorem bUf (m : Nat) : aE (fun kk => D65 r n qZ (xs (xs x0 0 (K1 (aJ r n) 1)) 1 (K1 (iE r n) 3)) kk) m = (K3 (jR r n m) 1 3 4) := by
 induction m with
 | zero => exact (by kernel_rfl : aE (fun kk => D65 r n qZ (xs (xs x0 0 (K1 (aJ r n) 1)) 1 (K1 (iE r n) 3)) kk) 0 = (K3 (jR r n 0) 1 3 4))
 | succ m ih =>
  refine (by kernel_rfl : aE (fun kk => D65 r n qZ (xs (xs x0 0 (K1 (aJ r n) 1)) 1 (K1 (iE r n) 3)) kk) (m + 1) = D65 r n qZ (xs (xs x0 0 (K1 (aJ r n) 1)) 1 (K1 (iE r n) 3)) (aE (fun kk => D65 r n qZ (xs (xs x0 0 (K1 (aJ r n) 1)) 1 (K1 (iE r n) 3)) kk) m)).trans ?_
  rw [ih]
  exact (bUg r n (jR r n m)).trans (by kernel_rfl)
theorem cKr : D65 r n aLv (xs (xs x0 0 (K1 (aJ r n) 1)) 1 (K1 (iE r n) 3)) (K1 (iE r n) 3) = (K3 (aVc r n) 1 3 4) :=
 (by kernel_rfl : D65 r n aLv (xs (xs x0 0 (K1 (aJ r n) 1)) 1 (K1 (iE r n) 3)) (K1 (iE r n) 3) = aE (fun kk => D65 r n qZ (xs (xs x0 0 (K1 (aJ r n) 1)) 1 (K1 (iE r n) 3)) kk) n).trans ((bUf r n n).trans (by kernel_rfl))
theorem cHt : D65 r n aUi (xs x0 0 (K1 (aJ r n) 1)) (K1 (iE r n) 3) = (K3 (aNm r n) 1 3 4) :=
 (by kernel_rfl : D65 r n aUi (xs x0 0 (K1 (aJ r n) 1)) (K1 (iE r n) 3) = D65 r n aLv (xs (xs x0 0 (K1 (aJ r n) 1)) 1 (K1 (iE r n) 3)) (K1 (iE r n) 3)).trans
 ((cKr r n).trans (by kernel_rfl))
theorem cMc : D65 r n aId (xs x0 0 (K1 (aJ r n) 1)) (K1 (aJ r n) 1) = D65 r n zB (xs x0 0 (K1 (aJ r n) 1)) (K1 (iE r n) 3) :=
 congrArg (fun k => D65 r n zB (xs x0 0 (K1 (aJ r n) 1)) k) (dLg r n)
theorem cIf : D65 r n zB (xs x0 0 (K1 (aJ r n) 1)) (K1 (iE r n) 3) = D65 r n bOm (xs x0 0 (K1 (aJ r n) 1)) (K3 (aNm r n) 1 3 4) :=
 congrArg (fun k => D65 r n bOm (xs x0 0 (K1 (aJ r n) 1)) k) (cHt r n)
theorem dFx : D65 r n aId (xs x0 0 (K1 (aJ r n) 1)) (K1 (aJ r n) 1) = (K2 (bEs r n) 1 3) :=
 (cMc r n).trans
 ((cIf r n).trans
 ((by kernel_rfl)))
theorem cTb : D65 r n aPm (xs x0 0 (K1 (aJ r n) 1)) (K1 (aJ r n) 1) = D65 r n bXx (xs x0 0 (K1 (aJ r n) 1)) (K2 (bEs r n) 1 3) :=
 congrArg (fun k => D65 r n bXx (xs x0 0 (K1 (aJ r n) 1)) k) (dFx r n)
theorem dDj : D65 r n aPm (xs x0 0 (K1 (aJ r n) 1)) (K1 (aJ r n) 1) = (K1 (cCp r n) 1) :=
 (cTb r n).trans
 ((by kernel_rfl))
theorem cNj : D65 r n dHu (xs x0 0 (K1 (aJ r n) 1)) (K1 (aJ r n) 1) = (K1 (eT r n) 6) := by kernel_rfl
theorem bNz (kk34 : cZ) : D65 r n rH (xs (xs x0 0 (K1 (aJ r n) 1)) 3 (K1 (eT r n) 6)) (K3 kk34 1 6 7) = (K3 (qJ r n kk34) 1 6 7) := by kernel_rfl
theorem bSl (m : Nat) : aE (fun kk => D65 r n rH (xs (xs x0 0 (K1 (aJ r n) 1)) 3 (K1 (eT r n) 6)) kk) m = (K3 (kW r n m) 1 6 7) := by
 induction m with
 | zero => exact (by kernel_rfl : aE (fun kk => D65 r n rH (xs (xs x0 0 (K1 (aJ r n) 1)) 3 (K1 (eT r n) 6)) kk) 0 = (K3 (kW r n 0) 1 6 7))
 | succ m ih =>
  refine (by kernel_rfl : aE (fun kk => D65 r n rH (xs (xs x0 0 (K1 (aJ r n) 1)) 3 (K1 (eT r n) 6)) kk) (m + 1) = D65 r n rH (xs (xs x0 0 (K1 (aJ r n) 1)) 3 (K1 (eT r n) 6)) (aE (fun kk => D65 r n rH (xs (xs x0 0 (K1 (aJ r n) 1)) 3 (K1 (eT r n) 6)) kk) m)).trans ?_
  rw [ih]
  exact (bNz r n (kW r n m)).trans (by kernel_rfl)
theorem cHp : D65 r n aMg (xs (xs x0 0 (K1 (aJ r n) 1)) 3 (K1 (eT r n) 6)) (K1 (eT r n) 6) = (K3 (aVy r n) 1 6 7) :=
 (by kernel_rfl : D65 r n aMg (xs (xs x0 0 (K1 (aJ r n) 1)) 3 (K1 (eT r n) 6)) (K1 (eT r n) 6) = aE (fun kk => D65 r n rH (xs (xs x0 0 (K1 (aJ r n) 1)) 3 (K1 (eT r n) 6)) kk) n).trans ((bSl r n n).trans (by kernel_rfl))
theorem cSr : D65 r n aTm (xs x0 0 (K1 (aJ r n) 1)) (K1 (eT r n) 6) = (K3 (aMv r n) 1 6 7) :=
 (by kernel_rfl : D65 r n aTm (xs x0 0 (K1 (aJ r n) 1)) (K1 (eT r n) 6) = D65 r n aMg (xs (xs x0 0 (K1 (aJ r n) 1)) 3 (K1 (eT r n) 6)) (K1 (eT r n) 6)).trans
 ((cHp r n).trans (by kernel_rfl))
theorem bPp : D65 r n aIs (xs x0 0 (K1 (aJ r n) 1)) (K1 (aJ r n) 1) = D65 r n aAz (xs x0 0 (K1 (aJ r n) 1)) (K1 (eT r n) 6) :=
 congrArg (fun k => D65 r n aAz (xs x0 0 (K1 (aJ r n) 1)) k) (cNj r n)
theorem bMr : D65 r n aAz (xs x0 0 (K1 (aJ r n) 1)) (K1 (eT r n) 6) = D65 r n bTj (xs x0 0 (K1 (aJ r n) 1)) (K3 (aMv r n) 1 6 7) :=
 congrArg (fun k => D65 r n bTj (xs x0 0 (K1 (aJ r n) 1)) k) (cSr r n)
theorem cKc : D65 r n aIs (xs x0 0 (K1 (aJ r n) 1)) (K1 (aJ r n) 1) = (K2 (aMy r n) 1 6) :=
 (bPp r n).trans
 ((bMr r n).trans
 ((by kernel_rfl)))
theorem cEl : D65 r n aLo (xs x0 0 (K1 (aJ r n) 1)) (K1 (aJ r n) 1) = D65 r n bXz (xs x0 0 (K1 (aJ r n) 1)) (K2 (aMy r n) 1 6) :=
 congrArg (fun k => D65 r n bXz (xs x0 0 (K1 (aJ r n) 1)) k) (cKc r n)
theorem cSq : D65 r n aLo (xs x0 0 (K1 (aJ r n) 1)) (K1 (aJ r n) 1) = (K2 (aMp r n) 1 5) :=
 (cEl r n).trans
 ((by kernel_rfl))
theorem bLh : D65 r n aOa (xs x0 0 (K1 (aJ r n) 1)) (K1 (aJ r n) 1) = D65 r n cAi (xs x0 0 (K1 (aJ r n) 1)) (K2 (aMp r n) 1 5) :=
 congrArg (fun k => D65 r n cAi (xs x0 0 (K1 (aJ r n) 1)) k) (cSq r n)
theorem cNl : D65 r n aOa (xs x0 0 (K1 (aJ r n) 1)) (K1 (aJ r n) 1) = (K2 (aJc r n) 1 5) :=
 (bLh r n).trans
 ((by kernel_rfl))
theorem bJm : D65 r n aHg (xs x0 0 (K1 (aJ r n) 1)) (K1 (aJ r n) 1) = D65 r n cFa (xs x0 0 (K1 (aJ r n) 1)) (K2 (aJc r n) 1 5) :=
 congrArg (fun k => D65 r n cFa (xs x0 0 (K1 (aJ r n) 1)) k) (cNl r n)
theorem cPr : D65 r n aHg (xs x0 0 (K1 (aJ r n) 1)) (K1 (aJ r n) 1) = (K1 (aLb r n) 1) :=
 (bJm r n).trans
 ((by kernel_rfl))
theorem bKx : D65 r n aCx (xs x0 0 (K1 (aJ r n) 1)) (K1 (aJ r n) 1) = D65 r n cFt (xs x0 0 (K1 (aJ r n) 1)) (K1 (aLb r n) 1) :=
 congrArg (fun k => D65 r n cFt (xs x0 0 (K1 (aJ r n) 1)) k) (cPr r n)
theorem cPl : D65 r n aCx (xs x0 0 (K1 (aJ r n) 1)) (K1 (aJ r n) 1) = (K1 (aUa r n) 1) :=
 (bKx r n).trans
 ((by kernel_rfl))
theorem cQw : D65 r n dEc (xs x0 0 (K1 (aJ r n) 1)) (K1 (aJ r n) 1) = (K2 (eM r n) 1 8) := by kernel_rfl
theorem bLz (kk42 : cZ) : D65 r n sJ (xs (xs x0 0 (K1 (aJ r n) 1)) 5 (K2 (eM r n) 1 8)) (K3 kk42 1 8 9) = (K3 (pQ r n kk42) 1 8 9) := by kernel_rfl
theorem bQh (m : Nat) : aE (fun kk => D65 r n sJ (xs (xs x0 0 (K1 (aJ r n) 1)) 5 (K2 (eM r n) 1 8)) kk) m = (K3 (kR r n m) 1 8 9) := by
 induction m with
 | zero => exact (by kernel_rfl : aE (fun kk => D65 r n sJ (xs (xs x0 0 (K1 (aJ r n) 1)) 5 (K2 (eM r n) 1 8)) kk) 0 = (K3 (kR r n 0) 1 8 9))
 | succ m ih =>
  refine (by kernel_rfl : aE (fun kk => D65 r n sJ (xs (xs x0 0 (K1 (aJ r n) 1)) 5 (K2 (eM r n) 1 8)) kk) (m + 1) = D65 r n sJ (xs (xs x0 0 (K1 (aJ r n) 1)) 5 (K2 (eM r n) 1 8)) (aE (fun kk => D65 r n sJ (xs (xs x0 0 (K1 (aJ r n) 1)) 5 (K2 (eM r n) 1 8)) kk) m)).trans ?_
  rw [ih]
  exact (bLz r n (kR r n m)).trans (by kernel_rfl)
theorem cPz : D65 r n aNu (xs (xs x0 0 (K1 (aJ r n) 1)) 5 (K2 (eM r n) 1 8)) (K2 (eM r n) 1 8) = (K3 (aVt r n) 1 8 9) :=
 (by kernel_rfl : D65 r n aNu (xs (xs x0 0 (K1 (aJ r n) 1)) 5 (K2 (eM r n) 1 8)) (K2 (eM r n) 1 8) = aE (fun kk => D65 r n sJ (xs (xs x0 0 (K1 (aJ r n) 1)) 5 (K2 (eM r n) 1 8)) kk) n).trans ((bQh r n n).trans (by kernel_rfl))
theorem cRk : D65 r n aVf (xs x0 0 (K1 (aJ r n) 1)) (K2 (eM r n) 1 8) = (K3 (aIr r n) 1 8 9) :=
 (by kernel_rfl : D65 r n aVf (xs x0 0 (K1 (aJ r n) 1)) (K2 (eM r n) 1 8) = D65 r n aNu (xs (xs x0 0 (K1 (aJ r n) 1)) 5 (K2 (eM r n) 1 8)) (K2 (eM r n) 1 8)).trans
 ((cPz r n).trans (by kernel_rfl))
theorem bLi : D65 r n aIk (xs x0 0 (K1 (aJ r n) 1)) (K1 (aJ r n) 1) = D65 r n xY (xs x0 0 (K1 (aJ r n) 1)) (K2 (eM r n) 1 8) :=
 congrArg (fun k => D65 r n xY (xs x0 0 (K1 (aJ r n) 1)) k) (cQw r n)
theorem bKd : D65 r n xY (xs x0 0 (K1 (aJ r n) 1)) (K2 (eM r n) 1 8) = D65 r n bUu (xs x0 0 (K1 (aJ r n) 1)) (K3 (aIr r n) 1 8 9) :=
 congrArg (fun k => D65 r n bUu (xs x0 0 (K1 (aJ r n) 1)) k) (cRk r n)
theorem cSp : D65 r n aIk (xs x0 0 (K1 (aJ r n) 1)) (K1 (aJ r n) 1) = (K2 (aGa r n) 1 8) :=
 (bLi r n).trans
 ((bKd r n).trans
 ((by kernel_rfl)))
theorem bJz : D65 r n aBo (xs x0 0 (K1 (aJ r n) 1)) (K1 (aJ r n) 1) = D65 r n cAj (xs x0 0 (K1 (aJ r n) 1)) (K2 (aGa r n) 1 8) :=
 congrArg (fun k => D65 r n cAj (xs x0 0 (K1 (aJ r n) 1)) k) (cSp r n)
theorem cNi : D65 r n aBo (xs x0 0 (K1 (aJ r n) 1)) (K1 (aJ r n) 1) = (K1 (aVz r n) 1) :=
 (bJz r n).trans
 ((by kernel_rfl))
theorem cJr : D65 r n aAo (xs x0 0 (K1 (aJ r n) 1)) (K1 (aJ r n) 1) = (K2 (aBt r n) 1 126) :=
 (by kernel_rfl : D65 r n aAo (xs x0 0 (K1 (aJ r n) 1)) (K1 (aJ r n) 1) = (fun (env : eJ) (h : Hp) => aV (opr env (cC aAo)) (D65 r n aBo (xs x0 0 (K1 (aJ r n) 1)) (K1 (aJ r n) 1) env h) (D65 r n dKn (xs x0 0 (K1 (aJ r n) 1)) (K1 (aJ r n) 1) env h))).trans (by rw [cNi r n]; kernel_rfl)
theorem bKy : D65 r n aBz (xs x0 0 (K1 (aJ r n) 1)) (K1 (aJ r n) 1) = D65 r n bLy (xs x0 0 (K1 (aJ r n) 1)) (K2 (aBt r n) 1 126) :=
 congrArg (fun k => D65 r n bLy (xs x0 0 (K1 (aJ r n) 1)) k) (cJr r n)
theorem cPg : D65 r n aBz (xs x0 0 (K1 (aJ r n) 1)) (K1 (aJ r n) 1) = (K2 (aVe r n) 1 11) :=
 (bKy r n).trans
 ((by kernel_rfl))
theorem cLz : D65 r n aAb (xs x0 0 (K1 (aJ r n) 1)) (K1 (aJ r n) 1) = (K3 (aAu r n) 1 11 77) :=
 (by kernel_rfl : D65 r n aAb (xs x0 0 (K1 (aJ r n) 1)) (K1 (aJ r n) 1) = (fun (env : eJ) (h : Hp) => aV (opr env (cC aAb)) (D65 r n aCx (xs x0 0 (K1 (aJ r n) 1)) (K1 (aJ r n) 1) env h) (D65 r n aBz (xs x0 0 (K1 (aJ r n) 1)) (K1 (aJ r n) 1) env h))).trans (by rw [cPl r n, cPg r n]; kernel_rfl)
theorem bKm : D65 r n aBq (xs x0 0 (K1 (aJ r n) 1)) (K1 (aJ r n) 1) = D65 r n cDo (xs x0 0 (K1 (aJ r n) 1)) (K3 (aAu r n) 1 11 77) :=
 congrArg (fun k => D65 r n cDo (xs x0 0 (K1 (aJ r n) 1)) k) (cLz r n)
theorem cSj : D65 r n aBq (xs x0 0 (K1 (aJ r n) 1)) (K1 (aJ r n) 1) = (K2 (aVb r n) 1 11) :=
 (bKm r n).trans
 ((by kernel_rfl))
theorem cRn : D65 r n yE (xs x0 0 (K1 (aJ r n) 1)) (K1 (aJ r n) 1) = (K3 (zI r n) 1 11 70) :=
 (by kernel_rfl : D65 r n yE (xs x0 0 (K1 (aJ r n) 1)) (K1 (aJ r n) 1) = (fun (env : eJ) (h : Hp) => aV (opr env (cC yE)) (D65 r n dBa (xs x0 0 (K1 (aJ r n) 1)) (K1 (aJ r n) 1) env h) (D65 r n aBq (xs x0 0 (K1 (aJ r n) 1)) (K1 (aJ r n) 1) env h))).trans (by rw [cSj r n]; kernel_rfl)
theorem bKo : D65 r n aAi (xs x0 0 (K1 (aJ r n) 1)) (K1 (aJ r n) 1) = D65 r n bOl (xs x0 0 (K1 (aJ r n) 1)) (K3 (zI r n) 1 11 70) :=
 congrArg (fun k => D65 r n bOl (xs x0 0 (K1 (aJ r n) 1)) k) (cRn r n)
theorem cTf : D65 r n aAi (xs x0 0 (K1 (aJ r n) 1)) (K1 (aJ r n) 1) = (K2 (aUh r n) 1 11) :=
 (bKo r n).trans
 ((by kernel_rfl))
theorem cMd : D65 r n aCj (xs x0 0 (K1 (aJ r n) 1)) (K1 (aJ r n) 1) = (K3 (yG r n) 1 11 64) :=
 (by kernel_rfl : D65 r n aCj (xs x0 0 (K1 (aJ r n) 1)) (K1 (aJ r n) 1) = (fun (env : eJ) (h : Hp) => aV (opr env (cC aCj)) (D65 r n dAg (xs x0 0 (K1 (aJ r n) 1)) (K1 (aJ r n) 1) env h) (D65 r n aAi (xs x0 0 (K1 (aJ r n) 1)) (K1 (aJ r n) 1) env h))).trans (by rw [cTf r n]; kernel_rfl)
theorem bJq : D65 r n zV (xs x0 0 (K1 (aJ r n) 1)) (K1 (aJ r n) 1) = D65 r n cFe (xs x0 0 (K1 (aJ r n) 1)) (K3 (yG r n) 1 11 64) :=
 congrArg (fun k => D65 r n cFe (xs x0 0 (K1 (aJ r n) 1)) k) (cMd r n)
theorem cGf : D65 r n zV (xs x0 0 (K1 (aJ r n) 1)) (K1 (aJ r n) 1) = (K2 (aUd r n) 1 11) :=
 (bJq r n).trans
 ((by kernel_rfl))
theorem cQi : D65 r n aBx (xs x0 0 (K1 (aJ r n) 1)) (K1 (aJ r n) 1) = (K3 (aAm r n) 1 11 55) :=
 (by kernel_rfl : D65 r n aBx (xs x0 0 (K1 (aJ r n) 1)) (K1 (aJ r n) 1) = (fun (env : eJ) (h : Hp) => aV (opr env (cC aBx)) (D65 r n dAr (xs x0 0 (K1 (aJ r n) 1)) (K1 (aJ r n) 1) env h) (D65 r n zV (xs x0 0 (K1 (aJ r n) 1)) (K1 (aJ r n) 1) env h))).trans (by rw [cGf r n]; kernel_rfl)
theorem bJt : D65 r n zH (xs x0 0 (K1 (aJ r n) 1)) (K1 (aJ r n) 1) = D65 r n bVz (xs x0 0 (K1 (aJ r n) 1)) (K3 (aAm r n) 1 11 55) :=
 congrArg (fun k => D65 r n bVz (xs x0 0 (K1 (aJ r n) 1)) k) (cQi r n)
theorem cNn : D65 r n zH (xs x0 0 (K1 (aJ r n) 1)) (K1 (aJ r n) 1) = (K2 (aTh r n) 1 11) :=
 (bJt r n).trans
 ((by kernel_rfl))
theorem cOz : D65 r n yD (xs x0 0 (K1 (aJ r n) 1)) (K1 (aJ r n) 1) = (K3 (zL r n) 1 11 48) :=
 (by kernel_rfl : D65 r n yD (xs x0 0 (K1 (aJ r n) 1)) (K1 (aJ r n) 1) = (fun (env : eJ) (h : Hp) => aV (opr env (cC yD)) (D65 r n dAu (xs x0 0 (K1 (aJ r n) 1)) (K1 (aJ r n) 1) env h) (D65 r n zH (xs x0 0 (K1 (aJ r n) 1)) (K1 (aJ r n) 1) env h))).trans (by rw [cNn r n]; kernel_rfl)
theorem bKn : D65 r n yS (xs x0 0 (K1 (aJ r n) 1)) (K1 (aJ r n) 1) = D65 r n cBl (xs x0 0 (K1 (aJ r n) 1)) (K3 (zL r n) 1 11 48) :=
 congrArg (fun k => D65 r n cBl (xs x0 0 (K1 (aJ r n) 1)) k) (cOz r n)
theorem cRj : D65 r n yS (xs x0 0 (K1 (aJ r n) 1)) (K1 (aJ r n) 1) = (K2 (aWf r n) 1 11) :=
 (bKn r n).trans
 ((by kernel_rfl))
theorem cTh : D65 r n yP (xs x0 0 (K1 (aJ r n) 1)) (K1 (aJ r n) 1) = (K3 (aCa r n) 1 11 43) :=
 (by kernel_rfl : D65 r n yP (xs x0 0 (K1 (aJ r n) 1)) (K1 (aJ r n) 1) = (fun (env : eJ) (h : Hp) => aV (opr env (cC yP)) (D65 r n dNg (xs x0 0 (K1 (aJ r n) 1)) (K1 (aJ r n) 1) env h) (D65 r n yS (xs x0 0 (K1 (aJ r n) 1)) (K1 (aJ r n) 1) env h))).trans (by rw [cRj r n]; kernel_rfl)
theorem bKi : D65 r n aCh (xs x0 0 (K1 (aJ r n) 1)) (K1 (aJ r n) 1) = D65 r n cDe (xs x0 0 (K1 (aJ r n) 1)) (K3 (aCa r n) 1 11 43) :=
 congrArg (fun k => D65 r n cDe (xs x0 0 (K1 (aJ r n) 1)) k) (cTh r n)
theorem cTt : D65 r n aCh (xs x0 0 (K1 (aJ r n) 1)) (K1 (aJ r n) 1) = (K2 (aWq r n) 1 11) :=
 (bKi r n).trans
 ((by kernel_rfl))
theorem dDm : D65 r n aQs (xs x0 0 (K1 (aJ r n) 1)) (K1 (aJ r n) 1) = (K3 (aQh r n) 1 11 17) :=
 (by kernel_rfl : D65 r n aQs (xs x0 0 (K1 (aJ r n) 1)) (K1 (aJ r n) 1) = (fun (env : eJ) (h : Hp) => aV (opr env (cC aQs)) (D65 r n aPm (xs x0 0 (K1 (aJ r n) 1)) (K1 (aJ r n) 1) env h) (D65 r n aCh (xs x0 0 (K1 (aJ r n) 1)) (K1 (aJ r n) 1) env h))).trans (by rw [dDj r n, cTt r n]; kernel_rfl)
theorem cBy : D65 r n aRz (xs x0 0 (K1 (aJ r n) 1)) (K1 (aJ r n) 1) = D65 r n cEu (xs x0 0 (K1 (aJ r n) 1)) (K3 (aQh r n) 1 11 17) :=
 congrArg (fun k => D65 r n cEu (xs x0 0 (K1 (aJ r n) 1)) k) (dDm r n)
theorem dCt : D65 r n aRz (xs x0 0 (K1 (aJ r n) 1)) (K1 (aJ r n) 1) = (K2 (cDk r n) 1 11) :=
 (cBy r n).trans
 ((by kernel_rfl))
theorem dHx : D65 r n aRj (xs x0 0 (K1 (aJ r n) 1)) (K1 (aJ r n) 1) = (K3 (aOo r n) 1 11 12) :=
 (by kernel_rfl : D65 r n aRj (xs x0 0 (K1 (aJ r n) 1)) (K1 (aJ r n) 1) = (fun (env : eJ) (h : Hp) => aV (opr env (cC aRj)) (D65 r n dCh (xs x0 0 (K1 (aJ r n) 1)) (K1 (aJ r n) 1) env h) (D65 r n aRz (xs x0 0 (K1 (aJ r n) 1)) (K1 (aJ r n) 1) env h))).trans (by rw [dCt r n]; kernel_rfl)
theorem cAs : D65 r n bCm (xs x0 0 (K1 (aJ r n) 1)) (K1 (aJ r n) 1) = D65 r n cBe (xs x0 0 (K1 (aJ r n) 1)) (K3 (aOo r n) 1 11 12) :=
 congrArg (fun k => D65 r n cBe (xs x0 0 (K1 (aJ r n) 1)) k) (dHx r n)
theorem dKr : D65 r n cCa x0 (K1 (aJ r n) 1) = (K2 (bGy r n) 1 11) :=
 (by kernel_rfl : D65 r n cCa x0 (K1 (aJ r n) 1) = D65 r n bCm (xs x0 0 (K1 (aJ r n) 1)) (K1 (aJ r n) 1)).trans
 ((cAs r n).trans
 ((by kernel_rfl)))
theorem bMg : D65 r n aZf x0 r65 = D65 r n aOp x0 (K1 (aJ r n) 1) :=
 congrArg (fun k => D65 r n aOp x0 k) (dBs r n)
theorem cEe : D65 r n aOp x0 (K1 (aJ r n) 1) = D65 r n cBc x0 (K2 (bGy r n) 1 11) :=
 congrArg (fun k => D65 r n cBc x0 k) (dKr r n)
theorem dIf : D65 r n aZf x0 r65 = (K1 (bJc r n) 1) :=
 (bMg r n).trans
 ((cEe r n).trans
 ((by kernel_rfl)))
theorem dHj : D65 r n c65 x0 r65 = D65 r n cAm x0 (K1 (bJc r n) 1) :=
 congrArg (fun k => D65 r n cAm x0 k) (dIf r n)
theorem eAl : D65 r n c65 x0 r65 = (K1 (s65 r n) 0) :=
 (dHj r n).trans
 ((by kernel_rfl))
theorem dVf : aL CF r n 65 args h = s65 r n (aS args 0) h :=
 dI (eAl r n) args h (by kernel_rfl) (by kernel_rfl)
def bZ (r : RT) (n : Nat) (x1 : DV) (h0 : Hp) : aF :=
 some (.t [x1, (.b false)], h0)
def iN (r : RT) (n : Nat) (kk3 : dS) (x0 x1 x6 : DV) (h0 : Hp) : aF :=
 bnd (dE x0 h0) fun v1 h1 =>
 bnd (aH .eql x6 v1 h1) fun v2 h2 =>
 aV v2 (
 some (.t [x1, (.b true)], h2)) (
 bnd (aH .add x6 (aG 1) h2) fun v3 h3 =>
  kk3 x0 v3 h3)
def vT (r : RT) (n : Nat) (kk3 : dS) (kk9 : cZ) (x0 x1 x6 : DV) (h0 : Hp) : aF :=
 bnd (dE x0 h0) fun v1 h1 =>
 bnd (aH .lss x6 v1 h1) fun v2 h2 =>
 bnd (gD v2 true (some (x0, h2)) h2) fun v3 h3 =>
 bnd (gD v2 true (some (x6, h3)) h3) fun v4 h4 =>
 bnd (gD v2 true (bK v3 v4 h4) h4) fun v5 h5 =>
 bnd (gD v2 true (aH .neq v5 (.i .u8 (Int.ofNat 34)) h5) h5) fun v6 h6 =>
 bnd (bA v2 v6 (.b false) h6) fun v7 h7 =>
 aV v7 (
 bnd (aH .add x6 (aG 1) h7) fun v8 h8 =>
      kk9 x0 x1 v8 h8) (
      iN r n kk3 x0 x1 x6 h7)
def nK (r : RT) (n : Nat) (kk3 : dS) (m : Nat) : cZ :=
 Nat.rec (motive := fun _ => cZ) (fun _ _ _ _ => none) (fun _ ih => vT r n kk3 ih) m
def bCb (r : RT) (n : Nat) (kk3 : dS) : cZ := nK r n kk3 n
def aOg (r : RT) (n : Nat) (kk3 : dS) (x0 x1 x6 : DV) (h0 : Hp) : aF :=
 bCb r n kk3 x0 x1 x6 h0
def aRm (r : RT) (n : Nat) (kk3 : dS) (x0 x1 : DV) (h0 : Hp) : aF :=
 bnd (aH .add x1 (aG 1) h0) fun v1 h1 =>
  aOg r n kk3 x0 x1 v1 h1
def aFi (r : RT) (n : Nat) (kk3 : dS) (x0 x1 : DV) (h0 : Hp) : aF :=
 bnd (bK x0 x1 h0) fun v1 h1 =>
 bnd (aH .neq v1 (.i .u8 (Int.ofNat 34)) h1) fun v2 h2 =>
 aV v2 (
  bZ r n x1 h2) (
  aRm r n kk3 x0 x1 h2)
def aBs (r : RT) (n : Nat) (kk3 : dS) (x0 x1 : DV) (h0 : Hp) : aF :=
 bnd (bK x0 x1 h0) fun v1 h1 =>
 bnd (r 94 [v1] h1) fun v2 h2 =>
 bnd (aH .eql v2 (aG 5) h2) fun v3 h3 =>
 aV v3 (
 bnd (aH .add x1 (aG 1) h3) fun v4 h4 =>
  kk3 x0 v4 h4) (
  aFi r n kk3 x0 x1 h3)
def kC (r : RT) (n : Nat) (kk3 : dS) (x0 x1 : DV) (h0 : Hp) : aF :=
 bnd (dE x0 h0) fun v1 h1 =>
 bnd (aH .lss x1 v1 h1) fun v2 h2 =>
 aV v2 (
  aBs r n kk3 x0 x1 h2) (
  bZ r n x1 h2)
def fY (r : RT) (n : Nat) (m : Nat) : dS :=
 Nat.rec (motive := fun _ => dS) (fun _ _ _ => none) (fun _ ih => kC r n ih) m
def bWb (r : RT) (n : Nat) : dS := fY r n n
def bDi (r : RT) (n : Nat) (x0 x1 : DV) (h0 : Hp) : aF :=
 bWb r n x0 x1 h0
def s66 (r : RT) (n : Nat) (x0 x1 : DV) (h0 : Hp) : aF :=
 bDi r n x0 x1 h0
abbrev c66 : Code := cf Tryz.f66
abbrev aYn := cR c66
abbrev dSy := cR aYn
abbrev bCk := cL aYn
abbrev aZk := cL bCk
abbrev qW := cL aZk
abbrev cBo := cR qW
abbrev bGa := cL cBo
abbrev aYm := cR bGa
abbrev aXi := cR aYm
abbrev aNv := cR aXi
abbrev dLa := cR aNv
abbrev aLc := cL aNv
abbrev aMz := cL aLc
abbrev sI := cL aMz
abbrev cCf := cL aXi
abbrev bRz := cL aYm
abbrev cEt := cL bGa
abbrev bQe := cL qW
abbrev cEq := cL c66
abbrev r66 : K := bF CF Tryz.f66
def D66 (r : RT) (n : Nat) (c : Code) (X : Nat → K) (k : K) : K := aR CF r 44 n c X r66 k
theorem dNq : D66 r n dSy x0 r66 = (K1 (bZ r n) 1) := by kernel_rfl
theorem dIp (kk3 : dS) : D66 r n dLa (xs (xs x0 0 (K1 (bZ r n) 1)) 1 (K2 kk3 0 1)) (K2 kk3 0 1) = (K3 (iN r n kk3) 0 1 6) := by kernel_rfl
theorem cLo (kk3 : dS) (kk9 : cZ) : D66 r n sI (xs (xs (xs x0 0 (K1 (bZ r n) 1)) 1 (K2 kk3 0 1)) 2 (K3 (iN r n kk3) 0 1 6)) (K3 kk9 0 1 6) = (K3 (vT r n kk3 kk9) 0 1 6) := by kernel_rfl
theorem cTk (kk3 : dS) (m : Nat) : aE (fun kk => D66 r n sI (xs (xs (xs x0 0 (K1 (bZ r n) 1)) 1 (K2 kk3 0 1)) 2 (K3 (iN r n kk3) 0 1 6)) kk) m = (K3 (nK r n kk3 m) 0 1 6) := by
 induction m with
 | zero => exact (by kernel_rfl : aE (fun kk => D66 r n sI (xs (xs (xs x0 0 (K1 (bZ r n) 1)) 1 (K2 kk3 0 1)) 2 (K3 (iN r n kk3) 0 1 6)) kk) 0 = (K3 (nK r n kk3 0) 0 1 6))
 | succ m ih =>
  refine (by kernel_rfl : aE (fun kk => D66 r n sI (xs (xs (xs x0 0 (K1 (bZ r n) 1)) 1 (K2 kk3 0 1)) 2 (K3 (iN r n kk3) 0 1 6)) kk) (m + 1) = D66 r n sI (xs (xs (xs x0 0 (K1 (bZ r n) 1)) 1 (K2 kk3 0 1)) 2 (K3 (iN r n kk3) 0 1 6)) (aE (fun kk => D66 r n sI (xs (xs (xs x0 0 (K1 (bZ r n) 1)) 1 (K2 kk3 0 1)) 2 (K3 (iN r n kk3) 0 1 6)) kk) m)).trans ?_
  rw [ih]
  exact (cLo r n kk3 (nK r n kk3 m)).trans (by kernel_rfl)
theorem dCs (kk3 : dS) : D66 r n aMz (xs (xs (xs x0 0 (K1 (bZ r n) 1)) 1 (K2 kk3 0 1)) 2 (K3 (iN r n kk3) 0 1 6)) (K3 (iN r n kk3) 0 1 6) = (K3 (bCb r n kk3) 0 1 6) :=
 (by kernel_rfl : D66 r n aMz (xs (xs (xs x0 0 (K1 (bZ r n) 1)) 1 (K2 kk3 0 1)) 2 (K3 (iN r n kk3) 0 1 6)) (K3 (iN r n kk3) 0 1 6) = aE (fun kk => D66 r n sI (xs (xs (xs x0 0 (K1 (bZ r n) 1)) 1 (K2 kk3 0 1)) 2 (K3 (iN r n kk3) 0 1 6)) kk) n).trans ((cTk r n kk3 n).trans (by kernel_rfl))
theorem cHq (kk3 : dS) : D66 r n aNv (xs (xs x0 0 (K1 (bZ r n) 1)) 1 (K2 kk3 0 1)) (K2 kk3 0 1) = D66 r n aLc (xs (xs x0 0 (K1 (bZ r n) 1)) 1 (K2 kk3 0 1)) (K3 (iN r n kk3) 0 1 6) :=
 congrArg (fun k => D66 r n aLc (xs (xs x0 0 (K1 (bZ r n) 1)) 1 (K2 kk3 0 1)) k) (dIp r n kk3)
theorem dFc (kk3 : dS) : D66 r n aNv (xs (xs x0 0 (K1 (bZ r n) 1)) 1 (K2 kk3 0 1)) (K2 kk3 0 1) = (K3 (aOg r n kk3) 0 1 6) :=
 (cHq r n kk3).trans
 ((by kernel_rfl : D66 r n aLc (xs (xs x0 0 (K1 (bZ r n) 1)) 1 (K2 kk3 0 1)) (K3 (iN r n kk3) 0 1 6) = D66 r n aMz (xs (xs (xs x0 0 (K1 (bZ r n) 1)) 1 (K2 kk3 0 1)) 2 (K3 (iN r n kk3) 0 1 6)) (K3 (iN r n kk3) 0 1 6)).trans
 ((dCs r n kk3).trans (by kernel_rfl)))
theorem cVm (kk3 : dS) : D66 r n aXi (xs (xs x0 0 (K1 (bZ r n) 1)) 1 (K2 kk3 0 1)) (K2 kk3 0 1) = D66 r n cCf (xs (xs x0 0 (K1 (bZ r n) 1)) 1 (K2 kk3 0 1)) (K3 (aOg r n kk3) 0 1 6) :=
 congrArg (fun k => D66 r n cCf (xs (xs x0 0 (K1 (bZ r n) 1)) 1 (K2 kk3 0 1)) k) (dFc r n kk3)
theorem dHv (kk3 : dS) : D66 r n aXi (xs (xs x0 0 (K1 (bZ r n) 1)) 1 (K2 kk3 0 1)) (K2 kk3 0 1) = (K2 (aRm r n kk3) 0 1) :=
 (cVm r n kk3).trans
 ((by kernel_rfl))
theorem cPi (kk3 : dS) : D66 r n aYm (xs (xs x0 0 (K1 (bZ r n) 1)) 1 (K2 kk3 0 1)) (K2 kk3 0 1) = D66 r n bRz (xs (xs x0 0 (K1 (bZ r n) 1)) 1 (K2 kk3 0 1)) (K2 (aRm r n kk3) 0 1) :=
 congrArg (fun k => D66 r n bRz (xs (xs x0 0 (K1 (bZ r n) 1)) 1 (K2 kk3 0 1)) k) (dHv r n kk3)
theorem dKl (kk3 : dS) : D66 r n aYm (xs (xs x0 0 (K1 (bZ r n) 1)) 1 (K2 kk3 0 1)) (K2 kk3 0 1) = (K2 (aFi r n kk3) 0 1) :=
 (cPi r n kk3).trans
 ((by kernel_rfl))
theorem cSk (kk3 : dS) : D66 r n bGa (xs (xs x0 0 (K1 (bZ r n) 1)) 1 (K2 kk3 0 1)) (K2 kk3 0 1) = D66 r n cEt (xs (xs x0 0 (K1 (bZ r n) 1)) 1 (K2 kk3 0 1)) (K2 (aFi r n kk3) 0 1) :=
 congrArg (fun k => D66 r n cEt (xs (xs x0 0 (K1 (bZ r n) 1)) 1 (K2 kk3 0 1)) k) (dKl r n kk3)
theorem dKg (kk3 : dS) : D66 r n cBo (xs x0 0 (K1 (bZ r n) 1)) (K2 kk3 0 1) = (K2 (aBs r n kk3) 0 1) :=
 (by kernel_rfl : D66 r n cBo (xs x0 0 (K1 (bZ r n) 1)) (K2 kk3 0 1) = D66 r n bGa (xs (xs x0 0 (K1 (bZ r n) 1)) 1 (K2 kk3 0 1)) (K2 kk3 0 1)).trans
 ((cSk r n kk3).trans
 ((by kernel_rfl)))
theorem cHi (kk3 : dS) : D66 r n qW (xs x0 0 (K1 (bZ r n) 1)) (K2 kk3 0 1) = D66 r n bQe (xs x0 0 (K1 (bZ r n) 1)) (K2 (aBs r n kk3) 0 1) :=
 congrArg (fun k => D66 r n bQe (xs x0 0 (K1 (bZ r n) 1)) k) (dKg r n kk3)
theorem cIv (kk3 : dS) : D66 r n qW (xs x0 0 (K1 (bZ r n) 1)) (K2 kk3 0 1) = (K2 (kC r n kk3) 0 1) :=
 (cHi r n kk3).trans
 ((by kernel_rfl))
theorem cOk (m : Nat) : aE (fun kk => D66 r n qW (xs x0 0 (K1 (bZ r n) 1)) kk) m = (K2 (fY r n m) 0 1) := by
 induction m with
 | zero => exact (by kernel_rfl : aE (fun kk => D66 r n qW (xs x0 0 (K1 (bZ r n) 1)) kk) 0 = (K2 (fY r n 0) 0 1))
 | succ m ih =>
  refine (by kernel_rfl : aE (fun kk => D66 r n qW (xs x0 0 (K1 (bZ r n) 1)) kk) (m + 1) = D66 r n qW (xs x0 0 (K1 (bZ r n) 1)) (aE (fun kk => D66 r n qW (xs x0 0 (K1 (bZ r n) 1)) kk) m)).trans ?_
  rw [ih]
  exact (cIv r n (fY r n m)).trans (by kernel_rfl)
theorem dNh : D66 r n aZk (xs x0 0 (K1 (bZ r n) 1)) (K1 (bZ r n) 1) = (K2 (bWb r n) 0 1) :=
 (by kernel_rfl : D66 r n aZk (xs x0 0 (K1 (bZ r n) 1)) (K1 (bZ r n) 1) = aE (fun kk => D66 r n qW (xs x0 0 (K1 (bZ r n) 1)) kk) n).trans ((cOk r n n).trans (by kernel_rfl))
theorem cSc : D66 r n aYn x0 r66 = D66 r n bCk x0 (K1 (bZ r n) 1) :=
 congrArg (fun k => D66 r n bCk x0 k) (dNq r n)
theorem dMz : D66 r n aYn x0 r66 = (K2 (bDi r n) 0 1) :=
 (cSc r n).trans
 ((by kernel_rfl : D66 r n bCk x0 (K1 (bZ r n) 1) = D66 r n aZk (xs x0 0 (K1 (bZ r n) 1)) (K1 (bZ r n) 1)).trans
 ((dNh r n).trans (by kernel_rfl)))
theorem dWh : D66 r n c66 x0 r66 = D66 r n cEq x0 (K2 (bDi r n) 0 1) :=
 congrArg (fun k => D66 r n cEq x0 k) (dMz r n)
theorem dZz : D66 r n c66 x0 r66 = (K2 (s66 r n) 0 1) :=
 (dWh r n).trans
 ((by kernel_rfl))
theorem dPp : aL CF r n 66 args h = s66 r n (aS args 0) (aS args 1) h :=
 dI (dZz r n) args h (by kernel_rfl) (by kernel_rfl)
def cWl (r : RT) (n : Nat) (x0 x1 x4 x7 x8 : DV) (h0 : Hp) : aF :=
 bnd (aH .eql x8 (aG 4) h0) fun v1 h1 =>
 aV v1 (
 bnd (aA 0 x7 h1) fun v2 h2 =>
 bnd (aC 1 v2 (aG 10) h2) fun _ h3 =>
 bnd (aH .add x1 (aG 1) h3) fun v4 h4 =>
 bnd (dC x0 (some x1) (some v4) h4) fun v5 h5 =>
 bnd (aA 1 x7 h5) fun v6 h6 =>
 bnd (aC 1 v6 v5 h6) fun _ h7 =>
 bnd (aD 4 x7 h7) fun v8 h8 =>
 bnd (aH .add x1 (aG 1) h8) fun v9 h9 =>
 bnd (aC 4 x4 v8 h9) fun _ h10 =>
 bnd (aD 4 x4 h10) fun v11 _ =>
 some (.t [v11, v9, (aG 0)], h10)) (
 bnd (bK x0 x1 h1) fun v12 h12 =>
 bnd (aH .eql v12 (.i .u8 (Int.ofNat 39)) h12) fun v13 h13 =>
 aV v13 (
 bnd (aA 0 x7 h13) fun v14 h14 =>
 bnd (aC 1 v14 (aG 5) h14) fun _ h15 =>
 bnd (aD 4 x7 h15) fun v16 h16 =>
 bnd (r 98 [x0, v16] h16) fun v17 h17 =>
 bnd (aP 0 v17 h17) fun v18 h18 =>
 bnd (aP 1 v17 h18) fun v19 h19 =>
 bnd (aP 2 v17 h19) fun v20 h20 =>
 bnd (aC 4 x4 v18 h20) fun _ h21 =>
 bnd (aD 4 x4 h21) fun v22 _ =>
 some (.t [v22, v19, v20], h21)) (
 bnd (bK x0 x1 h13) fun v23 h23 =>
 bnd (aH .eql v23 (.i .u8 (Int.ofNat 35)) h23) fun v24 h24 =>
 aV v24 (
 bnd (aD 4 x7 h24) fun v25 h25 =>
 bnd (r 99 [x0, v25] h25) fun v26 h26 =>
 bnd (aP 0 v26 h26) fun v27 h27 =>
 bnd (aP 1 v26 h27) fun v28 h28 =>
 bnd (aP 2 v26 h28) fun v29 h29 =>
 bnd (aC 4 x4 v27 h29) fun _ h30 =>
 bnd (aD 4 x4 h30) fun v31 _ =>
 some (.t [v31, v28, v29], h30)) (
 bnd (bK x0 x1 h24) fun v32 h32 =>
 bnd (aH .eql v32 (.i .u8 (Int.ofNat 58)) h32) fun v33 h33 =>
 bnd (gD v33 true (some (x1, h33)) h33) fun v34 h34 =>
 bnd (gD v33 true (aH .add v34 (aG 1) h34) h34) fun v35 h35 =>
 bnd (gD v33 true (some (x0, h35)) h35) fun v36 h36 =>
 bnd (gD v33 true (dE v36 h36) h36) fun v37 h37 =>
 bnd (gD v33 true (aH .lss v35 v37 h37) h37) fun v38 h38 =>
 bnd (bA v33 v38 (.b false) h38) fun v39 h39 =>
 bnd (gD v39 true (some (x0, h39)) h39) fun v40 h40 =>
 bnd (gD v39 true (some (x1, h40)) h40) fun v41 h41 =>
 bnd (gD v39 true (aH .add v41 (aG 1) h41) h41) fun v42 h42 =>
 bnd (gD v39 true (bK v40 v42 h42) h42) fun v43 h43 =>
 bnd (gD v39 true (aH .eql v43 (.i .u8 (Int.ofNat 61)) h43) h43) fun v44 h44 =>
 bnd (bA v39 v44 (.b false) h44) fun v45 h45 =>
 aV v45 (
 bnd (aA 0 x7 h45) fun v46 h46 =>
 bnd (aC 1 v46 (aG 9) h46) fun _ h47 =>
 bnd (aD 4 x7 h47) fun v48 h48 =>
 bnd (aH .add x1 (aG 2) h48) fun v49 h49 =>
 bnd (aC 4 x4 v48 h49) fun _ h50 =>
 bnd (aD 4 x4 h50) fun v51 _ =>
 some (.t [v51, v49, (aG 0)], h50)) (
 bnd (bK x0 x1 h45) fun v52 h52 =>
 bnd (aH .eql v52 (.i .u8 (Int.ofNat 58)) h52) fun v53 h53 =>
 bnd (gD v53 true (some (x0, h53)) h53) fun v54 h54 =>
 bnd (gD v53 true (some (x1, h54)) h54) fun v55 h55 =>
 bnd (gD v53 true (aH .add v55 (aG 1) h55) h55) fun v56 h56 =>
 bnd (gD v53 true (r 95 [v54, v56] h56) h56) fun v57 h57 =>
 bnd (gD v53 true (aH .eql v57 (aG 1) h57) h57) fun v58 h58 =>
 bnd (bA v53 v58 (.b false) h58) fun v59 h59 =>
 aV v59 (
 bnd (aH .add x1 (aG 1) h59) fun v60 h60 =>
 bnd (r 96 [x0, v60] h60) fun v61 h61 =>
 bnd (aH .sub v61 x1 h61) fun v62 h62 =>
 bnd (aH .sub v62 (aG 1) h62) fun v63 h63 =>
 bnd (aH .gtr v63 (aG 24) h63) fun v64 h64 =>
 aV v64 (
 bnd (aD 4 x7 h64) fun v65 h65 =>
 bnd (aC 4 x4 v65 h65) fun _ h66 =>
 bnd (aD 4 x4 h66) fun v67 _ =>
 some (.t [v67, (aG 0), (aG 12)], h66)) (
 bnd (aA 0 x7 h64) fun v68 h68 =>
 bnd (aC 1 v68 (aG 8) h68) fun _ h69 =>
 bnd (aH .add x1 (aG 1) h69) fun v70 h70 =>
 bnd (dC x0 (some v70) (some v61) h70) fun v71 h71 =>
 bnd (aA 1 x7 h71) fun v72 h72 =>
 bnd (aC 1 v72 v71 h72) fun _ h73 =>
 bnd (aD 4 x7 h73) fun v74 h74 =>
 bnd (aC 4 x4 v74 h74) fun _ h75 =>
 bnd (aD 4 x4 h75) fun v76 _ =>
 some (.t [v76, v61, (aG 0)], h75))) (
 bnd (aD 4 x7 h59) fun v77 h77 =>
 bnd (aC 4 x4 v77 h77) fun _ h78 =>
 bnd (aD 4 x4 h78) fun v79 _ =>
 some (.t [v79, (aG 0), (aG 10)], h78))))))
def aNi (r : RT) (n : Nat) (x0 x1 x4 x7 x11 : DV) (h0 : Hp) : aF :=
 bnd (dC x0 (some x1) (some x11) h0) fun v1 h1 =>
 bnd (aA 1 x7 h1) fun v2 h2 =>
 bnd (aC 1 v2 v1 h2) fun _ h3 =>
 bnd (aD 4 x7 h3) fun v4 h4 =>
 bnd (aC 4 x4 v4 h4) fun _ h5 =>
 bnd (aD 4 x4 h5) fun v6 _ =>
 some (.t [v6, x11, (aG 0)], h5)
def bTa (r : RT) (n : Nat) (x0 x1 x4 x7 x11 : DV) (h0 : Hp) : aF :=
 bnd (r 95 [x0, x11] h0) fun v1 h1 =>
 bnd (aH .eql v1 (aG 3) h1) fun v2 h2 =>
 aV v2 (
 bnd (aH .add x11 (aG 1) h2) fun v3 h3 =>
  aNi r n x0 x1 x4 x7 v3 h3) (
  aNi r n x0 x1 x4 x7 x11 h2)
def cYd (r : RT) (n : Nat) (x0 x1 x4 x7 : DV) (h0 : Hp) : aF :=
 bnd (aH .add x1 (aG 1) h0) fun v1 h1 =>
  bTa r n x0 x1 x4 x7 v1 h1
def cXc (r : RT) (n : Nat) (x0 x1 x4 x7 : DV) (h0 : Hp) : aF :=
 bnd (aA 0 x7 h0) fun v1 h1 =>
 bnd (aC 1 v1 (aG 3) h1) fun _ h2 =>
  cYd r n x0 x1 x4 x7 h2
def bMi (r : RT) (n : Nat) (x0 x1 x4 x7 x8 x72 : DV) (h0 : Hp) : aF :=
 aV x72 (
  cXc r n x0 x1 x4 x7 h0) (
  cWl r n x0 x1 x4 x7 x8 h0)
def lW (r : RT) (n : Nat) (x0 x1 x4 x7 x8 : DV) (h0 : Hp) : aF :=
 bnd (aH .eql x8 (aG 3) h0) fun v1 h1 =>
  bMi r n x0 x1 x4 x7 x8 v1 h1
def fG (r : RT) (n : Nat) (x1 x4 x7 : DV) (h0 : Hp) : aF :=
 bnd (aD 4 x7 h0) fun v1 h1 =>
 bnd (aC 4 x4 v1 h1) fun _ h2 =>
 bnd (aD 4 x4 h2) fun v3 _ =>
 some (.t [v3, x1, (aG 0)], h2)
def pS (r : RT) (n : Nat) (kk16 : gO) (x0 x1 x4 x7 : DV) (h0 : Hp) : aF :=
 bnd (r 95 [x0, x1] h0) fun v1 h1 =>
 bnd (aH .eql v1 (aG 2) h1) fun v2 h2 =>
 aV v2 (
 bnd (bK x0 x1 h2) fun v3 h3 =>
 bnd (aH .sub v3 (.i .u8 (Int.ofNat 48)) h3) fun v4 h4 =>
 bnd (lB .i64 v4 h4) fun v5 h5 =>
 bnd (aA 2 x7 h5) fun v6 h6 =>
 bnd (aB v6 h6) fun v7 h7 =>
 bnd (aH .sub (aG 1152921504606846976) v5 h7) fun v8 h8 =>
 bnd (aH .quo v8 (aG 10) h8) fun v9 h9 =>
 bnd (aH .gtr v7 v9 h9) fun v10 h10 =>
 aV v10 (
 bnd (aD 4 x7 h10) fun v11 h11 =>
 bnd (aC 4 x4 v11 h11) fun _ h12 =>
 bnd (aD 4 x4 h12) fun v13 _ =>
 some (.t [v13, (aG 0), (aG 2)], h12)) (
 bnd (aA 2 x7 h10) fun v14 h14 =>
 bnd (aB v14 h14) fun v15 h15 =>
 bnd (aH .mul (aG 10) v15 h15) fun v16 h16 =>
 bnd (aH .add v16 v5 h16) fun v17 h17 =>
 bnd (aA 2 x7 h17) fun v18 h18 =>
 bnd (aC 1 v18 v17 h18) fun _ h19 =>
 bnd (aH .add x1 (aG 1) h19) fun v20 h20 =>
  kk16 x0 v20 x4 x7 h20)) (
      fG r n x1 x4 x7 h2)
def kO (r : RT) (n : Nat) (m : Nat) : gO :=
 Nat.rec (motive := fun _ => gO) (fun _ _ _ _ _ => none) (fun _ ih => pS r n ih) m
def aWi (r : RT) (n : Nat) : gO := kO r n n
def aIz (r : RT) (n : Nat) (x0 x1 x4 x7 : DV) (h0 : Hp) : aF :=
 aWi r n x0 x1 x4 x7 h0
def aVs (r : RT) (n : Nat) (x0 x1 x4 x7 : DV) (h0 : Hp) : aF :=
 bnd (aA 0 x7 h0) fun v1 h1 =>
 bnd (aC 1 v1 (aG 4) h1) fun _ h2 =>
  aIz r n x0 x1 x4 x7 h2
def aAn (r : RT) (n : Nat) (x0 x1 x4 x7 x8 x43 : DV) (h0 : Hp) : aF :=
 aV x43 (
  aVs r n x0 x1 x4 x7 h0) (
  lW r n x0 x1 x4 x7 x8 h0)
def aFa (r : RT) (n : Nat) (x0 x1 x4 x7 x8 : DV) (h0 : Hp) : aF :=
 bnd (aH .eql x8 (aG 2) h0) fun v1 h1 =>
  aAn r n x0 x1 x4 x7 x8 v1 h1
def aNj (r : RT) (n : Nat) (x0 x1 x4 x7 x9 : DV) (h0 : Hp) : aF :=
 bnd (dC x0 (some x1) (some x9) h0) fun v1 h1 =>
 bnd (aA 1 x7 h1) fun v2 h2 =>
 bnd (aC 1 v2 v1 h2) fun _ h3 =>
 bnd (aD 4 x7 h3) fun v4 h4 =>
 bnd (aC 4 x4 v4 h4) fun _ h5 =>
 bnd (aD 4 x4 h5) fun v6 _ =>
 some (.t [v6, x9, (aG 0)], h5)
def bZc (r : RT) (n : Nat) (x0 x1 x4 x7 x9 : DV) (h0 : Hp) : aF :=
 bnd (r 97 [x0, x9] h0) fun v1 h1 =>
 aV v1 (
 bnd (aA 0 x7 h1) fun v2 h2 =>
 bnd (aC 1 v2 (aG 2) h2) fun _ h3 =>
 bnd (aH .add x9 (aG 1) h3) fun v4 h4 =>
  aNj r n x0 x1 x4 x7 v4 h4) (
  aNj r n x0 x1 x4 x7 x9 h1)
def cAl (r : RT) (n : Nat) (x0 x1 x4 x7 x9 : DV) (h0 : Hp) : aF :=
 bnd (aA 0 x7 h0) fun v1 h1 =>
 bnd (aC 1 v1 (aG 1) h1) fun _ h2 =>
  bZc r n x0 x1 x4 x7 x9 h2
def bTl (r : RT) (n : Nat) (x0 x1 x4 x7 x9 : DV) (h0 : Hp) : aF :=
 bnd (aH .sub x9 x1 h0) fun v1 h1 =>
 bnd (aH .gtr v1 (aG 24) h1) fun v2 h2 =>
 aV v2 (
 bnd (aD 4 x7 h2) fun v3 h3 =>
 bnd (aC 4 x4 v3 h3) fun _ h4 =>
 bnd (aD 4 x4 h4) fun v5 _ =>
 some (.t [v5, (aG 0), (aG 12)], h4)) (
  cAl r n x0 x1 x4 x7 x9 h2)
def bUs (r : RT) (n : Nat) (x0 x1 x4 x7 : DV) (h0 : Hp) : aF :=
 bnd (r 96 [x0, x1] h0) fun v1 h1 =>
  bTl r n x0 x1 x4 x7 v1 h1
def zZ (r : RT) (n : Nat) (x0 x1 x4 x7 x8 x19 : DV) (h0 : Hp) : aF :=
 aV x19 (
  bUs r n x0 x1 x4 x7 h0) (
  aFa r n x0 x1 x4 x7 x8 h0)
def bCt (r : RT) (n : Nat) (x0 x1 x4 x7 x8 : DV) (h0 : Hp) : aF :=
 bnd (aH .eql x8 (aG 1) h0) fun v1 h1 =>
  zZ r n x0 x1 x4 x7 x8 v1 h1
def aXr (r : RT) (n : Nat) (x0 x1 x4 x7 : DV) (h0 : Hp) : aF :=
 bnd (r 95 [x0, x1] h0) fun v1 h1 =>
  bCt r n x0 x1 x4 x7 v1 h1
def bId (r : RT) (n : Nat) (x0 x1 x4 : DV) (h0 : Hp) : aF :=
 bnd (bC [(aG 0), (.s []), (aG 0), (aG 0)] [(3, 1, x1)] h0) fun v1 h1 =>
 bnd (bL [(aG 0), (.s []), (aG 0), (aG 0)] h1) fun v2 h2 =>
 bnd (aC 4 v2 v1 h2) fun _ h3 =>
  aXr r n x0 x1 x4 v2 h3
def s67 (r : RT) (n : Nat) (x0 x1 : DV) (h0 : Hp) : aF :=
 bnd (bL [(aG 0), (.s []), (aG 0), (aG 0)] h0) fun v1 h1 =>
  bId r n x0 x1 v1 h1
abbrev c67 : Code := cf Tryz.f67
abbrev aZc := cR c67
abbrev bDo := cR aZc
abbrev bAd := cR bDo
abbrev bDg := cR bAd
abbrev dSv := cR bDg
abbrev aCd := cL bDg
abbrev aAj := cR aCd
abbrev yF := cL aAj
abbrev aHi := cR yF
abbrev dBb := cR aHi
abbrev aOd := cL aHi
abbrev aHn := cL aOd
abbrev rL := cL aHn
abbrev cBn := cL yF
abbrev dCv := cR aAj
abbrev cFs := cL aCd
abbrev aAr := cL bAd
abbrev dMx := cR aAr
abbrev bPe := cL aAr
abbrev cFo := cL bDo
abbrev bOg := cL aZc
abbrev cBd := cL c67
abbrev r67 : K := bF CF Tryz.f67
def D67 (r : RT) (n : Nat) (c : Code) (X : Nat → K) (k : K) : K := aR CF r 175 n c X r67 k
theorem dMv : D67 r n dSv x0 r67 = (K5 (lW r n) 0 1 4 7 8) := by kernel_rfl
theorem cGe : D67 r n dBb x0 (K5 (lW r n) 0 1 4 7 8) = (K3 (fG r n) 1 4 7) := by kernel_rfl
theorem bOe (kk16 : gO) : D67 r n rL (xs x0 0 (K3 (fG r n) 1 4 7)) (K4 kk16 0 1 4 7) = (K4 (pS r n kk16) 0 1 4 7) := by kernel_rfl
theorem bMu (m : Nat) : aE (fun kk => D67 r n rL (xs x0 0 (K3 (fG r n) 1 4 7)) kk) m = (K4 (kO r n m) 0 1 4 7) := by
 induction m with
 | zero => exact (by kernel_rfl : aE (fun kk => D67 r n rL (xs x0 0 (K3 (fG r n) 1 4 7)) kk) 0 = (K4 (kO r n 0) 0 1 4 7))
 | succ m ih =>
  refine (by kernel_rfl : aE (fun kk => D67 r n rL (xs x0 0 (K3 (fG r n) 1 4 7)) kk) (m + 1) = D67 r n rL (xs x0 0 (K3 (fG r n) 1 4 7)) (aE (fun kk => D67 r n rL (xs x0 0 (K3 (fG r n) 1 4 7)) kk) m)).trans ?_
  rw [ih]
  exact (bOe r n (kO r n m)).trans (by kernel_rfl)
theorem cHb : D67 r n aHn (xs x0 0 (K3 (fG r n) 1 4 7)) (K3 (fG r n) 1 4 7) = (K4 (aWi r n) 0 1 4 7) :=
 (by kernel_rfl : D67 r n aHn (xs x0 0 (K3 (fG r n) 1 4 7)) (K3 (fG r n) 1 4 7) = aE (fun kk => D67 r n rL (xs x0 0 (K3 (fG r n) 1 4 7)) kk) n).trans ((bMu r n n).trans (by kernel_rfl))
theorem bWh : D67 r n aHi x0 (K5 (lW r n) 0 1 4 7 8) = D67 r n aOd x0 (K3 (fG r n) 1 4 7) :=
 congrArg (fun k => D67 r n aOd x0 k) (cGe r n)
theorem cKa : D67 r n aHi x0 (K5 (lW r n) 0 1 4 7 8) = (K4 (aIz r n) 0 1 4 7) :=
 (bWh r n).trans
 ((by kernel_rfl : D67 r n aOd x0 (K3 (fG r n) 1 4 7) = D67 r n aHn (xs x0 0 (K3 (fG r n) 1 4 7)) (K3 (fG r n) 1 4 7)).trans
 ((cHb r n).trans (by kernel_rfl)))
theorem cCz : D67 r n yF x0 (K5 (lW r n) 0 1 4 7 8) = D67 r n cBn x0 (K4 (aIz r n) 0 1 4 7) :=
 congrArg (fun k => D67 r n cBn x0 k) (cKa r n)
theorem cPm : D67 r n yF x0 (K5 (lW r n) 0 1 4 7 8) = (K4 (aVs r n) 0 1 4 7) :=
 (cCz r n).trans
 ((by kernel_rfl))
theorem cIo : D67 r n aAj x0 (K5 (lW r n) 0 1 4 7 8) = (K6 (aAn r n) 0 1 4 7 8 43) :=
 (by kernel_rfl : D67 r n aAj x0 (K5 (lW r n) 0 1 4 7 8) = (fun (env : eJ) (h : Hp) => aV (opr env (cC aAj)) (D67 r n yF x0 (K5 (lW r n) 0 1 4 7 8) env h) (D67 r n dCv x0 (K5 (lW r n) 0 1 4 7 8) env h))).trans (by rw [cPm r n]; kernel_rfl)
theorem cHj : D67 r n bDg x0 r67 = D67 r n aCd x0 (K5 (lW r n) 0 1 4 7 8) :=
 congrArg (fun k => D67 r n aCd x0 k) (dMv r n)
theorem cRq : D67 r n aCd x0 (K5 (lW r n) 0 1 4 7 8) = D67 r n cFs x0 (K6 (aAn r n) 0 1 4 7 8 43) :=
 congrArg (fun k => D67 r n cFs x0 k) (cIo r n)
theorem dHb : D67 r n bDg x0 r67 = (K5 (aFa r n) 0 1 4 7 8) :=
 (cHj r n).trans
 ((cRq r n).trans
 ((by kernel_rfl)))
theorem cPy : D67 r n dMx x0 (K5 (aFa r n) 0 1 4 7 8) = (K6 (zZ r n) 0 1 4 7 8 19) := by kernel_rfl
theorem bWi : D67 r n bAd x0 r67 = D67 r n aAr x0 (K5 (aFa r n) 0 1 4 7 8) :=
 congrArg (fun k => D67 r n aAr x0 k) (dHb r n)
theorem bTh : D67 r n aAr x0 (K5 (aFa r n) 0 1 4 7 8) = D67 r n bPe x0 (K6 (zZ r n) 0 1 4 7 8 19) :=
 congrArg (fun k => D67 r n bPe x0 k) (cPy r n)
theorem dIb : D67 r n bAd x0 r67 = (K5 (bCt r n) 0 1 4 7 8) :=
 (bWi r n).trans
 ((bTh r n).trans
 ((by kernel_rfl)))
theorem bOr : D67 r n bDo x0 r67 = D67 r n cFo x0 (K5 (bCt r n) 0 1 4 7 8) :=
 congrArg (fun k => D67 r n cFo x0 k) (dIb r n)
theorem dNy : D67 r n bDo x0 r67 = (K4 (aXr r n) 0 1 4 7) :=
 (bOr r n).trans
 ((by kernel_rfl))
theorem cFg : D67 r n aZc x0 r67 = D67 r n bOg x0 (K4 (aXr r n) 0 1 4 7) :=
 congrArg (fun k => D67 r n bOg x0 k) (dNy r n)
theorem dKb : D67 r n aZc x0 r67 = (K3 (bId r n) 0 1 4) :=
 (cFg r n).trans
 ((by kernel_rfl))
theorem dEh : D67 r n c67 x0 r67 = D67 r n cBd x0 (K3 (bId r n) 0 1 4) :=
 congrArg (fun k => D67 r n cBd x0 k) (dKb r n)
theorem eAo : D67 r n c67 x0 r67 = (K2 (s67 r n) 0 1) :=
 (dEh r n).trans
 ((by kernel_rfl))
theorem dPl : aL CF r n 67 args h = s67 r n (aS args 0) (aS args 1) h :=
 dI (eAo r n) args h (by kernel_rfl) (by kernel_rfl)
def s68 (r : RT) (n : Nat) (x0 x1 x2 : DV) (h0 : Hp) : aF :=
 bnd (r 73 [x0, (aG 0)] h0) fun v1 h1 =>
 bnd (bL [(aG 0), (.s []), (aG 0), (aG 0)] h1) fun v2 h2 =>
 bnd (aC 4 v2 v1 h2) fun _ h3 =>
 bnd (bI x0 h3) fun v4 h4 =>
 bnd (aA 3 v4 h4) fun v5 h5 =>
 bnd (aB v5 h5) fun v6 h6 =>
 bnd (aH .eql v6 (aG 0) h6) fun v7 h7 =>
 bnd (gD v7 true (aA 0 v2 h7) h7) fun v8 h8 =>
 bnd (gD v7 true (aB v8 h8) h8) fun v9 h9 =>
 bnd (gD v7 true (some (x1, h9)) h9) fun v10 h10 =>
 bnd (gD v7 true (aH .eql v9 v10 h10) h10) fun v11 h11 =>
 bnd (bA v7 v11 (.b false) h11) fun v12 h12 =>
 bnd (gD v12 true (some (x2, h12)) h12) fun v13 h13 =>
 bnd (gD v12 true (cB .eql v13 (.s []) h13) h13) fun v14 h14 =>
 bnd (gD v12 true (some (v14, h14)) h14) fun v15 h15 =>
 bnd (gD v15 false (aA 1 v2 h15) h15) fun v16 h16 =>
 bnd (gD v15 false (aB v16 h16) h16) fun v17 h17 =>
 bnd (gD v15 false (some (x2, h17)) h17) fun v18 h18 =>
 bnd (gD v15 false (cB .eql v17 v18 h18) h18) fun v19 h19 =>
 bnd (gD v12 true (bA v15 (.b true) v19 h19) h19) fun v20 h20 =>
 bnd (bA v12 v20 (.b false) h20) fun v21 h21 =>
 some (v21, h21)
abbrev c68 : Code := cf Tryz.f68
abbrev r68 : K := bF CF Tryz.f68
def D68 (r : RT) (n : Nat) (c : Code) (X : Nat → K) (k : K) : K := aR CF r 31 n c X r68 k
theorem dYa : D68 r n c68 x0 r68 = (K3 (s68 r n) 0 1 2) :=
 (by kernel_rfl)
theorem dRk : aL CF r n 68 args h = s68 r n (aS args 0) (aS args 1) (aS args 2) h :=
 dI (dYa r n) args h (by kernel_rfl) (by kernel_rfl)
def s69 (r : RT) (n : Nat) (x0 : DV) (h0 : Hp) : aF :=
 bnd (bL [(aG 0), (.s []), (aG 0), (aG 0)] h0) fun v1 h1 =>
 bnd (r 73 [x0, (aG 0)] h1) fun v2 h2 =>
 bnd (bL [(aG 0), (.s []), (aG 0), (aG 0)] h2) fun v3 h3 =>
 bnd (aC 4 v3 v2 h3) fun _ h4 =>
 bnd (bI x0 h4) fun v5 h5 =>
 bnd (aA 1 v5 h5) fun v6 h6 =>
 bnd (aB v6 h6) fun v7 h7 =>
 bnd (aH .add v7 (aG 1) h7) fun v8 h8 =>
 bnd (bI x0 h8) fun v9 h9 =>
 bnd (aA 1 v9 h9) fun v10 h10 =>
 bnd (aC 1 v10 v8 h10) fun _ h11 =>
 bnd (aD 4 v3 h11) fun v12 h12 =>
 bnd (aC 4 v1 v12 h12) fun _ h13 =>
 bnd (aD 4 v1 h13) fun v14 _ =>
 some (v14, h13)
abbrev c69 : Code := cf Tryz.f69
abbrev r69 : K := bF CF Tryz.f69
def D69 (r : RT) (n : Nat) (c : Code) (X : Nat → K) (k : K) : K := aR CF r 14 n c X r69 k
theorem dZs : D69 r n c69 x0 r69 = (K1 (s69 r n) 0) :=
 (by kernel_rfl)
theorem dUi : aL CF r n 69 args h = s69 r n (aS args 0) h :=
 dI (dZs r n) args h (by kernel_rfl) (by kernel_rfl)
def aYu (r : RT) (n : Nat) (x2 x7 : DV) (h0 : Hp) : aF :=
 bnd (aY 1 16 .l0 x2 h0) fun v1 h1 =>
 bnd (aA 1 x7 h1) fun v2 h2 =>
 bnd (aB v2 h2) fun v3 h3 =>
 bnd (aN [(.s [])] 1 [(0, 1, v3)] h3) fun v4 h4 =>
 bnd (aY 1 16 v1 v4 h4) fun v5 h5 =>
 some (v5, h5)
def cXf (r : RT) (n : Nat) (x0 x2 x7 : DV) (h0 : Hp) : aF :=
 bnd (bI x0 h0) fun v1 h1 =>
 bnd (aA 3 v1 h1) fun v2 h2 =>
 bnd (aB v2 h2) fun v3 h3 =>
 bnd (aH .eql v3 (aG 0) h3) fun v4 h4 =>
 bnd (gD v4 true (some (x2, h4)) h4) fun v5 h5 =>
 bnd (gD v4 true (dG v5 h5) h5) fun v6 h6 =>
 bnd (gD v4 true (aH .eql v6 (aG 4) h6) h6) fun v7 h7 =>
 bnd (bA v4 v7 (.b false) h7) fun v8 h8 =>
 aV v8 (
 bnd (aD 4 x7 h8) fun v9 h9 =>
 bnd (r 71 [x0, v9, (aG 18)] h9) fun v10 h10 =>
  aYu r n x2 x7 h10) (
  aYu r n x2 x7 h8)
def cZg (r : RT) (n : Nat) (x0 x1 x2 : DV) (h0 : Hp) : aF :=
 bnd (r 47 [x0, x1, (.s [])] h0) fun v1 h1 =>
 bnd (bL [(aG 0), (.s []), (aG 0), (aG 0)] h1) fun v2 h2 =>
 bnd (aC 4 v2 v1 h2) fun _ h3 =>
  cXf r n x0 x2 v2 h3
def s70 (r : RT) (n : Nat) (x0 x1 x2 : DV) (h0 : Hp) : aF :=
 cZg r n x0 x1 x2 h0
abbrev c70 : Code := cf Tryz.f70
abbrev r70 : K := bF CF Tryz.f70
def D70 (r : RT) (n : Nat) (c : Code) (X : Nat → K) (k : K) : K := aR CF r 33 n c X r70 k
theorem dXa : D70 r n c70 x0 r70 = (K3 (s70 r n) 0 1 2) := by kernel_rfl
theorem dTr : aL CF r n 70 args h = s70 r n (aS args 0) (aS args 1) (aS args 2) h :=
 dI (dXa r n) args h (by kernel_rfl) (by kernel_rfl)
def s71 (r : RT) (n : Nat) (x0 x1 x2 : DV) (h0 : Hp) : aF :=
 bnd (eR x1 h0) fun v1 h1 =>
 bnd (bI x0 h1) fun v2 h2 =>
 bnd (aA 3 v2 h2) fun v3 h3 =>
 bnd (aB v3 h3) fun v4 h4 =>
 bnd (aH .eql v4 (aG 0) h4) fun v5 h5 =>
 aV v5 (
 bnd (bI x0 h5) fun v6 h6 =>
 bnd (aA 3 v6 h6) fun v7 h7 =>
 bnd (aC 1 v7 x2 h7) fun _ h8 =>
 bnd (aA 3 v1 h8) fun v9 h9 =>
 bnd (aB v9 h9) fun v10 h10 =>
 bnd (bI x0 h10) fun v11 h11 =>
 bnd (aA 4 v11 h11) fun v12 h12 =>
 bnd (aC 1 v12 v10 h12) fun _ h13 =>
 some (.t [], h13)) (
 some (.t [], h5))
abbrev c71 : Code := cf Tryz.f71
abbrev r71 : K := bF CF Tryz.f71
def D71 (r : RT) (n : Nat) (c : Code) (X : Nat → K) (k : K) : K := aR CF r 20 n c X r71 k
theorem dZy : D71 r n c71 x0 r71 = (K3 (s71 r n) 0 1 2) :=
 (by kernel_rfl)
theorem dOo : aL CF r n 71 args h = s71 r n (aS args 0) (aS args 1) (aS args 2) h :=
 dI (dZy r n) args h (by kernel_rfl) (by kernel_rfl)
end
end Go.Dd

namespace Go.Dd
open Go.Proofs
noncomputable section
variable (r : RT) (n : Nat) (args : List DV) (h : Hp)
def fQ (r : RT) (n : Nat) (x2 x6 : DV) (h0 : Hp) : aF :=
 bnd (aD 6 x6 h0) fun v1 h1 =>
 bnd (aC 6 x2 v1 h1) fun _ h2 =>
 bnd (aD 6 x2 h2) fun v3 _ =>
 some (v3, h2)
def xC (r : RT) (n : Nat) (kk13 : cZ) (x0 x2 x6 : DV) (h0 : Hp) : aF :=
 bnd (r 68 [x0, (aG 10), (.s [59])] h0) fun v1 h1 =>
 aV v1 (
 bnd (r 69 [x0] h1) fun v2 h2 =>
 bnd (aA 5 x6 (fP 1 h2)) fun v3 h3 =>
 bnd (aB v3 h3) fun v4 h4 =>
 bnd (r 104 [x0] h4) fun v5 h5 =>
 cnd (bM (aB v3 h5) v4 && true) (
 bnd (aW (cS 0 h2.next) cY 1 [(0, 6, v5)] h5) fun v6 h6 =>
 bnd (aY 6 104 v4 v6 h6) fun v7 h7 =>
 bnd (aA 5 x6 h7) fun v8 h8 =>
 bnd (aC 1 v8 v7 h8) fun v9 h9 =>
      kk13 x0 x2 x6 h9)) (
      fQ r n x2 x6 h1)
def nM (r : RT) (n : Nat) (m : Nat) : cZ :=
 Nat.rec (motive := fun _ => cZ) (fun _ _ _ _ => none) (fun _ ih => xC r n ih) m
def aWk (r : RT) (n : Nat) : cZ := nM r n n
def aGi (r : RT) (n : Nat) (x0 x2 x6 : DV) (h0 : Hp) : aF :=
 aWk r n x0 x2 x6 h0
def aJt (r : RT) (n : Nat) (x0 x2 x5 x6 : DV) (h0 : Hp) : aF :=
 bnd (aA 5 x6 (fP 1 h0)) fun v1 h1 =>
 bnd (aB v1 h1) fun v2 h2 =>
 bnd (aA 1 x5 h2) fun v3 h3 =>
 bnd (aB v3 h3) fun v4 h4 =>
 bnd (aA 5 x5 h4) fun v5 h5 =>
 bnd (aB v5 h5) fun v6 h6 =>
 bnd (dB 6 v6 (some (aG 1)) none h6) fun v7 h7 =>
 bnd (bC cY [(0, 1, (aG 7)), (1, 1, v4), (5, 1, v7)] h7) fun v8 h8 =>
 bnd (aW (cS 0 h0.next) cY 1 [(0, 6, v8)] h8) fun v9 h9 =>
 bnd (aY 6 104 v2 v9 h9) fun v10 h10 =>
 bnd (aA 5 x6 h10) fun v11 h11 =>
 bnd (aC 1 v11 v10 h11) fun v12 h12 =>
  aGi r n x0 x2 x6 h12
def aEg (r : RT) (n : Nat) (x0 x2 x5 x6 : DV) (h0 : Hp) : aF :=
 bnd (aA 5 x6 (fP 1 h0)) fun v1 h1 =>
 bnd (aB v1 h1) fun v2 h2 =>
 bnd (aA 5 x5 h2) fun v3 h3 =>
 bnd (aB v3 h3) fun v4 h4 =>
 bnd (aO 6 v4 (aG 0) h4) fun v5 h5 =>
 bnd (aD 6 v5 h5) fun v6 h6 =>
 bnd (aW (cS 0 h0.next) cY 1 [(0, 6, v6)] h6) fun v7 h7 =>
 bnd (aY 6 104 v2 v7 h7) fun v8 h8 =>
 bnd (aA 5 x6 h8) fun v9 h9 =>
 bnd (aC 1 v9 v8 h9) fun v10 h10 =>
  aJt r n x0 x2 x5 x6 h10
def aOx (r : RT) (n : Nat) (x0 x2 x5 : DV) (h0 : Hp) : aF :=
 bnd (bC cY [(0, 1, (aG 8))] h0) fun v1 h1 =>
 bnd (bL cY h1) fun v2 h2 =>
 bnd (aC 6 v2 v1 h2) fun _ h3 =>
  aEg r n x0 x2 x5 v2 h3
def bGb (r : RT) (n : Nat) (x0 x2 x5 : DV) (h0 : Hp) : aF :=
 bnd (aA 0 x5 h0) fun v1 h1 =>
 bnd (aB v1 h1) fun v2 h2 =>
 bnd (aH .neq v2 (aG 7) h2) fun v3 h3 =>
 aV v3 (
 bnd (r 73 [x0, (aG 0)] h3) fun v4 h4 =>
 bnd (r 71 [x0, v4, (aG 13)] h4) fun v5 h5 =>
 bnd (aD 6 x5 h5) fun v6 h6 =>
 bnd (aC 6 x2 v6 h6) fun _ h7 =>
 bnd (aD 6 x2 h7) fun v8 _ =>
 some (v8, h7)) (
  aOx r n x0 x2 x5 h3)
def bCr (r : RT) (n : Nat) (x0 x2 x5 : DV) (h0 : Hp) : aF :=
 bnd (r 68 [x0, (aG 10), (.s [59])] h0) fun v1 h1 =>
 bnd (lS .not v1 h1) fun v2 h2 =>
 aV v2 (
 bnd (aD 6 x5 h2) fun v3 h3 =>
 bnd (aC 6 x2 v3 h3) fun _ h4 =>
 bnd (aD 6 x2 h4) fun v5 _ =>
 some (v5, h4)) (
  bGb r n x0 x2 x5 h2)
def bHz (r : RT) (n : Nat) (x0 x2 x5 : DV) (h0 : Hp) : aF :=
 bnd (aD 6 x5 h0) fun v1 h1 =>
 bnd (r 103 [x0, v1] h1) fun v2 h2 =>
 bnd (aC 6 x5 v2 h2) fun _ h3 =>
  bCr r n x0 x2 x5 h3
def bDw (r : RT) (n : Nat) (x0 x2 x5 : DV) (h0 : Hp) : aF :=
 bnd (aD 6 x5 h0) fun v1 h1 =>
 bnd (r 102 [x0, v1] h1) fun v2 h2 =>
 bnd (aC 6 x5 v2 h2) fun _ h3 =>
  bHz r n x0 x2 x5 h3
def bCg (r : RT) (n : Nat) (x0 x2 x5 : DV) (h0 : Hp) : aF :=
 bnd (aD 6 x5 h0) fun v1 h1 =>
 bnd (r 101 [x0, v1] h1) fun v2 h2 =>
 bnd (aC 6 x5 v2 h2) fun _ h3 =>
  bDw r n x0 x2 x5 h3
def aPh (r : RT) (n : Nat) (x0 x2 : DV) (h0 : Hp) : aF :=
 bnd (r 100 [x0] h0) fun v1 h1 =>
 bnd (bL cY h1) fun v2 h2 =>
 bnd (aC 6 v2 v1 h2) fun _ h3 =>
  bCg r n x0 x2 v2 h3
def bDy (r : RT) (n : Nat) (x0 x2 : DV) (h0 : Hp) : aF :=
 bnd (r 68 [x0, (aG 1), (.s [])] h0) fun v1 h1 =>
 bnd (gD v1 true (some (x0, h1)) h1) fun v2 h2 =>
 bnd (gD v1 true (r 73 [v2, (aG 1)] h2) h2) fun v3 h3 =>
 bnd (gD v1 true (bY 0 v3 h3) h3) fun v4 h4 =>
 bnd (gD v1 true (aH .eql v4 (aG 9) h4) h4) fun v5 h5 =>
 bnd (bA v1 v5 (.b false) h5) fun v6 h6 =>
 aV v6 (
 bnd (r 69 [x0] h6) fun v7 h7 =>
 bnd (bY 1 v7 h7) fun v8 h8 =>
 bnd (r 69 [x0] h8) fun v9 h9 =>
 bnd (r 72 [x0] h9) fun v10 h10 =>
 bnd (bL cY h10) fun v11 h11 =>
 bnd (aC 6 v11 v10 h11) fun _ h12 =>
 bnd (aD 6 v11 h12) fun v13 h13 =>
 bnd (aN cY 1 [(0, 6, v13)] h13) fun v14 h14 =>
 bnd (bC cY [(0, 1, (aG 6)), (1, 1, v8), (5, 1, v14)] h14) fun v15 h15 =>
 bnd (aC 6 x2 v15 h15) fun _ h16 =>
 bnd (aD 6 x2 h16) fun v17 _ =>
 some (v17, h16)) (
  aPh r n x0 x2 h6)
def s72 (r : RT) (n : Nat) (x0 : DV) (h0 : Hp) : aF :=
 bnd (bL cY h0) fun v1 h1 =>
  bDy r n x0 v1 h1
abbrev c72 : Code := cf Tryz.f72
abbrev bGf := cR c72
abbrev bAj := cR bGf
abbrev bHh := cR bAj
abbrev aXa := cR bHh
abbrev aZt := cR aXa
abbrev bEz := cR aZt
abbrev bHv := cR bEz
abbrev bIb := cR bHv
abbrev bBt := cR bIb
abbrev aLr := cR bBt
abbrev aHa := cR aLr
abbrev dKz := cR aHa
abbrev aIj := cL aHa
abbrev aNc := cL aIj
abbrev tJ := cL aNc
abbrev bSu := cL aLr
abbrev bPf := cL bBt
abbrev aTq := cL bIb
abbrev bMd := cL bHv
abbrev bYk := cL bEz
abbrev bPm := cL aZt
abbrev cDt := cL aXa
abbrev bZi := cL bHh
abbrev cBq := cL bAj
abbrev bTz := cL bGf
abbrev cEg := cL c72
abbrev r72 : K := bF CF Tryz.f72
def D72 (r : RT) (n : Nat) (c : Code) (X : Nat → K) (k : K) : K := aR CF r 82 n c X r72 k
theorem cLb : D72 r n dKz x0 r72 = (K2 (fQ r n) 2 6) := by kernel_rfl
theorem bYr (kk13 : cZ) : D72 r n tJ (xs x0 0 (K2 (fQ r n) 2 6)) (K3 kk13 0 2 6) = (K3 (xC r n kk13) 0 2 6) := by kernel_rfl
theorem cAk (m : Nat) : aE (fun kk => D72 r n tJ (xs x0 0 (K2 (fQ r n) 2 6)) kk) m = (K3 (nM r n m) 0 2 6) := by
 induction m with
 | zero => exact (by kernel_rfl : aE (fun kk => D72 r n tJ (xs x0 0 (K2 (fQ r n) 2 6)) kk) 0 = (K3 (nM r n 0) 0 2 6))
 | succ m ih =>
  refine (by kernel_rfl : aE (fun kk => D72 r n tJ (xs x0 0 (K2 (fQ r n) 2 6)) kk) (m + 1) = D72 r n tJ (xs x0 0 (K2 (fQ r n) 2 6)) (aE (fun kk => D72 r n tJ (xs x0 0 (K2 (fQ r n) 2 6)) kk) m)).trans ?_
  rw [ih]
  exact (bYr r n (nM r n m)).trans (by kernel_rfl)
theorem cGa : D72 r n aNc (xs x0 0 (K2 (fQ r n) 2 6)) (K2 (fQ r n) 2 6) = (K3 (aWk r n) 0 2 6) :=
 (by kernel_rfl : D72 r n aNc (xs x0 0 (K2 (fQ r n) 2 6)) (K2 (fQ r n) 2 6) = aE (fun kk => D72 r n tJ (xs x0 0 (K2 (fQ r n) 2 6)) kk) n).trans ((cAk r n n).trans (by kernel_rfl))
theorem bQy : D72 r n aHa x0 r72 = D72 r n aIj x0 (K2 (fQ r n) 2 6) :=
 congrArg (fun k => D72 r n aIj x0 k) (cLb r n)
theorem cOh : D72 r n aHa x0 r72 = (K3 (aGi r n) 0 2 6) :=
 (bQy r n).trans
 ((by kernel_rfl : D72 r n aIj x0 (K2 (fQ r n) 2 6) = D72 r n aNc (xs x0 0 (K2 (fQ r n) 2 6)) (K2 (fQ r n) 2 6)).trans
 ((cGa r n).trans (by kernel_rfl)))
theorem bQu : D72 r n aLr x0 r72 = D72 r n bSu x0 (K3 (aGi r n) 0 2 6) :=
 congrArg (fun k => D72 r n bSu x0 k) (cOh r n)
theorem cQt : D72 r n aLr x0 r72 = (K4 (aJt r n) 0 2 5 6) :=
 (bQu r n).trans
 ((by kernel_rfl))
theorem cSn : D72 r n bBt x0 r72 = D72 r n bPf x0 (K4 (aJt r n) 0 2 5 6) :=
 congrArg (fun k => D72 r n bPf x0 k) (cQt r n)
theorem dMt : D72 r n bBt x0 r72 = (K4 (aEg r n) 0 2 5 6) :=
 (cSn r n).trans
 ((by kernel_rfl))
theorem cOd : D72 r n bIb x0 r72 = D72 r n aTq x0 (K4 (aEg r n) 0 2 5 6) :=
 congrArg (fun k => D72 r n aTq x0 k) (dMt r n)
theorem cOq (q0 : gO) : D72 r n aTq x0 (K4 q0 0 2 5 6) = fun (env : eJ) (h : Hp) =>
 bnd (bC cY [(0, 1, (aG 8))] h) fun v1 h1 =>
 bnd (bL cY h1) fun v2 h2 =>
 bnd (aC 6 v2 v1 h2) fun _ h3 =>
  q0 (env 0) (env 2) (env 5) v2 h3 := by kernel_rfl
theorem cDd : (fun (env : eJ) (h : Hp) =>
 bnd (bC cY [(0, 1, (aG 8))] h) fun v1 h1 =>
 bnd (bL cY h1) fun v2 h2 =>
 bnd (aC 6 v2 v1 h2) fun _ h3 =>
  aEg r n (env 0) (env 2) (env 5) v2 h3) = (K3 (aOx r n) 0 2 5) := by kernel_rfl
theorem dKe : D72 r n bIb x0 r72 = (K3 (aOx r n) 0 2 5) :=
 (cOd r n).trans
 ((cOq r n (aEg r n)).trans (cDd r n))
theorem cRh : D72 r n bHv x0 r72 = D72 r n bMd x0 (K3 (aOx r n) 0 2 5) :=
 congrArg (fun k => D72 r n bMd x0 k) (dKe r n)
theorem dKi : D72 r n bHv x0 r72 = (K3 (bGb r n) 0 2 5) :=
 (cRh r n).trans
 ((by kernel_rfl))
theorem bRd : D72 r n bEz x0 r72 = D72 r n bYk x0 (K3 (bGb r n) 0 2 5) :=
 congrArg (fun k => D72 r n bYk x0 k) (dKi r n)
theorem dKk : D72 r n bEz x0 r72 = (K3 (bCr r n) 0 2 5) :=
 (bRd r n).trans
 ((by kernel_rfl))
theorem bXa : D72 r n aZt x0 r72 = D72 r n bPm x0 (K3 (bCr r n) 0 2 5) :=
 congrArg (fun k => D72 r n bPm x0 k) (dKk r n)
theorem dIw : D72 r n aZt x0 r72 = (K3 (bHz r n) 0 2 5) :=
 (bXa r n).trans
 ((by kernel_rfl))
theorem bVl : D72 r n aXa x0 r72 = D72 r n cDt x0 (K3 (bHz r n) 0 2 5) :=
 congrArg (fun k => D72 r n cDt x0 k) (dIw r n)
theorem dEz : D72 r n aXa x0 r72 = (K3 (bDw r n) 0 2 5) :=
 (bVl r n).trans
 ((by kernel_rfl))
theorem bUj : D72 r n bHh x0 r72 = D72 r n bZi x0 (K3 (bDw r n) 0 2 5) :=
 congrArg (fun k => D72 r n bZi x0 k) (dEz r n)
theorem dDa : D72 r n bHh x0 r72 = (K3 (bCg r n) 0 2 5) :=
 (bUj r n).trans
 ((by kernel_rfl))
theorem bNg : D72 r n bAj x0 r72 = D72 r n cBq x0 (K3 (bCg r n) 0 2 5) :=
 congrArg (fun k => D72 r n cBq x0 k) (dDa r n)
theorem dDq : D72 r n bAj x0 r72 = (K2 (aPh r n) 0 2) :=
 (bNg r n).trans
 ((by kernel_rfl))
theorem cCj : D72 r n bGf x0 r72 = D72 r n bTz x0 (K2 (aPh r n) 0 2) :=
 congrArg (fun k => D72 r n bTz x0 k) (dDq r n)
theorem dAm : D72 r n bGf x0 r72 = (K2 (bDy r n) 0 2) :=
 (cCj r n).trans
 ((by kernel_rfl))
theorem dGk : D72 r n c72 x0 r72 = D72 r n cEg x0 (K2 (bDy r n) 0 2) :=
 congrArg (fun k => D72 r n cEg x0 k) (dAm r n)
theorem eAe : D72 r n c72 x0 r72 = (K1 (s72 r n) 0) :=
 (dGk r n).trans
 ((by kernel_rfl))
theorem dOv : aL CF r n 72 args h = s72 r n (aS args 0) h :=
 dI (eAe r n) args h (by kernel_rfl) (by kernel_rfl)
def s73 (r : RT) (n : Nat) (x0 x1 : DV) (h0 : Hp) : aF :=
 bnd (bL [(aG 0), (.s []), (aG 0), (aG 0)] h0) fun v1 h1 =>
 bnd (bI x0 h1) fun v2 h2 =>
 bnd (aA 1 v2 h2) fun v3 h3 =>
 bnd (aB v3 h3) fun v4 h4 =>
 bnd (aH .add v4 x1 h4) fun v5 h5 =>
 bnd (bI x0 h5) fun v6 h6 =>
 bnd (aA 0 v6 h6) fun v7 h7 =>
 bnd (aB v7 h7) fun v8 h8 =>
 bnd (dG v8 h8) fun v9 h9 =>
 bnd (aH .geq v5 v9 h9) fun v10 h10 =>
 aV v10 (
 bnd (bI x0 h10) fun v11 h11 =>
 bnd (aA 0 v11 h11) fun v12 h12 =>
 bnd (aB v12 h12) fun v13 h13 =>
 bnd (bI x0 h13) fun v14 h14 =>
 bnd (aA 0 v14 h14) fun v15 h15 =>
 bnd (aB v15 h15) fun v16 h16 =>
 bnd (dG v16 h16) fun v17 h17 =>
 bnd (aH .sub v17 (aG 1) h17) fun v18 h18 =>
 bnd (aO 4 v13 v18 h18) fun v19 h19 =>
 bnd (aD 4 v19 h19) fun v20 h20 =>
 bnd (aC 4 v1 v20 h20) fun v21 h21 =>
 bnd (aD 4 v1 h21) fun v22 _ =>
 some (v22, h21)) (
 bnd (bI x0 h10) fun v23 h23 =>
 bnd (aA 0 v23 h23) fun v24 h24 =>
 bnd (aB v24 h24) fun v25 h25 =>
 bnd (bI x0 h25) fun v26 h26 =>
 bnd (aA 1 v26 h26) fun v27 h27 =>
 bnd (aB v27 h27) fun v28 h28 =>
 bnd (aH .add v28 x1 h28) fun v29 h29 =>
 bnd (aO 4 v25 v29 h29) fun v30 h30 =>
 bnd (aD 4 v30 h30) fun v31 h31 =>
 bnd (aC 4 v1 v31 h31) fun v32 h32 =>
 bnd (aD 4 v1 h32) fun v33 _ =>
 some (v33, h32))
abbrev c73 : Code := cf Tryz.f73
abbrev r73 : K := bF CF Tryz.f73
def D73 (r : RT) (n : Nat) (c : Code) (X : Nat → K) (k : K) : K := aR CF r 41 n c X r73 k
theorem dZj : D73 r n c73 x0 r73 = (K2 (s73 r n) 0 1) :=
 (by kernel_rfl)
theorem dVz : aL CF r n 73 args h = s73 r n (aS args 0) (aS args 1) h :=
 dI (dZj r n) args h (by kernel_rfl) (by kernel_rfl)
def iZ (r : RT) (n : Nat) (x0 x7 : DV) (h0 : Hp) : aF :=
 bnd (bI x0 h0) fun v1 h1 =>
 bnd (aA 0 v1 h1) fun v2 h2 =>
 bnd (aB v2 h2) fun v3 h3 =>
 bnd (bI x0 h3) fun v4 h4 =>
 bnd (aA 1 v4 h4) fun v5 h5 =>
 bnd (aB v5 h5) fun v6 h6 =>
 bnd (dC v3 (some x7) (some v6) h6) fun v7 h7 =>
 some (v7, h7)
def uV (r : RT) (n : Nat) (kk4 : gO) (x0 x1 x2 x7 : DV) (h0 : Hp) : aF :=
 bnd (bI x0 h0) fun v1 h1 =>
 bnd (aA 1 v1 h1) fun v2 h2 =>
 bnd (aB v2 h2) fun v3 h3 =>
 bnd (bI x0 h3) fun v4 h4 =>
 bnd (aA 0 v4 h4) fun v5 h5 =>
 bnd (aB v5 h5) fun v6 h6 =>
 bnd (dE v6 h6) fun v7 h7 =>
 bnd (aH .lss v3 v7 h7) fun v8 h8 =>
 bnd (gD v8 true (some (x0, h8)) h8) fun v9 h9 =>
 bnd (gD v8 true (bI v9 h9) h9) fun v10 h10 =>
 bnd (gD v8 true (aA 1 v10 h10) h10) fun v11 h11 =>
 bnd (gD v8 true (aB v11 h11) h11) fun v12 h12 =>
 bnd (gD v8 true (some (x7, h12)) h12) fun v13 h13 =>
 bnd (gD v8 true (aH .sub v12 v13 h13) h13) fun v14 h14 =>
 bnd (gD v8 true (some (x2, h14)) h14) fun v15 h15 =>
 bnd (gD v8 true (aH .lss v14 v15 h15) h15) fun v16 h16 =>
 bnd (bA v8 v16 (.b false) h16) fun v17 h17 =>
 bnd (gD v17 true (some (x1, h17)) h17) fun v18 h18 =>
 bnd (gD v17 true (some (x0, h18)) h18) fun v19 h19 =>
 bnd (gD v17 true (bI v19 h19) h19) fun v20 h20 =>
 bnd (gD v17 true (aA 0 v20 h20) h20) fun v21 h21 =>
 bnd (gD v17 true (aB v21 h21) h21) fun v22 h22 =>
 bnd (gD v17 true (some (x0, h22)) h22) fun v23 h23 =>
 bnd (gD v17 true (bI v23 h23) h23) fun v24 h24 =>
 bnd (gD v17 true (aA 1 v24 h24) h24) fun v25 h25 =>
 bnd (gD v17 true (aB v25 h25) h25) fun v26 h26 =>
 bnd (gD v17 true (bK v22 v26 h26) h26) fun v27 h27 =>
 bnd (gD v17 true (eA CF r v18 [v27] h27) h27) fun v28 h28 =>
 bnd (bA v17 v28 (.b false) h28) fun v29 h29 =>
 aV v29 (
 bnd (bI x0 h29) fun v30 h30 =>
 bnd (aA 1 v30 h30) fun v31 h31 =>
 bnd (aB v31 h31) fun v32 h32 =>
 bnd (aH .add v32 (aG 1) h32) fun v33 h33 =>
 bnd (bI x0 h33) fun v34 h34 =>
 bnd (aA 1 v34 h34) fun v35 h35 =>
 bnd (aC 1 v35 v33 h35) fun _ h36 =>
      kk4 x0 x1 x2 x7 h36) (
      iZ r n x0 x7 h29)
def nZ (r : RT) (n : Nat) (m : Nat) : gO :=
 Nat.rec (motive := fun _ => gO) (fun _ _ _ _ _ => none) (fun _ ih => uV r n ih) m
def bWo (r : RT) (n : Nat) : gO := nZ r n n
def aXz (r : RT) (n : Nat) (x0 x1 x2 x7 : DV) (h0 : Hp) : aF :=
 bWo r n x0 x1 x2 x7 h0
def bDf (r : RT) (n : Nat) (x0 x1 x2 : DV) (h0 : Hp) : aF :=
 bnd (bI x0 h0) fun v1 h1 =>
 bnd (aA 1 v1 h1) fun v2 h2 =>
 bnd (aB v2 h2) fun v3 h3 =>
  aXz r n x0 x1 x2 v3 h3
def s74 (r : RT) (n : Nat) (x0 x1 x2 : DV) (h0 : Hp) : aF :=
 bDf r n x0 x1 x2 h0
abbrev c74 : Code := cf Tryz.f74
abbrev bCu := cR c74
abbrev aZl := cR bCu
abbrev dVy := cR aZl
abbrev bDa := cL aZl
abbrev bFc := cL bDa
abbrev aDi := cL bFc
abbrev cYm := cL bCu
abbrev cXa := cL c74
abbrev r74 : K := bF CF Tryz.f74
def D74 (r : RT) (n : Nat) (c : Code) (X : Nat → K) (k : K) : K := aR CF r 62 n c X r74 k
theorem dMj : D74 r n dVy x0 r74 = (K2 (iZ r n) 0 7) := by kernel_rfl
theorem cQn (kk4 : gO) : D74 r n aDi (xs x0 0 (K2 (iZ r n) 0 7)) (K4 kk4 0 1 2 7) = (K4 (uV r n kk4) 0 1 2 7) := by kernel_rfl
theorem cJn (m : Nat) : aE (fun kk => D74 r n aDi (xs x0 0 (K2 (iZ r n) 0 7)) kk) m = (K4 (nZ r n m) 0 1 2 7) := by
 induction m with
 | zero => exact (by kernel_rfl : aE (fun kk => D74 r n aDi (xs x0 0 (K2 (iZ r n) 0 7)) kk) 0 = (K4 (nZ r n 0) 0 1 2 7))
 | succ m ih =>
  refine (by kernel_rfl : aE (fun kk => D74 r n aDi (xs x0 0 (K2 (iZ r n) 0 7)) kk) (m + 1) = D74 r n aDi (xs x0 0 (K2 (iZ r n) 0 7)) (aE (fun kk => D74 r n aDi (xs x0 0 (K2 (iZ r n) 0 7)) kk) m)).trans ?_
  rw [ih]
  exact (cQn r n (nZ r n m)).trans (by kernel_rfl)
theorem dJo : D74 r n bFc (xs x0 0 (K2 (iZ r n) 0 7)) (K2 (iZ r n) 0 7) = (K4 (bWo r n) 0 1 2 7) :=
 (by kernel_rfl : D74 r n bFc (xs x0 0 (K2 (iZ r n) 0 7)) (K2 (iZ r n) 0 7) = aE (fun kk => D74 r n aDi (xs x0 0 (K2 (iZ r n) 0 7)) kk) n).trans ((cJn r n n).trans (by kernel_rfl))
theorem cNf : D74 r n aZl x0 r74 = D74 r n bDa x0 (K2 (iZ r n) 0 7) :=
 congrArg (fun k => D74 r n bDa x0 k) (dMj r n)
theorem dJe : D74 r n aZl x0 r74 = (K4 (aXz r n) 0 1 2 7) :=
 (cNf r n).trans
 ((by kernel_rfl : D74 r n bDa x0 (K2 (iZ r n) 0 7) = D74 r n bFc (xs x0 0 (K2 (iZ r n) 0 7)) (K2 (iZ r n) 0 7)).trans
 ((dJo r n).trans (by kernel_rfl)))
theorem cNc : D74 r n bCu x0 r74 = D74 r n cYm x0 (K4 (aXz r n) 0 1 2 7) :=
 congrArg (fun k => D74 r n cYm x0 k) (dJe r n)
theorem dFi : D74 r n bCu x0 r74 = (K3 (bDf r n) 0 1 2) :=
 (cNc r n).trans
 ((by kernel_rfl))
theorem dPm : D74 r n c74 x0 r74 = D74 r n cXa x0 (K3 (bDf r n) 0 1 2) :=
 congrArg (fun k => D74 r n cXa x0 k) (dFi r n)
theorem dYo : D74 r n c74 x0 r74 = (K3 (s74 r n) 0 1 2) :=
 (dPm r n).trans
 ((by kernel_rfl))
theorem dVa : aL CF r n 74 args h = s74 r n (aS args 0) (aS args 1) (aS args 2) h :=
 dI (dYo r n) args h (by kernel_rfl) (by kernel_rfl)
def s75 (r : RT) (n : Nat) (x0 : DV) (h0 : Hp) : aF :=
 bnd (eR x0 h0) fun v1 h1 =>
 some ((.f 105 [] [v1]), h1)
abbrev c75 : Code := cf Tryz.f75
abbrev r75 : K := bF CF Tryz.f75
def D75 (r : RT) (n : Nat) (c : Code) (X : Nat → K) (k : K) : K := aR CF r 4 n c X r75 k
theorem dZh : D75 r n c75 x0 r75 = (K1 (s75 r n) 0) :=
 (by kernel_rfl)
theorem dOr : aL CF r n 75 args h = s75 r n (aS args 0) h :=
 dI (dZh r n) args h (by kernel_rfl) (by kernel_rfl)
def fW (r : RT) (n : Nat) (x2 x4 x5 : DV) (h0 : Hp) : aF :=
 bnd (aD 4 x4 h0) fun v1 h1 =>
 bnd (aC 4 x2 v1 h1) fun _ h2 =>
 bnd (aD 4 x2 h2) fun v3 _ =>
 some (.t [v3, x5], h2)
def cYe (r : RT) (n : Nat) (x0 x2 x4 x5 x6 : DV) (h0 : Hp) : aF :=
 bnd (r 107 [x6] h0) fun v1 h1 =>
 aV v1 (
 bnd (aA 0 x4 h1) fun v2 h2 =>
 bnd (aC 1 v2 (aG 1) h2) fun _ h3 =>
 bnd (r 108 [x0] h3) fun v4 h4 =>
 bnd (aP 0 v4 h4) fun v5 h5 =>
 bnd (aP 1 v4 h5) fun v6 h6 =>
 bnd (aA 1 x4 h6) fun v7 h7 =>
 bnd (aC 1 v7 v5 h7) fun _ h8 =>
 bnd (aH .eql v6 (aG 0) h8) fun v9 h9 =>
 bnd (gD v9 true (some (x0, h9)) h9) fun v10 h10 =>
 bnd (gD v9 true (r 109 [v10] h10) h10) fun v11 h11 =>
 bnd (bA v9 v11 (.b false) h11) fun v12 h12 =>
 aV v12 (
 bnd (aA 1 x4 h12) fun v13 h13 =>
 bnd (aB v13 h13) fun v14 h14 =>
 bnd (cB .add v14 (.s [58]) h14) fun v15 h15 =>
 bnd (aA 0 x4 h15) fun v16 h16 =>
 bnd (aC 1 v16 (aG 2) h16) fun _ h17 =>
 bnd (aA 1 x4 h17) fun v18 h18 =>
 bnd (aC 1 v18 v15 h18) fun _ h19 =>
      fW r n x2 x4 v6 h19) (
      fW r n x2 x4 v6 h12)) (
 bnd (r 110 [x6] h1) fun v20 h20 =>
 aV v20 (
 bnd (aA 0 x4 h20) fun v21 h21 =>
 bnd (aC 1 v21 (aG 4) h21) fun _ h22 =>
 bnd (r 111 [x0] h22) fun v23 h23 =>
 bnd (aP 0 v23 h23) fun v24 h24 =>
 bnd (aP 1 v23 h24) fun v25 h25 =>
 bnd (aA 2 x4 h25) fun v26 h26 =>
 bnd (aC 1 v26 v24 h26) fun _ h27 =>
      fW r n x2 x4 v25 h27) (
 bnd (aH .eql x6 (.i .u8 (Int.ofNat 39)) h20) fun v28 h28 =>
 aV v28 (
 bnd (bI x0 h28) fun v29 h29 =>
 bnd (aA 1 v29 h29) fun v30 h30 =>
 bnd (aB v30 h30) fun v31 h31 =>
 bnd (aH .add v31 (aG 1) h31) fun v32 h32 =>
 bnd (bI x0 h32) fun v33 h33 =>
 bnd (aA 1 v33 h33) fun v34 h34 =>
 bnd (aC 1 v34 v32 h34) fun _ h35 =>
 bnd (aA 0 x4 h35) fun v36 h36 =>
 bnd (aC 1 v36 (aG 5) h36) fun _ h37 =>
 bnd (r 112 [x0] h37) fun v38 h38 =>
 bnd (aP 0 v38 h38) fun v39 h39 =>
 bnd (aP 1 v38 h39) fun v40 h40 =>
 bnd (aA 1 x4 h40) fun v41 h41 =>
 bnd (aC 1 v41 v39 h41) fun _ h42 =>
  fW r n x2 x4 v40 h42) (
 bnd (aH .eql x6 (.i .u8 (Int.ofNat 35)) h28) fun v43 h43 =>
 bnd (gD v43 true (some (x0, h43)) h43) fun v44 h44 =>
 bnd (gD v43 true (r 106 [v44, (aG 1)] h44) h44) fun v45 h45 =>
 bnd (gD v43 true (aH .eql v45 (.i .u8 (Int.ofNat 40)) h45) h45) fun v46 h46 =>
 bnd (bA v43 v46 (.b false) h46) fun v47 h47 =>
 aV v47 (
 bnd (bI x0 h47) fun v48 h48 =>
 bnd (aA 1 v48 h48) fun v49 h49 =>
 bnd (aB v49 h49) fun v50 h50 =>
 bnd (aH .add v50 (aG 2) h50) fun v51 h51 =>
 bnd (bI x0 h51) fun v52 h52 =>
 bnd (aA 1 v52 h52) fun v53 h53 =>
 bnd (aC 1 v53 v51 h53) fun _ h54 =>
 bnd (aA 0 x4 h54) fun v55 h55 =>
 bnd (aC 1 v55 (aG 7) h55) fun _ h56 =>
  fW r n x2 x4 x5 h56) (
 bnd (aH .eql x6 (.i .u8 (Int.ofNat 35)) h47) fun v57 h57 =>
 aV v57 (
 bnd (bI x0 h57) fun v58 h58 =>
 bnd (aA 1 v58 h58) fun v59 h59 =>
 bnd (aB v59 h59) fun v60 h60 =>
 bnd (aH .add v60 (aG 1) h60) fun v61 h61 =>
 bnd (bI x0 h61) fun v62 h62 =>
 bnd (aA 1 v62 h62) fun v63 h63 =>
 bnd (aC 1 v63 v61 h63) fun _ h64 =>
 bnd (aA 0 x4 h64) fun v65 h65 =>
 bnd (aC 1 v65 (aG 6) h65) fun _ h66 =>
 bnd (r 113 [x0] h66) fun v67 h67 =>
 bnd (aP 0 v67 h67) fun v68 h68 =>
 bnd (aP 1 v67 h68) fun v69 h69 =>
 bnd (aA 1 x4 h69) fun v70 h70 =>
 bnd (aC 1 v70 v68 h70) fun _ h71 =>
  fW r n x2 x4 v69 h71) (
 bnd (aH .eql x6 (.i .u8 (Int.ofNat 58)) h57) fun v72 h72 =>
 bnd (gD v72 true (some (x0, h72)) h72) fun v73 h73 =>
 bnd (gD v72 true (r 106 [v73, (aG 1)] h73) h73) fun v74 h74 =>
 bnd (gD v72 true (aH .eql v74 (.i .u8 (Int.ofNat 61)) h74) h74) fun v75 h75 =>
 bnd (bA v72 v75 (.b false) h75) fun v76 h76 =>
 aV v76 (
 bnd (bI x0 h76) fun v77 h77 =>
 bnd (aA 1 v77 h77) fun v78 h78 =>
 bnd (aB v78 h78) fun v79 h79 =>
 bnd (aH .add v79 (aG 2) h79) fun v80 h80 =>
 bnd (bI x0 h80) fun v81 h81 =>
 bnd (aA 1 v81 h81) fun v82 h82 =>
 bnd (aC 1 v82 v80 h82) fun _ h83 =>
 bnd (aA 0 x4 h83) fun v84 h84 =>
 bnd (aC 1 v84 (aG 9) h84) fun _ h85 =>
  fW r n x2 x4 x5 h85) (
 bnd (aH .eql x6 (.i .u8 (Int.ofNat 58)) h76) fun v86 h86 =>
 bnd (gD v86 true (some (x0, h86)) h86) fun v87 h87 =>
 bnd (gD v86 true (r 106 [v87, (aG 1)] h87) h87) fun v88 h88 =>
 bnd (gD v86 true (r 107 [v88] h88) h88) fun v89 h89 =>
 bnd (bA v86 v89 (.b false) h89) fun v90 h90 =>
 aV v90 (
 bnd (bI x0 h90) fun v91 h91 =>
 bnd (aA 1 v91 h91) fun v92 h92 =>
 bnd (aB v92 h92) fun v93 h93 =>
 bnd (aH .add v93 (aG 1) h93) fun v94 h94 =>
 bnd (bI x0 h94) fun v95 h95 =>
 bnd (aA 1 v95 h95) fun v96 h96 =>
 bnd (aC 1 v96 v94 h96) fun _ h97 =>
 bnd (aA 0 x4 h97) fun v98 h98 =>
 bnd (aC 1 v98 (aG 8) h98) fun _ h99 =>
 bnd (r 108 [x0] h99) fun v100 h100 =>
 bnd (aP 0 v100 h100) fun v101 h101 =>
 bnd (aP 1 v100 h101) fun v102 h102 =>
 bnd (aA 1 x4 h102) fun v103 h103 =>
 bnd (aC 1 v103 v101 h103) fun _ h104 =>
  fW r n x2 x4 v102 h104) (
 bnd (r 75 [(.s [43, 45, 42, 47, 60, 62, 61, 126, 44, 64, 38, 37])] h90) fun v105 h105 =>
 bnd (eA CF r v105 [x6] h105) fun v106 h106 =>
 aV v106 (
 bnd (r 75 [(.s [43, 45, 42, 47, 60, 62, 61, 126, 44, 64, 38, 37])] h106) fun v107 h107 =>
 bnd (r 74 [x0, v107, (aG 2)] h107) fun v108 h108 =>
 bnd (aA 0 x4 h108) fun v109 h109 =>
 bnd (aC 1 v109 (aG 3) h109) fun _ h110 =>
 bnd (aA 1 x4 h110) fun v111 h111 =>
 bnd (aC 1 v111 v108 h111) fun _ h112 =>
  fW r n x2 x4 x5 h112) (
 bnd (r 75 [(.s [94, 46, 59, 40, 41, 91, 93, 124])] h106) fun v113 h113 =>
 bnd (eA CF r v113 [x6] h113) fun v114 h114 =>
 aV v114 (
 bnd (r 75 [(.s [94, 46, 59, 40, 41, 91, 93, 124])] h114) fun v115 h115 =>
 bnd (r 74 [x0, v115, (aG 1)] h115) fun v116 h116 =>
 bnd (aA 0 x4 h116) fun v117 h117 =>
 bnd (aC 1 v117 (aG 10) h117) fun _ h118 =>
 bnd (aA 1 x4 h118) fun v119 h119 =>
 bnd (aC 1 v119 v116 h119) fun _ h120 =>
  fW r n x2 x4 x5 h120) (
  fW r n x2 x4 (aG 10) h114)))))))))
def cXx (r : RT) (n : Nat) (x0 x2 x4 x5 : DV) (h0 : Hp) : aF :=
 bnd (r 106 [x0, (aG 0)] h0) fun v1 h1 =>
  cYe r n x0 x2 x4 x5 v1 h1
def cZz (r : RT) (n : Nat) (x0 x2 x4 : DV) (h0 : Hp) : aF :=
 cXx r n x0 x2 x4 (aG 0) h0
def cZx (r : RT) (n : Nat) (x0 x2 : DV) (h0 : Hp) : aF :=
 bnd (bI x0 h0) fun v1 h1 =>
 bnd (aA 1 v1 h1) fun v2 h2 =>
 bnd (aB v2 h2) fun v3 h3 =>
 bnd (bC [(aG 0), (.s []), (aG 0), (aG 0)] [(3, 1, v3)] h3) fun v4 h4 =>
 bnd (bL [(aG 0), (.s []), (aG 0), (aG 0)] h4) fun v5 h5 =>
 bnd (aC 4 v5 v4 h5) fun _ h6 =>
  cZz r n x0 x2 v5 h6
def s76 (r : RT) (n : Nat) (x0 : DV) (h0 : Hp) : aF :=
 bnd (bL [(aG 0), (.s []), (aG 0), (aG 0)] h0) fun v1 h1 =>
  cZx r n x0 v1 h1
abbrev c76 : Code := cf Tryz.f76
abbrev r76 : K := bF CF Tryz.f76
def D76 (r : RT) (n : Nat) (c : Code) (X : Nat → K) (k : K) : K := aR CF r 153 n c X r76 k
theorem dWv : D76 r n c76 x0 r76 = (K1 (s76 r n) 0) := by kernel_rfl
theorem dSx : aL CF r n 76 args h = s76 r n (aS args 0) h :=
 dI (dWv r n) args h (by kernel_rfl) (by kernel_rfl)
def s77 (r : RT) (n : Nat) (x0 x1 x2 : DV) (h0 : Hp) : aF :=
 bnd (r 81 [x0, (aG 0)] h0) fun v1 h1 =>
 bnd (bL [(aG 0), (.s []), (aG 0), (aG 0)] h1) fun v2 h2 =>
 bnd (aC 4 v2 v1 h2) fun _ h3 =>
 bnd (bI x0 h3) fun v4 h4 =>
 bnd (aA 3 v4 h4) fun v5 h5 =>
 bnd (aB v5 h5) fun v6 h6 =>
 bnd (aH .eql v6 (aG 0) h6) fun v7 h7 =>
 bnd (gD v7 true (aA 0 v2 h7) h7) fun v8 h8 =>
 bnd (gD v7 true (aB v8 h8) h8) fun v9 h9 =>
 bnd (gD v7 true (some (x1, h9)) h9) fun v10 h10 =>
 bnd (gD v7 true (aH .eql v9 v10 h10) h10) fun v11 h11 =>
 bnd (bA v7 v11 (.b false) h11) fun v12 h12 =>
 bnd (gD v12 true (some (x2, h12)) h12) fun v13 h13 =>
 bnd (gD v12 true (cB .eql v13 (.s []) h13) h13) fun v14 h14 =>
 bnd (gD v12 true (some (v14, h14)) h14) fun v15 h15 =>
 bnd (gD v15 false (aA 1 v2 h15) h15) fun v16 h16 =>
 bnd (gD v15 false (aB v16 h16) h16) fun v17 h17 =>
 bnd (gD v15 false (some (x2, h17)) h17) fun v18 h18 =>
 bnd (gD v15 false (cB .eql v17 v18 h18) h18) fun v19 h19 =>
 bnd (gD v12 true (bA v15 (.b true) v19 h19) h19) fun v20 h20 =>
 bnd (bA v12 v20 (.b false) h20) fun v21 h21 =>
 some (v21, h21)
abbrev c77 : Code := cf Tryz.f77
abbrev r77 : K := bF CF Tryz.f77
def D77 (r : RT) (n : Nat) (c : Code) (X : Nat → K) (k : K) : K := aR CF r 31 n c X r77 k
theorem dWk : D77 r n c77 x0 r77 = (K3 (s77 r n) 0 1 2) :=
 (by kernel_rfl)
theorem dRj : aL CF r n 77 args h = s77 r n (aS args 0) (aS args 1) (aS args 2) h :=
 dI (dWk r n) args h (by kernel_rfl) (by kernel_rfl)
def bVf (r : RT) (n : Nat) (x2 x3 : DV) (h0 : Hp) : aF :=
 bnd (aD 4 x3 h0) fun v1 h1 =>
 bnd (aC 4 x2 v1 h1) fun _ h2 =>
 bnd (aD 4 x2 h2) fun v3 _ =>
 some (v3, h2)
def cZi (r : RT) (n : Nat) (x0 x2 x3 : DV) (h0 : Hp) : aF :=
 bnd (aA 0 x3 h0) fun v1 h1 =>
 bnd (aB v1 h1) fun v2 h2 =>
 bnd (aH .neq v2 (aG 0) h2) fun v3 h3 =>
 aV v3 (
 bnd (bI x0 h3) fun v4 h4 =>
 bnd (aA 0 v4 h4) fun v5 h5 =>
 bnd (aB v5 h5) fun v6 h6 =>
 bnd (dB 4 v6 (some (aG 1)) none h6) fun v7 h7 =>
 bnd (bI x0 h7) fun v8 h8 =>
 bnd (aA 0 v8 h8) fun v9 h9 =>
 bnd (aC 1 v9 v7 h9) fun _ h10 =>
  bVf r n x2 x3 h10) (
  bVf r n x2 x3 h3)
def cZh (r : RT) (n : Nat) (x0 x2 : DV) (h0 : Hp) : aF :=
 bnd (r 81 [x0, (aG 0)] h0) fun v1 h1 =>
 bnd (bL [(aG 0), (.s []), (aG 0), (aG 0)] h1) fun v2 h2 =>
 bnd (aC 4 v2 v1 h2) fun _ h3 =>
  cZi r n x0 x2 v2 h3
def s78 (r : RT) (n : Nat) (x0 : DV) (h0 : Hp) : aF :=
 bnd (bL [(aG 0), (.s []), (aG 0), (aG 0)] h0) fun v1 h1 =>
  cZh r n x0 v1 h1
abbrev c78 : Code := cf Tryz.f78
abbrev r78 : K := bF CF Tryz.f78
def D78 (r : RT) (n : Nat) (c : Code) (X : Nat → K) (k : K) : K := aR CF r 18 n c X r78 k
theorem dYz : D78 r n c78 x0 r78 = (K1 (s78 r n) 0) := by kernel_rfl
theorem dOw : aL CF r n 78 args h = s78 r n (aS args 0) h :=
 dI (dYz r n) args h (by kernel_rfl) (by kernel_rfl)
def s79 (r : RT) (n : Nat) (x0 : DV) (h0 : Hp) : aF :=
 bnd (bL cY h0) fun v1 h1 =>
 bnd (r 77 [x0, (aG 1), (.s [])] h1) fun v2 h2 =>
 bnd (gD v2 true (some (x0, h2)) h2) fun v3 h3 =>
 bnd (gD v2 true (r 81 [v3, (aG 1)] h3) h3) fun v4 h4 =>
 bnd (gD v2 true (bY 0 v4 h4) h4) fun v5 h5 =>
 bnd (gD v2 true (aH .eql v5 (aG 9) h5) h5) fun v6 h6 =>
 bnd (bA v2 v6 (.b false) h6) fun v7 h7 =>
 aV v7 (
 bnd (r 78 [x0] h7) fun v8 h8 =>
 bnd (bY 1 v8 h8) fun v9 h9 =>
 bnd (bC cY [(0, 1, (aG 6)), (1, 1, v9)] h9) fun v10 h10 =>
 bnd (bL cY h10) fun v11 h11 =>
 bnd (aC 6 v11 v10 h11) fun _ h12 =>
 bnd (r 78 [x0] h12) fun v13 h13 =>
 bnd (r 79 [x0] h13) fun v14 h14 =>
 bnd (aN cY 1 [(0, 6, v14)] h14) fun v15 h15 =>
 bnd (aA 5 v11 h15) fun v16 h16 =>
 bnd (aC 1 v16 v15 h16) fun _ h17 =>
 bnd (aD 6 v11 h17) fun v18 h18 =>
 bnd (aC 6 v1 v18 h18) fun _ h19 =>
 bnd (aD 6 v1 h19) fun v20 _ =>
 some (v20, h19)) (
 bnd (r 114 [x0] h7) fun v21 h21 =>
 bnd (aC 6 v1 v21 h21) fun _ h22 =>
 bnd (aD 6 v1 h22) fun v23 _ =>
 some (v23, h22))
abbrev c79 : Code := cf Tryz.f79
abbrev r79 : K := bF CF Tryz.f79
def D79 (r : RT) (n : Nat) (c : Code) (X : Nat → K) (k : K) : K := aR CF r 25 n c X r79 k
theorem eAf : D79 r n c79 x0 r79 = (K1 (s79 r n) 0) :=
 (by kernel_rfl)
theorem dQv : aL CF r n 79 args h = s79 r n (aS args 0) h :=
 dI (eAf r n) args h (by kernel_rfl) (by kernel_rfl)
def s80 (r : RT) (n : Nat) (x0 x1 x2 : DV) (h0 : Hp) : aF :=
 bnd (eR x1 h0) fun v1 h1 =>
 bnd (bI x0 h1) fun v2 h2 =>
 bnd (aA 3 v2 h2) fun v3 h3 =>
 bnd (aB v3 h3) fun v4 h4 =>
 bnd (aH .eql v4 (aG 0) h4) fun v5 h5 =>
 aV v5 (
 bnd (aA 3 v1 h5) fun v6 h6 =>
 bnd (aB v6 h6) fun v7 h7 =>
 bnd (bI x0 h7) fun v8 h8 =>
 bnd (aA 2 v8 h8) fun v9 h9 =>
 bnd (aC 1 v9 v7 h9) fun _ h10 =>
 bnd (bI x0 h10) fun v11 h11 =>
 bnd (aA 3 v11 h11) fun v12 h12 =>
 bnd (aC 1 v12 x2 h12) fun _ h13 =>
 some (.t [], h13)) (
 some (.t [], h5))
abbrev c80 : Code := cf Tryz.f80
abbrev r80 : K := bF CF Tryz.f80
def D80 (r : RT) (n : Nat) (c : Code) (X : Nat → K) (k : K) : K := aR CF r 20 n c X r80 k
theorem dXu : D80 r n c80 x0 r80 = (K3 (s80 r n) 0 1 2) :=
 (by kernel_rfl)
theorem dVn : aL CF r n 80 args h = s80 r n (aS args 0) (aS args 1) (aS args 2) h :=
 dI (dXu r n) args h (by kernel_rfl) (by kernel_rfl)
def s81 (r : RT) (n : Nat) (x0 x1 : DV) (h0 : Hp) : aF :=
 bnd (bL [(aG 0), (.s []), (aG 0), (aG 0)] h0) fun v1 h1 =>
 bnd (bI x0 h1) fun v2 h2 =>
 bnd (aA 0 v2 h2) fun v3 h3 =>
 bnd (aB v3 h3) fun v4 h4 =>
 bnd (bI x0 h4) fun v5 h5 =>
 bnd (aA 0 v5 h5) fun v6 h6 =>
 bnd (aB v6 h6) fun v7 h7 =>
 bnd (dG v7 h7) fun v8 h8 =>
 bnd (aH .sub v8 (aG 1) h8) fun v9 h9 =>
 bnd (bKf x1 v9 h9) fun v10 h10 =>
 bnd (aO 4 v4 v10 h10) fun v11 h11 =>
 bnd (aD 4 v11 h11) fun v12 h12 =>
 bnd (aC 4 v1 v12 h12) fun v13 h13 =>
 bnd (aD 4 v1 h13) fun v14 _ =>
 some (v14, h13)
abbrev c81 : Code := cf Tryz.f81
abbrev r81 : K := bF CF Tryz.f81
def D81 (r : RT) (n : Nat) (c : Code) (X : Nat → K) (k : K) : K := aR CF r 19 n c X r81 k
theorem dWq : D81 r n c81 x0 r81 = (K2 (s81 r n) 0 1) :=
 (by kernel_rfl)
theorem dUa : aL CF r n 81 args h = s81 r n (aS args 0) (aS args 1) h :=
 dI (dWq r n) args h (by kernel_rfl) (by kernel_rfl)
def bTi (r : RT) (n : Nat) (x7 : DV) (h0 : Hp) : aF :=
 bnd (aA 1 x7 h0) fun v1 h1 =>
 bnd (aB v1 h1) fun v2 h2 =>
 some (v2, h2)
def cYc (r : RT) (n : Nat) (x0 x2 x7 : DV) (h0 : Hp) : aF :=
 bnd (dG x2 h0) fun v1 h1 =>
 bnd (aH .eql v1 (aG 4) h1) fun v2 h2 =>
 aV v2 (
 bnd (aD 4 x7 h2) fun v3 h3 =>
 bnd (r 80 [x0, v3, (aG 18)] h3) fun v4 h4 =>
  bTi r n x7 h4) (
  bTi r n x7 h2)
def cYk (r : RT) (n : Nat) (x0 x1 x2 : DV) (h0 : Hp) : aF :=
 bnd (r 51 [x0, x1, (.s [])] h0) fun v1 h1 =>
 bnd (bL [(aG 0), (.s []), (aG 0), (aG 0)] h1) fun v2 h2 =>
 bnd (aC 4 v2 v1 h2) fun _ h3 =>
  cYc r n x0 x2 v2 h3
def s82 (r : RT) (n : Nat) (x0 x1 x2 : DV) (h0 : Hp) : aF :=
 cYk r n x0 x1 x2 h0
abbrev c82 : Code := cf Tryz.f82
abbrev r82 : K := bF CF Tryz.f82
def D82 (r : RT) (n : Nat) (c : Code) (X : Nat → K) (k : K) : K := aR CF r 19 n c X r82 k
theorem dZx : D82 r n c82 x0 r82 = (K3 (s82 r n) 0 1 2) := by kernel_rfl
theorem dOn : aL CF r n 82 args h = s82 r n (aS args 0) (aS args 1) (aS args 2) h :=
 dI (dZx r n) args h (by kernel_rfl) (by kernel_rfl)
def s85 (r : RT) (n : Nat) (x0 x1 : DV) (h0 : Hp) : aF :=
 bnd (bJy [x0, x1] h0) fun v1 h1 =>
 some (v1, h1)
abbrev c85 : Code := cf Tryz.f85
abbrev r85 : K := bF CF Tryz.f85
def D85 (r : RT) (n : Nat) (c : Code) (X : Nat → K) (k : K) : K := aR CF r 8 n c X r85 k
theorem eAb : D85 r n c85 x0 r85 = (K2 (s85 r n) 0 1) :=
 (by kernel_rfl)
theorem dPt : aL CF r n 85 args h = s85 r n (aS args 0) (aS args 1) h :=
 dI (eAb r n) args h (by kernel_rfl) (by kernel_rfl)
def s89 (r : RT) (n : Nat) (x0 x1 x2 : DV) (h0 : Hp) : aF :=
 bnd (dG x0 h0) fun v1 h1 =>
 bnd (aH .geq x1 v1 h1) fun v2 h2 =>
 aV v2 (
 some ((.s []), h2)) (
 bnd (aO 6 x0 x1 h2) fun v3 h3 =>
 bnd (aD 6 v3 h3) fun v4 h4 =>
 bnd (r 126 [v4] h4) fun v5 h5 =>
 bnd (aH .gtr v5 x2 h5) fun v6 h6 =>
 aV v6 (
 bnd (aO 6 x0 x1 h6) fun v7 h7 =>
 bnd (aD 6 v7 h7) fun v8 h8 =>
 bnd (r 36 [v8] h8) fun v9 h9 =>
 bnd (aN [(.s []), (.s []), (.s [])] 3 [(0, 1, (.s [40])), (1, 1, v9), (2, 1, (.s [41]))] h9) fun v10 h10 =>
 bnd (r 19 [v10] h10) fun v11 h11 =>
 some (v11, h11)) (
 bnd (aO 6 x0 x1 h6) fun v12 h12 =>
 bnd (aD 6 v12 h12) fun v13 h13 =>
 bnd (r 36 [v13] h13) fun v14 h14 =>
 some (v14, h14)))
abbrev c89 : Code := cf Tryz.f89
abbrev r89 : K := bF CF Tryz.f89
def D89 (r : RT) (n : Nat) (c : Code) (X : Nat → K) (k : K) : K := aR CF r 32 n c X r89 k
theorem dYj : D89 r n c89 x0 r89 = (K3 (s89 r n) 0 1 2) :=
 (by kernel_rfl)
theorem dUt : aL CF r n 89 args h = s89 r n (aS args 0) (aS args 1) (aS args 2) h :=
 dI (dYj r n) args h (by kernel_rfl) (by kernel_rfl)
def hO (r : RT) (n : Nat) (x5 : DV) (h0 : Hp) : aF :=
 bnd (mQ [x5, (.s [32])] h0) fun v1 h1 =>
 some (v1, h1)
def vL (r : RT) (n : Nat) (kk6 : TT5) (x1 x5 x21 x22 x23 : DV) (h0 : Hp) : aF :=
 bnd (aH .lss x23 x22 h0) fun v1 h1 =>
 aV v1 (
 bnd (aO 1 x21 x23 h1) fun v2 h2 =>
 bnd (aB v2 h2) fun v3 h3 =>
 bnd (r 89 [x1, x23, (aG 2)] h3) fun v4 h4 =>
 bnd (aN [(.s []), (.s []), (.s [])] 3 [(0, 1, v3), (1, 1, (.s [32])), (2, 1, v4)] h4) fun v5 h5 =>
 bnd (r 19 [v5] h5) fun v6 h6 =>
 bnd (aN [(.s [])] 1 [(0, 1, v6)] h6) fun v7 h7 =>
 bnd (aY 1 16 x5 v7 h7) fun v8 h8 =>
 bnd (aH .add x23 (aG 1) h8) fun v9 h9 =>
      kk6 x1 v8 x21 x22 v9 h9) (
      hO r n x5 h1)
def oD (r : RT) (n : Nat) (m : Nat) : TT5 :=
 Nat.rec (motive := fun _ => TT5) (fun _ _ _ _ _ _ => none) (fun _ ih => vL r n ih) m
def cBt (r : RT) (n : Nat) : TT5 := oD r n n
def bCz (r : RT) (n : Nat) (x1 x5 x21 x22 x23 : DV) (h0 : Hp) : aF :=
 cBt r n x1 x5 x21 x22 x23 h0
def bHm (r : RT) (n : Nat) (x0 x1 x5 : DV) (h0 : Hp) : aF :=
 bnd (r 33 [x0] h0) fun v1 h1 =>
 bnd (dG v1 h1) fun v2 h2 =>
  bCz r n x1 x5 v1 v2 (aG 0) h2
def bIh (r : RT) (n : Nat) (x0 x1 : DV) (h0 : Hp) : aF :=
 bHm r n x0 x1 .l0 h0
def aYy (r : RT) (n : Nat) (x0 x1 : DV) (h0 : Hp) : aF :=
 bnd (r 32 [x0] h0) fun v1 h1 =>
 bnd (aH .eql v1 (aG 1) h1) fun v2 h2 =>
 aV v2 (
 some (x0, h2)) (
 bnd (aH .eql v1 (aG 2) h2) fun v3 h3 =>
 aV v3 (
 bnd (r 89 [x1, (aG 0), (aG 1)] h3) fun v4 h4 =>
 bnd (aN [(.s []), (.s []), (.s [])] 3 [(0, 1, x0), (1, 1, (.s [32])), (2, 1, v4)] h4) fun v5 h5 =>
 bnd (r 19 [v5] h5) fun v6 h6 =>
 some (v6, h6)) (
  bIh r n x0 x1 h3))
def s90 (r : RT) (n : Nat) (x0 x1 : DV) (h0 : Hp) : aF :=
 aYy r n x0 x1 h0
abbrev c90 : Code := cf Tryz.f90
abbrev bGd := cR c90
abbrev bHj := cR bGd
abbrev bFs := cR bHj
abbrev dPc := cR bFs
abbrev aQb := cL bFs
abbrev bWy := cR aQb
abbrev bDs := cL bWy
abbrev aAf := cL bDs
abbrev cZu := cL aQb
abbrev bUh := cL bHj
abbrev bUt := cL bGd
abbrev bTt := cL c90
abbrev r90 : K := bF CF Tryz.f90
def D90 (r : RT) (n : Nat) (c : Code) (X : Nat → K) (k : K) : K := aR CF r 40 n c X r90 k
theorem dAi : D90 r n dPc x0 r90 = (K1 (hO r n) 5) := by kernel_rfl
theorem cGj (kk6 : TT5) : D90 r n aAf (xs x0 1 (K1 (hO r n) 5)) (K5 kk6 1 5 21 22 23) = (K5 (vL r n kk6) 1 5 21 22 23) := by kernel_rfl
theorem cSl (m : Nat) : aE (fun kk => D90 r n aAf (xs x0 1 (K1 (hO r n) 5)) kk) m = (K5 (oD r n m) 1 5 21 22 23) := by
 induction m with
 | zero => exact (by kernel_rfl : aE (fun kk => D90 r n aAf (xs x0 1 (K1 (hO r n) 5)) kk) 0 = (K5 (oD r n 0) 1 5 21 22 23))
 | succ m ih =>
  refine (by kernel_rfl : aE (fun kk => D90 r n aAf (xs x0 1 (K1 (hO r n) 5)) kk) (m + 1) = D90 r n aAf (xs x0 1 (K1 (hO r n) 5)) (aE (fun kk => D90 r n aAf (xs x0 1 (K1 (hO r n) 5)) kk) m)).trans ?_
  rw [ih]
  exact (cGj r n (oD r n m)).trans (by kernel_rfl)
theorem dJs : D90 r n bDs (xs x0 1 (K1 (hO r n) 5)) (K1 (hO r n) 5) = (K5 (cBt r n) 1 5 21 22 23) :=
 (by kernel_rfl : D90 r n bDs (xs x0 1 (K1 (hO r n) 5)) (K1 (hO r n) 5) = aE (fun kk => D90 r n aAf (xs x0 1 (K1 (hO r n) 5)) kk) n).trans ((cSl r n n).trans (by kernel_rfl))
theorem dDy : D90 r n bWy x0 (K1 (hO r n) 5) = (K5 (bCz r n) 1 5 21 22 23) :=
 (by kernel_rfl : D90 r n bWy x0 (K1 (hO r n) 5) = D90 r n bDs (xs x0 1 (K1 (hO r n) 5)) (K1 (hO r n) 5)).trans
 ((dJs r n).trans (by kernel_rfl))
theorem cLn : D90 r n bFs x0 r90 = D90 r n aQb x0 (K1 (hO r n) 5) :=
 congrArg (fun k => D90 r n aQb x0 k) (dAi r n)
theorem cGh : D90 r n aQb x0 (K1 (hO r n) 5) = D90 r n cZu x0 (K5 (bCz r n) 1 5 21 22 23) :=
 congrArg (fun k => D90 r n cZu x0 k) (dDy r n)
theorem dFj : D90 r n bFs x0 r90 = (K3 (bHm r n) 0 1 5) :=
 (cLn r n).trans
 ((cGh r n).trans
 ((by kernel_rfl)))
theorem cJx : D90 r n bHj x0 r90 = D90 r n bUh x0 (K3 (bHm r n) 0 1 5) :=
 congrArg (fun k => D90 r n bUh x0 k) (dFj r n)
theorem dLy : D90 r n bHj x0 r90 = (K2 (bIh r n) 0 1) :=
 (cJx r n).trans
 ((by kernel_rfl))
theorem cKy : D90 r n bGd x0 r90 = D90 r n bUt x0 (K2 (bIh r n) 0 1) :=
 congrArg (fun k => D90 r n bUt x0 k) (dLy r n)
theorem dLk : D90 r n bGd x0 r90 = (K2 (aYy r n) 0 1) :=
 (cKy r n).trans
 ((by kernel_rfl))
theorem dRs : D90 r n c90 x0 r90 = D90 r n bTt x0 (K2 (aYy r n) 0 1) :=
 congrArg (fun k => D90 r n bTt x0 k) (dLk r n)
theorem dXg : D90 r n c90 x0 r90 = (K2 (s90 r n) 0 1) :=
 (dRs r n).trans
 ((by kernel_rfl))
theorem dVg : aL CF r n 90 args h = s90 r n (aS args 0) (aS args 1) h :=
 dI (dXg r n) args h (by kernel_rfl) (by kernel_rfl)
def s91 (r : RT) (n : Nat) (x0 : DV) (h0 : Hp) : aF :=
 bnd (eR x0 h0) fun v1 h1 =>
 bnd (aA 1 v1 h1) fun v2 h2 =>
 bnd (aB v2 h2) fun v3 h3 =>
 bnd (aA 5 v1 h3) fun v4 h4 =>
 bnd (aB v4 h4) fun v5 h5 =>
 bnd (r 90 [v3, v5] h5) fun v6 h6 =>
 bnd (aN [(.s []), (.s [])] 2 [(0, 1, (.s [59, 32])), (1, 1, v6)] h6) fun v7 h7 =>
 bnd (r 19 [v7] h7) fun v8 h8 =>
 some (v8, h8)
abbrev c91 : Code := cf Tryz.f91
abbrev r91 : K := bF CF Tryz.f91
def D91 (r : RT) (n : Nat) (c : Code) (X : Nat → K) (k : K) : K := aR CF r 10 n c X r91 k
theorem dZg : D91 r n c91 x0 r91 = (K1 (s91 r n) 0) :=
 (by kernel_rfl)
theorem dSc : aL CF r n 91 args h = s91 r n (aS args 0) h :=
 dI (dZg r n) args h (by kernel_rfl) (by kernel_rfl)
def bIm (r : RT) (n : Nat) (x0 x1 x5 : DV) (h0 : Hp) : aF :=
 bnd (r 127 [x1, (aG 0), x5] h0) fun v1 h1 =>
 bnd (cB .add v1 (.s [32]) h1) fun v2 h2 =>
 bnd (dB 6 x1 (some (aG 1)) none h2) fun v3 h3 =>
 cnd (bM (dB 6 x1 (some (aG 1)) none h0) v3 && true) (
 bnd (r 93 [x0, v3] h3) fun v4 h4 =>
 bnd (cB .add v2 v4 h4) fun v5 h5 =>
 some (v5, h5))
def dAb (r : RT) (n : Nat) (x0 x1 x5 : DV) (h0 : Hp) : aF :=
 bnd (r 39 [x0] h0) fun v1 h1 =>
 bnd (aH .eql v1 (aG 1) h1) fun v2 h2 =>
 aV v2 (
  bIm r n x0 x1 (aG 1) h2) (
  bIm r n x0 x1 x5 h2)
def cZe (r : RT) (n : Nat) (x0 x1 : DV) (h0 : Hp) : aF :=
 dAb r n x0 x1 (aG 2) h0
def cWi (r : RT) (n : Nat) (x0 x1 : DV) (h0 : Hp) : aF :=
 bnd (dG x1 h0) fun v1 h1 =>
 bnd (aH .eql v1 (aG 0) h1) fun v2 h2 =>
 aV v2 (
 some ((.s []), h2)) (
  cZe r n x0 x1 h2)
def s92 (r : RT) (n : Nat) (x0 x1 : DV) (h0 : Hp) : aF :=
 cWi r n x0 x1 h0
abbrev c92 : Code := cf Tryz.f92
abbrev r92 : K := bF CF Tryz.f92
def D92 (r : RT) (n : Nat) (c : Code) (X : Nat → K) (k : K) : K := aR CF r 21 n c X r92 k
theorem dZk : D92 r n c92 x0 r92 = (K2 (s92 r n) 0 1) := by kernel_rfl
theorem dUo : aL CF r n 92 args h = s92 r n (aS args 0) (aS args 1) h :=
 dI (dZk r n) args h (by kernel_rfl) (by kernel_rfl)
def iI (r : RT) (n : Nat) (x6 : DV) (h0 : Hp) : aF :=
 some (x6, h0)
def bSw (r : RT) (n : Nat) (kk9 : gO) (x1 x6 x7 x8 : DV) (h0 : Hp) : aF :=
 bnd (aH .add x8 (aG 1) h0) fun v1 h1 =>
  kk9 x1 x6 x7 v1 h1
def aOc (r : RT) (n : Nat) (kk9 : gO) (x1 x6 x7 x8 : DV) (h0 : Hp) : aF :=
 bnd (aO 1 x7 x8 h0) fun v1 h1 =>
 bnd (aB v1 h1) fun v2 h2 =>
 bnd (cB .add x6 v2 h2) fun v3 h3 =>
 bnd (cB .add v3 (.s [32]) h3) fun v4 h4 =>
 bnd (r 127 [x1, x8, (aG 2)] h4) fun v5 h5 =>
 cnd (bM (aB v1 h5) v2 && true) (
 bnd (cB .add v4 v5 h5) fun v6 h6 =>
  bSw r n kk9 x1 v6 x7 x8 h6)
def cFf (r : RT) (n : Nat) (kk9 : gO) (x1 x6 x7 x8 : DV) (h0 : Hp) : aF :=
 bnd (aH .gtr x8 (aG 0) h0) fun v1 h1 =>
 aV v1 (
 bnd (cB .add x6 (.s [32]) h1) fun v2 h2 =>
  aOc r n kk9 x1 v2 x7 x8 h2) (
  aOc r n kk9 x1 x6 x7 x8 h1)
def uS (r : RT) (n : Nat) (kk9 : gO) (x1 x6 x7 x8 : DV) (h0 : Hp) : aF :=
 bnd (dG x7 h0) fun v1 h1 =>
 bnd (aH .lss x8 v1 h1) fun v2 h2 =>
 aV v2 (
  cFf r n kk9 x1 x6 x7 x8 h2) (
  iI r n x6 h2)
def lZ (r : RT) (n : Nat) (m : Nat) : gO :=
 Nat.rec (motive := fun _ => gO) (fun _ _ _ _ _ => none) (fun _ ih => uS r n ih) m
def bMk (r : RT) (n : Nat) : gO := lZ r n n
def bGk (r : RT) (n : Nat) (x1 x6 x7 x8 : DV) (h0 : Hp) : aF :=
 bMk r n x1 x6 x7 x8 h0
def bDx (r : RT) (n : Nat) (x1 x6 x7 : DV) (h0 : Hp) : aF :=
 bGk r n x1 x6 x7 (aG 0) h0
def bCq (r : RT) (n : Nat) (x0 x1 x6 : DV) (h0 : Hp) : aF :=
 bnd (r 41 [x0] h0) fun v1 h1 =>
  bDx r n x1 x6 v1 h1
def bGu (r : RT) (n : Nat) (x0 x1 : DV) (h0 : Hp) : aF :=
 bCq r n x0 x1 (.s []) h0
def bJg (r : RT) (n : Nat) (x0 x1 x5 : DV) (h0 : Hp) : aF :=
 bnd (aH .eql x5 (aG 2) h0) fun v1 h1 =>
 aV v1 (
 bnd (cB .add x0 (.s [32]) h1) fun v2 h2 =>
 bnd (r 127 [x1, (aG 0), (aG 1)] h2) fun v3 h3 =>
 bnd (cB .add v2 v3 h3) fun v4 h4 =>
 some (v4, h4)) (
  bGu r n x0 x1 h1)
def aYl (r : RT) (n : Nat) (x0 x1 x5 : DV) (h0 : Hp) : aF :=
 bnd (aH .eql x5 (aG 1) h0) fun v1 h1 =>
 aV v1 (
 some (x0, h1)) (
  bJg r n x0 x1 x5 h1)
def bBr (r : RT) (n : Nat) (x0 x1 : DV) (h0 : Hp) : aF :=
 bnd (r 39 [x0] h0) fun v1 h1 =>
  aYl r n x0 x1 v1 h1
def s93 (r : RT) (n : Nat) (x0 x1 : DV) (h0 : Hp) : aF :=
 bBr r n x0 x1 h0
abbrev c93 : Code := cf Tryz.f93
abbrev bGt := cR c93
abbrev bGg := cR bGt
abbrev aZw := cR bGg
abbrev bIj := cR aZw
abbrev bBq := cR bIj
abbrev bFa := cR bBq
abbrev dOs := cR bFa
abbrev aQo := cL bFa
abbrev bYo := cR aQo
abbrev aHd := cL bYo
abbrev rY := cL aHd
abbrev cEw := cL aQo
abbrev bSv := cL bBq
abbrev cBi := cL bIj
abbrev bTm := cL aZw
abbrev bOu := cL bGg
abbrev bZt := cL bGt
abbrev bVn := cL c93
abbrev r93 : K := bF CF Tryz.f93
def D93 (r : RT) (n : Nat) (c : Code) (X : Nat → K) (k : K) : K := aR CF r 45 n c X r93 k
theorem dMf : D93 r n dOs x0 r93 = (K1 (iI r n) 6) := by kernel_rfl
theorem cUp (kk9 : gO) : D93 r n rY (xs x0 0 (K1 (iI r n) 6)) (K4 kk9 1 6 7 8) = (K4 (uS r n kk9) 1 6 7 8) := by kernel_rfl
theorem cKm (m : Nat) : aE (fun kk => D93 r n rY (xs x0 0 (K1 (iI r n) 6)) kk) m = (K4 (lZ r n m) 1 6 7 8) := by
 induction m with
 | zero => exact (by kernel_rfl : aE (fun kk => D93 r n rY (xs x0 0 (K1 (iI r n) 6)) kk) 0 = (K4 (lZ r n 0) 1 6 7 8))
 | succ m ih =>
  refine (by kernel_rfl : aE (fun kk => D93 r n rY (xs x0 0 (K1 (iI r n) 6)) kk) (m + 1) = D93 r n rY (xs x0 0 (K1 (iI r n) 6)) (aE (fun kk => D93 r n rY (xs x0 0 (K1 (iI r n) 6)) kk) m)).trans ?_
  rw [ih]
  exact (cUp r n (lZ r n m)).trans (by kernel_rfl)
theorem dEa : D93 r n aHd (xs x0 0 (K1 (iI r n) 6)) (K1 (iI r n) 6) = (K4 (bMk r n) 1 6 7 8) :=
 (by kernel_rfl : D93 r n aHd (xs x0 0 (K1 (iI r n) 6)) (K1 (iI r n) 6) = aE (fun kk => D93 r n rY (xs x0 0 (K1 (iI r n) 6)) kk) n).trans ((cKm r n n).trans (by kernel_rfl))
theorem dFq : D93 r n bYo x0 (K1 (iI r n) 6) = (K4 (bGk r n) 1 6 7 8) :=
 (by kernel_rfl : D93 r n bYo x0 (K1 (iI r n) 6) = D93 r n aHd (xs x0 0 (K1 (iI r n) 6)) (K1 (iI r n) 6)).trans
 ((dEa r n).trans (by kernel_rfl))
theorem cSd : D93 r n bFa x0 r93 = D93 r n aQo x0 (K1 (iI r n) 6) :=
 congrArg (fun k => D93 r n aQo x0 k) (dMf r n)
theorem cRt : D93 r n aQo x0 (K1 (iI r n) 6) = D93 r n cEw x0 (K4 (bGk r n) 1 6 7 8) :=
 congrArg (fun k => D93 r n cEw x0 k) (dFq r n)
theorem dNx : D93 r n bFa x0 r93 = (K3 (bDx r n) 1 6 7) :=
 (cSd r n).trans
 ((cRt r n).trans
 ((by kernel_rfl)))
theorem cVu : D93 r n bBq x0 r93 = D93 r n bSv x0 (K3 (bDx r n) 1 6 7) :=
 congrArg (fun k => D93 r n bSv x0 k) (dNx r n)
theorem dDd : D93 r n bBq x0 r93 = (K3 (bCq r n) 0 1 6) :=
 (cVu r n).trans
 ((by kernel_rfl))
theorem cFz : D93 r n bIj x0 r93 = D93 r n cBi x0 (K3 (bCq r n) 0 1 6) :=
 congrArg (fun k => D93 r n cBi x0 k) (dDd r n)
theorem dHy : D93 r n bIj x0 r93 = (K2 (bGu r n) 0 1) :=
 (cFz r n).trans
 ((by kernel_rfl))
theorem cIk : D93 r n aZw x0 r93 = D93 r n bTm x0 (K2 (bGu r n) 0 1) :=
 congrArg (fun k => D93 r n bTm x0 k) (dHy r n)
theorem dBk : D93 r n aZw x0 r93 = (K3 (bJg r n) 0 1 5) :=
 (cIk r n).trans
 ((by kernel_rfl))
theorem cRb : D93 r n bGg x0 r93 = D93 r n bOu x0 (K3 (bJg r n) 0 1 5) :=
 congrArg (fun k => D93 r n bOu x0 k) (dBk r n)
theorem dNr : D93 r n bGg x0 r93 = (K3 (aYl r n) 0 1 5) :=
 (cRb r n).trans
 ((by kernel_rfl))
theorem bZv : D93 r n bGt x0 r93 = D93 r n bZt x0 (K3 (aYl r n) 0 1 5) :=
 congrArg (fun k => D93 r n bZt x0 k) (dNr r n)
theorem dKu : D93 r n bGt x0 r93 = (K2 (bBr r n) 0 1) :=
 (bZv r n).trans
 ((by kernel_rfl))
theorem dDf : D93 r n c93 x0 r93 = D93 r n bVn x0 (K2 (bBr r n) 0 1) :=
 congrArg (fun k => D93 r n bVn x0 k) (dKu r n)
theorem dXh : D93 r n c93 x0 r93 = (K2 (s93 r n) 0 1) :=
 (dDf r n).trans
 ((by kernel_rfl))
theorem dTm : aL CF r n 93 args h = s93 r n (aS args 0) (aS args 1) h :=
 dI (dXh r n) args h (by kernel_rfl) (by kernel_rfl)
def iJ (r : RT) (n : Nat) (h0 : Hp) : aF :=
 some ((aG 0), h0)
def pZ (r : RT) (n : Nat) (kk10 : cZ) (x0 x5 x6 : DV) (h0 : Hp) : aF :=
 bnd (dE x5 h0) fun v1 h1 =>
 bnd (aH .lss x6 v1 h1) fun v2 h2 =>
 aV v2 (
 bnd (bK x5 x6 h2) fun v3 h3 =>
 bnd (aH .eql v3 x0 h3) fun v4 h4 =>
 aV v4 (
 some ((aG 4), h4)) (
 bnd (aH .add x6 (aG 1) h4) fun v5 h5 =>
  kk10 x0 x5 v5 h5)) (
      iJ r n h2)
def kS (r : RT) (n : Nat) (m : Nat) : cZ :=
 Nat.rec (motive := fun _ => cZ) (fun _ _ _ _ => none) (fun _ ih => pZ r n ih) m
def aUt (r : RT) (n : Nat) : cZ := kS r n n
def bIk (r : RT) (n : Nat) (x0 x5 x6 : DV) (h0 : Hp) : aF :=
 aUt r n x0 x5 x6 h0
def bFo (r : RT) (n : Nat) (x0 x5 : DV) (h0 : Hp) : aF :=
 bIk r n x0 x5 (aG 0) h0
def gZ (r : RT) (n : Nat) (x0 : DV) (h0 : Hp) : aF :=
 bFo r n x0 (.s [94, 46, 59, 40, 41, 91, 93, 124]) h0
def pU (r : RT) (n : Nat) (kk12 : cZ) (x0 x3 x4 : DV) (h0 : Hp) : aF :=
 bnd (dE x3 h0) fun v1 h1 =>
 bnd (aH .lss x4 v1 h1) fun v2 h2 =>
 aV v2 (
 bnd (bK x3 x4 h2) fun v3 h3 =>
 bnd (aH .eql v3 x0 h3) fun v4 h4 =>
 aV v4 (
 some ((aG 3), h4)) (
 bnd (aH .add x4 (aG 1) h4) fun v5 h5 =>
  kk12 x0 x3 v5 h5)) (
      gZ r n x0 h2)
def kP (r : RT) (n : Nat) (m : Nat) : cZ :=
 Nat.rec (motive := fun _ => cZ) (fun _ _ _ _ => none) (fun _ ih => pU r n ih) m
def aUv (r : RT) (n : Nat) : cZ := kP r n n
def aGt (r : RT) (n : Nat) (x0 x3 x4 : DV) (h0 : Hp) : aF :=
 aUv r n x0 x3 x4 h0
def bDz (r : RT) (n : Nat) (x0 x3 : DV) (h0 : Hp) : aF :=
 aGt r n x0 x3 (aG 0) h0
def bEf (r : RT) (n : Nat) (x0 : DV) (h0 : Hp) : aF :=
 bDz r n x0 (.s [43, 45, 42, 47, 60, 62, 61, 126, 44, 64, 38, 37]) h0
def aQx (r : RT) (n : Nat) (x0 : DV) (h0 : Hp) : aF :=
 bnd (aH .eql x0 (.i .u8 (Int.ofNat 9)) h0) fun v1 h1 =>
 bnd (gD v1 false (some (x0, h1)) h1) fun v2 h2 =>
 bnd (gD v1 false (aH .eql v2 (.i .u8 (Int.ofNat 10)) h2) h2) fun v3 h3 =>
 bnd (bA v1 (.b true) v3 h3) fun v4 h4 =>
 bnd (gD v4 false (some (x0, h4)) h4) fun v5 h5 =>
 bnd (gD v4 false (aH .eql v5 (.i .u8 (Int.ofNat 13)) h5) h5) fun v6 h6 =>
 bnd (bA v4 (.b true) v6 h6) fun v7 h7 =>
 bnd (gD v7 false (some (x0, h7)) h7) fun v8 h8 =>
 bnd (gD v7 false (aH .eql v8 (.i .u8 (Int.ofNat 32)) h8) h8) fun v9 h9 =>
 bnd (bA v7 (.b true) v9 h9) fun v10 h10 =>
 aV v10 (
 some ((aG 5), h10)) (
  bEf r n x0 h10)
def aQq (r : RT) (n : Nat) (x0 : DV) (h0 : Hp) : aF :=
 bnd (aH .geq x0 (.i .u8 (Int.ofNat 48)) h0) fun v1 h1 =>
 bnd (gD v1 true (some (x0, h1)) h1) fun v2 h2 =>
 bnd (gD v1 true (aH .leq v2 (.i .u8 (Int.ofNat 57)) h2) h2) fun v3 h3 =>
 bnd (bA v1 v3 (.b false) h3) fun v4 h4 =>
 aV v4 (
 some ((aG 2), h4)) (
  aQx r n x0 h4)
def bHu (r : RT) (n : Nat) (x0 : DV) (h0 : Hp) : aF :=
 bnd (aH .geq x0 (.i .u8 (Int.ofNat 97)) h0) fun v1 h1 =>
 bnd (gD v1 true (some (x0, h1)) h1) fun v2 h2 =>
 bnd (gD v1 true (aH .leq v2 (.i .u8 (Int.ofNat 122)) h2) h2) fun v3 h3 =>
 bnd (bA v1 v3 (.b false) h3) fun v4 h4 =>
 bnd (gD v4 false (some (x0, h4)) h4) fun v5 h5 =>
 bnd (gD v4 false (aH .geq v5 (.i .u8 (Int.ofNat 65)) h5) h5) fun v6 h6 =>
 bnd (gD v4 false (some (v6, h6)) h6) fun v7 h7 =>
 bnd (gD v7 true (some (x0, h7)) h7) fun v8 h8 =>
 bnd (gD v7 true (aH .leq v8 (.i .u8 (Int.ofNat 90)) h8) h8) fun v9 h9 =>
 bnd (gD v4 false (bA v7 v9 (.b false) h9) h9) fun v10 h10 =>
 bnd (bA v4 (.b true) v10 h10) fun v11 h11 =>
 aV v11 (
 some ((aG 1), h11)) (
  aQq r n x0 h11)
def s94 (r : RT) (n : Nat) (x0 : DV) (h0 : Hp) : aF :=
 bHu r n x0 h0
abbrev c94 : Code := cf Tryz.f94
abbrev aXo := cR c94
abbrev bJe := cR aXo
abbrev bFt := cR bJe
abbrev bIf := cR bFt
abbrev bHg := cR bIf
abbrev bCx := cR bHg
abbrev aZi := cR bCx
abbrev dQh := cR aZi
abbrev aSu := cL aZi
abbrev aUm := cR aSu
abbrev aGm := cL aUm
abbrev rV := cL aGm
abbrev bVm := cL aSu
abbrev bUd := cL bCx
abbrev xV := cL bHg
abbrev aTb := cR xV
abbrev aNn := cL aTb
abbrev tF := cL aNn
abbrev bTk := cL xV
abbrev cEd := cL bIf
abbrev cCt := cL bFt
abbrev cAz := cL bJe
abbrev cDa := cL aXo
abbrev bMe := cL c94
abbrev r94 : K := bF CF Tryz.f94
def D94 (r : RT) (n : Nat) (c : Code) (X : Nat → K) (k : K) : K := aR CF r 63 n c X r94 k
theorem dMu : D94 r n dQh x0 r94 = (K0 (iJ r n)) := by kernel_rfl
theorem bMy (kk10 : cZ) : D94 r n rV (xs x0 2 (K0 (iJ r n))) (K3 kk10 0 5 6) = (K3 (pZ r n kk10) 0 5 6) := by kernel_rfl
theorem cCi (m : Nat) : aE (fun kk => D94 r n rV (xs x0 2 (K0 (iJ r n))) kk) m = (K3 (kS r n m) 0 5 6) := by
 induction m with
 | zero => exact (by kernel_rfl : aE (fun kk => D94 r n rV (xs x0 2 (K0 (iJ r n))) kk) 0 = (K3 (kS r n 0) 0 5 6))
 | succ m ih =>
  refine (by kernel_rfl : aE (fun kk => D94 r n rV (xs x0 2 (K0 (iJ r n))) kk) (m + 1) = D94 r n rV (xs x0 2 (K0 (iJ r n))) (aE (fun kk => D94 r n rV (xs x0 2 (K0 (iJ r n))) kk) m)).trans ?_
  rw [ih]
  exact (bMy r n (kS r n m)).trans (by kernel_rfl)
theorem cUg : D94 r n aGm (xs x0 2 (K0 (iJ r n))) (K0 (iJ r n)) = (K3 (aUt r n) 0 5 6) :=
 (by kernel_rfl : D94 r n aGm (xs x0 2 (K0 (iJ r n))) (K0 (iJ r n)) = aE (fun kk => D94 r n rV (xs x0 2 (K0 (iJ r n))) kk) n).trans ((cCi r n n).trans (by kernel_rfl))
theorem dOj : D94 r n aUm x0 (K0 (iJ r n)) = (K3 (bIk r n) 0 5 6) :=
 (by kernel_rfl : D94 r n aUm x0 (K0 (iJ r n)) = D94 r n aGm (xs x0 2 (K0 (iJ r n))) (K0 (iJ r n))).trans
 ((cUg r n).trans (by kernel_rfl))
theorem cRy : D94 r n aZi x0 r94 = D94 r n aSu x0 (K0 (iJ r n)) :=
 congrArg (fun k => D94 r n aSu x0 k) (dMu r n)
theorem cVs : D94 r n aSu x0 (K0 (iJ r n)) = D94 r n bVm x0 (K3 (bIk r n) 0 5 6) :=
 congrArg (fun k => D94 r n bVm x0 k) (dOj r n)
theorem dAd : D94 r n aZi x0 r94 = (K2 (bFo r n) 0 5) :=
 (cRy r n).trans
 ((cVs r n).trans
 ((by kernel_rfl)))
theorem cQj : D94 r n bCx x0 r94 = D94 r n bUd x0 (K2 (bFo r n) 0 5) :=
 congrArg (fun k => D94 r n bUd x0 k) (dAd r n)
theorem dNl : D94 r n bCx x0 r94 = (K1 (gZ r n) 0) :=
 (cQj r n).trans
 ((by kernel_rfl))
theorem bWf (kk12 : cZ) : D94 r n tF (xs x0 0 (K1 (gZ r n) 0)) (K3 kk12 0 3 4) = (K3 (pU r n kk12) 0 3 4) := by kernel_rfl
theorem bPl (m : Nat) : aE (fun kk => D94 r n tF (xs x0 0 (K1 (gZ r n) 0)) kk) m = (K3 (kP r n m) 0 3 4) := by
 induction m with
 | zero => exact (by kernel_rfl : aE (fun kk => D94 r n tF (xs x0 0 (K1 (gZ r n) 0)) kk) 0 = (K3 (kP r n 0) 0 3 4))
 | succ m ih =>
  refine (by kernel_rfl : aE (fun kk => D94 r n tF (xs x0 0 (K1 (gZ r n) 0)) kk) (m + 1) = D94 r n tF (xs x0 0 (K1 (gZ r n) 0)) (aE (fun kk => D94 r n tF (xs x0 0 (K1 (gZ r n) 0)) kk) m)).trans ?_
  rw [ih]
  exact (bWf r n (kP r n m)).trans (by kernel_rfl)
theorem cWe : D94 r n aNn (xs x0 0 (K1 (gZ r n) 0)) (K1 (gZ r n) 0) = (K3 (aUv r n) 0 3 4) :=
 (by kernel_rfl : D94 r n aNn (xs x0 0 (K1 (gZ r n) 0)) (K1 (gZ r n) 0) = aE (fun kk => D94 r n tF (xs x0 0 (K1 (gZ r n) 0)) kk) n).trans ((bPl r n n).trans (by kernel_rfl))
theorem cOe : D94 r n aTb x0 (K1 (gZ r n) 0) = (K3 (aGt r n) 0 3 4) :=
 (by kernel_rfl : D94 r n aTb x0 (K1 (gZ r n) 0) = D94 r n aNn (xs x0 0 (K1 (gZ r n) 0)) (K1 (gZ r n) 0)).trans
 ((cWe r n).trans (by kernel_rfl))
theorem cLc : D94 r n bHg x0 r94 = D94 r n xV x0 (K1 (gZ r n) 0) :=
 congrArg (fun k => D94 r n xV x0 k) (dNl r n)
theorem cOc : D94 r n xV x0 (K1 (gZ r n) 0) = D94 r n bTk x0 (K3 (aGt r n) 0 3 4) :=
 congrArg (fun k => D94 r n bTk x0 k) (cOe r n)
theorem dKf : D94 r n bHg x0 r94 = (K2 (bDz r n) 0 3) :=
 (cLc r n).trans
 ((cOc r n).trans
 ((by kernel_rfl)))
theorem cIt : D94 r n bIf x0 r94 = D94 r n cEd x0 (K2 (bDz r n) 0 3) :=
 congrArg (fun k => D94 r n cEd x0 k) (dKf r n)
theorem dEl : D94 r n bIf x0 r94 = (K1 (bEf r n) 0) :=
 (cIt r n).trans
 ((by kernel_rfl))
theorem cUd : D94 r n bFt x0 r94 = D94 r n cCt x0 (K1 (bEf r n) 0) :=
 congrArg (fun k => D94 r n cCt x0 k) (dEl r n)
theorem dMk : D94 r n bFt x0 r94 = (K1 (aQx r n) 0) :=
 (cUd r n).trans
 ((by kernel_rfl))
theorem cLd : D94 r n bJe x0 r94 = D94 r n cAz x0 (K1 (aQx r n) 0) :=
 congrArg (fun k => D94 r n cAz x0 k) (dMk r n)
theorem dCi : D94 r n bJe x0 r94 = (K1 (aQq r n) 0) :=
 (cLd r n).trans
 ((by kernel_rfl))
theorem cRg : D94 r n aXo x0 r94 = D94 r n cDa x0 (K1 (aQq r n) 0) :=
 congrArg (fun k => D94 r n cDa x0 k) (dCi r n)
theorem dAo : D94 r n aXo x0 r94 = (K1 (bHu r n) 0) :=
 (cRg r n).trans
 ((by kernel_rfl))
theorem dFo : D94 r n c94 x0 r94 = D94 r n bMe x0 (K1 (bHu r n) 0) :=
 congrArg (fun k => D94 r n bMe x0 k) (dAo r n)
theorem dXv : D94 r n c94 x0 r94 = (K1 (s94 r n) 0) :=
 (dFo r n).trans
 ((by kernel_rfl))
theorem dQu : aL CF r n 94 args h = s94 r n (aS args 0) h :=
 dI (dXv r n) args h (by kernel_rfl) (by kernel_rfl)
def s95 (r : RT) (n : Nat) (x0 x1 : DV) (h0 : Hp) : aF :=
 bnd (dE x0 h0) fun v1 h1 =>
 bnd (aH .geq x1 v1 h1) fun v2 h2 =>
 aV v2 (
 some ((.i .i64 (Int.negSucc 0)), h2)) (
 bnd (bK x0 x1 h2) fun v3 h3 =>
 bnd (r 94 [v3] h3) fun v4 h4 =>
 some (v4, h4))
abbrev c95 : Code := cf Tryz.f95
abbrev r95 : K := bF CF Tryz.f95
def D95 (r : RT) (n : Nat) (c : Code) (X : Nat → K) (k : K) : K := aR CF r 13 n c X r95 k
theorem dXx : D95 r n c95 x0 r95 = (K2 (s95 r n) 0 1) :=
 (by kernel_rfl)
theorem dRw : aL CF r n 95 args h = s95 r n (aS args 0) (aS args 1) h :=
 dI (dXx r n) args h (by kernel_rfl) (by kernel_rfl)
def jA (r : RT) (n : Nat) (x1 : DV) (h0 : Hp) : aF :=
 some (x1, h0)
def vK (r : RT) (n : Nat) (kk3 : dS) (x0 x1 : DV) (h0 : Hp) : aF :=
 bnd (r 95 [x0, x1] h0) fun v1 h1 =>
 bnd (aH .eql v1 (aG 1) h1) fun v2 h2 =>
 bnd (gD v2 false (some (x0, h2)) h2) fun v3 h3 =>
 bnd (gD v2 false (some (x1, h3)) h3) fun v4 h4 =>
 bnd (gD v2 false (r 95 [v3, v4] h4) h4) fun v5 h5 =>
 bnd (gD v2 false (aH .eql v5 (aG 2) h5) h5) fun v6 h6 =>
 bnd (bA v2 (.b true) v6 h6) fun v7 h7 =>
 aV v7 (
 bnd (aH .add x1 (aG 1) h7) fun v8 h8 =>
      kk3 x0 v8 h8) (
      jA r n x1 h7)
def mB (r : RT) (n : Nat) (m : Nat) : dS :=
 Nat.rec (motive := fun _ => dS) (fun _ _ _ => none) (fun _ ih => vK r n ih) m
def bZl (r : RT) (n : Nat) : dS := mB r n n
def bFf (r : RT) (n : Nat) (x0 x1 : DV) (h0 : Hp) : aF :=
 bZl r n x0 x1 h0
def s96 (r : RT) (n : Nat) (x0 x1 : DV) (h0 : Hp) : aF :=
 bFf r n x0 x1 h0
abbrev c96 : Code := cf Tryz.f96
abbrev bAi := cR c96
abbrev dPh := cR bAi
abbrev bDu := cL bAi
abbrev bHw := cL bDu
abbrev yV := cL bHw
abbrev cYv := cL c96
abbrev r96 : K := bF CF Tryz.f96
def D96 (r : RT) (n : Nat) (c : Code) (X : Nat → K) (k : K) : K := aR CF r 18 n c X r96 k
theorem dLr : D96 r n dPh x0 r96 = (K1 (jA r n) 1) := by kernel_rfl
theorem cSu (kk3 : dS) : D96 r n yV (xs x0 0 (K1 (jA r n) 1)) (K2 kk3 0 1) = (K2 (vK r n kk3) 0 1) := by kernel_rfl
theorem cIy (m : Nat) : aE (fun kk => D96 r n yV (xs x0 0 (K1 (jA r n) 1)) kk) m = (K2 (mB r n m) 0 1) := by
 induction m with
 | zero => exact (by kernel_rfl : aE (fun kk => D96 r n yV (xs x0 0 (K1 (jA r n) 1)) kk) 0 = (K2 (mB r n 0) 0 1))
 | succ m ih =>
  refine (by kernel_rfl : aE (fun kk => D96 r n yV (xs x0 0 (K1 (jA r n) 1)) kk) (m + 1) = D96 r n yV (xs x0 0 (K1 (jA r n) 1)) (aE (fun kk => D96 r n yV (xs x0 0 (K1 (jA r n) 1)) kk) m)).trans ?_
  rw [ih]
  exact (cSu r n (mB r n m)).trans (by kernel_rfl)
theorem dJf : D96 r n bHw (xs x0 0 (K1 (jA r n) 1)) (K1 (jA r n) 1) = (K2 (bZl r n) 0 1) :=
 (by kernel_rfl : D96 r n bHw (xs x0 0 (K1 (jA r n) 1)) (K1 (jA r n) 1) = aE (fun kk => D96 r n yV (xs x0 0 (K1 (jA r n) 1)) kk) n).trans ((cIy r n n).trans (by kernel_rfl))
theorem cVy : D96 r n bAi x0 r96 = D96 r n bDu x0 (K1 (jA r n) 1) :=
 congrArg (fun k => D96 r n bDu x0 k) (dLr r n)
theorem dJt : D96 r n bAi x0 r96 = (K2 (bFf r n) 0 1) :=
 (cVy r n).trans
 ((by kernel_rfl : D96 r n bDu x0 (K1 (jA r n) 1) = D96 r n bHw (xs x0 0 (K1 (jA r n) 1)) (K1 (jA r n) 1)).trans
 ((dJf r n).trans (by kernel_rfl)))
theorem dQj : D96 r n c96 x0 r96 = D96 r n cYv x0 (K2 (bFf r n) 0 1) :=
 congrArg (fun k => D96 r n cYv x0 k) (dJt r n)
theorem dYg : D96 r n c96 x0 r96 = (K2 (s96 r n) 0 1) :=
 (dQj r n).trans
 ((by kernel_rfl))
theorem dTo : aL CF r n 96 args h = s96 r n (aS args 0) (aS args 1) h :=
 dI (dYg r n) args h (by kernel_rfl) (by kernel_rfl)
def s97 (r : RT) (n : Nat) (x0 x1 : DV) (h0 : Hp) : aF :=
 bnd (dE x0 h0) fun v1 h1 =>
 bnd (aH .lss x1 v1 h1) fun v2 h2 =>
 bnd (gD v2 true (some (x0, h2)) h2) fun v3 h3 =>
 bnd (gD v2 true (some (x1, h3)) h3) fun v4 h4 =>
 bnd (gD v2 true (bK v3 v4 h4) h4) fun v5 h5 =>
 bnd (gD v2 true (aH .eql v5 (.i .u8 (Int.ofNat 58)) h5) h5) fun v6 h6 =>
 bnd (bA v2 v6 (.b false) h6) fun v7 h7 =>
 bnd (gD v7 true (some (x1, h7)) h7) fun v8 h8 =>
 bnd (gD v7 true (aH .add v8 (aG 1) h8) h8) fun v9 h9 =>
 bnd (gD v7 true (some (x0, h9)) h9) fun v10 h10 =>
 bnd (gD v7 true (dE v10 h10) h10) fun v11 h11 =>
 bnd (gD v7 true (aH .lss v9 v11 h11) h11) fun v12 h12 =>
 bnd (gD v7 true (some (v12, h12)) h12) fun v13 h13 =>
 bnd (gD v13 true (some (x0, h13)) h13) fun v14 h14 =>
 bnd (gD v13 true (some (x1, h14)) h14) fun v15 h15 =>
 bnd (gD v13 true (aH .add v15 (aG 1) h15) h15) fun v16 h16 =>
 bnd (gD v13 true (bK v14 v16 h16) h16) fun v17 h17 =>
 bnd (gD v13 true (aH .eql v17 (.i .u8 (Int.ofNat 61)) h17) h17) fun v18 h18 =>
 bnd (gD v7 true (bA v13 v18 (.b false) h18) h18) fun v19 h19 =>
 bnd (gD v7 true (lS .not v19 h19) h19) fun v20 h20 =>
 bnd (bA v7 v20 (.b false) h20) fun v21 h21 =>
 some (v21, h21)
abbrev c97 : Code := cf Tryz.f97
abbrev r97 : K := bF CF Tryz.f97
def D97 (r : RT) (n : Nat) (c : Code) (X : Nat → K) (k : K) : K := aR CF r 30 n c X r97 k
theorem dWn : D97 r n c97 x0 r97 = (K2 (s97 r n) 0 1) :=
 (by kernel_rfl)
theorem dSw : aL CF r n 97 args h = s97 r n (aS args 0) (aS args 1) h :=
 dI (dWn r n) args h (by kernel_rfl) (by kernel_rfl)
def jD (r : RT) (n : Nat) (x3 x4 : DV) (h0 : Hp) : aF :=
 bnd (aD 4 x3 h0) fun v1 h1 =>
 bnd (aC 4 x4 v1 h1) fun _ h2 =>
 bnd (aD 4 x4 h2) fun v3 _ =>
 some (.t [v3, (aG 0), (aG 11)], h2)
def vF (r : RT) (n : Nat) (kk4 : gO) (x0 x3 x4 x7 : DV) (h0 : Hp) : aF :=
 bnd (dE x0 h0) fun v1 h1 =>
 bnd (aH .lss x7 v1 h1) fun v2 h2 =>
 aV v2 (
 bnd (bK x0 x7 h2) fun v3 h3 =>
 bnd (aH .neq v3 (.i .u8 (Int.ofNat 39)) h3) fun v4 h4 =>
 aV v4 (
 bnd (aA 1 x3 h4) fun v5 h5 =>
 bnd (aB v5 h5) fun v6 h6 =>
 bnd (aH .add x7 (aG 1) h6) fun v7 h7 =>
 bnd (dC x0 (some x7) (some v7) h7) fun v8 h8 =>
 bnd (cB .add v6 v8 h8) fun v9 h9 =>
 bnd (aA 1 x3 h9) fun v10 h10 =>
 bnd (aC 1 v10 v9 h10) fun v11 h11 =>
 bnd (aH .add x7 (aG 1) h11) fun v12 h12 =>
  kk4 x0 x3 x4 v12 h12) (
 bnd (aH .add x7 (aG 1) h4) fun v13 h13 =>
 bnd (dE x0 h13) fun v14 h14 =>
 bnd (aH .lss v13 v14 h14) fun v15 h15 =>
 bnd (gD v15 true (some (x0, h15)) h15) fun v16 h16 =>
 bnd (gD v15 true (some (x7, h16)) h16) fun v17 h17 =>
 bnd (gD v15 true (aH .add v17 (aG 1) h17) h17) fun v18 h18 =>
 bnd (gD v15 true (bK v16 v18 h18) h18) fun v19 h19 =>
 bnd (gD v15 true (aH .eql v19 (.i .u8 (Int.ofNat 39)) h19) h19) fun v20 h20 =>
 bnd (bA v15 v20 (.b false) h20) fun v21 h21 =>
 aV v21 (
 bnd (aA 1 x3 h21) fun v22 h22 =>
 bnd (aB v22 h22) fun v23 h23 =>
 bnd (cB .add v23 (.s [39]) h23) fun v24 h24 =>
 bnd (aA 1 x3 h24) fun v25 h25 =>
 bnd (aC 1 v25 v24 h25) fun _ h26 =>
 bnd (aH .add x7 (aG 2) h26) fun v27 h27 =>
  kk4 x0 x3 x4 v27 h27) (
 bnd (aD 4 x3 h21) fun v28 h28 =>
 bnd (aH .add x7 (aG 1) h28) fun v29 h29 =>
 bnd (aC 4 x4 v28 h29) fun _ h30 =>
 bnd (aD 4 x4 h30) fun v31 _ =>
 some (.t [v31, v29, (aG 0)], h30)))) (
  jD r n x3 x4 h2)
def lL (r : RT) (n : Nat) (m : Nat) : gO :=
 Nat.rec (motive := fun _ => gO) (fun _ _ _ _ _ => none) (fun _ ih => vF r n ih) m
def cCw (r : RT) (n : Nat) : gO := lL r n n
def aYg (r : RT) (n : Nat) (x0 x3 x4 x7 : DV) (h0 : Hp) : aF :=
 cCw r n x0 x3 x4 x7 h0
def bGj (r : RT) (n : Nat) (x0 x3 x4 : DV) (h0 : Hp) : aF :=
 bnd (aA 3 x3 h0) fun v1 h1 =>
 bnd (aB v1 h1) fun v2 h2 =>
 bnd (aH .add v2 (aG 1) h2) fun v3 h3 =>
  aYg r n x0 x3 x4 v3 h3
def s98 (r : RT) (n : Nat) (x0 x1 : DV) (h0 : Hp) : aF :=
 bnd (eR x1 h0) fun v1 h1 =>
 bnd (bL [(aG 0), (.s []), (aG 0), (aG 0)] h1) fun v2 h2 =>
  bGj r n x0 v1 v2 h2
abbrev c98 : Code := cf Tryz.f98
abbrev bBx := cR c98
abbrev bCc := cR bBx
abbrev dWd := cR bCc
abbrev bIg := cL bCc
abbrev bIa := cL bIg
abbrev aDf := cL bIa
abbrev cZt := cL bBx
abbrev cXw := cL c98
abbrev r98 : K := bF CF Tryz.f98
def D98 (r : RT) (n : Nat) (c : Code) (X : Nat → K) (k : K) : K := aR CF r 52 n c X r98 k
theorem dNm : D98 r n dWd x0 r98 = (K2 (jD r n) 3 4) := by kernel_rfl
theorem cTd (kk4 : gO) : D98 r n aDf (xs x0 0 (K2 (jD r n) 3 4)) (K4 kk4 0 3 4 7) = (K4 (vF r n kk4) 0 3 4 7) := by kernel_rfl
theorem cSy (m : Nat) : aE (fun kk => D98 r n aDf (xs x0 0 (K2 (jD r n) 3 4)) kk) m = (K4 (lL r n m) 0 3 4 7) := by
 induction m with
 | zero => exact (by kernel_rfl : aE (fun kk => D98 r n aDf (xs x0 0 (K2 (jD r n) 3 4)) kk) 0 = (K4 (lL r n 0) 0 3 4 7))
 | succ m ih =>
  refine (by kernel_rfl : aE (fun kk => D98 r n aDf (xs x0 0 (K2 (jD r n) 3 4)) kk) (m + 1) = D98 r n aDf (xs x0 0 (K2 (jD r n) 3 4)) (aE (fun kk => D98 r n aDf (xs x0 0 (K2 (jD r n) 3 4)) kk) m)).trans ?_
  rw [ih]
  exact (cTd r n (lL r n m)).trans (by kernel_rfl)
theorem dFv : D98 r n bIa (xs x0 0 (K2 (jD r n) 3 4)) (K2 (jD r n) 3 4) = (K4 (cCw r n) 0 3 4 7) :=
 (by kernel_rfl : D98 r n bIa (xs x0 0 (K2 (jD r n) 3 4)) (K2 (jD r n) 3 4) = aE (fun kk => D98 r n aDf (xs x0 0 (K2 (jD r n) 3 4)) kk) n).trans ((cSy r n n).trans (by kernel_rfl))
theorem cIn : D98 r n bCc x0 r98 = D98 r n bIg x0 (K2 (jD r n) 3 4) :=
 congrArg (fun k => D98 r n bIg x0 k) (dNm r n)
theorem dFy : D98 r n bCc x0 r98 = (K4 (aYg r n) 0 3 4 7) :=
 (cIn r n).trans
 ((by kernel_rfl : D98 r n bIg x0 (K2 (jD r n) 3 4) = D98 r n bIa (xs x0 0 (K2 (jD r n) 3 4)) (K2 (jD r n) 3 4)).trans
 ((dFv r n).trans (by kernel_rfl)))
theorem cLu : D98 r n bBx x0 r98 = D98 r n cZt x0 (K4 (aYg r n) 0 3 4 7) :=
 congrArg (fun k => D98 r n cZt x0 k) (dFy r n)
theorem dHm : D98 r n bBx x0 r98 = (K3 (bGj r n) 0 3 4) :=
 (cLu r n).trans
 ((by kernel_rfl))
theorem dSz : D98 r n c98 x0 r98 = D98 r n cXw x0 (K3 (bGj r n) 0 3 4) :=
 congrArg (fun k => D98 r n cXw x0 k) (dHm r n)
theorem dXo : D98 r n c98 x0 r98 = (K2 (s98 r n) 0 1) :=
 (dSz r n).trans
 ((by kernel_rfl))
theorem dPv : aL CF r n 98 args h = s98 r n (aS args 0) (aS args 1) h :=
 dI (dXo r n) args h (by kernel_rfl) (by kernel_rfl)
end
end Go.Dd

