/- A part of the proof: Q4 Q5 Q6 Q7 Q8 Q9 Q10 Q11 Q12: each text has a comment of its own. -/
import Derived.Test.YtkdndgecldkiiaaGreatPh1
set_option linter.unusedVariables false
set_option linter.unusedSimpArgs false
set_option linter.constructorNameAsVariable false
set_option maxRecDepth 100000
namespace Go.Dd
open Go.Proofs
variable (r : RT) (n : Nat) (args : List DV) (h : Hp)
noncomputable def s71 (r : RT) (n : Nat) (x0 x1 : DV) (h0 : Hp) : aK :=
 bnd (jC [x1] h0) fun v1 h1 =>
 aU v1 (
 bnd (mF [x1] h1) fun v2 h2 =>
 some (.t [v2, (.b true)], h2)) (
 bnd (aQ x0 h1) fun v3 h3 =>
 bnd (aB 0 v3 h3) fun v4 h4 =>
 bnd (aA v4 h4) fun v5 h5 =>
 bnd (isF [v5, x1] h5) fun v6 h6 =>
 bnd (gD v6 true (some (x0, h6)) h6) fun v7 h7 =>
 bnd (gD v6 true (aQ v7 h7) h7) fun v8 h8 =>
 bnd (gD v6 true (aB 0 v8 h8) h8) fun v9 h9 =>
 bnd (gD v6 true (aA v9 h9) h9) fun v10 h10 =>
 bnd (gD v6 true (some (x1, h10)) h10) fun v11 h11 =>
 bnd (gD v6 true (kV [v10, v11] h11) h11) fun v12 h12 =>
 bnd (gD v6 true (some (x0, h12)) h12) fun v13 h13 =>
 bnd (gD v6 true (r 34 [v13, (aD 8)] h13) h13) fun v14 h14 =>
 bnd (gD v6 true (aF .eql v12 v14 h14) h14) fun v15 h15 =>
 bnd (aP v6 v15 (.b false) h15) fun v16 h16 =>
 bnd (gD v16 true (some (x0, h16)) h16) fun v17 h17 =>
 bnd (gD v16 true (aQ v17 h17) h17) fun v18 h18 =>
 bnd (gD v16 true (aB 0 v18 h18) h18) fun v19 h19 =>
 bnd (gD v16 true (aA v19 h19) h19) fun v20 h20 =>
 bnd (gD v16 true (some (x1, h20)) h20) fun v21 h21 =>
 bnd (gD v16 true (nY [v20, v21] h21) h21) fun v22 h22 =>
 bnd (gD v16 true (aF .eql v22 (aD 1) h22) h22) fun v23 h23 =>
 bnd (aP v16 v23 (.b false) h23) fun v24 h24 =>
 aU v24 (
 bnd (r 111 [x0, x1, (aD 0)] h24) fun v25 h25 =>
 some (.t [v25, (.b true)], h25)) (
 some (.t [(aD 0), (.b false)], h24)))
noncomputable abbrev c71 : Code := cf Tryz.f71
noncomputable abbrev r71 : K := aR CF Tryz.f71
noncomputable def D71 (r : RT) (n : Nat) (c : Code) (X : Nat → K) (k : K) : K := aM CF r 41 n c X r71 k
theorem eHk : D71 r n c71 x0 r71 = (K2 (s71 r n) 0 1) :=
 (by kernel_rfl)
theorem dXn : aE CF r n 71 args h = s71 r n (aO args 0) (aO args 1) h :=
 (by kernel_rfl : aE CF r n 71 args h = D71 r n c71 x0 r71 (aI args) h).trans ((congrFun (congrFun (eHk r n) (aI args)) h).trans (by kernel_rfl))
noncomputable def gR (r : RT) (n : Nat) (x7 : DV) (h0 : Hp) : aK :=
 bnd (iH x7 h0) fun v1 h1 =>
 some (.t [v1, (.b true)], h1)
noncomputable def aUk (r : RT) (n : Nat) (kk7 : bU) (x0 x1 x7 x48 x49 : DV) (h0 : Hp) : aK :=
 bnd (aF .lss x49 x48 h0) fun v1 h1 =>
 aU v1 (
 bnd (r 111 [x0, x1, x49] h1) fun v2 h2 =>
 bnd (dS .u8 v2 h2) fun v3 h3 =>
 bnd (aN [(.i .u8 (Int.ofNat 0))] 1 [(0, 1, v3)] h3) fun v4 h4 =>
 bnd (aY 1 1 x7 v4 h4) fun v5 h5 =>
 bnd (aF .add x49 (aD 1) h5) fun v6 h6 =>
      kk7 x0 x1 v5 x48 v6 h6) (
      gR r n x7 h1)
noncomputable def aEm (r : RT) (n : Nat) (m : Nat) : bU :=
 Nat.rec (motive := fun _ => bU) (fun _ _ _ _ _ _ => none) (fun _ ih => aUk r n ih) m
noncomputable def dIg (r : RT) (n : Nat) : bU := aEm r n n
noncomputable def bWv (r : RT) (n : Nat) (x0 x1 x7 x48 x49 : DV) (h0 : Hp) : aK :=
 dIg r n x0 x1 x7 x48 x49 h0
noncomputable def bVi (r : RT) (n : Nat) (x0 x1 x7 : DV) (h0 : Hp) : aK :=
 bnd (aQ x0 h0) fun v1 h1 =>
 bnd (aB 0 v1 h1) fun v2 h2 =>
 bnd (aA v2 h2) fun v3 h3 =>
 bnd (jO [v3, x1] h3) fun v4 h4 =>
  bWv r n x0 x1 x7 v4 (aD 0) h4
noncomputable def bZz (r : RT) (n : Nat) (x0 x1 : DV) (h0 : Hp) : aK :=
 bVi r n x0 x1 .l0 h0
noncomputable def bVv (r : RT) (n : Nat) (x0 x1 x6 : DV) (h0 : Hp) : aK :=
 bnd (aQ x0 h0) fun v1 h1 =>
 bnd (aB 0 v1 h1) fun v2 h2 =>
 bnd (aA v2 h2) fun v3 h3 =>
 bnd (isF [v3, x1] h3) fun v4 h4 =>
 bnd (fR .not v4 h4) fun v5 h5 =>
 bnd (gD v5 false (some (x6, h5)) h5) fun v6 h6 =>
 bnd (gD v5 false (some (x0, h6)) h6) fun v7 h7 =>
 bnd (gD v5 false (r 34 [v7, (aD 10)] h7) h7) fun v8 h8 =>
 bnd (gD v5 false (aF .neq v6 v8 h8) h8) fun v9 h9 =>
 bnd (gD v5 false (some (v9, h9)) h9) fun v10 h10 =>
 bnd (gD v10 true (some (x6, h10)) h10) fun v11 h11 =>
 bnd (gD v10 true (some (x0, h11)) h11) fun v12 h12 =>
 bnd (gD v10 true (r 34 [v12, (aD 11)] h12) h12) fun v13 h13 =>
 bnd (gD v10 true (aF .neq v11 v13 h13) h13) fun v14 h14 =>
 bnd (gD v5 false (aP v10 v14 (.b false) h14) h14) fun v15 h15 =>
 bnd (aP v5 (.b true) v15 h15) fun v16 h16 =>
 bnd (gD v16 false (some (x0, h16)) h16) fun v17 h17 =>
 bnd (gD v16 false (aQ v17 h17) h17) fun v18 h18 =>
 bnd (gD v16 false (aB 0 v18 h18) h18) fun v19 h19 =>
 bnd (gD v16 false (aA v19 h19) h19) fun v20 h20 =>
 bnd (gD v16 false (some (x1, h20)) h20) fun v21 h21 =>
 bnd (gD v16 false (nY [v20, v21] h21) h21) fun v22 h22 =>
 bnd (gD v16 false (aF .neq v22 (aD 2) h22) h22) fun v23 h23 =>
 bnd (aP v16 (.b true) v23 h23) fun v24 h24 =>
 aU v24 (
 some (.t [(.s []), (.b false)], h24)) (
  bZz r n x0 x1 h24)
noncomputable def cKd (r : RT) (n : Nat) (x0 x1 : DV) (h0 : Hp) : aK :=
 bnd (aQ x0 h0) fun v1 h1 =>
 bnd (aB 0 v1 h1) fun v2 h2 =>
 bnd (aA v2 h2) fun v3 h3 =>
 bnd (kV [v3, x1] h3) fun v4 h4 =>
  bVv r n x0 x1 v4 h4
noncomputable def s72 (r : RT) (n : Nat) (x0 x1 : DV) (h0 : Hp) : aK :=
 cKd r n x0 x1 h0
noncomputable abbrev c72 : Code := cf Tryz.f72
noncomputable abbrev bHf : Code := cR c72
noncomputable abbrev bBs : Code := cR bHf
noncomputable abbrev bCi : Code := cR bBs
noncomputable abbrev bHm : Code := cR bCi
noncomputable abbrev dZn : Code := cR bHm
noncomputable abbrev aSo : Code := cL bHm
noncomputable abbrev bQn : Code := cR aSo
noncomputable abbrev bHy : Code := cL bQn
noncomputable abbrev tX : Code := cL bHy
noncomputable abbrev cMr : Code := cL aSo
noncomputable abbrev bRm : Code := cL bCi
noncomputable abbrev bUx : Code := cL bBs
noncomputable abbrev cKm : Code := cL bHf
noncomputable abbrev cCo : Code := cL c72
noncomputable abbrev r72 : K := aR CF Tryz.f72
noncomputable def D72 (r : RT) (n : Nat) (c : Code) (X : Nat → K) (k : K) : K := aM CF r 63 n c X r72 k
theorem dUy : D72 r n dZn x0 r72 = (K1 (gR r n) 7) :=
 (by kernel_rfl)
theorem dHf (kk7 : bU) (q0 : TT1) : D72 r n tX (xs x0 0 (K1 q0 7)) (K5 kk7 0 1 7 48 49) = fun (env : bB) (h : Hp) =>
 bnd (aF .lss (env 49) (env 48) h) fun v1 h1 =>
 aU v1 (
 bnd (r 111 [(env 0), (env 1), (env 49)] h1) fun v2 h2 =>
 bnd (dS .u8 v2 h2) fun v3 h3 =>
 bnd (aN [(.i .u8 (Int.ofNat 0))] 1 [(0, 1, v3)] h3) fun v4 h4 =>
 bnd (aY 1 1 (env 7) v4 h4) fun v5 h5 =>
 bnd (aF .add (env 49) (aD 1) h5) fun v6 h6 =>
      kk7 (env 0) (env 1) v5 (env 48) v6 h6) (
      q0 (env 7) h1) := by kernel_rfl
theorem bSm (kk7 : bU) : (fun (env : bB) (h : Hp) =>
 bnd (aF .lss (env 49) (env 48) h) fun v1 h1 =>
 aU v1 (
 bnd (r 111 [(env 0), (env 1), (env 49)] h1) fun v2 h2 =>
 bnd (dS .u8 v2 h2) fun v3 h3 =>
 bnd (aN [(.i .u8 (Int.ofNat 0))] 1 [(0, 1, v3)] h3) fun v4 h4 =>
 bnd (aY 1 1 (env 7) v4 h4) fun v5 h5 =>
 bnd (aF .add (env 49) (aD 1) h5) fun v6 h6 =>
      kk7 (env 0) (env 1) v5 (env 48) v6 h6) (
      gR r n (env 7) h1)) = (K5 (aUk r n kk7) 0 1 7 48 49) := by kernel_rfl
theorem cYc (kk7 : bU) : D72 r n tX (xs x0 0 (K1 (gR r n) 7)) (K5 kk7 0 1 7 48 49) = (K5 (aUk r n kk7) 0 1 7 48 49) :=
 (dHf r n kk7 (gR r n)).trans (bSm r n kk7)
theorem cWh (m : Nat) : aL (fun kk => D72 r n tX (xs x0 0 (K1 (gR r n) 7)) kk) m = (K5 (aEm r n m) 0 1 7 48 49) := by
 induction m with
 | zero => exact (by kernel_rfl : aL (fun kk => D72 r n tX (xs x0 0 (K1 (gR r n) 7)) kk) 0 = (K5 (aEm r n 0) 0 1 7 48 49))
 | succ m ih =>
  refine (by kernel_rfl : aL (fun kk => D72 r n tX (xs x0 0 (K1 (gR r n) 7)) kk) (m + 1) = D72 r n tX (xs x0 0 (K1 (gR r n) 7)) (aL (fun kk => D72 r n tX (xs x0 0 (K1 (gR r n) 7)) kk) m)).trans ?_
  rw [ih]
  exact (cYc r n (aEm r n m)).trans (by kernel_rfl)
theorem dKi : D72 r n bHy (xs x0 0 (K1 (gR r n) 7)) (K1 (gR r n) 7) = (K5 (dIg r n) 0 1 7 48 49) :=
 (by kernel_rfl : D72 r n bHy (xs x0 0 (K1 (gR r n) 7)) (K1 (gR r n) 7) = aL (fun kk => D72 r n tX (xs x0 0 (K1 (gR r n) 7)) kk) n).trans ((cWh r n n).trans (by kernel_rfl))
theorem dKe : D72 r n bQn x0 (K1 (gR r n) 7) = (K5 (bWv r n) 0 1 7 48 49) :=
 (by kernel_rfl : D72 r n bQn x0 (K1 (gR r n) 7) = D72 r n bHy (xs x0 0 (K1 (gR r n) 7)) (K1 (gR r n) 7)).trans
 ((dKi r n).trans (by kernel_rfl))
theorem cVl : D72 r n bHm x0 r72 = D72 r n aSo x0 (K1 (gR r n) 7) :=
 congrArg (fun k => D72 r n aSo x0 k) (dUy r n)
theorem cYi : D72 r n aSo x0 (K1 (gR r n) 7) = D72 r n cMr x0 (K5 (bWv r n) 0 1 7 48 49) :=
 congrArg (fun k => D72 r n cMr x0 k) (dKe r n)
theorem dNi : D72 r n bHm x0 r72 = (K3 (bVi r n) 0 1 7) :=
 (cVl r n).trans
 ((cYi r n).trans
 ((by kernel_rfl)))
theorem dBg : D72 r n bCi x0 r72 = D72 r n bRm x0 (K3 (bVi r n) 0 1 7) :=
 congrArg (fun k => D72 r n bRm x0 k) (dNi r n)
theorem dNu : D72 r n bCi x0 r72 = (K2 (bZz r n) 0 1) :=
 (dBg r n).trans
 ((by kernel_rfl))
theorem dAa : D72 r n bBs x0 r72 = D72 r n bUx x0 (K2 (bZz r n) 0 1) :=
 congrArg (fun k => D72 r n bUx x0 k) (dNu r n)
theorem dRg : D72 r n bBs x0 r72 = (K3 (bVv r n) 0 1 6) :=
 (dAa r n).trans
 ((by kernel_rfl))
theorem cTj : D72 r n bHf x0 r72 = D72 r n cKm x0 (K3 (bVv r n) 0 1 6) :=
 congrArg (fun k => D72 r n cKm x0 k) (dRg r n)
theorem dTc : D72 r n bHf x0 r72 = (K2 (cKd r n) 0 1) :=
 (cTj r n).trans
 ((by kernel_rfl))
theorem eGg : D72 r n c72 x0 r72 = D72 r n cCo x0 (K2 (cKd r n) 0 1) :=
 congrArg (fun k => D72 r n cCo x0 k) (dTc r n)
theorem eKh : D72 r n c72 x0 r72 = (K2 (s72 r n) 0 1) :=
 (eGg r n).trans
 ((by kernel_rfl))
theorem eAv : aE CF r n 72 args h = s72 r n (aO args 0) (aO args 1) h :=
 (by kernel_rfl : aE CF r n 72 args h = D72 r n c72 x0 r72 (aI args) h).trans ((congrFun (congrFun (eKh r n) (aI args)) h).trans (by kernel_rfl))
noncomputable def s77 (r : RT) (n : Nat) (x0 x1 : DV) (h0 : Hp) : aK :=
 bnd (r 123 [x0, x1] h0) fun v1 h1 =>
 bnd (aF .geq v1 (aD 0) h1) fun v2 h2 =>
 some (v2, h2)
noncomputable abbrev c77 : Code := cf Tryz.f77
noncomputable abbrev r77 : K := aR CF Tryz.f77
noncomputable def D77 (r : RT) (n : Nat) (c : Code) (X : Nat → K) (k : K) : K := aM CF r 9 n c X r77 k
theorem eLh : D77 r n c77 x0 r77 = (K2 (s77 r n) 0 1) :=
 (by kernel_rfl)
theorem dZz : aE CF r n 77 args h = s77 r n (aO args 0) (aO args 1) h :=
 (by kernel_rfl : aE CF r n 77 args h = D77 r n c77 x0 r77 (aI args) h).trans ((congrFun (congrFun (eLh r n) (aI args)) h).trans (by kernel_rfl))
noncomputable def s86 (r : RT) (n : Nat) (x0 x1 : DV) (h0 : Hp) : aK :=
 bnd (aA x1 h0) fun v1 h1 =>
 bnd (aQ v1 h1) fun v2 h2 =>
 bnd (aB 0 v2 h2) fun v3 h3 =>
 bnd (aA v3 h3) fun v4 h4 =>
 bnd (cFr [v4, x0] h4) fun v5 h5 =>
 bnd (fR .not v5 h5) fun v6 h6 =>
 some (v6, h6)
noncomputable abbrev c86 : Code := cf Tryz.f86
noncomputable abbrev r86 : K := aR CF Tryz.f86
noncomputable def D86 (r : RT) (n : Nat) (c : Code) (X : Nat → K) (k : K) : K := aM CF r 11 n c X r86 k
theorem eJg : D86 r n c86 x0 r86 = (K2 (s86 r n) 0 1) :=
 (by kernel_rfl)
theorem eEl : aE CF r n 86 args h = s86 r n (aO args 0) (aO args 1) h :=
 (by kernel_rfl : aE CF r n 86 args h = D86 r n c86 x0 r86 (aI args) h).trans ((congrFun (congrFun (eJg r n) (aI args)) h).trans (by kernel_rfl))
noncomputable def iB (r : RT) (n : Nat) (x10 : DV) (h0 : Hp) : aK :=
 some (.t [x10, (.i .i64 (Int.ofNat 0))], h0)
noncomputable def rV (r : RT) (n : Nat) (kk6 : bU) (x0 x10 x29 x30 x31 : DV) (h0 : Hp) : aK :=
 bnd (aF .lss x31 x30 h0) fun v1 h1 =>
 aU v1 (
 bnd (aJ 1 x29 x31 h1) fun v2 h2 =>
 bnd (aA v2 h2) fun v3 h3 =>
 bnd (aQ x0 h3) fun v4 h4 =>
 bnd (aB 0 v4 h4) fun v5 h5 =>
 bnd (aA v5 h5) fun v6 h6 =>
 bnd (aCj [v6, x10, x31, v3] h6) fun v7 h7 =>
 bnd (aF .add x31 (.i .i64 (Int.ofNat 1)) h7) fun v8 h8 =>
      kk6 x0 x10 x29 x30 v8 h8) (
      iB r n x10 h1)
noncomputable def pG (r : RT) (n : Nat) (m : Nat) : bU :=
 Nat.rec (motive := fun _ => bU) (fun _ _ _ _ _ _ => none) (fun _ ih => rV r n ih) m
noncomputable def bWm (r : RT) (n : Nat) : bU := pG r n n
noncomputable def bFv (r : RT) (n : Nat) (x0 x10 x29 x30 x31 : DV) (h0 : Hp) : aK :=
 bWm r n x0 x10 x29 x30 x31 h0
noncomputable def bIl (r : RT) (n : Nat) (x0 x3 x10 : DV) (h0 : Hp) : aK :=
 bnd (bO x3 h0) fun v1 h1 =>
  bFv r n x0 x10 x3 v1 (.i .i64 (Int.ofNat 0)) h1
noncomputable def bHl (r : RT) (n : Nat) (x0 x3 x10 x11 : DV) (h0 : Hp) : aK :=
 bnd (aF .neq x11 (.i .i64 (Int.ofNat 0)) h0) fun v1 h1 =>
 aU v1 (
 some (.t [(.i .i64 (Int.ofNat 0)), x11], h1)) (
  bIl r n x0 x3 x10 h1)
noncomputable def bFj (r : RT) (n : Nat) (x0 x1 x2 x3 : DV) (h0 : Hp) : aK :=
 bnd (aQ x0 h0) fun v1 h1 =>
 bnd (aB 0 v1 h1) fun v2 h2 =>
 bnd (aA v2 h2) fun v3 h3 =>
 bnd (bO x3 h3) fun v4 h4 =>
 bnd (oQ [v3, x1, x2, v4] h4) fun v5 h5 =>
 bnd (aH 0 v5 h5) fun v6 h6 =>
 bnd (aH 1 v5 h6) fun v7 h7 =>
  bHl r n x0 x3 v6 v7 h7
noncomputable def s87 (r : RT) (n : Nat) (x0 x1 x2 x3 : DV) (h0 : Hp) : aK :=
 bFj r n x0 x1 x2 x3 h0
noncomputable abbrev c87 : Code := cf Tryz.f87
noncomputable abbrev bGy : Code := cR c87
noncomputable abbrev bDk : Code := cR bGy
noncomputable abbrev bGh : Code := cR bDk
noncomputable abbrev eFd : Code := cR bGh
noncomputable abbrev aRk : Code := cL bGh
noncomputable abbrev cHz : Code := cR aRk
noncomputable abbrev bHg : Code := cL cHz
noncomputable abbrev aAl : Code := cL bHg
noncomputable abbrev dJi : Code := cL aRk
noncomputable abbrev bXo : Code := cL bDk
noncomputable abbrev cEy : Code := cL bGy
noncomputable abbrev bUj : Code := cL c87
noncomputable abbrev r87 : K := aR CF Tryz.f87
noncomputable def D87 (r : RT) (n : Nat) (c : Code) (X : Nat → K) (k : K) : K := aM CF r 46 n c X r87 k
theorem dNp : D87 r n eFd x0 r87 = (K1 (iB r n) 10) :=
 (by kernel_rfl)
theorem dGi (kk6 : bU) : D87 r n aAl (xs x0 0 (K1 (iB r n) 10)) (K5 kk6 0 10 29 30 31) = (K5 (rV r n kk6) 0 10 29 30 31) :=
 (by kernel_rfl)
theorem cZx (m : Nat) : aL (fun kk => D87 r n aAl (xs x0 0 (K1 (iB r n) 10)) kk) m = (K5 (pG r n m) 0 10 29 30 31) := by
 induction m with
 | zero => exact (by kernel_rfl : aL (fun kk => D87 r n aAl (xs x0 0 (K1 (iB r n) 10)) kk) 0 = (K5 (pG r n 0) 0 10 29 30 31))
 | succ m ih =>
  refine (by kernel_rfl : aL (fun kk => D87 r n aAl (xs x0 0 (K1 (iB r n) 10)) kk) (m + 1) = D87 r n aAl (xs x0 0 (K1 (iB r n) 10)) (aL (fun kk => D87 r n aAl (xs x0 0 (K1 (iB r n) 10)) kk) m)).trans ?_
  rw [ih]
  exact (dGi r n (pG r n m)).trans (by kernel_rfl)
theorem dWo : D87 r n bHg (xs x0 0 (K1 (iB r n) 10)) (K1 (iB r n) 10) = (K5 (bWm r n) 0 10 29 30 31) :=
 (by kernel_rfl : D87 r n bHg (xs x0 0 (K1 (iB r n) 10)) (K1 (iB r n) 10) = aL (fun kk => D87 r n aAl (xs x0 0 (K1 (iB r n) 10)) kk) n).trans ((cZx r n n).trans (by kernel_rfl))
theorem dRq : D87 r n cHz x0 (K1 (iB r n) 10) = (K5 (bFv r n) 0 10 29 30 31) :=
 (by kernel_rfl : D87 r n cHz x0 (K1 (iB r n) 10) = D87 r n bHg (xs x0 0 (K1 (iB r n) 10)) (K1 (iB r n) 10)).trans
 ((dWo r n).trans (by kernel_rfl))
theorem cSt : D87 r n bGh x0 r87 = D87 r n aRk x0 (K1 (iB r n) 10) :=
 congrArg (fun k => D87 r n aRk x0 k) (dNp r n)
theorem dAb : D87 r n aRk x0 (K1 (iB r n) 10) = D87 r n dJi x0 (K5 (bFv r n) 0 10 29 30 31) :=
 congrArg (fun k => D87 r n dJi x0 k) (dRq r n)
theorem dWb : D87 r n bGh x0 r87 = (K3 (bIl r n) 0 3 10) :=
 (cSt r n).trans
 ((dAb r n).trans
 ((by kernel_rfl)))
theorem dBp : D87 r n bDk x0 r87 = D87 r n bXo x0 (K3 (bIl r n) 0 3 10) :=
 congrArg (fun k => D87 r n bXo x0 k) (dWb r n)
theorem dNl : D87 r n bDk x0 r87 = (K4 (bHl r n) 0 3 10 11) :=
 (dBp r n).trans
 ((by kernel_rfl))
theorem dCa : D87 r n bGy x0 r87 = D87 r n cEy x0 (K4 (bHl r n) 0 3 10 11) :=
 congrArg (fun k => D87 r n cEy x0 k) (dNl r n)
theorem dUg : D87 r n bGy x0 r87 = (K4 (bFj r n) 0 1 2 3) :=
 (dCa r n).trans
 ((by kernel_rfl))
theorem eDo : D87 r n c87 x0 r87 = D87 r n bUj x0 (K4 (bFj r n) 0 1 2 3) :=
 congrArg (fun k => D87 r n bUj x0 k) (dUg r n)
theorem eIk : D87 r n c87 x0 r87 = (K4 (s87 r n) 0 1 2 3) :=
 (eDo r n).trans
 ((by kernel_rfl))
theorem dIy : aE CF r n 87 args h = s87 r n (aO args 0) (aO args 1) (aO args 2) (aO args 3) h :=
 (by kernel_rfl : aE CF r n 87 args h = D87 r n c87 x0 r87 (aI args) h).trans ((congrFun (congrFun (eIk r n) (aI args)) h).trans (by kernel_rfl))
noncomputable def s91 (r : RT) (n : Nat) (x0 : DV) (h0 : Hp) : aK :=
 bnd (aZ cV h0) fun v1 h1 =>
 bnd (r 133 [x0, (.f 134 [] [])] h1) fun v2 h2 =>
 bnd (aH 0 v2 h2) fun v3 h3 =>
 bnd (aH 1 v2 h3) fun v4 h4 =>
 bnd (aH 2 v2 h4) fun v5 h5 =>
 bnd (aC 6 v1 v3 h5) fun _ h6 =>
 bnd (aG 6 v1 h6) fun v7 _ =>
 some (.t [v7, v4, v5], h6)
noncomputable abbrev c91 : Code := cf Tryz.f91
noncomputable abbrev r91 : K := aR CF Tryz.f91
noncomputable def D91 (r : RT) (n : Nat) (c : Code) (X : Nat → K) (k : K) : K := aM CF r 10 n c X r91 k
theorem eLx : D91 r n c91 x0 r91 = (K1 (s91 r n) 0) :=
 (by kernel_rfl)
theorem dYb : aE CF r n 91 args h = s91 r n (aO args 0) h :=
 (by kernel_rfl : aE CF r n 91 args h = D91 r n c91 x0 r91 (aI args) h).trans ((congrFun (congrFun (eLx r n) (aI args)) h).trans (by kernel_rfl))
noncomputable def s92 (r : RT) (n : Nat) (x0 x1 : DV) (h0 : Hp) : aK :=
 bnd (bJ x0 h0) fun v1 h1 =>
 bnd (aZ [(.s []), (aD 0), (aD 0), (aD 0), .l0, .l0] h1) fun v2 h2 =>
 bnd (aG 6 v1 h2) fun v3 h3 =>
 bnd (r 135 [v3, x1, (.b false)] h3) fun v4 h4 =>
 bnd (aH 0 v4 h4) fun v5 h5 =>
 bnd (aH 1 v4 h5) fun v6 h6 =>
 bnd (aH 2 v4 h6) fun v7 h7 =>
 bnd (aC 6 v2 v5 h7) fun _ h8 =>
 bnd (aG 6 v2 h8) fun v9 _ =>
 some (.t [v9, v6, v7], h8)
noncomputable abbrev c92 : Code := cf Tryz.f92
noncomputable abbrev r92 : K := aR CF Tryz.f92
noncomputable def D92 (r : RT) (n : Nat) (c : Code) (X : Nat → K) (k : K) : K := aM CF r 13 n c X r92 k
theorem eKy : D92 r n c92 x0 r92 = (K2 (s92 r n) 0 1) :=
 (by kernel_rfl)
theorem eDa : aE CF r n 92 args h = s92 r n (aO args 0) (aO args 1) h :=
 (by kernel_rfl : aE CF r n 92 args h = D92 r n c92 x0 r92 (aI args) h).trans ((congrFun (congrFun (eKy r n) (aI args)) h).trans (by kernel_rfl))
noncomputable def s93 (r : RT) (n : Nat) (x0 x1 x2 : DV) (h0 : Hp) : aK :=
 bnd (bJ x2 h0) fun v1 h1 =>
 bnd (aG 6 v1 h1) fun v2 h2 =>
 bnd (r 136 [x0, x1, v2] h2) fun v3 h3 =>
 bnd (aH 0 v3 h3) fun v4 h4 =>
 bnd (aH 1 v3 h4) fun v5 h5 =>
 bnd (aF .neq v5 (aD 0) h5) fun v6 h6 =>
 aU v6 (
 some (.t [(aD 0), v5], h6)) (
 bnd (r 111 [x0, v4, (aD 0)] h6) fun v7 h7 =>
 bnd (r 137 [x0, x1, v7, v4] h7) fun v8 h8 =>
 bnd (aF .neq v8 (aD 0) h8) fun v9 h9 =>
 aU v9 (
 some (.t [(aD 0), v8], h9)) (
 some (.t [v4, (aD 0)], h9)))
noncomputable abbrev c93 : Code := cf Tryz.f93
noncomputable abbrev r93 : K := aR CF Tryz.f93
noncomputable def D93 (r : RT) (n : Nat) (c : Code) (X : Nat → K) (k : K) : K := aM CF r 32 n c X r93 k
theorem eIn : D93 r n c93 x0 r93 = (K3 (s93 r n) 0 1 2) :=
 (by kernel_rfl)
theorem eAb : aE CF r n 93 args h = s93 r n (aO args 0) (aO args 1) (aO args 2) h :=
 (by kernel_rfl : aE CF r n 93 args h = D93 r n c93 x0 r93 (aI args) h).trans ((congrFun (congrFun (eIn r n) (aI args)) h).trans (by kernel_rfl))
noncomputable def s96 (r : RT) (n : Nat) (x0 x1 : DV) (h0 : Hp) : aK :=
 bnd (r 110 [x0, x1] h0) fun v1 h1 =>
 bnd (fR .not v1 h1) fun v2 h2 =>
 aU v2 (
 some ((.i .i64 (Int.ofNat 0)), h2)) (
 bnd (r 111 [x0, x1, (.i .i64 (Int.ofNat 1))] h2) fun v3 h3 =>
 some (v3, h3))
noncomputable abbrev c96 : Code := cf Tryz.f96
noncomputable abbrev r96 : K := aR CF Tryz.f96
noncomputable def D96 (r : RT) (n : Nat) (c : Code) (X : Nat → K) (k : K) : K := aM CF r 12 n c X r96 k
theorem eIf : D96 r n c96 x0 r96 = (K2 (s96 r n) 0 1) :=
 (by kernel_rfl)
theorem dIa : aE CF r n 96 args h = s96 r n (aO args 0) (aO args 1) h :=
 (by kernel_rfl : aE CF r n 96 args h = D96 r n c96 x0 r96 (aI args) h).trans ((congrFun (congrFun (eIf r n) (aI args)) h).trans (by kernel_rfl))
end Go.Dd

namespace Go.Dd
open Go.Proofs
variable (r : RT) (n : Nat) (args : List DV) (h : Hp)
noncomputable def s106 (r : RT) (n : Nat) (x0 x1 : DV) (h0 : Hp) : aK :=
 bnd (r 110 [x0, x1] h0) fun v1 h1 =>
 bnd (fR .not v1 h1) fun v2 h2 =>
 aU v2 (
 some ((.i .i64 (Int.negSucc 0)), h2)) (
 bnd (r 111 [x0, x1, (aD 5)] h2) fun v3 h3 =>
 bnd (mF [v3] h3) fun v4 h4 =>
 some (v4, h4))
noncomputable abbrev c106 : Code := cf Tryz.f106
noncomputable abbrev r106 : K := aR CF Tryz.f106
noncomputable def D106 (r : RT) (n : Nat) (c : Code) (X : Nat → K) (k : K) : K := aM CF r 13 n c X r106 k
theorem eGt : D106 r n c106 x0 r106 = (K2 (s106 r n) 0 1) :=
 (by kernel_rfl)
theorem dLj : aE CF r n 106 args h = s106 r n (aO args 0) (aO args 1) h :=
 (by kernel_rfl : aE CF r n 106 args h = D106 r n c106 x0 r106 (aI args) h).trans ((congrFun (congrFun (eGt r n) (aI args)) h).trans (by kernel_rfl))
noncomputable def s110 (r : RT) (n : Nat) (x0 x1 : DV) (h0 : Hp) : aK :=
 bnd (aQ x0 h0) fun v1 h1 =>
 bnd (aB 0 v1 h1) fun v2 h2 =>
 bnd (aA v2 h2) fun v3 h3 =>
 bnd (isF [v3, x1] h3) fun v4 h4 =>
 bnd (gD v4 true (some (x0, h4)) h4) fun v5 h5 =>
 bnd (gD v4 true (aQ v5 h5) h5) fun v6 h6 =>
 bnd (gD v4 true (aB 0 v6 h6) h6) fun v7 h7 =>
 bnd (gD v4 true (aA v7 h7) h7) fun v8 h8 =>
 bnd (gD v4 true (some (x1, h8)) h8) fun v9 h9 =>
 bnd (gD v4 true (kV [v8, v9] h9) h9) fun v10 h10 =>
 bnd (gD v4 true (some (x0, h10)) h10) fun v11 h11 =>
 bnd (gD v4 true (r 34 [v11, (.i .i64 (Int.ofNat 1))] h11) h11) fun v12 h12 =>
 bnd (gD v4 true (aF .eql v10 v12 h12) h12) fun v13 h13 =>
 bnd (aP v4 v13 (.b false) h13) fun v14 h14 =>
 bnd (gD v14 true (some (x0, h14)) h14) fun v15 h15 =>
 bnd (gD v14 true (aQ v15 h15) h15) fun v16 h16 =>
 bnd (gD v14 true (aB 0 v16 h16) h16) fun v17 h17 =>
 bnd (gD v14 true (aA v17 h17) h17) fun v18 h18 =>
 bnd (gD v14 true (some (x1, h18)) h18) fun v19 h19 =>
 bnd (gD v14 true (jO [v18, v19] h19) h19) fun v20 h20 =>
 bnd (gD v14 true (aF .eql v20 (.i .i64 (Int.ofNat 6)) h20) h20) fun v21 h21 =>
 bnd (aP v14 v21 (.b false) h21) fun v22 h22 =>
 some (v22, h22)
noncomputable abbrev c110 : Code := cf Tryz.f110
noncomputable abbrev r110 : K := aR CF Tryz.f110
noncomputable def D110 (r : RT) (n : Nat) (c : Code) (X : Nat → K) (k : K) : K := aM CF r 31 n c X r110 k
theorem dYh : D110 r n c110 x0 r110 = (K2 (s110 r n) 0 1) :=
 (by kernel_rfl)
theorem cCz : aE CF r n 110 args h = s110 r n (aO args 0) (aO args 1) h :=
 (by kernel_rfl : aE CF r n 110 args h = D110 r n c110 x0 r110 (aI args) h).trans ((congrFun (congrFun (dYh r n) (aI args)) h).trans (by kernel_rfl))
noncomputable def s111 (r : RT) (n : Nat) (x0 x1 x2 : DV) (h0 : Hp) : aK :=
 bnd (aQ x0 h0) fun v1 h1 =>
 bnd (aB 0 v1 h1) fun v2 h2 =>
 bnd (aA v2 h2) fun v3 h3 =>
 bnd (aPt [v3, x1, x2] h3) fun v4 h4 =>
 bnd (aH 0 v4 h4) fun v5 h5 =>
 bnd (aH 1 v4 h5) fun v6 h6 =>
 some (v5, h6)
noncomputable abbrev c111 : Code := cf Tryz.f111
noncomputable abbrev r111 : K := aR CF Tryz.f111
noncomputable def D111 (r : RT) (n : Nat) (c : Code) (X : Nat → K) (k : K) : K := aM CF r 20 n c X r111 k
theorem eBo : D111 r n c111 x0 r111 = (K3 (s111 r n) 0 1 2) :=
 (by kernel_rfl)
theorem bZi : aE CF r n 111 args h = s111 r n (aO args 0) (aO args 1) (aO args 2) h :=
 (by kernel_rfl : aE CF r n 111 args h = D111 r n c111 x0 r111 (aI args) h).trans ((congrFun (congrFun (eBo r n) (aI args)) h).trans (by kernel_rfl))
end Go.Dd

namespace Go.Dd
open Go.Proofs
variable (r : RT) (n : Nat) (args : List DV) (h : Hp)
noncomputable def eQ (r : RT) (n : Nat) (x2 : DV) (h0 : Hp) : aK :=
 bnd (aB 5 x2 h0) fun v1 h1 =>
 bnd (aA v1 h1) fun v2 h2 =>
 bnd (r 147 [v2] h2) fun v3 h3 =>
 bnd (aB 5 x2 h3) fun v4 h4 =>
 bnd (aA v4 h4) fun v5 h5 =>
 bnd (r 148 [v5, v3] h5) fun v6 h6 =>
 bnd (fR .not v6 h6) fun v7 h7 =>
 aU v7 (
 some (.t [.l0, (aD 19)], h7)) (
 bnd (aB 5 x2 h7) fun v8 h8 =>
 bnd (aA v8 h8) fun v9 h9 =>
 bnd (r 149 [v9, v3] h9) fun v10 h10 =>
 bnd (aH 0 v10 h10) fun v11 h11 =>
 bnd (aH 1 v10 h11) fun v12 h12 =>
 bnd (fR .not v12 h12) fun v13 h13 =>
 aU v13 (
 some (.t [.l0, (aD 19)], h13)) (
 some (.t [v11, (aD 0)], h13)))
noncomputable def aIu (r : RT) (n : Nat) (kk7 : bU) (x1 x2 x60 x61 x62 : DV) (h0 : Hp) : aK :=
 bnd (aF .lss x62 x61 h0) fun v1 h1 =>
 aU v1 (
 bnd (aJ 3 x60 x62 h1) fun v2 h2 =>
 bnd (aG 3 v2 h2) fun v3 h3 =>
 bnd (aZ [(aD 0), (aD 0), (aD 0)] h3) fun v4 h4 =>
 bnd (aC 3 v4 v3 h4) fun _ h5 =>
 bnd (aG 3 v4 h5) fun v6 h6 =>
 bnd (r 145 [v6] h6) fun v7 h7 =>
 bnd (fR .not v7 h7) fun v8 h8 =>
 bnd (gD v8 false (aG 6 x2 h8) h8) fun v9 h9 =>
 bnd (gD v8 false (aG 3 v4 h9) h9) fun v10 h10 =>
 bnd (gD v8 false (some (x1, h10)) h10) fun v11 h11 =>
 bnd (gD v8 false (r 146 [v9, v10, v11] h11) h11) fun v12 h12 =>
 bnd (gD v8 false (fR .not v12 h12) h12) fun v13 h13 =>
 bnd (aP v8 (.b true) v13 h13) fun v14 h14 =>
 aU v14 (
 some (.t [.l0, (aD 19)], h14)) (
 bnd (aF .add x62 (aD 1) h14) fun v15 h15 =>
    kk7 x1 x2 x60 x61 v15 h15)) (
      eQ r n x2 h1)
noncomputable def uM (r : RT) (n : Nat) (m : Nat) : bU :=
 Nat.rec (motive := fun _ => bU) (fun _ _ _ _ _ _ => none) (fun _ ih => aIu r n ih) m
noncomputable def cCb (r : RT) (n : Nat) : bU := uM r n n
noncomputable def aYr (r : RT) (n : Nat) (x1 x2 x60 x61 x62 : DV) (h0 : Hp) : aK :=
 cCb r n x1 x2 x60 x61 x62 h0
noncomputable def aZu (r : RT) (n : Nat) (x1 x2 : DV) (h0 : Hp) : aK :=
 bnd (aB 5 x2 h0) fun v1 h1 =>
 bnd (aA v1 h1) fun v2 h2 =>
 bnd (bO v2 h2) fun v3 h3 =>
  aYr r n x1 x2 v2 v3 (aD 0) h3
noncomputable def aTo (r : RT) (n : Nat) (x1 x2 x6 x7 : DV) (h0 : Hp) : aK :=
 bnd (fR .not x6 h0) fun v1 h1 =>
 bnd (gD v1 false (some (x7, h1)) h1) fun v2 h2 =>
 bnd (aP v1 (.b true) v2 h2) fun v3 h3 =>
 bnd (gD v3 false (aB 4 x2 h3) h3) fun v4 h4 =>
 bnd (gD v3 false (aA v4 h4) h4) fun v5 h5 =>
 bnd (gD v3 false (bO v5 h5) h5) fun v6 h6 =>
 bnd (gD v3 false (aF .gtr v6 (aD 60) h6) h6) fun v7 h7 =>
 bnd (aP v3 (.b true) v7 h7) fun v8 h8 =>
 bnd (gD v8 false (aB 5 x2 h8) h8) fun v9 h9 =>
 bnd (gD v8 false (aA v9 h9) h9) fun v10 h10 =>
 bnd (gD v8 false (bO v10 h10) h10) fun v11 h11 =>
 bnd (gD v8 false (r 141 [v11, (aD 1), (aD 400)] h11) h11) fun v12 h12 =>
 bnd (gD v8 false (fR .not v12 h12) h12) fun v13 h13 =>
 bnd (aP v8 (.b true) v13 h13) fun v14 h14 =>
 aU v14 (
 some (.t [.l0, (aD 19)], h14)) (
  aZu r n x1 x2 h14)
noncomputable def aXk (r : RT) (n : Nat) (x1 x2 x6 : DV) (h0 : Hp) : aK :=
 bnd (aB 4 x2 h0) fun v1 h1 =>
 bnd (aA v1 h1) fun v2 h2 =>
 bnd (r 142 [v2, (.f 143 [] [])] h2) fun v3 h3 =>
  aTo r n x1 x2 x6 v3 h3
noncomputable def yA (r : RT) (n : Nat) (x1 x2 : DV) (h0 : Hp) : aK :=
 bnd (r 141 [x1, (aD 0), (aD 8)] h0) fun v1 h1 =>
 bnd (gD v1 true (aB 0 x2 h1) h1) fun v2 h2 =>
 bnd (gD v1 true (aA v2 h2) h2) fun v3 h3 =>
 bnd (gD v1 true (eC v3 h3) h3) fun v4 h4 =>
 bnd (gD v1 true (r 141 [v4, (aD 1), (aD 60)] h4) h4) fun v5 h5 =>
 bnd (aP v1 v5 (.b false) h5) fun v6 h6 =>
 bnd (gD v6 true (aB 1 x2 h6) h6) fun v7 h7 =>
 bnd (gD v6 true (aA v7 h7) h7) fun v8 h8 =>
 bnd (gD v6 true (r 141 [v8, (aD 0), (aD 4)] h8) h8) fun v9 h9 =>
 bnd (aP v6 v9 (.b false) h9) fun v10 h10 =>
 bnd (gD v10 true (aB 2 x2 h10) h10) fun v11 h11 =>
 bnd (gD v10 true (aA v11 h11) h11) fun v12 h12 =>
 bnd (gD v10 true (aB 1 x2 h12) h12) fun v13 h13 =>
 bnd (gD v10 true (aA v13 h13) h13) fun v14 h14 =>
 bnd (gD v10 true (r 141 [v12, v14, (aD 24)] h14) h14) fun v15 h15 =>
 bnd (aP v10 v15 (.b false) h15) fun v16 h16 =>
 bnd (gD v16 true (aB 3 x2 h16) h16) fun v17 h17 =>
 bnd (gD v16 true (aA v17 h17) h17) fun v18 h18 =>
 bnd (gD v16 true (r 141 [v18, (aD 0), (aD 255)] h18) h18) fun v19 h19 =>
 bnd (aP v16 v19 (.b false) h19) fun v20 h20 =>
  aXk r n x1 x2 v20 h20
noncomputable def s116 (r : RT) (n : Nat) (x0 x1 : DV) (h0 : Hp) : aK :=
 bnd (bJ x0 h0) fun v1 h1 =>
  yA r n x1 v1 h1
noncomputable abbrev c116 : Code := cf Tryz.f116
noncomputable abbrev aEb : Code := cR c116
noncomputable abbrev aHf : Code := cR aEb
noncomputable abbrev aIa : Code := cR aHf
noncomputable abbrev aOd : Code := cR aIa
noncomputable abbrev dWx : Code := cR aOd
noncomputable abbrev aBq : Code := cL aOd
noncomputable abbrev aYu : Code := cR aBq
noncomputable abbrev aDl : Code := cL aYu
noncomputable abbrev nK : Code := cL aDl
noncomputable abbrev bFy : Code := cL aBq
noncomputable abbrev bJd : Code := cL aIa
noncomputable abbrev bKg : Code := cL aHf
noncomputable abbrev bFo : Code := cL aEb
noncomputable abbrev aLr : Code := cL c116
noncomputable abbrev r116 : K := aR CF Tryz.f116
noncomputable def D116 (r : RT) (n : Nat) (c : Code) (X : Nat → K) (k : K) : K := aM CF r 95 n c X r116 k
theorem dBk : D116 r n dWx x0 r116 = (K1 (eQ r n) 2) :=
 (by kernel_rfl)
theorem bWb (kk7 : bU) (q0 : TT1) : D116 r n nK (xs x0 0 (K1 q0 2)) (K5 kk7 1 2 60 61 62) = fun (env : bB) (h : Hp) =>
 bnd (aF .lss (env 62) (env 61) h) fun v1 h1 =>
 aU v1 (
 bnd (aJ 3 (env 60) (env 62) h1) fun v2 h2 =>
 bnd (aG 3 v2 h2) fun v3 h3 =>
 bnd (aZ [(aD 0), (aD 0), (aD 0)] h3) fun v4 h4 =>
 bnd (aC 3 v4 v3 h4) fun _ h5 =>
 bnd (aG 3 v4 h5) fun v6 h6 =>
 bnd (r 145 [v6] h6) fun v7 h7 =>
 bnd (fR .not v7 h7) fun v8 h8 =>
 bnd (gD v8 false (aG 6 (env 2) h8) h8) fun v9 h9 =>
 bnd (gD v8 false (aG 3 v4 h9) h9) fun v10 h10 =>
 bnd (gD v8 false (some ((env 1), h10)) h10) fun v11 h11 =>
 bnd (gD v8 false (r 146 [v9, v10, v11] h11) h11) fun v12 h12 =>
 bnd (gD v8 false (fR .not v12 h12) h12) fun v13 h13 =>
 bnd (aP v8 (.b true) v13 h13) fun v14 h14 =>
 aU v14 (
 some (.t [.l0, (aD 19)], h14)) (
 bnd (aF .add (env 62) (aD 1) h14) fun v15 h15 =>
    kk7 (env 1) (env 2) (env 60) (env 61) v15 h15)) (
      q0 (env 2) h1) := by kernel_rfl
theorem bKx (kk7 : bU) : (fun (env : bB) (h : Hp) =>
 bnd (aF .lss (env 62) (env 61) h) fun v1 h1 =>
 aU v1 (
 bnd (aJ 3 (env 60) (env 62) h1) fun v2 h2 =>
 bnd (aG 3 v2 h2) fun v3 h3 =>
 bnd (aZ [(aD 0), (aD 0), (aD 0)] h3) fun v4 h4 =>
 bnd (aC 3 v4 v3 h4) fun _ h5 =>
 bnd (aG 3 v4 h5) fun v6 h6 =>
 bnd (r 145 [v6] h6) fun v7 h7 =>
 bnd (fR .not v7 h7) fun v8 h8 =>
 bnd (gD v8 false (aG 6 (env 2) h8) h8) fun v9 h9 =>
 bnd (gD v8 false (aG 3 v4 h9) h9) fun v10 h10 =>
 bnd (gD v8 false (some ((env 1), h10)) h10) fun v11 h11 =>
 bnd (gD v8 false (r 146 [v9, v10, v11] h11) h11) fun v12 h12 =>
 bnd (gD v8 false (fR .not v12 h12) h12) fun v13 h13 =>
 bnd (aP v8 (.b true) v13 h13) fun v14 h14 =>
 aU v14 (
 some (.t [.l0, (aD 19)], h14)) (
 bnd (aF .add (env 62) (aD 1) h14) fun v15 h15 =>
    kk7 (env 1) (env 2) (env 60) (env 61) v15 h15)) (
      eQ r n (env 2) h1)) = (K5 (aIu r n kk7) 1 2 60 61 62) := by kernel_rfl
theorem cMu (kk7 : bU) : D116 r n nK (xs x0 0 (K1 (eQ r n) 2)) (K5 kk7 1 2 60 61 62) = (K5 (aIu r n kk7) 1 2 60 61 62) :=
 (bWb r n kk7 (eQ r n)).trans (bKx r n kk7)
theorem cEz (m : Nat) : aL (fun kk => D116 r n nK (xs x0 0 (K1 (eQ r n) 2)) kk) m = (K5 (uM r n m) 1 2 60 61 62) := by
 induction m with
 | zero => exact (by kernel_rfl : aL (fun kk => D116 r n nK (xs x0 0 (K1 (eQ r n) 2)) kk) 0 = (K5 (uM r n 0) 1 2 60 61 62))
 | succ m ih =>
  refine (by kernel_rfl : aL (fun kk => D116 r n nK (xs x0 0 (K1 (eQ r n) 2)) kk) (m + 1) = D116 r n nK (xs x0 0 (K1 (eQ r n) 2)) (aL (fun kk => D116 r n nK (xs x0 0 (K1 (eQ r n) 2)) kk) m)).trans ?_
  rw [ih]
  exact (cMu r n (uM r n m)).trans (by kernel_rfl)
theorem dBf : D116 r n aDl (xs x0 0 (K1 (eQ r n) 2)) (K1 (eQ r n) 2) = (K5 (cCb r n) 1 2 60 61 62) :=
 (by kernel_rfl : D116 r n aDl (xs x0 0 (K1 (eQ r n) 2)) (K1 (eQ r n) 2) = aL (fun kk => D116 r n nK (xs x0 0 (K1 (eQ r n) 2)) kk) n).trans ((cEz r n n).trans (by kernel_rfl))
theorem dAv : D116 r n aYu x0 (K1 (eQ r n) 2) = (K5 (aYr r n) 1 2 60 61 62) :=
 (by kernel_rfl : D116 r n aYu x0 (K1 (eQ r n) 2) = D116 r n aDl (xs x0 0 (K1 (eQ r n) 2)) (K1 (eQ r n) 2)).trans
 ((dBf r n).trans (by kernel_rfl))
theorem bWx : D116 r n aOd x0 r116 = D116 r n aBq x0 (K1 (eQ r n) 2) :=
 congrArg (fun k => D116 r n aBq x0 k) (dBk r n)
theorem cKs : D116 r n aBq x0 (K1 (eQ r n) 2) = D116 r n bFy x0 (K5 (aYr r n) 1 2 60 61 62) :=
 congrArg (fun k => D116 r n bFy x0 k) (dAv r n)
theorem cSi : D116 r n aOd x0 r116 = (K2 (aZu r n) 1 2) :=
 (bWx r n).trans
 ((cKs r n).trans
 ((by kernel_rfl)))
theorem cIw : D116 r n aIa x0 r116 = D116 r n bJd x0 (K2 (aZu r n) 1 2) :=
 congrArg (fun k => D116 r n bJd x0 k) (cSi r n)
theorem cUp : D116 r n aIa x0 r116 = (K4 (aTo r n) 1 2 6 7) :=
 (cIw r n).trans
 ((by kernel_rfl))
theorem bQv : D116 r n aHf x0 r116 = D116 r n bKg x0 (K4 (aTo r n) 1 2 6 7) :=
 congrArg (fun k => D116 r n bKg x0 k) (cUp r n)
theorem cVi : D116 r n aHf x0 r116 = (K3 (aXk r n) 1 2 6) :=
 (bQv r n).trans
 ((by kernel_rfl))
theorem cJe : D116 r n aEb x0 r116 = D116 r n bFo x0 (K3 (aXk r n) 1 2 6) :=
 congrArg (fun k => D116 r n bFo x0 k) (cVi r n)
theorem cQs : D116 r n aEb x0 r116 = (K2 (yA r n) 1 2) :=
 (cJe r n).trans
 ((by kernel_rfl))
theorem dPb : D116 r n c116 x0 r116 = D116 r n aLr x0 (K2 (yA r n) 1 2) :=
 congrArg (fun k => D116 r n aLr x0 k) (cQs r n)
theorem dVr (q0 : eK) : D116 r n aLr x0 (K2 q0 1 2) = fun (env : bB) (h : Hp) =>
 bnd (bJ (env 0) h) fun v1 h1 =>
  q0 (env 1) v1 h1 := by kernel_rfl
theorem dCk : (fun (env : bB) (h : Hp) =>
 bnd (bJ (env 0) h) fun v1 h1 =>
  yA r n (env 1) v1 h1) = (K2 (s116 r n) 0 1) := by kernel_rfl
theorem eFo : D116 r n c116 x0 r116 = (K2 (s116 r n) 0 1) :=
 (dPb r n).trans
 ((dVr r n (yA r n)).trans (dCk r n))
theorem dRx : aE CF r n 116 args h = s116 r n (aO args 0) (aO args 1) h :=
 (by kernel_rfl : aE CF r n 116 args h = D116 r n c116 x0 r116 (aI args) h).trans ((congrFun (congrFun (eFo r n) (aI args)) h).trans (by kernel_rfl))
noncomputable def s117 (r : RT) (n : Nat) (x0 x1 : DV) (h0 : Hp) : aK :=
 bnd (eC x1 h0) fun v1 h1 =>
 bnd (aF .gtr v1 (aD 250) h1) fun v2 h2 =>
 aU v2 (
 some (.t [(aD 0), (aD 1)], h2)) (
 bnd (r 34 [x0, (aD 10)] h2) fun v3 h3 =>
 bnd (r 43 [x0, v3, x1] h3) fun v4 h4 =>
 bnd (aH 0 v4 h4) fun v5 h5 =>
 bnd (aH 1 v4 h5) fun v6 h6 =>
 some (.t [v5, v6], h6))
noncomputable abbrev c117 : Code := cf Tryz.f117
noncomputable abbrev r117 : K := aR CF Tryz.f117
noncomputable def D117 (r : RT) (n : Nat) (c : Code) (X : Nat → K) (k : K) : K := aM CF r 16 n c X r117 k
theorem eBb : D117 r n c117 x0 r117 = (K2 (s117 r n) 0 1) :=
 (by kernel_rfl)
theorem dLh : aE CF r n 117 args h = s117 r n (aO args 0) (aO args 1) h :=
 (by kernel_rfl : aE CF r n 117 args h = D117 r n c117 x0 r117 (aI args) h).trans ((congrFun (congrFun (eBb r n) (aI args)) h).trans (by kernel_rfl))
noncomputable def fA (r : RT) (n : Nat) (h0 : Hp) : aK :=
 some ((.i .i64 (Int.negSucc 0)), h0)
noncomputable def bEo (r : RT) (n : Nat) (kk4 : dJ) (x0 x1 x7 x8 : DV) (h0 : Hp) : aK :=
 bnd (aF .lss x8 x7 h0) fun v1 h1 =>
 aU v1 (
 bnd (aJ 1 x0 x8 h1) fun v2 h2 =>
 bnd (aA v2 h2) fun v3 h3 =>
 bnd (dF CF r x1 [v3] h3) fun v4 h4 =>
 aU v4 (
 some (x8, h4)) (
 bnd (aF .add x8 (aD 1) h4) fun v5 h5 =>
    kk4 x0 x1 x7 v5 h5)) (
      fA r n h1)
noncomputable def wX (r : RT) (n : Nat) (m : Nat) : dJ :=
 Nat.rec (motive := fun _ => dJ) (fun _ _ _ _ _ => none) (fun _ ih => bEo r n ih) m
noncomputable def cCu (r : RT) (n : Nat) : dJ := wX r n n
noncomputable def aTz (r : RT) (n : Nat) (x0 x1 x7 x8 : DV) (h0 : Hp) : aK :=
 cCu r n x0 x1 x7 x8 h0
noncomputable def aTe (r : RT) (n : Nat) (x0 x1 : DV) (h0 : Hp) : aK :=
 bnd (bO x0 h0) fun v1 h1 =>
  aTz r n x0 x1 v1 (aD 0) h1
noncomputable def s123 (r : RT) (n : Nat) (x0 x1 : DV) (h0 : Hp) : aK :=
 aTe r n x0 x1 h0
noncomputable abbrev c123 : Code := cf Tryz.f123
noncomputable abbrev aJo : Code := cR c123
noncomputable abbrev dMc : Code := cR aJo
noncomputable abbrev yE : Code := cL aJo
noncomputable abbrev aVg : Code := cR yE
noncomputable abbrev aEi : Code := cL aVg
noncomputable abbrev pD : Code := cL aEi
noncomputable abbrev bUd : Code := cL yE
noncomputable abbrev cGj : Code := cL c123
noncomputable abbrev r123 : K := aR CF Tryz.f123
noncomputable def D123 (r : RT) (n : Nat) (c : Code) (X : Nat → K) (k : K) : K := aM CF r 19 n c X r123 k
theorem cWu : D123 r n dMc x0 r123 = (K0 (fA r n)) :=
 (by kernel_rfl)
theorem bSb (kk4 : dJ) : D123 r n pD (xs x0 0 (K0 (fA r n))) (K4 kk4 0 1 7 8) = (K4 (bEo r n kk4) 0 1 7 8) :=
 (by kernel_rfl)
theorem cCg (m : Nat) : aL (fun kk => D123 r n pD (xs x0 0 (K0 (fA r n))) kk) m = (K4 (wX r n m) 0 1 7 8) := by
 induction m with
 | zero => exact (by kernel_rfl : aL (fun kk => D123 r n pD (xs x0 0 (K0 (fA r n))) kk) 0 = (K4 (wX r n 0) 0 1 7 8))
 | succ m ih =>
  refine (by kernel_rfl : aL (fun kk => D123 r n pD (xs x0 0 (K0 (fA r n))) kk) (m + 1) = D123 r n pD (xs x0 0 (K0 (fA r n))) (aL (fun kk => D123 r n pD (xs x0 0 (K0 (fA r n))) kk) m)).trans ?_
  rw [ih]
  exact (bSb r n (wX r n m)).trans (by kernel_rfl)
theorem cSz : D123 r n aEi (xs x0 0 (K0 (fA r n))) (K0 (fA r n)) = (K4 (cCu r n) 0 1 7 8) :=
 (by kernel_rfl : D123 r n aEi (xs x0 0 (K0 (fA r n))) (K0 (fA r n)) = aL (fun kk => D123 r n pD (xs x0 0 (K0 (fA r n))) kk) n).trans ((cCg r n n).trans (by kernel_rfl))
theorem cTn : D123 r n aVg x0 (K0 (fA r n)) = (K4 (aTz r n) 0 1 7 8) :=
 (by kernel_rfl : D123 r n aVg x0 (K0 (fA r n)) = D123 r n aEi (xs x0 0 (K0 (fA r n))) (K0 (fA r n))).trans
 ((cSz r n).trans (by kernel_rfl))
theorem cLi : D123 r n aJo x0 r123 = D123 r n yE x0 (K0 (fA r n)) :=
 congrArg (fun k => D123 r n yE x0 k) (cWu r n)
theorem cMh : D123 r n yE x0 (K0 (fA r n)) = D123 r n bUd x0 (K4 (aTz r n) 0 1 7 8) :=
 congrArg (fun k => D123 r n bUd x0 k) (cTn r n)
theorem dCr : D123 r n aJo x0 r123 = (K2 (aTe r n) 0 1) :=
 (cLi r n).trans
 ((cMh r n).trans
 ((by kernel_rfl)))
theorem dMu : D123 r n c123 x0 r123 = D123 r n cGj x0 (K2 (aTe r n) 0 1) :=
 congrArg (fun k => D123 r n cGj x0 k) (dCr r n)
theorem eEz : D123 r n c123 x0 r123 = (K2 (s123 r n) 0 1) :=
 (dMu r n).trans
 ((by kernel_rfl))
theorem dNf : aE CF r n 123 args h = s123 r n (aO args 0) (aO args 1) h :=
 (by kernel_rfl : aE CF r n 123 args h = D123 r n c123 x0 r123 (aI args) h).trans ((congrFun (congrFun (eEz r n) (aI args)) h).trans (by kernel_rfl))
end Go.Dd

namespace Go.Dd
open Go.Proofs
variable (r : RT) (n : Nat) (args : List DV) (h : Hp)
noncomputable def s132 (r : RT) (n : Nat) (x0 x1 : DV) (h0 : Hp) : aK :=
 bnd (r 110 [x0, x1] h0) fun v1 h1 =>
 bnd (fR .not v1 h1) fun v2 h2 =>
 aU v2 (
 some ((aD 0), h2)) (
 bnd (r 111 [x0, x1, (aD 2)] h2) fun v3 h3 =>
 bnd (mF [v3] h3) fun v4 h4 =>
 some (v4, h4))
noncomputable abbrev c132 : Code := cf Tryz.f132
noncomputable abbrev r132 : K := aR CF Tryz.f132
noncomputable def D132 (r : RT) (n : Nat) (c : Code) (X : Nat → K) (k : K) : K := aM CF r 13 n c X r132 k
theorem dYs : D132 r n c132 x0 r132 = (K2 (s132 r n) 0 1) :=
 (by kernel_rfl)
theorem dRf : aE CF r n 132 args h = s132 r n (aO args 0) (aO args 1) h :=
 (by kernel_rfl : aE CF r n 132 args h = D132 r n c132 x0 r132 (aI args) h).trans ((congrFun (congrFun (dYs r n) (aI args)) h).trans (by kernel_rfl))
noncomputable def s133 (r : RT) (n : Nat) (x0 x1 : DV) (h0 : Hp) : aK :=
 bnd (aZ cV h0) fun v1 h1 =>
 bnd (r 153 [x0] h1) fun v2 h2 =>
 bnd (aH 0 v2 h2) fun v3 h3 =>
 bnd (aH 1 v2 h3) fun v4 h4 =>
 bnd (aH 2 v2 h4) fun v5 h5 =>
 bnd (aF .neq v5 (aD 0) h5) fun v6 h6 =>
 aU v6 (
 bnd (aS cV [] h6) fun v7 h7 =>
 bnd (aC 6 v1 v7 h7) fun _ h8 =>
 bnd (aG 6 v1 h8) fun v9 _ =>
 some (.t [v9, v4, v5], h8)) (
 bnd (aS [.l0, (aD 0), (aD 0), (aD 0)] [(0, 1, v3)] h6) fun v10 h10 =>
 bnd (bJ v10 h10) fun v11 h11 =>
 bnd (dF CF r x1 [v11] h11) fun v12 h12 =>
 bnd (aZ cV h12) fun v13 h13 =>
 bnd (aC 6 v13 v12 h13) fun _ h14 =>
 bnd (r 154 [v11] h14) fun v15 h15 =>
 bnd (aB 4 v13 h15) fun v16 h16 =>
 bnd (aC 1 v16 v15 h16) fun _ h17 =>
 bnd (r 155 [v11] h17) fun v18 h18 =>
 bnd (aB 5 v13 h18) fun v19 h19 =>
 bnd (aC 1 v19 v18 h19) fun _ h20 =>
 bnd (r 156 [v11, (aD 0), (.s [])] h20) fun v21 h21 =>
 bnd (aQ v11 h21) fun v22 h22 =>
 bnd (aB 3 v22 h22) fun v23 h23 =>
 bnd (aA v23 h23) fun v24 h24 =>
 bnd (aF .neq v24 (aD 0) h24) fun v25 h25 =>
 aU v25 (
 bnd (aS cV [] h25) fun v26 h26 =>
 bnd (aQ v11 h26) fun v27 h27 =>
 bnd (aB 2 v27 h27) fun v28 h28 =>
 bnd (aA v28 h28) fun v29 h29 =>
 bnd (aQ v11 h29) fun v30 h30 =>
 bnd (aB 3 v30 h30) fun v31 h31 =>
 bnd (aA v31 h31) fun v32 h32 =>
 bnd (aC 6 v1 v26 h32) fun v33 h33 =>
 cnd (aX (aA v31 h33) v32 && (aX (aA v28 h33) v29 && true)) (
 bnd (aG 6 v1 h33) fun v34 _ =>
 some (.t [v34, v29, v32], h33))) (
 bnd (aG 6 v13 h25) fun v35 h35 =>
 bnd (aC 6 v1 v35 h35) fun _ h36 =>
 bnd (aG 6 v1 h36) fun v37 _ =>
 some (.t [v37, (aD 0), (aD 0)], h36)))
noncomputable abbrev c133 : Code := cf Tryz.f133
noncomputable abbrev r133 : K := aR CF Tryz.f133
noncomputable def D133 (r : RT) (n : Nat) (c : Code) (X : Nat → K) (k : K) : K := aM CF r 52 n c X r133 k
theorem eFe : D133 r n c133 x0 r133 = (K2 (s133 r n) 0 1) :=
 (by kernel_rfl)
theorem dPk : aE CF r n 133 args h = s133 r n (aO args 0) (aO args 1) h :=
 (by kernel_rfl : aE CF r n 133 args h = D133 r n c133 x0 r133 (aI args) h).trans ((congrFun (congrFun (eFe r n) (aI args)) h).trans (by kernel_rfl))
noncomputable def s134 (r : RT) (n : Nat) (x0 : DV) (h0 : Hp) : aK :=
 bnd (aZ cV h0) fun v1 h1 =>
 bnd (aS cV [(0, 1, (aD 11))] h1) fun v2 h2 =>
 bnd (aZ cV h2) fun v3 h3 =>
 bnd (aC 6 v3 v2 h3) fun _ h4 =>
 bnd (r 157 [x0, v3] h4) fun v5 h5 =>
 bnd (r 158 [x0] h5) fun v6 h6 =>
 bnd (aB 2 v3 h6) fun v7 h7 =>
 bnd (aC 1 v7 v6 h7) fun _ h8 =>
 bnd (aG 6 v3 h8) fun v9 h9 =>
 bnd (aC 6 v1 v9 h9) fun _ h10 =>
 bnd (aG 6 v1 h10) fun v11 _ =>
 some (v11, h10)
noncomputable abbrev c134 : Code := cf Tryz.f134
noncomputable abbrev r134 : K := aR CF Tryz.f134
noncomputable def D134 (r : RT) (n : Nat) (c : Code) (X : Nat → K) (k : K) : K := aM CF r 11 n c X r134 k
theorem eEu : D134 r n c134 x0 r134 = (K1 (s134 r n) 0) :=
 (by kernel_rfl)
theorem dWt : aE CF r n 134 args h = s134 r n (aO args 0) h :=
 (by kernel_rfl : aE CF r n 134 args h = D134 r n c134 x0 r134 (aI args) h).trans ((congrFun (congrFun (eEu r n) (aI args)) h).trans (by kernel_rfl))
noncomputable def eO (r : RT) (n : Nat) (x6 x9 : DV) (h0 : Hp) : aK :=
 bnd (aQ x9 h0) fun v1 h1 =>
 bnd (aB 0 v1 h1) fun v2 h2 =>
 bnd (aG 6 v2 h2) fun v3 h3 =>
 bnd (aC 6 x6 v3 h3) fun _ h4 =>
 bnd (aG 6 x6 h4) fun v5 _ =>
 some (.t [v5, (.s []), (aD 0)], h4)
noncomputable def aGt (r : RT) (n : Nat) (kk9 : bU) (x6 x9 x94 x95 x96 : DV) (h0 : Hp) : aK :=
 bnd (aF .lss x96 x95 h0) fun v1 h1 =>
 aU v1 (
 bnd (aJ 3 x94 x96 h1) fun v2 h2 =>
 bnd (aG 3 v2 h2) fun v3 h3 =>
 bnd (aZ [(aD 0), (aD 0), (aD 0)] h3) fun v4 h4 =>
 bnd (aC 3 v4 v3 h4) fun _ h5 =>
 bnd (aG 3 v4 h5) fun v6 h6 =>
 bnd (r 145 [v6] h6) fun v7 h7 =>
 bnd (fR .not v7 h7) fun v8 h8 =>
 aU v8 (
 bnd (aS [(.s []), (aD 0), (aD 0), (aD 0), .l0, .l0] [] h8) fun v9 h9 =>
 bnd (aC 6 x6 v9 h9) fun _ h10 =>
 bnd (aG 6 x6 h10) fun v11 _ =>
 some (.t [v11, (.s []), (aD 12)], h10)) (
 bnd (aF .add x96 (aD 1) h8) fun v12 h12 =>
    kk9 x6 x9 x94 x95 v12 h12)) (
      eO r n x6 x9 h1)
noncomputable def wM (r : RT) (n : Nat) (m : Nat) : bU :=
 Nat.rec (motive := fun _ => bU) (fun _ _ _ _ _ _ => none) (fun _ ih => aGt r n ih) m
noncomputable def cFf (r : RT) (n : Nat) : bU := wM r n n
noncomputable def aVm (r : RT) (n : Nat) (x6 x9 x94 x95 x96 : DV) (h0 : Hp) : aK :=
 cFf r n x6 x9 x94 x95 x96 h0
noncomputable def aCb (r : RT) (n : Nat) (x6 x9 : DV) (h0 : Hp) : aK :=
 bnd (aQ x9 h0) fun v1 h1 =>
 bnd (aB 0 v1 h1) fun v2 h2 =>
 bnd (aB 5 v2 h2) fun v3 h3 =>
 bnd (aA v3 h3) fun v4 h4 =>
 bnd (bO v4 h4) fun v5 h5 =>
  aVm r n x6 x9 v4 v5 (aD 0) h5
noncomputable def aFy (r : RT) (n : Nat) (x6 x9 : DV) (h0 : Hp) : aK :=
 bnd (aQ x9 h0) fun v1 h1 =>
 bnd (aB 8 v1 h1) fun v2 h2 =>
 bnd (aA v2 h2) fun v3 h3 =>
 bnd (aF .neq v3 (aD 0) h3) fun v4 h4 =>
 aU v4 (
 bnd (aS [(.s []), (aD 0), (aD 0), (aD 0), .l0, .l0] [] h4) fun v5 h5 =>
 bnd (aQ x9 h5) fun v6 h6 =>
 bnd (aB 7 v6 h6) fun v7 h7 =>
 bnd (aA v7 h7) fun v8 h8 =>
 bnd (aQ x9 h8) fun v9 h9 =>
 bnd (aB 8 v9 h9) fun v10 h10 =>
 bnd (aA v10 h10) fun v11 h11 =>
 bnd (aC 6 x6 v5 h11) fun v12 h12 =>
 cnd (aX (aA v10 h12) v11 && (aX (aA v7 h12) v8 && true)) (
 bnd (aG 6 x6 h12) fun v13 _ =>
 some (.t [v13, v8, v11], h12))) (
 bnd (aQ x9 h4) fun v14 h14 =>
 bnd (aB 0 v14 h14) fun v15 h15 =>
 bnd (aB 4 v15 h15) fun v16 h16 =>
 bnd (aA v16 h16) fun v17 h17 =>
 bnd (bO v17 h17) fun v18 h18 =>
 bnd (aF .gtr v18 (aD 60) h18) fun v19 h19 =>
 aU v19 (
 bnd (aS [(.s []), (aD 0), (aD 0), (aD 0), .l0, .l0] [] h19) fun v20 h20 =>
 bnd (aC 6 x6 v20 h20) fun _ h21 =>
 bnd (aG 6 x6 h21) fun v22 _ =>
 some (.t [v22, (.s []), (aD 18)], h21)) (
 bnd (aQ x9 h19) fun v23 h23 =>
 bnd (aB 0 v23 h23) fun v24 h24 =>
 bnd (aB 5 v24 h24) fun v25 h25 =>
 bnd (aA v25 h25) fun v26 h26 =>
 bnd (bO v26 h26) fun v27 h27 =>
 bnd (aF .gtr v27 (aD 400) h27) fun v28 h28 =>
 aU v28 (
 bnd (aS [(.s []), (aD 0), (aD 0), (aD 0), .l0, .l0] [] h28) fun v29 h29 =>
 bnd (aC 6 x6 v29 h29) fun _ h30 =>
 bnd (aG 6 x6 h30) fun v31 _ =>
 some (.t [v31, (.s []), (aD 12)], h30)) (
    aCb r n x6 x9 h28)))
noncomputable def eN (r : RT) (n : Nat) (x2 x3 x6 x9 : DV) (h0 : Hp) : aK :=
 bnd (aG 6 x3 h0) fun v1 h1 =>
 bnd (r 159 [x9, v1, x2] h1) fun v2 h2 =>
  aFy r n x6 x9 h2
noncomputable def yH (r : RT) (n : Nat) (kk11 : TT7) (x2 x3 x6 x9 x33 x34 x35 : DV) (h0 : Hp) : aK :=
 bnd (aF .lss x35 x34 h0) fun v1 h1 =>
 aU v1 (
 bnd (aJ 1 x33 x35 h1) fun v2 h2 =>
 bnd (aA v2 h2) fun v3 h3 =>
 bnd (aQ x9 h3) fun v4 h4 =>
 bnd (aB 6 v4 h4) fun v5 h5 =>
 bnd (aA v5 h5) fun v6 h6 =>
 bnd (aS [(.s []), (.b false), (.b false), (aD 0)] [(0, 1, v3), (1, 1, (.b true)), (2, 1, (.b false)), (3, 1, x35)] h6) fun v7 h7 =>
 bnd (aN [(.s []), (.b false), (.b false), (aD 0)] 1 [(0, 4, v7)] h7) fun v8 h8 =>
 bnd (aY 4 32 v6 v8 h8) fun v9 h9 =>
 bnd (aQ x9 h9) fun v10 h10 =>
 bnd (aB 6 v10 h10) fun v11 h11 =>
 bnd (aC 1 v11 v9 h11) fun _ h12 =>
 bnd (aF .add x35 (aD 1) h12) fun v13 h13 =>
      kk11 x2 x3 x6 x9 x33 x34 v13 h13) (
      eN r n x2 x3 x6 x9 h1)
noncomputable def qF (r : RT) (n : Nat) (m : Nat) : TT7 :=
 Nat.rec (motive := fun _ => TT7) (fun _ _ _ _ _ _ _ _ => none) (fun _ ih => yH r n ih) m
noncomputable def bFe (r : RT) (n : Nat) : TT7 := qF r n n
noncomputable def aHm (r : RT) (n : Nat) (x2 x3 x6 x9 x33 x34 x35 : DV) (h0 : Hp) : aK :=
 bFe r n x2 x3 x6 x9 x33 x34 x35 h0
noncomputable def aAp (r : RT) (n : Nat) (x1 x2 x3 x6 x9 : DV) (h0 : Hp) : aK :=
 bnd (bO x1 h0) fun v1 h1 =>
  aHm r n x2 x3 x6 x9 x1 v1 (aD 0) h1
noncomputable def rY (r : RT) (n : Nat) (x1 x2 x3 x6 : DV) (h0 : Hp) : aK :=
 bnd (aB 1 x3 h0) fun v1 h1 =>
 bnd (aA v1 h1) fun v2 h2 =>
 bnd (aB 3 x3 h2) fun v3 h3 =>
 bnd (aA v3 h3) fun v4 h4 =>
 bnd (bO v4 h4) fun v5 h5 =>
 bnd (aB 2 x3 h5) fun v6 h6 =>
 bnd (aA v6 h6) fun v7 h7 =>
 bnd (aS [(.s []), (aD 0), (aD 0), (aD 0), .l0, .l0] [(0, 1, v2), (1, 1, v5), (3, 1, v7)] h7) fun v8 h8 =>
 bnd (aS [(.s []), (aD 0), (aD 0), (aD 0), .l0, .l0, .l0, (.s []), (aD 0)] [(0, 6, v8)] h8) fun v9 h9 =>
 bnd (bJ v9 h9) fun v10 h10 =>
  aAp r n x1 x2 x3 x6 v10 h10
noncomputable def sS (r : RT) (n : Nat) (x1 x2 x3 x6 : DV) (h0 : Hp) : aK :=
 bnd (aB 0 x3 h0) fun v1 h1 =>
 bnd (aA v1 h1) fun v2 h2 =>
 bnd (aF .neq v2 (aD 11) h2) fun v3 h3 =>
 bnd (gD v3 false (some (x1, h3)) h3) fun v4 h4 =>
 bnd (gD v3 false (bO v4 h4) h4) fun v5 h5 =>
 bnd (gD v3 false (aF .gtr v5 (aD 8) h5) h5) fun v6 h6 =>
 bnd (aP v3 (.b true) v6 h6) fun v7 h7 =>
 aU v7 (
 bnd (aS [(.s []), (aD 0), (aD 0), (aD 0), .l0, .l0] [] h7) fun v8 h8 =>
 bnd (aC 6 x6 v8 h8) fun _ h9 =>
 bnd (aG 6 x6 h9) fun v10 _ =>
 some (.t [v10, (.s []), (aD 1)], h9)) (
  rY r n x1 x2 x3 x6 h7)
noncomputable def s135 (r : RT) (n : Nat) (x0 x1 x2 : DV) (h0 : Hp) : aK :=
 bnd (bJ x0 h0) fun v1 h1 =>
 bnd (aZ [(.s []), (aD 0), (aD 0), (aD 0), .l0, .l0] h1) fun v2 h2 =>
  sS r n x1 x2 v1 v2 h2
noncomputable abbrev c135 : Code := cf Tryz.f135
noncomputable abbrev aEv : Code := cR c135
noncomputable abbrev aEz : Code := cR aEv
noncomputable abbrev aDu : Code := cR aEz
noncomputable abbrev aOe : Code := cR aDu
noncomputable abbrev aGm : Code := cR aOe
noncomputable abbrev aGa : Code := cR aGm
noncomputable abbrev dUx : Code := cR aGa
noncomputable abbrev aBf : Code := cL aGa
noncomputable abbrev aZk : Code := cR aBf
noncomputable abbrev vD : Code := cL aZk
noncomputable abbrev kJ : Code := cL vD
noncomputable abbrev bKn : Code := cL aBf
noncomputable abbrev aHy : Code := cL aGm
noncomputable abbrev bGu : Code := cL aOe
noncomputable abbrev qZ : Code := cL aDu
noncomputable abbrev aEn : Code := cR qZ
noncomputable abbrev uX : Code := cL aEn
noncomputable abbrev kH : Code := cL uX
noncomputable abbrev bIz : Code := cL qZ
noncomputable abbrev aMd : Code := cL aEz
noncomputable abbrev aGb : Code := cL aEv
noncomputable abbrev aPz : Code := cL c135
noncomputable abbrev r135 : K := aR CF Tryz.f135
noncomputable def D135 (r : RT) (n : Nat) (c : Code) (X : Nat → K) (k : K) : K := aM CF r 109 n c X r135 k
theorem cRg : D135 r n dUx x0 r135 = (K2 (eO r n) 6 9) :=
 (by kernel_rfl)
theorem cAk (kk9 : bU) (q0 : eK) : D135 r n kJ (xs x0 3 (K2 q0 6 9)) (K5 kk9 6 9 94 95 96) = fun (env : bB) (h : Hp) =>
 bnd (aF .lss (env 96) (env 95) h) fun v1 h1 =>
 aU v1 (
 bnd (aJ 3 (env 94) (env 96) h1) fun v2 h2 =>
 bnd (aG 3 v2 h2) fun v3 h3 =>
 bnd (aZ [(aD 0), (aD 0), (aD 0)] h3) fun v4 h4 =>
 bnd (aC 3 v4 v3 h4) fun _ h5 =>
 bnd (aG 3 v4 h5) fun v6 h6 =>
 bnd (r 145 [v6] h6) fun v7 h7 =>
 bnd (fR .not v7 h7) fun v8 h8 =>
 aU v8 (
 bnd (aS [(.s []), (aD 0), (aD 0), (aD 0), .l0, .l0] [] h8) fun v9 h9 =>
 bnd (aC 6 (env 6) v9 h9) fun _ h10 =>
 bnd (aG 6 (env 6) h10) fun v11 _ =>
 some (.t [v11, (.s []), (aD 12)], h10)) (
 bnd (aF .add (env 96) (aD 1) h8) fun v12 h12 =>
    kk9 (env 6) (env 9) (env 94) (env 95) v12 h12)) (
      q0 (env 6) (env 9) h1) := by kernel_rfl
theorem bQi (kk9 : bU) : (fun (env : bB) (h : Hp) =>
 bnd (aF .lss (env 96) (env 95) h) fun v1 h1 =>
 aU v1 (
 bnd (aJ 3 (env 94) (env 96) h1) fun v2 h2 =>
 bnd (aG 3 v2 h2) fun v3 h3 =>
 bnd (aZ [(aD 0), (aD 0), (aD 0)] h3) fun v4 h4 =>
 bnd (aC 3 v4 v3 h4) fun _ h5 =>
 bnd (aG 3 v4 h5) fun v6 h6 =>
 bnd (r 145 [v6] h6) fun v7 h7 =>
 bnd (fR .not v7 h7) fun v8 h8 =>
 aU v8 (
 bnd (aS [(.s []), (aD 0), (aD 0), (aD 0), .l0, .l0] [] h8) fun v9 h9 =>
 bnd (aC 6 (env 6) v9 h9) fun _ h10 =>
 bnd (aG 6 (env 6) h10) fun v11 _ =>
 some (.t [v11, (.s []), (aD 12)], h10)) (
 bnd (aF .add (env 96) (aD 1) h8) fun v12 h12 =>
    kk9 (env 6) (env 9) (env 94) (env 95) v12 h12)) (
      eO r n (env 6) (env 9) h1)) = (K5 (aGt r n kk9) 6 9 94 95 96) := by kernel_rfl
theorem cNz (kk9 : bU) : D135 r n kJ (xs x0 3 (K2 (eO r n) 6 9)) (K5 kk9 6 9 94 95 96) = (K5 (aGt r n kk9) 6 9 94 95 96) :=
 (cAk r n kk9 (eO r n)).trans (bQi r n kk9)
theorem bUb (m : Nat) : aL (fun kk => D135 r n kJ (xs x0 3 (K2 (eO r n) 6 9)) kk) m = (K5 (wM r n m) 6 9 94 95 96) := by
 induction m with
 | zero => exact (by kernel_rfl : aL (fun kk => D135 r n kJ (xs x0 3 (K2 (eO r n) 6 9)) kk) 0 = (K5 (wM r n 0) 6 9 94 95 96))
 | succ m ih =>
  refine (by kernel_rfl : aL (fun kk => D135 r n kJ (xs x0 3 (K2 (eO r n) 6 9)) kk) (m + 1) = D135 r n kJ (xs x0 3 (K2 (eO r n) 6 9)) (aL (fun kk => D135 r n kJ (xs x0 3 (K2 (eO r n) 6 9)) kk) m)).trans ?_
  rw [ih]
  exact (cNz r n (wM r n m)).trans (by kernel_rfl)
theorem cZd : D135 r n vD (xs x0 3 (K2 (eO r n) 6 9)) (K2 (eO r n) 6 9) = (K5 (cFf r n) 6 9 94 95 96) :=
 (by kernel_rfl : D135 r n vD (xs x0 3 (K2 (eO r n) 6 9)) (K2 (eO r n) 6 9) = aL (fun kk => D135 r n kJ (xs x0 3 (K2 (eO r n) 6 9)) kk) n).trans ((bUb r n n).trans (by kernel_rfl))
theorem dDh : D135 r n aZk x0 (K2 (eO r n) 6 9) = (K5 (aVm r n) 6 9 94 95 96) :=
 (by kernel_rfl : D135 r n aZk x0 (K2 (eO r n) 6 9) = D135 r n vD (xs x0 3 (K2 (eO r n) 6 9)) (K2 (eO r n) 6 9)).trans
 ((cZd r n).trans (by kernel_rfl))
theorem cNr : D135 r n aGa x0 r135 = D135 r n aBf x0 (K2 (eO r n) 6 9) :=
 congrArg (fun k => D135 r n aBf x0 k) (cRg r n)
theorem cAq : D135 r n aBf x0 (K2 (eO r n) 6 9) = D135 r n bKn x0 (K5 (aVm r n) 6 9 94 95 96) :=
 congrArg (fun k => D135 r n bKn x0 k) (dDh r n)
theorem dCw : D135 r n aGa x0 r135 = (K2 (aCb r n) 6 9) :=
 (cNr r n).trans
 ((cAq r n).trans
 ((by kernel_rfl)))
theorem cOn : D135 r n aGm x0 r135 = D135 r n aHy x0 (K2 (aCb r n) 6 9) :=
 congrArg (fun k => D135 r n aHy x0 k) (dCw r n)
theorem bZf (q0 : eK) : D135 r n aHy x0 (K2 q0 6 9) = fun (env : bB) (h : Hp) =>
 bnd (aQ (env 9) h) fun v1 h1 =>
 bnd (aB 8 v1 h1) fun v2 h2 =>
 bnd (aA v2 h2) fun v3 h3 =>
 bnd (aF .neq v3 (aD 0) h3) fun v4 h4 =>
 aU v4 (
 bnd (aS [(.s []), (aD 0), (aD 0), (aD 0), .l0, .l0] [] h4) fun v5 h5 =>
 bnd (aQ (env 9) h5) fun v6 h6 =>
 bnd (aB 7 v6 h6) fun v7 h7 =>
 bnd (aA v7 h7) fun v8 h8 =>
 bnd (aQ (env 9) h8) fun v9 h9 =>
 bnd (aB 8 v9 h9) fun v10 h10 =>
 bnd (aA v10 h10) fun v11 h11 =>
 bnd (aC 6 (env 6) v5 h11) fun v12 h12 =>
 cnd (aX (aA v10 h12) v11 && (aX (aA v7 h12) v8 && true)) (
 bnd (aG 6 (env 6) h12) fun v13 _ =>
 some (.t [v13, v8, v11], h12))) (
 bnd (aQ (env 9) h4) fun v14 h14 =>
 bnd (aB 0 v14 h14) fun v15 h15 =>
 bnd (aB 4 v15 h15) fun v16 h16 =>
 bnd (aA v16 h16) fun v17 h17 =>
 bnd (bO v17 h17) fun v18 h18 =>
 bnd (aF .gtr v18 (aD 60) h18) fun v19 h19 =>
 aU v19 (
 bnd (aS [(.s []), (aD 0), (aD 0), (aD 0), .l0, .l0] [] h19) fun v20 h20 =>
 bnd (aC 6 (env 6) v20 h20) fun _ h21 =>
 bnd (aG 6 (env 6) h21) fun v22 _ =>
 some (.t [v22, (.s []), (aD 18)], h21)) (
 bnd (aQ (env 9) h19) fun v23 h23 =>
 bnd (aB 0 v23 h23) fun v24 h24 =>
 bnd (aB 5 v24 h24) fun v25 h25 =>
 bnd (aA v25 h25) fun v26 h26 =>
 bnd (bO v26 h26) fun v27 h27 =>
 bnd (aF .gtr v27 (aD 400) h27) fun v28 h28 =>
 aU v28 (
 bnd (aS [(.s []), (aD 0), (aD 0), (aD 0), .l0, .l0] [] h28) fun v29 h29 =>
 bnd (aC 6 (env 6) v29 h29) fun _ h30 =>
 bnd (aG 6 (env 6) h30) fun v31 _ =>
 some (.t [v31, (.s []), (aD 12)], h30)) (
     q0 (env 6) (env 9) h28))) := by kernel_rfl
theorem bLs : (fun (env : bB) (h : Hp) =>
 bnd (aQ (env 9) h) fun v1 h1 =>
 bnd (aB 8 v1 h1) fun v2 h2 =>
 bnd (aA v2 h2) fun v3 h3 =>
 bnd (aF .neq v3 (aD 0) h3) fun v4 h4 =>
 aU v4 (
 bnd (aS [(.s []), (aD 0), (aD 0), (aD 0), .l0, .l0] [] h4) fun v5 h5 =>
 bnd (aQ (env 9) h5) fun v6 h6 =>
 bnd (aB 7 v6 h6) fun v7 h7 =>
 bnd (aA v7 h7) fun v8 h8 =>
 bnd (aQ (env 9) h8) fun v9 h9 =>
 bnd (aB 8 v9 h9) fun v10 h10 =>
 bnd (aA v10 h10) fun v11 h11 =>
 bnd (aC 6 (env 6) v5 h11) fun v12 h12 =>
 cnd (aX (aA v10 h12) v11 && (aX (aA v7 h12) v8 && true)) (
 bnd (aG 6 (env 6) h12) fun v13 _ =>
 some (.t [v13, v8, v11], h12))) (
 bnd (aQ (env 9) h4) fun v14 h14 =>
 bnd (aB 0 v14 h14) fun v15 h15 =>
 bnd (aB 4 v15 h15) fun v16 h16 =>
 bnd (aA v16 h16) fun v17 h17 =>
 bnd (bO v17 h17) fun v18 h18 =>
 bnd (aF .gtr v18 (aD 60) h18) fun v19 h19 =>
 aU v19 (
 bnd (aS [(.s []), (aD 0), (aD 0), (aD 0), .l0, .l0] [] h19) fun v20 h20 =>
 bnd (aC 6 (env 6) v20 h20) fun _ h21 =>
 bnd (aG 6 (env 6) h21) fun v22 _ =>
 some (.t [v22, (.s []), (aD 18)], h21)) (
 bnd (aQ (env 9) h19) fun v23 h23 =>
 bnd (aB 0 v23 h23) fun v24 h24 =>
 bnd (aB 5 v24 h24) fun v25 h25 =>
 bnd (aA v25 h25) fun v26 h26 =>
 bnd (bO v26 h26) fun v27 h27 =>
 bnd (aF .gtr v27 (aD 400) h27) fun v28 h28 =>
 aU v28 (
 bnd (aS [(.s []), (aD 0), (aD 0), (aD 0), .l0, .l0] [] h28) fun v29 h29 =>
 bnd (aC 6 (env 6) v29 h29) fun _ h30 =>
 bnd (aG 6 (env 6) h30) fun v31 _ =>
 some (.t [v31, (.s []), (aD 12)], h30)) (
     aCb r n (env 6) (env 9) h28)))) = (K2 (aFy r n) 6 9) := by kernel_rfl
theorem cYq : D135 r n aGm x0 r135 = (K2 (aFy r n) 6 9) :=
 (cOn r n).trans
 ((bZf r n (aCb r n)).trans (bLs r n))
theorem cLh : D135 r n aOe x0 r135 = D135 r n bGu x0 (K2 (aFy r n) 6 9) :=
 congrArg (fun k => D135 r n bGu x0 k) (cYq r n)
theorem cQj : D135 r n aOe x0 r135 = (K4 (eN r n) 2 3 6 9) :=
 (cLh r n).trans
 ((by kernel_rfl))
theorem bOi (kk11 : TT7) (q0 : dJ) : D135 r n kH (xs x0 0 (K4 q0 2 3 6 9)) (K7 kk11 2 3 6 9 33 34 35) = fun (env : bB) (h : Hp) =>
 bnd (aF .lss (env 35) (env 34) h) fun v1 h1 =>
 aU v1 (
 bnd (aJ 1 (env 33) (env 35) h1) fun v2 h2 =>
 bnd (aA v2 h2) fun v3 h3 =>
 bnd (aQ (env 9) h3) fun v4 h4 =>
 bnd (aB 6 v4 h4) fun v5 h5 =>
 bnd (aA v5 h5) fun v6 h6 =>
 bnd (aS [(.s []), (.b false), (.b false), (aD 0)] [(0, 1, v3), (1, 1, (.b true)), (2, 1, (.b false)), (3, 1, (env 35))] h6) fun v7 h7 =>
 bnd (aN [(.s []), (.b false), (.b false), (aD 0)] 1 [(0, 4, v7)] h7) fun v8 h8 =>
 bnd (aY 4 32 v6 v8 h8) fun v9 h9 =>
 bnd (aQ (env 9) h9) fun v10 h10 =>
 bnd (aB 6 v10 h10) fun v11 h11 =>
 bnd (aC 1 v11 v9 h11) fun _ h12 =>
 bnd (aF .add (env 35) (aD 1) h12) fun v13 h13 =>
      kk11 (env 2) (env 3) (env 6) (env 9) (env 33) (env 34) v13 h13) (
      q0 (env 2) (env 3) (env 6) (env 9) h1) := by kernel_rfl
theorem bBm (kk11 : TT7) : (fun (env : bB) (h : Hp) =>
 bnd (aF .lss (env 35) (env 34) h) fun v1 h1 =>
 aU v1 (
 bnd (aJ 1 (env 33) (env 35) h1) fun v2 h2 =>
 bnd (aA v2 h2) fun v3 h3 =>
 bnd (aQ (env 9) h3) fun v4 h4 =>
 bnd (aB 6 v4 h4) fun v5 h5 =>
 bnd (aA v5 h5) fun v6 h6 =>
 bnd (aS [(.s []), (.b false), (.b false), (aD 0)] [(0, 1, v3), (1, 1, (.b true)), (2, 1, (.b false)), (3, 1, (env 35))] h6) fun v7 h7 =>
 bnd (aN [(.s []), (.b false), (.b false), (aD 0)] 1 [(0, 4, v7)] h7) fun v8 h8 =>
 bnd (aY 4 32 v6 v8 h8) fun v9 h9 =>
 bnd (aQ (env 9) h9) fun v10 h10 =>
 bnd (aB 6 v10 h10) fun v11 h11 =>
 bnd (aC 1 v11 v9 h11) fun _ h12 =>
 bnd (aF .add (env 35) (aD 1) h12) fun v13 h13 =>
      kk11 (env 2) (env 3) (env 6) (env 9) (env 33) (env 34) v13 h13) (
      eN r n (env 2) (env 3) (env 6) (env 9) h1)) = (K7 (yH r n kk11) 2 3 6 9 33 34 35) := by kernel_rfl
theorem bNe (kk11 : TT7) : D135 r n kH (xs x0 0 (K4 (eN r n) 2 3 6 9)) (K7 kk11 2 3 6 9 33 34 35) = (K7 (yH r n kk11) 2 3 6 9 33 34 35) :=
 (bOi r n kk11 (eN r n)).trans (bBm r n kk11)
theorem bLn (m : Nat) : aL (fun kk => D135 r n kH (xs x0 0 (K4 (eN r n) 2 3 6 9)) kk) m = (K7 (qF r n m) 2 3 6 9 33 34 35) := by
 induction m with
 | zero => exact (by kernel_rfl : aL (fun kk => D135 r n kH (xs x0 0 (K4 (eN r n) 2 3 6 9)) kk) 0 = (K7 (qF r n 0) 2 3 6 9 33 34 35))
 | succ m ih =>
  refine (by kernel_rfl : aL (fun kk => D135 r n kH (xs x0 0 (K4 (eN r n) 2 3 6 9)) kk) (m + 1) = D135 r n kH (xs x0 0 (K4 (eN r n) 2 3 6 9)) (aL (fun kk => D135 r n kH (xs x0 0 (K4 (eN r n) 2 3 6 9)) kk) m)).trans ?_
  rw [ih]
  exact (bNe r n (qF r n m)).trans (by kernel_rfl)
theorem bRd : D135 r n uX (xs x0 0 (K4 (eN r n) 2 3 6 9)) (K4 (eN r n) 2 3 6 9) = (K7 (bFe r n) 2 3 6 9 33 34 35) :=
 (by kernel_rfl : D135 r n uX (xs x0 0 (K4 (eN r n) 2 3 6 9)) (K4 (eN r n) 2 3 6 9) = aL (fun kk => D135 r n kH (xs x0 0 (K4 (eN r n) 2 3 6 9)) kk) n).trans ((bLn r n n).trans (by kernel_rfl))
theorem cKb : D135 r n aEn x0 (K4 (eN r n) 2 3 6 9) = (K7 (aHm r n) 2 3 6 9 33 34 35) :=
 (by kernel_rfl : D135 r n aEn x0 (K4 (eN r n) 2 3 6 9) = D135 r n uX (xs x0 0 (K4 (eN r n) 2 3 6 9)) (K4 (eN r n) 2 3 6 9)).trans
 ((bRd r n).trans (by kernel_rfl))
theorem cFw : D135 r n aDu x0 r135 = D135 r n qZ x0 (K4 (eN r n) 2 3 6 9) :=
 congrArg (fun k => D135 r n qZ x0 k) (cQj r n)
theorem bXb : D135 r n qZ x0 (K4 (eN r n) 2 3 6 9) = D135 r n bIz x0 (K7 (aHm r n) 2 3 6 9 33 34 35) :=
 congrArg (fun k => D135 r n bIz x0 k) (cKb r n)
theorem cZk : D135 r n aDu x0 r135 = (K5 (aAp r n) 1 2 3 6 9) :=
 (cFw r n).trans
 ((bXb r n).trans
 ((by kernel_rfl)))
theorem bNd : D135 r n aEz x0 r135 = D135 r n aMd x0 (K5 (aAp r n) 1 2 3 6 9) :=
 congrArg (fun k => D135 r n aMd x0 k) (cZk r n)
theorem bLt (q0 : bU) : D135 r n aMd x0 (K5 q0 1 2 3 6 9) = fun (env : bB) (h : Hp) =>
 bnd (aB 1 (env 3) h) fun v1 h1 =>
 bnd (aA v1 h1) fun v2 h2 =>
 bnd (aB 3 (env 3) h2) fun v3 h3 =>
 bnd (aA v3 h3) fun v4 h4 =>
 bnd (bO v4 h4) fun v5 h5 =>
 bnd (aB 2 (env 3) h5) fun v6 h6 =>
 bnd (aA v6 h6) fun v7 h7 =>
 bnd (aS [(.s []), (aD 0), (aD 0), (aD 0), .l0, .l0] [(0, 1, v2), (1, 1, v5), (3, 1, v7)] h7) fun v8 h8 =>
 bnd (aS [(.s []), (aD 0), (aD 0), (aD 0), .l0, .l0, .l0, (.s []), (aD 0)] [(0, 6, v8)] h8) fun v9 h9 =>
 bnd (bJ v9 h9) fun v10 h10 =>
  q0 (env 1) (env 2) (env 3) (env 6) v10 h10 := by kernel_rfl
theorem aXs : (fun (env : bB) (h : Hp) =>
 bnd (aB 1 (env 3) h) fun v1 h1 =>
 bnd (aA v1 h1) fun v2 h2 =>
 bnd (aB 3 (env 3) h2) fun v3 h3 =>
 bnd (aA v3 h3) fun v4 h4 =>
 bnd (bO v4 h4) fun v5 h5 =>
 bnd (aB 2 (env 3) h5) fun v6 h6 =>
 bnd (aA v6 h6) fun v7 h7 =>
 bnd (aS [(.s []), (aD 0), (aD 0), (aD 0), .l0, .l0] [(0, 1, v2), (1, 1, v5), (3, 1, v7)] h7) fun v8 h8 =>
 bnd (aS [(.s []), (aD 0), (aD 0), (aD 0), .l0, .l0, .l0, (.s []), (aD 0)] [(0, 6, v8)] h8) fun v9 h9 =>
 bnd (bJ v9 h9) fun v10 h10 =>
  aAp r n (env 1) (env 2) (env 3) (env 6) v10 h10) = (K4 (rY r n) 1 2 3 6) := by kernel_rfl
theorem dCg : D135 r n aEz x0 r135 = (K4 (rY r n) 1 2 3 6) :=
 (bNd r n).trans
 ((bLt r n (aAp r n)).trans (aXs r n))
theorem bQb : D135 r n aEv x0 r135 = D135 r n aGb x0 (K4 (rY r n) 1 2 3 6) :=
 congrArg (fun k => D135 r n aGb x0 k) (dCg r n)
theorem bLz (q0 : dJ) : D135 r n aGb x0 (K4 q0 1 2 3 6) = fun (env : bB) (h : Hp) =>
 bnd (aB 0 (env 3) h) fun v1 h1 =>
 bnd (aA v1 h1) fun v2 h2 =>
 bnd (aF .neq v2 (aD 11) h2) fun v3 h3 =>
 bnd (gD v3 false (some ((env 1), h3)) h3) fun v4 h4 =>
 bnd (gD v3 false (bO v4 h4) h4) fun v5 h5 =>
 bnd (gD v3 false (aF .gtr v5 (aD 8) h5) h5) fun v6 h6 =>
 bnd (aP v3 (.b true) v6 h6) fun v7 h7 =>
 aU v7 (
 bnd (aS [(.s []), (aD 0), (aD 0), (aD 0), .l0, .l0] [] h7) fun v8 h8 =>
 bnd (aC 6 (env 6) v8 h8) fun _ h9 =>
 bnd (aG 6 (env 6) h9) fun v10 _ =>
 some (.t [v10, (.s []), (aD 1)], h9)) (
   q0 (env 1) (env 2) (env 3) (env 6) h7) := by kernel_rfl
theorem aWv : (fun (env : bB) (h : Hp) =>
 bnd (aB 0 (env 3) h) fun v1 h1 =>
 bnd (aA v1 h1) fun v2 h2 =>
 bnd (aF .neq v2 (aD 11) h2) fun v3 h3 =>
 bnd (gD v3 false (some ((env 1), h3)) h3) fun v4 h4 =>
 bnd (gD v3 false (bO v4 h4) h4) fun v5 h5 =>
 bnd (gD v3 false (aF .gtr v5 (aD 8) h5) h5) fun v6 h6 =>
 bnd (aP v3 (.b true) v6 h6) fun v7 h7 =>
 aU v7 (
 bnd (aS [(.s []), (aD 0), (aD 0), (aD 0), .l0, .l0] [] h7) fun v8 h8 =>
 bnd (aC 6 (env 6) v8 h8) fun _ h9 =>
 bnd (aG 6 (env 6) h9) fun v10 _ =>
 some (.t [v10, (.s []), (aD 1)], h9)) (
   rY r n (env 1) (env 2) (env 3) (env 6) h7)) = (K4 (sS r n) 1 2 3 6) := by kernel_rfl
theorem dBv : D135 r n aEv x0 r135 = (K4 (sS r n) 1 2 3 6) :=
 (bQb r n).trans
 ((bLz r n (rY r n)).trans (aWv r n))
theorem cQd : D135 r n c135 x0 r135 = D135 r n aPz x0 (K4 (sS r n) 1 2 3 6) :=
 congrArg (fun k => D135 r n aPz x0 k) (dBv r n)
theorem dGu (q0 : dJ) : D135 r n aPz x0 (K4 q0 1 2 3 6) = fun (env : bB) (h : Hp) =>
 bnd (bJ (env 0) h) fun v1 h1 =>
 bnd (aZ [(.s []), (aD 0), (aD 0), (aD 0), .l0, .l0] h1) fun v2 h2 =>
  q0 (env 1) (env 2) v1 v2 h2 := by kernel_rfl
theorem bVe : (fun (env : bB) (h : Hp) =>
 bnd (bJ (env 0) h) fun v1 h1 =>
 bnd (aZ [(.s []), (aD 0), (aD 0), (aD 0), .l0, .l0] h1) fun v2 h2 =>
  sS r n (env 1) (env 2) v1 v2 h2) = (K3 (s135 r n) 0 1 2) := by kernel_rfl
theorem dYt : D135 r n c135 x0 r135 = (K3 (s135 r n) 0 1 2) :=
 (cQd r n).trans
 ((dGu r n (sS r n)).trans (bVe r n))
theorem dQf : aE CF r n 135 args h = s135 r n (aO args 0) (aO args 1) (aO args 2) h :=
 (by kernel_rfl : aE CF r n 135 args h = D135 r n c135 x0 r135 (aI args) h).trans ((congrFun (congrFun (dYt r n) (aI args)) h).trans (by kernel_rfl))
noncomputable def s136 (r : RT) (n : Nat) (x0 x1 x2 : DV) (h0 : Hp) : aK :=
 bnd (bJ x2 h0) fun v1 h1 =>
 bnd (r 110 [x0, x1] h1) fun v2 h2 =>
 bnd (fR .not v2 h2) fun v3 h3 =>
 aU v3 (
 some (.t [(aD 0), (aD 24)], h3)) (
 bnd (aG 6 v1 h3) fun v4 h4 =>
 bnd (r 132 [x0, x1] h4) fun v5 h5 =>
 cnd (aX (aG 6 v1 h5) v4 && true) (
 bnd (r 63 [v4, v5] h5) fun v6 h6 =>
 bnd (aF .neq v6 (aD 0) h6) fun v7 h7 =>
 aU v7 (
 some (.t [(aD 0), v6], h7)) (
 bnd (aB 0 v1 h7) fun v8 h8 =>
 bnd (aA v8 h8) fun v9 h9 =>
 bnd (r 10 [x0, v9] h9) fun v10 h10 =>
 bnd (aH 0 v10 h10) fun v11 h11 =>
 bnd (aH 1 v10 h11) fun v12 h12 =>
 bnd (aF .neq v12 (aD 0) h12) fun v13 h13 =>
 aU v13 (
 some (.t [(aD 0), v12], h13)) (
 bnd (aB 4 v1 h13) fun v14 h14 =>
 bnd (aA v14 h14) fun v15 h15 =>
 bnd (aS [(aD 0), (.s []), (aD 0), .l0] [(0, 1, (aD 4)), (3, 1, v15)] h15) fun v16 h16 =>
 bnd (r 64 [x0, v16] h16) fun v17 h17 =>
 bnd (aH 0 v17 h17) fun v18 h18 =>
 bnd (aH 1 v17 h18) fun v19 h19 =>
 bnd (aF .neq v19 (aD 0) h19) fun v20 h20 =>
 aU v20 (
 some (.t [(aD 0), v19], h20)) (
 bnd (aB 5 v1 h20) fun v21 h21 =>
 bnd (aA v21 h21) fun v22 h22 =>
 bnd (r 160 [v22] h22) fun v23 h23 =>
 bnd (aH 0 v23 h23) fun v24 h24 =>
 bnd (aH 1 v23 h24) fun v25 h25 =>
 bnd (r 161 [x0, v24] h25) fun v26 h26 =>
 bnd (aH 0 v26 h26) fun v27 h27 =>
 bnd (aH 1 v26 h27) fun v28 h28 =>
 bnd (aF .neq v28 (aD 0) h28) fun v29 h29 =>
 aU v29 (
 some (.t [(aD 0), v28], h29)) (
 bnd (r 34 [x0, (aD 14)] (resv 1 h29)) fun v30 h30 =>
 bnd (aB 1 v1 h30) fun v31 h31 =>
 bnd (aA v31 h31) fun v32 h32 =>
 cnd (aX (aA v31 (resv 1 h29)) v32 && true) (
 bnd (r 37 [v32] h32) fun v33 h33 =>
 bnd (aB 2 v1 h33) fun v34 h34 =>
 bnd (aA v34 h34) fun v35 h35 =>
 cnd (aX (aA v34 h30) v35 && (aX (aA v34 (resv 1 h29)) v35 && true)) (
 bnd (r 37 [v35] h35) fun v36 h36 =>
 bnd (aB 3 v1 h36) fun v37 h37 =>
 bnd (aA v37 h37) fun v38 h38 =>
 cnd (aX (aA v37 h33) v38 && (aX (aA v37 h30) v38 && (aX (aA v37 (resv 1 h29)) v38 && true))) (
 bnd (r 37 [v38] h38) fun v39 h39 =>
 bnd (aV (bF 0 h29.next) [(aD 0), (aD 0), (aD 0), (aD 0), (aD 0), (aD 0), (aD 0)] 7 [(0, 1, v11), (1, 1, v33), (2, 1, v36), (3, 1, v39), (4, 1, v18), (5, 1, v27), (6, 1, x1)] h39) fun v40 h40 =>
 bnd (r 87 [x0, v30, (aD 0), v40] h40) fun v41 h41 =>
 bnd (aH 0 v41 h41) fun v42 h42 =>
 bnd (aH 1 v41 h42) fun v43 h43 =>
 some (.t [v42, v43], h43))))))))))
noncomputable abbrev c136 : Code := cf Tryz.f136
noncomputable abbrev r136 : K := aR CF Tryz.f136
noncomputable def D136 (r : RT) (n : Nat) (c : Code) (X : Nat → K) (k : K) : K := aM CF r 83 n c X r136 k
theorem eGx : D136 r n c136 x0 r136 = (K3 (s136 r n) 0 1 2) :=
 (by kernel_rfl)
theorem dOg : aE CF r n 136 args h = s136 r n (aO args 0) (aO args 1) (aO args 2) h :=
 (by kernel_rfl : aE CF r n 136 args h = D136 r n c136 x0 r136 (aI args) h).trans ((congrFun (congrFun (eGx r n) (aI args)) h).trans (by kernel_rfl))
noncomputable def fL (r : RT) (n : Nat) (x0 x1 x3 : DV) (h0 : Hp) : aK :=
 bnd (r 111 [x0, x1, (aD 4)] h0) fun v1 h1 =>
 bnd (r 39 [x0, x3, v1] h1) fun v2 h2 =>
 bnd (aH 0 v2 h2) fun v3 h3 =>
 bnd (aH 1 v2 h3) fun v4 h4 =>
 bnd (aF .neq v4 (aD 0) h4) fun v5 h5 =>
 aU v5 (
 some (v4, h5)) (
 bnd (aQ x0 h5) fun v6 h6 =>
 bnd (aB 0 v6 h6) fun v7 h7 =>
 bnd (aA v7 h7) fun v8 h8 =>
 bnd (aCj [v8, x1, (aD 4), v3] h8) fun v9 h9 =>
 some (v9, h9))
noncomputable def bDn (r : RT) (n : Nat) (kk5 : cZ) (x0 x1 x2 x3 x9 x10 : DV) (h0 : Hp) : aK :=
 bnd (aF .gtr x10 (aD 0) h0) fun v1 h1 =>
 bnd (gD v1 true (some (x0, h1)) h1) fun v2 h2 =>
 bnd (gD v1 true (aQ v2 h2) h2) fun v3 h3 =>
 bnd (gD v1 true (aB 0 v3 h3) h3) fun v4 h4 =>
 bnd (gD v1 true (aA v4 h4) h4) fun v5 h5 =>
 bnd (gD v1 true (some (x9, h5)) h5) fun v6 h6 =>
 bnd (gD v1 true (isF [v5, v6] h6) h6) fun v7 h7 =>
 bnd (aP v1 v7 (.b false) h7) fun v8 h8 =>
 aU v8 (
 bnd (r 111 [x0, x9, (aD 0)] h8) fun v9 h9 =>
 bnd (r 111 [x0, v9, (aD 0)] h9) fun v10 h10 =>
 bnd (aF .eql v10 x2 h10) fun v11 h11 =>
 aU v11 (
 bnd (aQ x0 h11) fun v12 h12 =>
 bnd (aB 0 v12 h12) fun v13 h13 =>
 bnd (aA v13 h13) fun v14 h14 =>
 bnd (aCj [v14, x9, (aD 0), x3] h14) fun v15 h15 =>
 some (v15, h15)) (
 bnd (r 111 [x0, x9, (aD 1)] h11) fun v16 h16 =>
 bnd (aF .sub x10 (aD 1) h16) fun v17 h17 =>
    kk5 x0 x1 x2 x3 v16 v17 h17)) (
      fL r n x0 x1 x3 h8)
noncomputable def vH (r : RT) (n : Nat) (m : Nat) : cZ :=
 Nat.rec (motive := fun _ => cZ) (fun _ _ _ _ _ _ _ => none) (fun _ ih => bDn r n ih) m
noncomputable def bXy (r : RT) (n : Nat) : cZ := vH r n n
noncomputable def bBf (r : RT) (n : Nat) (x0 x1 x2 x3 x9 x10 : DV) (h0 : Hp) : aK :=
 bXy r n x0 x1 x2 x3 x9 x10 h0
noncomputable def aXi (r : RT) (n : Nat) (x0 x1 x2 x3 x9 : DV) (h0 : Hp) : aK :=
 bnd (aQ x0 h0) fun v1 h1 =>
 bnd (aB 0 v1 h1) fun v2 h2 =>
 bnd (aA v2 h2) fun v3 h3 =>
 bnd (kG [v3] h3) fun v4 h4 =>
  bBf r n x0 x1 x2 x3 x9 v4 h4
noncomputable def aZo (r : RT) (n : Nat) (x0 x1 x2 x3 : DV) (h0 : Hp) : aK :=
 bnd (r 111 [x0, x1, (aD 4)] h0) fun v1 h1 =>
  aXi r n x0 x1 x2 x3 v1 h1
noncomputable def s137 (r : RT) (n : Nat) (x0 x1 x2 x3 : DV) (h0 : Hp) : aK :=
 aZo r n x0 x1 x2 x3 h0
noncomputable abbrev c137 : Code := cf Tryz.f137
noncomputable abbrev aNu : Code := cR c137
noncomputable abbrev aKm : Code := cR aNu
noncomputable abbrev dWh : Code := cR aKm
noncomputable abbrev yY : Code := cL aKm
noncomputable abbrev aYk : Code := cR yY
noncomputable abbrev aIr : Code := cL aYk
noncomputable abbrev pM : Code := cL aIr
noncomputable abbrev bWd : Code := cL yY
noncomputable abbrev cBb : Code := cL aNu
noncomputable abbrev bKj : Code := cL c137
noncomputable abbrev r137 : K := aR CF Tryz.f137
noncomputable def D137 (r : RT) (n : Nat) (c : Code) (X : Nat → K) (k : K) : K := aM CF r 69 n c X r137 k
theorem dBn : D137 r n dWh x0 r137 = (K3 (fL r n) 0 1 3) :=
 (by kernel_rfl)
theorem cOk (kk5 : cZ) : D137 r n pM (xs x0 0 (K3 (fL r n) 0 1 3)) (K6 kk5 0 1 2 3 9 10) = (K6 (bDn r n kk5) 0 1 2 3 9 10) :=
 (by kernel_rfl)
theorem bSg (m : Nat) : aL (fun kk => D137 r n pM (xs x0 0 (K3 (fL r n) 0 1 3)) kk) m = (K6 (vH r n m) 0 1 2 3 9 10) := by
 induction m with
 | zero => exact (by kernel_rfl : aL (fun kk => D137 r n pM (xs x0 0 (K3 (fL r n) 0 1 3)) kk) 0 = (K6 (vH r n 0) 0 1 2 3 9 10))
 | succ m ih =>
  refine (by kernel_rfl : aL (fun kk => D137 r n pM (xs x0 0 (K3 (fL r n) 0 1 3)) kk) (m + 1) = D137 r n pM (xs x0 0 (K3 (fL r n) 0 1 3)) (aL (fun kk => D137 r n pM (xs x0 0 (K3 (fL r n) 0 1 3)) kk) m)).trans ?_
  rw [ih]
  exact (cOk r n (vH r n m)).trans (by kernel_rfl)
theorem cQa : D137 r n aIr (xs x0 0 (K3 (fL r n) 0 1 3)) (K3 (fL r n) 0 1 3) = (K6 (bXy r n) 0 1 2 3 9 10) :=
 (by kernel_rfl : D137 r n aIr (xs x0 0 (K3 (fL r n) 0 1 3)) (K3 (fL r n) 0 1 3) = aL (fun kk => D137 r n pM (xs x0 0 (K3 (fL r n) 0 1 3)) kk) n).trans ((bSg r n n).trans (by kernel_rfl))
theorem dFu : D137 r n aYk x0 (K3 (fL r n) 0 1 3) = (K6 (bBf r n) 0 1 2 3 9 10) :=
 (by kernel_rfl : D137 r n aYk x0 (K3 (fL r n) 0 1 3) = D137 r n aIr (xs x0 0 (K3 (fL r n) 0 1 3)) (K3 (fL r n) 0 1 3)).trans
 ((cQa r n).trans (by kernel_rfl))
theorem cGb : D137 r n aKm x0 r137 = D137 r n yY x0 (K3 (fL r n) 0 1 3) :=
 congrArg (fun k => D137 r n yY x0 k) (dBn r n)
theorem bQo : D137 r n yY x0 (K3 (fL r n) 0 1 3) = D137 r n bWd x0 (K6 (bBf r n) 0 1 2 3 9 10) :=
 congrArg (fun k => D137 r n bWd x0 k) (dFu r n)
theorem cRc : D137 r n aKm x0 r137 = (K5 (aXi r n) 0 1 2 3 9) :=
 (cGb r n).trans
 ((bQo r n).trans
 ((by kernel_rfl)))
theorem cBu : D137 r n aNu x0 r137 = D137 r n cBb x0 (K5 (aXi r n) 0 1 2 3 9) :=
 congrArg (fun k => D137 r n cBb x0 k) (cRc r n)
theorem dGc : D137 r n aNu x0 r137 = (K4 (aZo r n) 0 1 2 3) :=
 (cBu r n).trans
 ((by kernel_rfl))
theorem dQj : D137 r n c137 x0 r137 = D137 r n bKj x0 (K4 (aZo r n) 0 1 2 3) :=
 congrArg (fun k => D137 r n bKj x0 k) (dGc r n)
theorem eFv : D137 r n c137 x0 r137 = (K4 (s137 r n) 0 1 2 3) :=
 (dQj r n).trans
 ((by kernel_rfl))
theorem dLf : aE CF r n 137 args h = s137 r n (aO args 0) (aO args 1) (aO args 2) (aO args 3) h :=
 (by kernel_rfl : aE CF r n 137 args h = D137 r n c137 x0 r137 (aI args) h).trans ((congrFun (congrFun (eFv r n) (aI args)) h).trans (by kernel_rfl))
noncomputable def s138 (r : RT) (n : Nat) (x0 x1 : DV) (h0 : Hp) : aK :=
 bnd (bJ x0 h0) fun v1 h1 =>
 bnd (bJ x1 h1) fun v2 h2 =>
 some ((.f 162 [] [v1, v2]), h2)
noncomputable abbrev c138 : Code := cf Tryz.f138
noncomputable abbrev r138 : K := aR CF Tryz.f138
noncomputable def D138 (r : RT) (n : Nat) (c : Code) (X : Nat → K) (k : K) : K := aM CF r 6 n c X r138 k
theorem eAm : D138 r n c138 x0 r138 = (K2 (s138 r n) 0 1) :=
 (by kernel_rfl)
theorem cJi : aE CF r n 138 args h = s138 r n (aO args 0) (aO args 1) h :=
 (by kernel_rfl : aE CF r n 138 args h = D138 r n c138 x0 r138 (aI args) h).trans ((congrFun (congrFun (eAm r n) (aI args)) h).trans (by kernel_rfl))
noncomputable def s141 (r : RT) (n : Nat) (x0 x1 x2 : DV) (h0 : Hp) : aK :=
 bnd (aF .geq x0 x1 h0) fun v1 h1 =>
 bnd (gD v1 true (some (x0, h1)) h1) fun v2 h2 =>
 bnd (gD v1 true (some (x2, h2)) h2) fun v3 h3 =>
 bnd (gD v1 true (aF .leq v2 v3 h3) h3) fun v4 h4 =>
 bnd (aP v1 v4 (.b false) h4) fun v5 h5 =>
 some (v5, h5)
noncomputable abbrev c141 : Code := cf Tryz.f141
noncomputable abbrev r141 : K := aR CF Tryz.f141
noncomputable def D141 (r : RT) (n : Nat) (c : Code) (X : Nat → K) (k : K) : K := aM CF r 15 n c X r141 k
theorem eCb : D141 r n c141 x0 r141 = (K3 (s141 r n) 0 1 2) :=
 (by kernel_rfl)
theorem dVo : aE CF r n 141 args h = s141 r n (aO args 0) (aO args 1) (aO args 2) h :=
 (by kernel_rfl : aE CF r n 141 args h = D141 r n c141 x0 r141 (aI args) h).trans ((congrFun (congrFun (eCb r n) (aI args)) h).trans (by kernel_rfl))
noncomputable def s142 (r : RT) (n : Nat) (x0 x1 : DV) (h0 : Hp) : aK :=
 bnd (r 163 [x0, x1] h0) fun v1 h1 =>
 bnd (aF .geq v1 (aD 0) h1) fun v2 h2 =>
 some (v2, h2)
noncomputable abbrev c142 : Code := cf Tryz.f142
noncomputable abbrev r142 : K := aR CF Tryz.f142
noncomputable def D142 (r : RT) (n : Nat) (c : Code) (X : Nat → K) (k : K) : K := aM CF r 9 n c X r142 k
theorem eFp : D142 r n c142 x0 r142 = (K2 (s142 r n) 0 1) :=
 (by kernel_rfl)
theorem dWn : aE CF r n 142 args h = s142 r n (aO args 0) (aO args 1) h :=
 (by kernel_rfl : aE CF r n 142 args h = D142 r n c142 x0 r142 (aI args) h).trans ((congrFun (congrFun (eFp r n) (aI args)) h).trans (by kernel_rfl))
noncomputable def s143 (r : RT) (n : Nat) (x0 : DV) (h0 : Hp) : aK :=
 bnd (bJ x0 h0) fun v1 h1 =>
 bnd (aG 4 v1 h1) fun v2 h2 =>
 bnd (r 144 [v2, (aD 20)] h2) fun v3 h3 =>
 bnd (fR .not v3 h3) fun v4 h4 =>
 some (v4, h4)
noncomputable abbrev c143 : Code := cf Tryz.f143
noncomputable abbrev r143 : K := aR CF Tryz.f143
noncomputable def D143 (r : RT) (n : Nat) (c : Code) (X : Nat → K) (k : K) : K := aM CF r 6 n c X r143 k
theorem dZp : D143 r n c143 x0 r143 = (K1 (s143 r n) 0) :=
 (by kernel_rfl)
theorem dLx : aE CF r n 143 args h = s143 r n (aO args 0) h :=
 (by kernel_rfl : aE CF r n 143 args h = D143 r n c143 x0 r143 (aI args) h).trans ((congrFun (congrFun (dZp r n) (aI args)) h).trans (by kernel_rfl))
noncomputable def s144 (r : RT) (n : Nat) (x0 x1 : DV) (h0 : Hp) : aK :=
 bnd (bJ x0 h0) fun v1 h1 =>
 bnd (bJ x1 h1) fun v2 h2 =>
 bnd (aB 0 v1 h2) fun v3 h3 =>
 bnd (aA v3 h3) fun v4 h4 =>
 bnd (aF .eql v4 (aD 1) h4) fun v5 h5 =>
 aU v5 (
 bnd (aB 1 v1 h5) fun v6 h6 =>
 bnd (aA v6 h6) fun v7 h7 =>
 bnd (eE .eql v7 (.s []) h7) fun v8 h8 =>
 bnd (gD v8 true (aB 3 v1 h8) h8) fun v9 h9 =>
 bnd (gD v8 true (aA v9 h9) h9) fun v10 h10 =>
 bnd (gD v8 true (bO v10 h10) h10) fun v11 h11 =>
 bnd (gD v8 true (aF .eql v11 (aD 0) h11) h11) fun v12 h12 =>
 bnd (aP v8 v12 (.b false) h12) fun v13 h13 =>
 bnd (gD v13 true (aB 2 v1 h13) h13) fun v14 h14 =>
 bnd (gD v13 true (aA v14 h14) h14) fun v15 h15 =>
 bnd (gD v13 true (r 141 [v15, (.i .i64 (Int.negSucc 1152921504606846975)), (aD 1152921504606846976)] h15) h15) fun v16 h16 =>
 bnd (aP v13 v16 (.b false) h16) fun v17 h17 =>
 some (v17, h17)) (
 bnd (aF .eql v4 (aD 2) h5) fun v18 h18 =>
 aU v18 (
 bnd (aB 2 v1 h18) fun v19 h19 =>
 bnd (aA v19 h19) fun v20 h20 =>
 bnd (aF .eql v20 (aD 0) h20) fun v21 h21 =>
 bnd (gD v21 true (aB 3 v1 h21) h21) fun v22 h22 =>
 bnd (gD v21 true (aA v22 h22) h22) fun v23 h23 =>
 bnd (gD v21 true (bO v23 h23) h23) fun v24 h24 =>
 bnd (gD v21 true (aF .eql v24 (aD 0) h24) h24) fun v25 h25 =>
 bnd (aP v21 v25 (.b false) h25) fun v26 h26 =>
 bnd (gD v26 true (aB 1 v1 h26) h26) fun v27 h27 =>
 bnd (gD v26 true (aA v27 h27) h27) fun v28 h28 =>
 bnd (gD v26 true (eC v28 h28) h28) fun v29 h29 =>
 bnd (gD v26 true (aF .leq v29 (aD 250) h29) h29) fun v30 h30 =>
 bnd (aP v26 v30 (.b false) h30) fun v31 h31 =>
 some (v31, h31)) (
 bnd (aF .eql v4 (aD 3) h18) fun v32 h32 =>
 aU v32 (
 bnd (aB 2 v1 h32) fun v33 h33 =>
 bnd (aA v33 h33) fun v34 h34 =>
 bnd (aF .eql v34 (aD 0) h34) fun v35 h35 =>
 bnd (gD v35 true (aB 3 v1 h35) h35) fun v36 h36 =>
 bnd (gD v35 true (aA v36 h36) h36) fun v37 h37 =>
 bnd (gD v35 true (bO v37 h37) h37) fun v38 h38 =>
 bnd (gD v35 true (aF .eql v38 (aD 0) h38) h38) fun v39 h39 =>
 bnd (aP v35 v39 (.b false) h39) fun v40 h40 =>
 bnd (gD v40 true (aB 1 v1 h40) h40) fun v41 h41 =>
 bnd (gD v40 true (aA v41 h41) h41) fun v42 h42 =>
 bnd (gD v40 true (eC v42 h42) h42) fun v43 h43 =>
 bnd (gD v40 true (r 141 [v43, (aD 1), (aD 60)] h43) h43) fun v44 h44 =>
 bnd (aP v40 v44 (.b false) h44) fun v45 h45 =>
 some (v45, h45)) (
 bnd (aF .eql v4 (aD 4) h32) fun v46 h46 =>
 aU v46 (
 bnd (aB 3 v1 h46) fun v47 h47 =>
 bnd (aA v47 h47) fun v48 h48 =>
 bnd (r 142 [v48, (.f 164 [] [v2])] h48) fun v49 h49 =>
 bnd (aB 2 v1 h49) fun v50 h50 =>
 bnd (aA v50 h50) fun v51 h51 =>
 bnd (aF .eql v51 (aD 0) h51) fun v52 h52 =>
 bnd (gD v52 true (aB 1 v1 h52) h52) fun v53 h53 =>
 bnd (gD v52 true (aA v53 h53) h53) fun v54 h54 =>
 bnd (gD v52 true (eE .eql v54 (.s []) h54) h54) fun v55 h55 =>
 bnd (aP v52 v55 (.b false) h55) fun v56 h56 =>
 bnd (gD v56 true (aA v2 h56) h56) fun v57 h57 =>
 bnd (gD v56 true (aF .gtr v57 (aD 0) h57) h57) fun v58 h58 =>
 bnd (aP v56 v58 (.b false) h58) fun v59 h59 =>
 bnd (gD v59 true (aB 3 v1 h59) h59) fun v60 h60 =>
 bnd (gD v59 true (aA v60 h60) h60) fun v61 h61 =>
 bnd (gD v59 true (bO v61 h61) h61) fun v62 h62 =>
 bnd (gD v59 true (aF .leq v62 (aD 250) h62) h62) fun v63 h63 =>
 bnd (aP v59 v63 (.b false) h63) fun v64 h64 =>
 bnd (gD v64 true (some (v49, h64)) h64) fun v65 h65 =>
 bnd (gD v64 true (fR .not v65 h65) h65) fun v66 h66 =>
 bnd (aP v64 v66 (.b false) h66) fun v67 h67 =>
 some (v67, h67)) (
 some ((.b false), h46)))))
noncomputable abbrev c144 : Code := cf Tryz.f144
noncomputable abbrev r144 : K := aR CF Tryz.f144
noncomputable def D144 (r : RT) (n : Nat) (c : Code) (X : Nat → K) (k : K) : K := aM CF r 86 n c X r144 k
theorem dZv : D144 r n c144 x0 r144 = (K2 (s144 r n) 0 1) :=
 (by kernel_rfl)
theorem dRu : aE CF r n 144 args h = s144 r n (aO args 0) (aO args 1) h :=
 (by kernel_rfl : aE CF r n 144 args h = D144 r n c144 x0 r144 (aI args) h).trans ((congrFun (congrFun (dZv r n) (aI args)) h).trans (by kernel_rfl))
noncomputable def s145 (r : RT) (n : Nat) (x0 : DV) (h0 : Hp) : aK :=
 bnd (bJ x0 h0) fun v1 h1 =>
 bnd (aB 0 v1 h1) fun v2 h2 =>
 bnd (aA v2 h2) fun v3 h3 =>
 bnd (r 165 [v3] h3) fun v4 h4 =>
 bnd (aH 0 v4 h4) fun v5 h5 =>
 bnd (aH 1 v4 h5) fun v6 h6 =>
 bnd (aB 0 v1 h6) fun v7 h7 =>
 bnd (aA v7 h7) fun v8 h8 =>
 bnd (aF .geq v8 (aD 1) h8) fun v9 h9 =>
 bnd (gD v9 true (aB 0 v1 h9) h9) fun v10 h10 =>
 bnd (gD v9 true (aA v10 h10) h10) fun v11 h11 =>
 bnd (gD v9 true (aF .leq v11 (aD 20) h11) h11) fun v12 h12 =>
 bnd (aP v9 v12 (.b false) h12) fun v13 h13 =>
 bnd (gD v13 true (aB 1 v1 h13) h13) fun v14 h14 =>
 bnd (gD v13 true (aA v14 h14) h14) fun v15 h15 =>
 bnd (gD v13 true (some (v5, h15)) h15) fun v16 h16 =>
 bnd (gD v13 true (r 166 [v15, v16] h16) h16) fun v17 h17 =>
 bnd (aP v13 v17 (.b false) h17) fun v18 h18 =>
 bnd (gD v18 true (aB 2 v1 h18) h18) fun v19 h19 =>
 bnd (gD v18 true (aA v19 h19) h19) fun v20 h20 =>
 bnd (gD v18 true (some (v6, h20)) h20) fun v21 h21 =>
 bnd (gD v18 true (r 166 [v20, v21] h21) h21) fun v22 h22 =>
 bnd (aP v18 v22 (.b false) h22) fun v23 h23 =>
 some (v23, h23)
noncomputable abbrev c145 : Code := cf Tryz.f145
noncomputable abbrev r145 : K := aR CF Tryz.f145
noncomputable def D145 (r : RT) (n : Nat) (c : Code) (X : Nat → K) (k : K) : K := aM CF r 31 n c X r145 k
theorem eAi : D145 r n c145 x0 r145 = (K1 (s145 r n) 0) :=
 (by kernel_rfl)
theorem dWk : aE CF r n 145 args h = s145 r n (aO args 0) h :=
 (by kernel_rfl : aE CF r n 145 args h = D145 r n c145 x0 r145 (aI args) h).trans ((congrFun (congrFun (eAi r n) (aI args)) h).trans (by kernel_rfl))
noncomputable def bE (r : RT) (n : Nat) (h0 : Hp) : aK :=
 some ((.b true), h0)
noncomputable def uC (r : RT) (n : Nat) (x2 x3 x4 x27 x51 : DV) (h0 : Hp) : aK :=
 aU x51 (
 bnd (aB 1 x4 h0) fun v1 h1 =>
 bnd (aA v1 h1) fun v2 h2 =>
 bnd (aF .lss v2 x2 h2) fun v3 h3 =>
 some (v3, h3)) (
 bnd (aF .eql x27 (aD 18) h0) fun v4 h4 =>
 aU v4 (
 bnd (aB 2 x4 h4) fun v5 h5 =>
 bnd (aA v5 h5) fun v6 h6 =>
 bnd (aF .leq v6 (aD 4) h6) fun v7 h7 =>
 bnd (gD v7 true (aB 1 x4 h7) h7) fun v8 h8 =>
 bnd (gD v7 true (aA v8 h8) h8) fun v9 h9 =>
 bnd (gD v7 true (aB 2 x4 h9) h9) fun v10 h10 =>
 bnd (gD v7 true (aA v10 h10) h10) fun v11 h11 =>
 bnd (gD v7 true (aF .add v9 v11 h11) h11) fun v12 h12 =>
 bnd (gD v7 true (aB 2 x3 h12) h12) fun v13 h13 =>
 bnd (gD v7 true (aA v13 h13) h13) fun v14 h14 =>
 bnd (gD v7 true (aF .leq v12 v14 h14) h14) fun v15 h15 =>
 bnd (aP v7 v15 (.b false) h15) fun v16 h16 =>
 some (v16, h16)) (
   bE r n h4))
noncomputable def bEu (r : RT) (n : Nat) (x2 x3 x4 x27 : DV) (h0 : Hp) : aK :=
 bnd (aF .eql x27 (aD 8) h0) fun v1 h1 =>
 aU v1 (
  uC r n x2 x3 x4 x27 v1 h1) (
 bnd (aF .eql x27 (aD 11) h1) fun v2 h2 =>
  uC r n x2 x3 x4 x27 v2 h2)
noncomputable def wL (r : RT) (n : Nat) (x2 x3 x4 x27 x43 : DV) (h0 : Hp) : aK :=
 aU x43 (
 bnd (aB 1 x4 h0) fun v1 h1 =>
 bnd (aA v1 h1) fun v2 h2 =>
 bnd (aB 2 x3 h2) fun v3 h3 =>
 bnd (aA v3 h3) fun v4 h4 =>
 bnd (aF .lss v2 v4 h4) fun v5 h5 =>
 some (v5, h5)) (
  bEu r n x2 x3 x4 x27 h0)
noncomputable def bEp (r : RT) (n : Nat) (x2 x3 x4 x27 : DV) (h0 : Hp) : aK :=
 bnd (aF .eql x27 (aD 7) h0) fun v1 h1 =>
 aU v1 (
  wL r n x2 x3 x4 x27 v1 h1) (
 bnd (aF .eql x27 (aD 10) h1) fun v2 h2 =>
  wL r n x2 x3 x4 x27 v2 h2)
noncomputable def uV (r : RT) (n : Nat) (x2 x3 x4 x8 x27 x34 : DV) (h0 : Hp) : aK :=
 aU x34 (
 bnd (gD x8 true (aB 2 x4 h0) h0) fun v1 h1 =>
 bnd (gD x8 true (aA v1 h1) h1) fun v2 h2 =>
 bnd (gD x8 true (aF .leq v2 (aD 4) h2) h2) fun v3 h3 =>
 bnd (aP x8 v3 (.b false) h3) fun v4 h4 =>
 some (v4, h4)) (
  bEp r n x2 x3 x4 x27 h0)
noncomputable def bZe (r : RT) (n : Nat) (x2 x3 x4 x8 x27 : DV) (h0 : Hp) : aK :=
 bnd (aF .eql x27 (aD 14) h0) fun v1 h1 =>
 aU v1 (
  uV r n x2 x3 x4 x8 x27 v1 h1) (
 bnd (aF .eql x27 (aD 15) h1) fun v2 h2 =>
  uV r n x2 x3 x4 x8 x27 v2 h2)
noncomputable def aVx (r : RT) (n : Nat) (x2 x3 x4 x8 x27 x31 : DV) (h0 : Hp) : aK :=
 aU x31 (
 some (x8, h0)) (
  bZe r n x2 x3 x4 x8 x27 h0)
noncomputable def cJo (r : RT) (n : Nat) (x2 x3 x4 x8 x27 : DV) (h0 : Hp) : aK :=
 bnd (aF .eql x27 (aD 9) h0) fun v1 h1 =>
  aVx r n x2 x3 x4 x8 x27 v1 h1
noncomputable def aZb (r : RT) (n : Nat) (x2 x3 x4 x7 x8 x27 x28 : DV) (h0 : Hp) : aK :=
 aU x28 (
 some (x7, h0)) (
  cJo r n x2 x3 x4 x8 x27 h0)
noncomputable def aVs (r : RT) (n : Nat) (x2 x3 x4 x7 x8 x27 : DV) (h0 : Hp) : aK :=
 bnd (aF .eql x27 (aD 6) h0) fun v1 h1 =>
  aZb r n x2 x3 x4 x7 x8 x27 v1 h1
noncomputable def aTd (r : RT) (n : Nat) (x2 x3 x4 x7 x8 : DV) (h0 : Hp) : aK :=
 bnd (aB 0 x4 h0) fun v1 h1 =>
 bnd (aA v1 h1) fun v2 h2 =>
  aVs r n x2 x3 x4 x7 x8 v2 h2
noncomputable def aTn (r : RT) (n : Nat) (x2 x3 x4 x7 : DV) (h0 : Hp) : aK :=
 bnd (gD x7 true (aB 4 x3 h0) h0) fun v1 h1 =>
 bnd (gD x7 true (aA v1 h1) h1) fun v2 h2 =>
 bnd (gD x7 true (aB 1 x4 h2) h2) fun v3 h3 =>
 bnd (gD x7 true (aA v3 h3) h3) fun v4 h4 =>
 bnd (gD x7 true (aJ 4 v2 v4 h4) h4) fun v5 h5 =>
 bnd (gD x7 true (aB 0 v5 h5) h5) fun v6 h6 =>
 bnd (gD x7 true (aA v6 h6) h6) fun v7 h7 =>
 bnd (gD x7 true (aF .eql v7 (aD 3) h7) h7) fun v8 h8 =>
 bnd (aP x7 v8 (.b false) h8) fun v9 h9 =>
  aTd r n x2 x3 x4 x7 v9 h9
noncomputable def aBc (r : RT) (n : Nat) (x2 x3 x4 : DV) (h0 : Hp) : aK :=
 bnd (aB 1 x4 h0) fun v1 h1 =>
 bnd (aA v1 h1) fun v2 h2 =>
 bnd (aB 4 x3 h2) fun v3 h3 =>
 bnd (aA v3 h3) fun v4 h4 =>
 bnd (bO v4 h4) fun v5 h5 =>
 bnd (aF .lss v2 v5 h5) fun v6 h6 =>
  aTn r n x2 x3 x4 v6 h6
noncomputable def s146 (r : RT) (n : Nat) (x0 x1 x2 : DV) (h0 : Hp) : aK :=
 bnd (bJ x0 h0) fun v1 h1 =>
 bnd (bJ x1 h1) fun v2 h2 =>
  aBc r n x2 v1 v2 h2
noncomputable abbrev c146 : Code := cf Tryz.f146
noncomputable abbrev aLu : Code := cR c146
noncomputable abbrev aPx : Code := cR aLu
noncomputable abbrev aIe : Code := cR aPx
noncomputable abbrev dOf : Code := cR aIe
noncomputable abbrev yI : Code := cL aIe
noncomputable abbrev aYh : Code := cR yI
noncomputable abbrev aGh : Code := cL aYh
noncomputable abbrev aAc : Code := cR aGh
noncomputable abbrev aAq : Code := cR aAc
noncomputable abbrev qY : Code := cR aAq
noncomputable abbrev qX : Code := cR qY
noncomputable abbrev qE : Code := cR qX
noncomputable abbrev rM : Code := cR qE
noncomputable abbrev qB : Code := cR rM
noncomputable abbrev rF : Code := cR qB
noncomputable abbrev dCo : Code := cR rF
noncomputable abbrev bKc : Code := cL rF
noncomputable abbrev cXl : Code := cL qB
noncomputable abbrev bKf : Code := cL rM
noncomputable abbrev dDy : Code := cL qE
noncomputable abbrev bIm : Code := cL qX
noncomputable abbrev dHl : Code := cL qY
noncomputable abbrev bDs : Code := cL aAq
noncomputable abbrev dCm : Code := cL aAc
noncomputable abbrev bDf : Code := cL aGh
noncomputable abbrev bGb : Code := cL yI
noncomputable abbrev bDo : Code := cL aPx
noncomputable abbrev bHw : Code := cL aLu
noncomputable abbrev aPv : Code := cL c146
noncomputable abbrev r146 : K := aR CF Tryz.f146
noncomputable def D146 (r : RT) (n : Nat) (c : Code) (X : Nat → K) (k : K) : K := aM CF r 73 n c X r146 k
theorem dDw : D146 r n dOf x0 r146 = (K0 (bE r n)) :=
 (by kernel_rfl)
theorem bVg : D146 r n dCo (xs x0 0 (K0 (bE r n))) (K0 (bE r n)) = (K5 (uC r n) 2 3 4 27 51) :=
 (by kernel_rfl)
theorem bPp : D146 r n rF (xs x0 0 (K0 (bE r n))) (K0 (bE r n)) = D146 r n bKc (xs x0 0 (K0 (bE r n))) (K5 (uC r n) 2 3 4 27 51) :=
 congrArg (fun k => D146 r n bKc (xs x0 0 (K0 (bE r n))) k) (bVg r n)
theorem bSt : D146 r n rF (xs x0 0 (K0 (bE r n))) (K0 (bE r n)) = (K4 (bEu r n) 2 3 4 27) :=
 (bPp r n).trans
 ((by kernel_rfl))
theorem cGv : D146 r n qB (xs x0 0 (K0 (bE r n))) (K0 (bE r n)) = (K5 (wL r n) 2 3 4 27 43) :=
 (by kernel_rfl : D146 r n qB (xs x0 0 (K0 (bE r n))) (K0 (bE r n)) = (fun (env : bB) (h : Hp) => aU (opr env (cC qB)) (D146 r n cXl (xs x0 0 (K0 (bE r n))) (K0 (bE r n)) env h) (D146 r n rF (xs x0 0 (K0 (bE r n))) (K0 (bE r n)) env h))).trans (by rw [bSt r n]; kernel_rfl)
theorem bOt : D146 r n rM (xs x0 0 (K0 (bE r n))) (K0 (bE r n)) = D146 r n bKf (xs x0 0 (K0 (bE r n))) (K5 (wL r n) 2 3 4 27 43) :=
 congrArg (fun k => D146 r n bKf (xs x0 0 (K0 (bE r n))) k) (cGv r n)
theorem cDv : D146 r n rM (xs x0 0 (K0 (bE r n))) (K0 (bE r n)) = (K4 (bEp r n) 2 3 4 27) :=
 (bOt r n).trans
 ((by kernel_rfl))
theorem cLb : D146 r n qE (xs x0 0 (K0 (bE r n))) (K0 (bE r n)) = (K6 (uV r n) 2 3 4 8 27 34) :=
 (by kernel_rfl : D146 r n qE (xs x0 0 (K0 (bE r n))) (K0 (bE r n)) = (fun (env : bB) (h : Hp) => aU (opr env (cC qE)) (D146 r n dDy (xs x0 0 (K0 (bE r n))) (K0 (bE r n)) env h) (D146 r n rM (xs x0 0 (K0 (bE r n))) (K0 (bE r n)) env h))).trans (by rw [cDv r n]; kernel_rfl)
theorem bXc : D146 r n qX (xs x0 0 (K0 (bE r n))) (K0 (bE r n)) = D146 r n bIm (xs x0 0 (K0 (bE r n))) (K6 (uV r n) 2 3 4 8 27 34) :=
 congrArg (fun k => D146 r n bIm (xs x0 0 (K0 (bE r n))) k) (cLb r n)
theorem cUk : D146 r n qX (xs x0 0 (K0 (bE r n))) (K0 (bE r n)) = (K5 (bZe r n) 2 3 4 8 27) :=
 (bXc r n).trans
 ((by kernel_rfl))
theorem cPq : D146 r n qY (xs x0 0 (K0 (bE r n))) (K0 (bE r n)) = (K6 (aVx r n) 2 3 4 8 27 31) :=
 (by kernel_rfl : D146 r n qY (xs x0 0 (K0 (bE r n))) (K0 (bE r n)) = (fun (env : bB) (h : Hp) => aU (opr env (cC qY)) (D146 r n dHl (xs x0 0 (K0 (bE r n))) (K0 (bE r n)) env h) (D146 r n qX (xs x0 0 (K0 (bE r n))) (K0 (bE r n)) env h))).trans (by rw [cUk r n]; kernel_rfl)
theorem bTw : D146 r n aAq (xs x0 0 (K0 (bE r n))) (K0 (bE r n)) = D146 r n bDs (xs x0 0 (K0 (bE r n))) (K6 (aVx r n) 2 3 4 8 27 31) :=
 congrArg (fun k => D146 r n bDs (xs x0 0 (K0 (bE r n))) k) (cPq r n)
theorem dDj : D146 r n aAq (xs x0 0 (K0 (bE r n))) (K0 (bE r n)) = (K5 (cJo r n) 2 3 4 8 27) :=
 (bTw r n).trans
 ((by kernel_rfl))
theorem dGm : D146 r n aAc (xs x0 0 (K0 (bE r n))) (K0 (bE r n)) = (K7 (aZb r n) 2 3 4 7 8 27 28) :=
 (by kernel_rfl : D146 r n aAc (xs x0 0 (K0 (bE r n))) (K0 (bE r n)) = (fun (env : bB) (h : Hp) => aU (opr env (cC aAc)) (D146 r n dCm (xs x0 0 (K0 (bE r n))) (K0 (bE r n)) env h) (D146 r n aAq (xs x0 0 (K0 (bE r n))) (K0 (bE r n)) env h))).trans (by rw [dDj r n]; kernel_rfl)
theorem cNf : D146 r n aGh (xs x0 0 (K0 (bE r n))) (K0 (bE r n)) = D146 r n bDf (xs x0 0 (K0 (bE r n))) (K7 (aZb r n) 2 3 4 7 8 27 28) :=
 congrArg (fun k => D146 r n bDf (xs x0 0 (K0 (bE r n))) k) (dGm r n)
theorem dHe : D146 r n aYh x0 (K0 (bE r n)) = (K6 (aVs r n) 2 3 4 7 8 27) :=
 (by kernel_rfl : D146 r n aYh x0 (K0 (bE r n)) = D146 r n aGh (xs x0 0 (K0 (bE r n))) (K0 (bE r n))).trans
 ((cNf r n).trans
 ((by kernel_rfl)))
theorem cOd : D146 r n aIe x0 r146 = D146 r n yI x0 (K0 (bE r n)) :=
 congrArg (fun k => D146 r n yI x0 k) (dDw r n)
theorem cFp : D146 r n yI x0 (K0 (bE r n)) = D146 r n bGb x0 (K6 (aVs r n) 2 3 4 7 8 27) :=
 congrArg (fun k => D146 r n bGb x0 k) (dHe r n)
theorem cRv : D146 r n aIe x0 r146 = (K5 (aTd r n) 2 3 4 7 8) :=
 (cOd r n).trans
 ((cFp r n).trans
 ((by kernel_rfl)))
theorem cIn : D146 r n aPx x0 r146 = D146 r n bDo x0 (K5 (aTd r n) 2 3 4 7 8) :=
 congrArg (fun k => D146 r n bDo x0 k) (cRv r n)
theorem cTl : D146 r n aPx x0 r146 = (K4 (aTn r n) 2 3 4 7) :=
 (cIn r n).trans
 ((by kernel_rfl))
theorem cMe : D146 r n aLu x0 r146 = D146 r n bHw x0 (K4 (aTn r n) 2 3 4 7) :=
 congrArg (fun k => D146 r n bHw x0 k) (cTl r n)
theorem cQo : D146 r n aLu x0 r146 = (K3 (aBc r n) 2 3 4) :=
 (cMe r n).trans
 ((by kernel_rfl))
theorem dFz : D146 r n c146 x0 r146 = D146 r n aPv x0 (K3 (aBc r n) 2 3 4) :=
 congrArg (fun k => D146 r n aPv x0 k) (cQo r n)
theorem cYw (q0 : dU) : D146 r n aPv x0 (K3 q0 2 3 4) = fun (env : bB) (h : Hp) =>
 bnd (bJ (env 0) h) fun v1 h1 =>
 bnd (bJ (env 1) h1) fun v2 h2 =>
  q0 (env 2) v1 v2 h2 := by kernel_rfl
theorem cIa : (fun (env : bB) (h : Hp) =>
 bnd (bJ (env 0) h) fun v1 h1 =>
 bnd (bJ (env 1) h1) fun v2 h2 =>
  aBc r n (env 2) v1 v2 h2) = (K3 (s146 r n) 0 1 2) := by kernel_rfl
theorem eGz : D146 r n c146 x0 r146 = (K3 (s146 r n) 0 1 2) :=
 (dFz r n).trans
 ((cYw r n (aBc r n)).trans (cIa r n))
theorem dOm : aE CF r n 146 args h = s146 r n (aO args 0) (aO args 1) (aO args 2) h :=
 (by kernel_rfl : aE CF r n 146 args h = D146 r n c146 x0 r146 (aI args) h).trans ((congrFun (congrFun (eGz r n) (aI args)) h).trans (by kernel_rfl))
noncomputable def fH (r : RT) (n : Nat) (x3 : DV) (h0 : Hp) : aK :=
 some (x3, h0)
noncomputable def bFc (r : RT) (n : Nat) (kk6 : dJ) (x3 x4 x11 x12 : DV) (h0 : Hp) : aK :=
 bnd (aF .lss x12 x11 h0) fun v1 h1 =>
 aU v1 (
 bnd (dF CF r x4 [x12] h1) fun v2 h2 =>
 bnd (aJ 1 x3 x12 h2) fun v3 h3 =>
 bnd (aC 1 v3 v2 h3) fun _ h4 =>
 bnd (aF .add x12 (aD 1) h4) fun v5 h5 =>
      kk6 x3 x4 x11 v5 h5) (
      fH r n x3 h1)
noncomputable def xP (r : RT) (n : Nat) (m : Nat) : dJ :=
 Nat.rec (motive := fun _ => dJ) (fun _ _ _ _ _ => none) (fun _ ih => bFc r n ih) m
noncomputable def cKt (r : RT) (n : Nat) : dJ := xP r n n
noncomputable def aVf (r : RT) (n : Nat) (x3 x4 x11 x12 : DV) (h0 : Hp) : aK :=
 cKt r n x3 x4 x11 x12 h0
noncomputable def aXu (r : RT) (n : Nat) (x1 x3 x4 : DV) (h0 : Hp) : aK :=
 bnd (aA x1 h0) fun v1 h1 =>
 bnd (bO v1 h1) fun v2 h2 =>
  aVf r n x3 x4 v2 (aD 0) h2
noncomputable def aBy (r : RT) (n : Nat) (x1 x3 : DV) (h0 : Hp) : aK :=
 aXu r n x1 x3 (.f 167 [] [x1]) h0
noncomputable def rO (r : RT) (n : Nat) (x1 : DV) (h0 : Hp) : aK :=
 bnd (aA x1 h0) fun v1 h1 =>
 bnd (bO v1 h1) fun v2 h2 =>
 bnd (cJ 1 8 [(aD 0)] v2 v2 h2) fun v3 h3 =>
  aBy r n x1 v3 h3
noncomputable def s147 (r : RT) (n : Nat) (x0 : DV) (h0 : Hp) : aK :=
 bnd (bJ x0 h0) fun v1 h1 =>
  rO r n v1 h1
noncomputable abbrev c147 : Code := cf Tryz.f147
noncomputable abbrev aKd : Code := cR c147
noncomputable abbrev aKn : Code := cR aKd
noncomputable abbrev aEt : Code := cR aKn
noncomputable abbrev dMv : Code := cR aEt
noncomputable abbrev yV : Code := cL aEt
noncomputable abbrev aZz : Code := cR yV
noncomputable abbrev aKu : Code := cL aZz
noncomputable abbrev oV : Code := cL aKu
noncomputable abbrev bTh : Code := cL yV
noncomputable abbrev bGs : Code := cL aKn
noncomputable abbrev aGi : Code := cL aKd
noncomputable abbrev aEa : Code := cL c147
noncomputable abbrev r147 : K := aR CF Tryz.f147
noncomputable def D147 (r : RT) (n : Nat) (c : Code) (X : Nat → K) (k : K) : K := aM CF r 23 n c X r147 k
theorem cTp : D147 r n dMv x0 r147 = (K1 (fH r n) 3) :=
 (by kernel_rfl)
theorem cEn (kk6 : dJ) : D147 r n oV (xs x0 0 (K1 (fH r n) 3)) (K4 kk6 3 4 11 12) = (K4 (bFc r n kk6) 3 4 11 12) :=
 (by kernel_rfl)
theorem bTe (m : Nat) : aL (fun kk => D147 r n oV (xs x0 0 (K1 (fH r n) 3)) kk) m = (K4 (xP r n m) 3 4 11 12) := by
 induction m with
 | zero => exact (by kernel_rfl : aL (fun kk => D147 r n oV (xs x0 0 (K1 (fH r n) 3)) kk) 0 = (K4 (xP r n 0) 3 4 11 12))
 | succ m ih =>
  refine (by kernel_rfl : aL (fun kk => D147 r n oV (xs x0 0 (K1 (fH r n) 3)) kk) (m + 1) = D147 r n oV (xs x0 0 (K1 (fH r n) 3)) (aL (fun kk => D147 r n oV (xs x0 0 (K1 (fH r n) 3)) kk) m)).trans ?_
  rw [ih]
  exact (cEn r n (xP r n m)).trans (by kernel_rfl)
theorem dAo : D147 r n aKu (xs x0 0 (K1 (fH r n) 3)) (K1 (fH r n) 3) = (K4 (cKt r n) 3 4 11 12) :=
 (by kernel_rfl : D147 r n aKu (xs x0 0 (K1 (fH r n) 3)) (K1 (fH r n) 3) = aL (fun kk => D147 r n oV (xs x0 0 (K1 (fH r n) 3)) kk) n).trans ((bTe r n n).trans (by kernel_rfl))
theorem cUw : D147 r n aZz x0 (K1 (fH r n) 3) = (K4 (aVf r n) 3 4 11 12) :=
 (by kernel_rfl : D147 r n aZz x0 (K1 (fH r n) 3) = D147 r n aKu (xs x0 0 (K1 (fH r n) 3)) (K1 (fH r n) 3)).trans
 ((dAo r n).trans (by kernel_rfl))
theorem cDl : D147 r n aEt x0 r147 = D147 r n yV x0 (K1 (fH r n) 3) :=
 congrArg (fun k => D147 r n yV x0 k) (cTp r n)
theorem cDo : D147 r n yV x0 (K1 (fH r n) 3) = D147 r n bTh x0 (K4 (aVf r n) 3 4 11 12) :=
 congrArg (fun k => D147 r n bTh x0 k) (cUw r n)
theorem cOo : D147 r n aEt x0 r147 = (K3 (aXu r n) 1 3 4) :=
 (cDl r n).trans
 ((cDo r n).trans
 ((by kernel_rfl)))
theorem bTg : D147 r n aKn x0 r147 = D147 r n bGs x0 (K3 (aXu r n) 1 3 4) :=
 congrArg (fun k => D147 r n bGs x0 k) (cOo r n)
theorem dFd : D147 r n aKn x0 r147 = (K2 (aBy r n) 1 3) :=
 (bTg r n).trans
 ((by kernel_rfl))
theorem bYt : D147 r n aKd x0 r147 = D147 r n aGi x0 (K2 (aBy r n) 1 3) :=
 congrArg (fun k => D147 r n aGi x0 k) (dFd r n)
theorem bWf (q0 : eK) : D147 r n aGi x0 (K2 q0 1 3) = fun (env : bB) (h : Hp) =>
 bnd (aA (env 1) h) fun v1 h1 =>
 bnd (bO v1 h1) fun v2 h2 =>
 bnd (cJ 1 8 [(aD 0)] v2 v2 h2) fun v3 h3 =>
  q0 (env 1) v3 h3 := by kernel_rfl
theorem bOg : (fun (env : bB) (h : Hp) =>
 bnd (aA (env 1) h) fun v1 h1 =>
 bnd (bO v1 h1) fun v2 h2 =>
 bnd (cJ 1 8 [(aD 0)] v2 v2 h2) fun v3 h3 =>
  aBy r n (env 1) v3 h3) = (K1 (rO r n) 1) := by kernel_rfl
theorem cPb : D147 r n aKd x0 r147 = (K1 (rO r n) 1) :=
 (bYt r n).trans
 ((bWf r n (aBy r n)).trans (bOg r n))
theorem dLc : D147 r n c147 x0 r147 = D147 r n aEa x0 (K1 (rO r n) 1) :=
 congrArg (fun k => D147 r n aEa x0 k) (cPb r n)
theorem dNn (q0 : TT1) : D147 r n aEa x0 (K1 q0 1) = fun (env : bB) (h : Hp) =>
 bnd (bJ (env 0) h) fun v1 h1 =>
  q0 v1 h1 := by kernel_rfl
theorem dGl : (fun (env : bB) (h : Hp) =>
 bnd (bJ (env 0) h) fun v1 h1 =>
  rO r n v1 h1) = (K1 (s147 r n) 0) := by kernel_rfl
theorem dYp : D147 r n c147 x0 r147 = (K1 (s147 r n) 0) :=
 (dLc r n).trans
 ((dNn r n (rO r n)).trans (dGl r n))
theorem dSd : aE CF r n 147 args h = s147 r n (aO args 0) h :=
 (by kernel_rfl : aE CF r n 147 args h = D147 r n c147 x0 r147 (aI args) h).trans ((congrFun (congrFun (dYp r n) (aI args)) h).trans (by kernel_rfl))
end Go.Dd

namespace Go.Dd
open Go.Proofs
variable (r : RT) (n : Nat) (args : List DV) (h : Hp)
noncomputable def bI (r : RT) (n : Nat) (h0 : Hp) : aK :=
 some ((.b true), h0)
noncomputable def cG (r : RT) (n : Nat) (kk4 : bU) (x0 x1 x11 x12 x13 : DV) (h0 : Hp) : aK :=
 bnd (aF .add x13 (aD 1) h0) fun v1 h1 =>
  kk4 x0 x1 x11 x12 v1 h1
noncomputable def gN (r : RT) (n : Nat) (kk4 : bU) (x0 x1 x5 x6 x11 x12 x13 : DV) (h0 : Hp) : aK :=
 bnd (aG 3 x6 h0) fun v1 h1 =>
 bnd (r 169 [v1] h1) fun v2 h2 =>
 bnd (aF .geq v2 (aD 0) h2) fun v3 h3 =>
 bnd (gD v3 true (some (v2, h3)) h3) fun v4 h4 =>
 bnd (gD v3 true (some (x0, h4)) h4) fun v5 h5 =>
 bnd (gD v3 true (bO v5 h5) h5) fun v6 h6 =>
 bnd (gD v3 true (aF .geq v4 v6 h6) h6) fun v7 h7 =>
 bnd (gD v3 true (some (v7, h7)) h7) fun v8 h8 =>
 bnd (gD v8 false (some (x1, h8)) h8) fun v9 h9 =>
 bnd (gD v8 false (some (v2, h9)) h9) fun v10 h10 =>
 bnd (gD v8 false (aJ 1 v9 v10 h10) h10) fun v11 h11 =>
 bnd (gD v8 false (aA v11 h11) h11) fun v12 h12 =>
 bnd (gD v8 false (some (x1, h12)) h12) fun v13 h13 =>
 bnd (gD v8 false (some (x5, h13)) h13) fun v14 h14 =>
 bnd (gD v8 false (aJ 1 v13 v14 h14) h14) fun v15 h15 =>
 bnd (gD v8 false (aA v15 h15) h15) fun v16 h16 =>
 bnd (gD v8 false (aF .neq v12 v16 h16) h16) fun v17 h17 =>
 bnd (gD v3 true (aP v8 (.b true) v17 h17) h17) fun v18 h18 =>
 bnd (aP v3 v18 (.b false) h18) fun v19 h19 =>
 aU v19 (
 some ((.b false), h19)) (
  cG r n kk4 x0 x1 x11 x12 x13 h19)
noncomputable def uO (r : RT) (n : Nat) (kk4 : bU) (x0 x1 x5 x6 x7 x8 x9 x11 x12 x13 : DV) (h0 : Hp) : aK :=
 bnd (fR .not x8 h0) fun v1 h1 =>
 bnd (gD v1 false (some (x7, h1)) h1) fun v2 h2 =>
 bnd (gD v1 false (some (x9, h2)) h2) fun v3 h3 =>
 bnd (gD v1 false (aF .gtr v2 v3 h3) h3) fun v4 h4 =>
 bnd (aP v1 (.b true) v4 h4) fun v5 h5 =>
 aU v5 (
 some ((.b false), h5)) (
  gN r n kk4 x0 x1 x5 x6 x11 x12 x13 h5)
noncomputable def aJf (r : RT) (n : Nat) (kk4 : bU) (x0 x1 x5 x6 x7 x8 x9 x11 x12 x13 : DV) (h0 : Hp) : aK :=
 bnd (aJ 1 x1 x5 h0) fun v1 h1 =>
 bnd (aA v1 h1) fun v2 h2 =>
 bnd (aF .geq v2 (aD 0) h2) fun v3 h3 =>
 aU v3 (
 bnd (aJ 1 x1 x5 h3) fun v4 h4 =>
 bnd (aA v4 h4) fun v5 h5 =>
 bnd (r 168 [x0, v5] h5) fun v6 h6 =>
 bnd (aH 0 v6 h6) fun v7 h7 =>
 bnd (aH 1 v6 h7) fun v8 h8 =>
  uO r n kk4 x0 x1 x5 x6 x7 x8 v7 x11 x12 x13 h8) (
  uO r n kk4 x0 x1 x5 x6 x7 x8 x9 x11 x12 x13 h3)
noncomputable def aEc (r : RT) (n : Nat) (kk4 : bU) (x0 x1 x5 x6 x7 x8 x11 x12 x13 : DV) (h0 : Hp) : aK :=
 bnd (bO x0 h0) fun v1 h1 =>
  aJf r n kk4 x0 x1 x5 x6 x7 x8 v1 x11 x12 x13 h1
noncomputable def bEm (r : RT) (n : Nat) (kk4 : bU) (x0 x1 x5 x6 x11 x12 x13 : DV) (h0 : Hp) : aK :=
 bnd (r 168 [x0, x5] h0) fun v1 h1 =>
 bnd (aH 0 v1 h1) fun v2 h2 =>
 bnd (aH 1 v1 h2) fun v3 h3 =>
  aEc r n kk4 x0 x1 x5 x6 v2 v3 x11 x12 x13 h3
noncomputable def aKl (r : RT) (n : Nat) (kk4 : bU) (x0 x1 x5 x6 x11 x12 x13 x20 : DV) (h0 : Hp) : aK :=
 aU x20 (
  bEm r n kk4 x0 x1 x5 x6 x11 x12 x13 h0) (
  gN r n kk4 x0 x1 x5 x6 x11 x12 x13 h0)
noncomputable def aAk (r : RT) (n : Nat) (kk4 : bU) (x0 x1 x5 x6 x11 x12 x13 : DV) (h0 : Hp) : aK :=
 bnd (aB 0 x6 h0) fun v1 h1 =>
 bnd (aA v1 h1) fun v2 h2 =>
 bnd (aF .eql v2 (aD 18) h2) fun v3 h3 =>
  aKl r n kk4 x0 x1 x5 x6 x11 x12 x13 v3 h3
noncomputable def aKa (r : RT) (n : Nat) (kk4 : bU) (x0 x1 x11 x12 x13 : DV) (h0 : Hp) : aK :=
 bnd (aJ 3 x11 x13 h0) fun v1 h1 =>
 bnd (aG 3 v1 h1) fun v2 h2 =>
 bnd (aZ [(aD 0), (aD 0), (aD 0)] h2) fun v3 h3 =>
 bnd (aC 3 v3 v2 h3) fun _ h4 =>
  aAk r n kk4 x0 x1 x13 v3 x11 x12 x13 h4
noncomputable def aVh (r : RT) (n : Nat) (kk4 : bU) (x0 x1 x11 x12 x13 x14 : DV) (h0 : Hp) : aK :=
 aU x14 (
  aKa r n kk4 x0 x1 x11 x12 x13 h0) (
  bI r n h0)
noncomputable def bFu (r : RT) (n : Nat) (kk4 : bU) (x0 x1 x11 x12 x13 : DV) (h0 : Hp) : aK :=
 bnd (aF .lss x13 x12 h0) fun v1 h1 =>
  aVh r n kk4 x0 x1 x11 x12 x13 v1 h1
noncomputable def uK (r : RT) (n : Nat) (m : Nat) : bU :=
 Nat.rec (motive := fun _ => bU) (fun _ _ _ _ _ _ => none) (fun _ ih => bFu r n ih) m
noncomputable def cLq (r : RT) (n : Nat) : bU := uK r n n
noncomputable def aXq (r : RT) (n : Nat) (x0 x1 x11 x12 x13 : DV) (h0 : Hp) : aK :=
 cLq r n x0 x1 x11 x12 x13 h0
noncomputable def bAx (r : RT) (n : Nat) (x0 x1 : DV) (h0 : Hp) : aK :=
 bnd (bO x0 h0) fun v1 h1 =>
  aXq r n x0 x1 x0 v1 (aD 0) h1
noncomputable def s148 (r : RT) (n : Nat) (x0 x1 : DV) (h0 : Hp) : aK :=
 bAx r n x0 x1 h0
noncomputable abbrev c148 : Code := cf Tryz.f148
noncomputable abbrev aJv : Code := cR c148
noncomputable abbrev dRy : Code := cR aJv
noncomputable abbrev aAv : Code := cL aJv
noncomputable abbrev aTi : Code := cR aAv
noncomputable abbrev aPe : Code := cL aTi
noncomputable abbrev kR : Code := cL aPe
noncomputable abbrev aJn : Code := cR kR
noncomputable abbrev aLp : Code := cR aJn
noncomputable abbrev dRe : Code := cR aLp
noncomputable abbrev uW : Code := cL aLp
noncomputable abbrev xF : Code := cL uW
noncomputable abbrev uD : Code := cR xF
noncomputable abbrev dEs : Code := cR uD
noncomputable abbrev qT : Code := cL uD
noncomputable abbrev rB : Code := cR qT
noncomputable abbrev pV : Code := cL rB
noncomputable abbrev wP : Code := cR pV
noncomputable abbrev wE : Code := cR wP
noncomputable abbrev cZm : Code := cR wE
noncomputable abbrev bCe : Code := cL wE
noncomputable abbrev bJs : Code := cL wP
noncomputable abbrev bEn : Code := cL pV
noncomputable abbrev dCq : Code := cR rB
noncomputable abbrev bCo : Code := cL qT
noncomputable abbrev aJx : Code := cL xF
noncomputable abbrev bIb : Code := cL aJn
noncomputable abbrev bCl : Code := cL kR
noncomputable abbrev bBn : Code := cL aAv
noncomputable abbrev bBr : Code := cL c148
noncomputable abbrev r148 : K := aR CF Tryz.f148
noncomputable def D148 (r : RT) (n : Nat) (c : Code) (X : Nat → K) (k : K) : K := aM CF r 72 n c X r148 k
theorem dCp : D148 r n dRy x0 r148 = (K0 (bI r n)) :=
 (by kernel_rfl)
theorem cXs (kk4 : bU) : D148 r n dRe (xs x0 0 (K0 (bI r n))) (K5 kk4 0 1 11 12 13) = (K5 (cG r n kk4) 0 1 11 12 13) :=
 (by kernel_rfl)
theorem dAw (kk4 : bU) : D148 r n dEs (xs (xs x0 0 (K0 (bI r n))) 1 (K5 (cG r n kk4) 0 1 11 12 13)) (K5 (cG r n kk4) 0 1 11 12 13) = (K7 (gN r n kk4) 0 1 5 6 11 12 13) :=
 (by kernel_rfl)
theorem cGk (kk4 : bU) : D148 r n cZm (xs (xs x0 0 (K0 (bI r n))) 1 (K5 (cG r n kk4) 0 1 11 12 13)) (K7 (gN r n kk4) 0 1 5 6 11 12 13) = (K10 (uO r n kk4) 0 1 5 6 7 8 9 11 12 13) :=
 (by kernel_rfl)
theorem bNa (kk4 : bU) : D148 r n wE (xs (xs x0 0 (K0 (bI r n))) 1 (K5 (cG r n kk4) 0 1 11 12 13)) (K7 (gN r n kk4) 0 1 5 6 11 12 13) = D148 r n bCe (xs (xs x0 0 (K0 (bI r n))) 1 (K5 (cG r n kk4) 0 1 11 12 13)) (K10 (uO r n kk4) 0 1 5 6 7 8 9 11 12 13) :=
 congrArg (fun k => D148 r n bCe (xs (xs x0 0 (K0 (bI r n))) 1 (K5 (cG r n kk4) 0 1 11 12 13)) k) (cGk r n kk4)
theorem bXi (kk4 : bU) : D148 r n wE (xs (xs x0 0 (K0 (bI r n))) 1 (K5 (cG r n kk4) 0 1 11 12 13)) (K7 (gN r n kk4) 0 1 5 6 11 12 13) = (K10 (aJf r n kk4) 0 1 5 6 7 8 9 11 12 13) :=
 (bNa r n kk4).trans
 ((by kernel_rfl))
theorem bOx (kk4 : bU) : D148 r n wP (xs (xs x0 0 (K0 (bI r n))) 1 (K5 (cG r n kk4) 0 1 11 12 13)) (K7 (gN r n kk4) 0 1 5 6 11 12 13) = D148 r n bJs (xs (xs x0 0 (K0 (bI r n))) 1 (K5 (cG r n kk4) 0 1 11 12 13)) (K10 (aJf r n kk4) 0 1 5 6 7 8 9 11 12 13) :=
 congrArg (fun k => D148 r n bJs (xs (xs x0 0 (K0 (bI r n))) 1 (K5 (cG r n kk4) 0 1 11 12 13)) k) (bXi r n kk4)
theorem cLv (kk4 : bU) : D148 r n wP (xs (xs x0 0 (K0 (bI r n))) 1 (K5 (cG r n kk4) 0 1 11 12 13)) (K7 (gN r n kk4) 0 1 5 6 11 12 13) = (K9 (aEc r n kk4) 0 1 5 6 7 8 11 12 13) :=
 (bOx r n kk4).trans
 ((by kernel_rfl))
theorem bMv (kk4 : bU) : D148 r n pV (xs (xs x0 0 (K0 (bI r n))) 1 (K5 (cG r n kk4) 0 1 11 12 13)) (K7 (gN r n kk4) 0 1 5 6 11 12 13) = D148 r n bEn (xs (xs x0 0 (K0 (bI r n))) 1 (K5 (cG r n kk4) 0 1 11 12 13)) (K9 (aEc r n kk4) 0 1 5 6 7 8 11 12 13) :=
 congrArg (fun k => D148 r n bEn (xs (xs x0 0 (K0 (bI r n))) 1 (K5 (cG r n kk4) 0 1 11 12 13)) k) (cLv r n kk4)
theorem bXh (kk4 : bU) : D148 r n pV (xs (xs x0 0 (K0 (bI r n))) 1 (K5 (cG r n kk4) 0 1 11 12 13)) (K7 (gN r n kk4) 0 1 5 6 11 12 13) = (K7 (bEm r n kk4) 0 1 5 6 11 12 13) :=
 (bMv r n kk4).trans
 ((by kernel_rfl))
theorem cFg (kk4 : bU) : D148 r n rB (xs (xs x0 0 (K0 (bI r n))) 1 (K5 (cG r n kk4) 0 1 11 12 13)) (K7 (gN r n kk4) 0 1 5 6 11 12 13) = (K8 (aKl r n kk4) 0 1 5 6 11 12 13 20) :=
 (by kernel_rfl : D148 r n rB (xs (xs x0 0 (K0 (bI r n))) 1 (K5 (cG r n kk4) 0 1 11 12 13)) (K7 (gN r n kk4) 0 1 5 6 11 12 13) = (fun (env : bB) (h : Hp) => aU (opr env (cC rB)) (D148 r n pV (xs (xs x0 0 (K0 (bI r n))) 1 (K5 (cG r n kk4) 0 1 11 12 13)) (K7 (gN r n kk4) 0 1 5 6 11 12 13) env h) (D148 r n dCq (xs (xs x0 0 (K0 (bI r n))) 1 (K5 (cG r n kk4) 0 1 11 12 13)) (K7 (gN r n kk4) 0 1 5 6 11 12 13) env h))).trans (by rw [bXh r n kk4]; kernel_rfl)
theorem cHe (kk4 : bU) : D148 r n uD (xs (xs x0 0 (K0 (bI r n))) 1 (K5 (cG r n kk4) 0 1 11 12 13)) (K5 (cG r n kk4) 0 1 11 12 13) = D148 r n qT (xs (xs x0 0 (K0 (bI r n))) 1 (K5 (cG r n kk4) 0 1 11 12 13)) (K7 (gN r n kk4) 0 1 5 6 11 12 13) :=
 congrArg (fun k => D148 r n qT (xs (xs x0 0 (K0 (bI r n))) 1 (K5 (cG r n kk4) 0 1 11 12 13)) k) (dAw r n kk4)
theorem cAl (kk4 : bU) : D148 r n qT (xs (xs x0 0 (K0 (bI r n))) 1 (K5 (cG r n kk4) 0 1 11 12 13)) (K7 (gN r n kk4) 0 1 5 6 11 12 13) = D148 r n bCo (xs (xs x0 0 (K0 (bI r n))) 1 (K5 (cG r n kk4) 0 1 11 12 13)) (K8 (aKl r n kk4) 0 1 5 6 11 12 13 20) :=
 congrArg (fun k => D148 r n bCo (xs (xs x0 0 (K0 (bI r n))) 1 (K5 (cG r n kk4) 0 1 11 12 13)) k) (cFg r n kk4)
theorem cUm (kk4 : bU) : D148 r n uD (xs (xs x0 0 (K0 (bI r n))) 1 (K5 (cG r n kk4) 0 1 11 12 13)) (K5 (cG r n kk4) 0 1 11 12 13) = (K7 (aAk r n kk4) 0 1 5 6 11 12 13) :=
 (cHe r n kk4).trans
 ((cAl r n kk4).trans
 ((by kernel_rfl)))
theorem bRu (kk4 : bU) : D148 r n aLp (xs x0 0 (K0 (bI r n))) (K5 kk4 0 1 11 12 13) = D148 r n uW (xs x0 0 (K0 (bI r n))) (K5 (cG r n kk4) 0 1 11 12 13) :=
 congrArg (fun k => D148 r n uW (xs x0 0 (K0 (bI r n))) k) (cXs r n kk4)
theorem bUz (kk4 : bU) : D148 r n xF (xs (xs x0 0 (K0 (bI r n))) 1 (K5 (cG r n kk4) 0 1 11 12 13)) (K5 (cG r n kk4) 0 1 11 12 13) = D148 r n aJx (xs (xs x0 0 (K0 (bI r n))) 1 (K5 (cG r n kk4) 0 1 11 12 13)) (K7 (aAk r n kk4) 0 1 5 6 11 12 13) :=
 congrArg (fun k => D148 r n aJx (xs (xs x0 0 (K0 (bI r n))) 1 (K5 (cG r n kk4) 0 1 11 12 13)) k) (cUm r n kk4)
theorem bZy (kk4 : bU) (q0 : TT7) (q1 : Hp → aK) (q2 : bU) : D148 r n aJx (xs (xs x0 0 (K0 q1)) 1 (K5 q2 0 1 11 12 13)) (K7 q0 0 1 5 6 11 12 13) = fun (env : bB) (h : Hp) =>
 bnd (aJ 3 (env 11) (env 13) h) fun v1 h1 =>
 bnd (aG 3 v1 h1) fun v2 h2 =>
 bnd (aZ [(aD 0), (aD 0), (aD 0)] h2) fun v3 h3 =>
 bnd (aC 3 v3 v2 h3) fun _ h4 =>
  q0 (env 0) (env 1) (env 13) v3 (env 11) (env 12) (env 13) h4 := by kernel_rfl
theorem bQg (kk4 : bU) : (fun (env : bB) (h : Hp) =>
 bnd (aJ 3 (env 11) (env 13) h) fun v1 h1 =>
 bnd (aG 3 v1 h1) fun v2 h2 =>
 bnd (aZ [(aD 0), (aD 0), (aD 0)] h2) fun v3 h3 =>
 bnd (aC 3 v3 v2 h3) fun _ h4 =>
  aAk r n kk4 (env 0) (env 1) (env 13) v3 (env 11) (env 12) (env 13) h4) = (K5 (aKa r n kk4) 0 1 11 12 13) := by kernel_rfl
theorem cSb (kk4 : bU) : D148 r n aLp (xs x0 0 (K0 (bI r n))) (K5 kk4 0 1 11 12 13) = (K5 (aKa r n kk4) 0 1 11 12 13) :=
 (bRu r n kk4).trans
 ((by kernel_rfl : D148 r n uW (xs x0 0 (K0 (bI r n))) (K5 (cG r n kk4) 0 1 11 12 13) = D148 r n xF (xs (xs x0 0 (K0 (bI r n))) 1 (K5 (cG r n kk4) 0 1 11 12 13)) (K5 (cG r n kk4) 0 1 11 12 13)).trans
 ((bUz r n kk4).trans
 ((bZy r n kk4 (aAk r n kk4) (bI r n) (cG r n kk4)).trans (bQg r n kk4))))
theorem cBf (kk4 : bU) : D148 r n aJn (xs x0 0 (K0 (bI r n))) (K5 kk4 0 1 11 12 13) = D148 r n bIb (xs x0 0 (K0 (bI r n))) (K5 (aKa r n kk4) 0 1 11 12 13) :=
 congrArg (fun k => D148 r n bIb (xs x0 0 (K0 (bI r n))) k) (cSb r n kk4)
theorem dBa (kk4 : bU) : D148 r n aJn (xs x0 0 (K0 (bI r n))) (K5 kk4 0 1 11 12 13) = (K6 (aVh r n kk4) 0 1 11 12 13 14) :=
 (cBf r n kk4).trans
 ((by kernel_rfl))
theorem bLe (kk4 : bU) : D148 r n kR (xs x0 0 (K0 (bI r n))) (K5 kk4 0 1 11 12 13) = D148 r n bCl (xs x0 0 (K0 (bI r n))) (K6 (aVh r n kk4) 0 1 11 12 13 14) :=
 congrArg (fun k => D148 r n bCl (xs x0 0 (K0 (bI r n))) k) (dBa r n kk4)
theorem bUf (kk4 : bU) : D148 r n kR (xs x0 0 (K0 (bI r n))) (K5 kk4 0 1 11 12 13) = (K5 (bFu r n kk4) 0 1 11 12 13) :=
 (bLe r n kk4).trans
 ((by kernel_rfl))
theorem bYb (m : Nat) : aL (fun kk => D148 r n kR (xs x0 0 (K0 (bI r n))) kk) m = (K5 (uK r n m) 0 1 11 12 13) := by
 induction m with
 | zero => exact (by kernel_rfl : aL (fun kk => D148 r n kR (xs x0 0 (K0 (bI r n))) kk) 0 = (K5 (uK r n 0) 0 1 11 12 13))
 | succ m ih =>
  refine (by kernel_rfl : aL (fun kk => D148 r n kR (xs x0 0 (K0 (bI r n))) kk) (m + 1) = D148 r n kR (xs x0 0 (K0 (bI r n))) (aL (fun kk => D148 r n kR (xs x0 0 (K0 (bI r n))) kk) m)).trans ?_
  rw [ih]
  exact (bUf r n (uK r n m)).trans (by kernel_rfl)
theorem cZt : D148 r n aPe (xs x0 0 (K0 (bI r n))) (K0 (bI r n)) = (K5 (cLq r n) 0 1 11 12 13) :=
 (by kernel_rfl : D148 r n aPe (xs x0 0 (K0 (bI r n))) (K0 (bI r n)) = aL (fun kk => D148 r n kR (xs x0 0 (K0 (bI r n))) kk) n).trans ((bYb r n n).trans (by kernel_rfl))
theorem cQm : D148 r n aTi x0 (K0 (bI r n)) = (K5 (aXq r n) 0 1 11 12 13) :=
 (by kernel_rfl : D148 r n aTi x0 (K0 (bI r n)) = D148 r n aPe (xs x0 0 (K0 (bI r n))) (K0 (bI r n))).trans
 ((cZt r n).trans (by kernel_rfl))
theorem bOz : D148 r n aJv x0 r148 = D148 r n aAv x0 (K0 (bI r n)) :=
 congrArg (fun k => D148 r n aAv x0 k) (dCp r n)
theorem bLw : D148 r n aAv x0 (K0 (bI r n)) = D148 r n bBn x0 (K5 (aXq r n) 0 1 11 12 13) :=
 congrArg (fun k => D148 r n bBn x0 k) (cQm r n)
theorem dEr : D148 r n aJv x0 r148 = (K2 (bAx r n) 0 1) :=
 (bOz r n).trans
 ((bLw r n).trans
 ((by kernel_rfl)))
theorem cVr : D148 r n c148 x0 r148 = D148 r n bBr x0 (K2 (bAx r n) 0 1) :=
 congrArg (fun k => D148 r n bBr x0 k) (dEr r n)
theorem eCy : D148 r n c148 x0 r148 = (K2 (s148 r n) 0 1) :=
 (cVr r n).trans
 ((by kernel_rfl))
theorem dRc : aE CF r n 148 args h = s148 r n (aO args 0) (aO args 1) h :=
 (by kernel_rfl : aE CF r n 148 args h = D148 r n c148 x0 r148 (aI args) h).trans ((congrFun (congrFun (eCy r n) (aI args)) h).trans (by kernel_rfl))
noncomputable def bR (r : RT) (n : Nat) (x6 x9 : DV) (h0 : Hp) : aK :=
 bnd (aA x6 h0) fun v1 h1 =>
 bnd (aA x9 h1) fun v2 h2 =>
 some (.t [v1, v2], h2)
noncomputable def vV (r : RT) (n : Nat) (kk9 : cZ) (x2 x3 x6 x7 x9 x10 x11 x14 : DV) (h0 : Hp) : aK :=
 bnd (aF .add x11 (aD 1) h0) fun v1 h1 =>
 bnd (aA x3 h1) fun v2 h2 =>
 bnd (aJ 1 v2 x11 h2) fun v3 h3 =>
 bnd (aA v3 h3) fun v4 h4 =>
 bnd (dF CF r x10 [v1, v4, x14] h4) fun v5 h5 =>
  kk9 x2 x3 x6 x7 x9 x10 h5
noncomputable def aQi (r : RT) (n : Nat) (kk9 : cZ) (x2 x3 x6 x7 x9 x10 x11 x12 x13 x14 : DV) (h0 : Hp) : aK :=
 bnd (aB 0 x12 h0) fun v1 h1 =>
 bnd (aA v1 h1) fun v2 h2 =>
 bnd (aF .eql v2 (aD 19) h2) fun v3 h3 =>
 aU v3 (
 bnd (aF .neq x13 (aD 1) h3) fun v4 h4 =>
 bnd (gD v4 false (aA x3 h4) h4) fun v5 h5 =>
 bnd (gD v4 false (some (x11, h5)) h5) fun v6 h6 =>
 bnd (gD v4 false (aJ 1 v5 v6 h6) h6) fun v7 h7 =>
 bnd (gD v4 false (aA v7 h7) h7) fun v8 h8 =>
 bnd (gD v4 false (aF .lss v8 (aD 0) h8) h8) fun v9 h9 =>
 bnd (aP v4 (.b true) v9 h9) fun v10 h10 =>
 aU v10 (
 some (.t [.l0, (.b false)], h10)) (
   kk9 x2 x3 x6 x7 x9 x10 h10)) (
 bnd (aF .eql v2 (aD 20) h3) fun v11 h11 =>
 aU v11 (
   kk9 x2 x3 x6 x7 x9 x10 h11) (
 bnd (aF .eql v2 (aD 16) h11) fun v12 h12 =>
 aU v12 (
 bnd (aG 3 x12 h12) fun v13 h13 =>
 bnd (r 169 [v13] h13) fun v14 h14 =>
 bnd (aA x3 h14) fun v15 h15 =>
 cnd (aX (aA x3 h12) v15 && true) (
 bnd (aJ 1 v15 x11 h15) fun v16 h16 =>
 bnd (aA v16 h16) fun v17 h17 =>
 cnd (aX (aA v16 h12) v17 && true) (
 bnd (dF CF r x10 [v14, v17, x14] h17) fun v18 h18 =>
    kk9 x2 x3 x6 x7 x9 x10 h18))) (
 bnd (aF .eql v2 (aD 17) h12) fun v19 h19 =>
 aU v19 (
 bnd (aG 3 x12 h19) fun v20 h20 =>
 bnd (r 169 [v20] h20) fun v21 h21 =>
 bnd (aA x3 h21) fun v22 h22 =>
 cnd (aX (aA x3 h19) v22 && true) (
 bnd (aJ 1 v22 x11 h22) fun v23 h23 =>
 bnd (aA v23 h23) fun v24 h24 =>
 cnd (aX (aA v23 h19) v24 && true) (
 bnd (dF CF r x10 [v21, v24, x14] h24) fun v25 h25 =>
     vV r n kk9 x2 x3 x6 x7 x9 x10 x11 x14 h25))) (
     vV r n kk9 x2 x3 x6 x7 x9 x10 x11 x14 h19))))
noncomputable def aDj (r : RT) (n : Nat) (kk9 : cZ) (x2 x3 x6 x7 x9 x10 x11 x12 x13 x14 : DV) (h0 : Hp) : aK :=
 bnd (aG 3 x12 h0) fun v1 h1 =>
 bnd (r 172 [v1] h1) fun v2 h2 =>
 bnd (aF .lss x13 v2 h2) fun v3 h3 =>
 bnd (gD v3 false (some (x14, h3)) h3) fun v4 h4 =>
 bnd (gD v3 false (aF .gtr v4 (aD 24) h4) h4) fun v5 h5 =>
 bnd (aP v3 (.b true) v5 h5) fun v6 h6 =>
 aU v6 (
 some (.t [.l0, (.b false)], h6)) (
  aQi r n kk9 x2 x3 x6 x7 x9 x10 x11 x12 x13 x14 h6)
noncomputable def aNy (r : RT) (n : Nat) (kk9 : cZ) (x2 x3 x6 x7 x9 x10 x11 x12 x13 : DV) (h0 : Hp) : aK :=
 bnd (aG 3 x12 h0) fun v1 h1 =>
 bnd (r 171 [v1] h1) fun v2 h2 =>
 bnd (aF .add x13 v2 h2) fun v3 h3 =>
  aDj r n kk9 x2 x3 x6 x7 x9 x10 x11 x12 x13 v3 h3
noncomputable def aEs (r : RT) (n : Nat) (kk9 : cZ) (x2 x3 x6 x7 x9 x10 x11 : DV) (h0 : Hp) : aK :=
 bnd (aA x2 (resv 1 h0)) fun v1 h1 =>
 bnd (aJ 3 v1 x11 h1) fun v2 h2 =>
 bnd (aG 3 v2 h2) fun v3 h3 =>
 bnd (aA x6 h3) fun v4 h4 =>
 bnd (aJ 1 v4 x11 h4) fun v5 h5 =>
 bnd (aA v5 h5) fun v6 h6 =>
 bnd (jH (bF 0 h0.next) [(aD 0), (aD 0), (aD 0)] h6) fun v7 h7 =>
 bnd (aC 3 v7 v3 h7) fun v8 h8 =>
 cnd (aX (aA v5 h8) v6 && (aX (aA x6 h8) v4 && true)) (
  aNy r n kk9 x2 x3 x6 x7 x9 x10 x11 v7 v6 h8)
noncomputable def aOs (r : RT) (n : Nat) (kk9 : cZ) (x2 x3 x6 x7 x9 x10 x11 : DV) (h0 : Hp) : aK :=
 bnd (aA x7 h0) fun v1 h1 =>
 bnd (aA x7 h1) fun v2 h2 =>
 bnd (bO v2 h2) fun v3 h3 =>
 bnd (aF .sub v3 (aD 1) h3) fun v4 h4 =>
 bnd (cW 1 v1 none (some v4) h4) fun v5 h5 =>
 bnd (aC 1 x7 v5 h5) fun _ h6 =>
  aEs r n kk9 x2 x3 x6 x7 x9 x10 x11 h6
noncomputable def aNf (r : RT) (n : Nat) (kk9 : cZ) (x2 x3 x6 x7 x9 x10 : DV) (h0 : Hp) : aK :=
 bnd (aA x7 h0) fun v1 h1 =>
 bnd (aA x7 h1) fun v2 h2 =>
 bnd (bO v2 h2) fun v3 h3 =>
 bnd (aF .sub v3 (aD 1) h3) fun v4 h4 =>
 bnd (aJ 1 v1 v4 h4) fun v5 h5 =>
 bnd (aA v5 h5) fun v6 h6 =>
  aOs r n kk9 x2 x3 x6 x7 x9 x10 v6 h6
noncomputable def bGl (r : RT) (n : Nat) (kk9 : cZ) (x2 x3 x6 x7 x9 x10 : DV) (h0 : Hp) : aK :=
 bnd (aA x7 h0) fun v1 h1 =>
 bnd (bO v1 h1) fun v2 h2 =>
 bnd (aF .gtr v2 (aD 0) h2) fun v3 h3 =>
 bnd (gD v3 true (aA x9 h3) h3) fun v4 h4 =>
 bnd (aP v3 v4 (.b false) h4) fun v5 h5 =>
 aU v5 (
   aNf r n kk9 x2 x3 x6 x7 x9 x10 h5) (
   bR r n x6 x9 h5)
noncomputable def wG (r : RT) (n : Nat) (m : Nat) : cZ :=
 Nat.rec (motive := fun _ => cZ) (fun _ _ _ _ _ _ _ => none) (fun _ ih => bGl r n ih) m
noncomputable def cNo (r : RT) (n : Nat) : cZ := wG r n n
noncomputable def aTb (r : RT) (n : Nat) (x2 x3 x6 x7 x9 x10 : DV) (h0 : Hp) : aK :=
 cNo r n x2 x3 x6 x7 x9 x10 h0
noncomputable def aTq (r : RT) (n : Nat) (x2 x3 x6 x7 x9 x10 : DV) (h0 : Hp) : aK :=
 aTb r n x2 x3 x6 x7 x9 x10 h0
noncomputable def yK (r : RT) (n : Nat) (x2 x3 x6 x7 x9 : DV) (h0 : Hp) : aK :=
 aTq r n x2 x3 x6 x7 x9 (.f 170 [] [x2, x3, x6, x9, x7]) h0
noncomputable def cT (r : RT) (n : Nat) (x2 x3 x6 x7 : DV) (h0 : Hp) : aK :=
 bnd (aZ [(.b false)] h0) fun v1 h1 =>
 bnd (aC 1 v1 (.b true) h1) fun _ h2 =>
  yK r n x2 x3 x6 x7 v1 h2
noncomputable def mD (r : RT) (n : Nat) (kk18 : cZ) (x2 x3 x6 x7 x19 x20 : DV) (h0 : Hp) : aK :=
 bnd (aF .add x20 (aD 1) h0) fun v1 h1 =>
  kk18 x2 x3 x6 x7 x19 v1 h1
noncomputable def xU (r : RT) (n : Nat) (kk18 : cZ) (x2 x3 x6 x7 x19 x20 : DV) (h0 : Hp) : aK :=
 bnd (aA x6 h0) fun v1 h1 =>
 bnd (aJ 1 v1 x20 h1) fun v2 h2 =>
 bnd (aC 1 v2 (.i .i64 (Int.negSucc 0)) h2) fun _ h3 =>
 bnd (aF .eql x20 (aD 0) h3) fun v4 h4 =>
 bnd (gD v4 false (some (x20, h4)) h4) fun v5 h5 =>
 bnd (gD v4 false (aF .gtr v5 (aD 1) h5) h5) fun v6 h6 =>
 bnd (gD v4 false (some (v6, h6)) h6) fun v7 h7 =>
 bnd (gD v7 true (aA x2 h7) h7) fun v8 h8 =>
 bnd (gD v7 true (some (x20, h8)) h8) fun v9 h9 =>
 bnd (gD v7 true (aF .sub v9 (aD 2) h9) h9) fun v10 h10 =>
 bnd (gD v7 true (aJ 3 v8 v10 h10) h10) fun v11 h11 =>
 bnd (gD v7 true (aB 0 v11 h11) h11) fun v12 h12 =>
 bnd (gD v7 true (aA v12 h12) h12) fun v13 h13 =>
 bnd (gD v7 true (aF .eql v13 (aD 18) h13) h13) fun v14 h14 =>
 bnd (gD v4 false (aP v7 v14 (.b false) h14) h14) fun v15 h15 =>
 bnd (gD v4 false (some (v15, h15)) h15) fun v16 h16 =>
 bnd (gD v16 true (aA x3 h16) h16) fun v17 h17 =>
 bnd (gD v16 true (some (x20, h17)) h17) fun v18 h18 =>
 bnd (gD v16 true (aJ 1 v17 v18 h18) h18) fun v19 h19 =>
 bnd (gD v16 true (aA v19 h19) h19) fun v20 h20 =>
 bnd (gD v16 true (some (x20, h20)) h20) fun v21 h21 =>
 bnd (gD v16 true (aF .sub v21 (aD 2) h21) h21) fun v22 h22 =>
 bnd (gD v16 true (aF .eql v20 v22 h22) h22) fun v23 h23 =>
 bnd (gD v4 false (aP v16 v23 (.b false) h23) h23) fun v24 h24 =>
 bnd (aP v4 (.b true) v24 h24) fun v25 h25 =>
 aU v25 (
 bnd (aA x6 h25) fun v26 h26 =>
 bnd (aJ 1 v26 x20 h26) fun v27 h27 =>
 bnd (aC 1 v27 (aD 0) h27) fun _ h28 =>
 bnd (aA x7 h28) fun v29 h29 =>
 bnd (aN [(aD 0)] 1 [(0, 1, x20)] h29) fun v30 h30 =>
 bnd (aY 1 8 v29 v30 h30) fun v31 h31 =>
 bnd (aC 1 x7 v31 h31) fun _ h32 =>
  mD r n kk18 x2 x3 x6 x7 x19 x20 h32) (
  mD r n kk18 x2 x3 x6 x7 x19 x20 h25)
noncomputable def aDq (r : RT) (n : Nat) (kk18 : cZ) (x2 x3 x6 x7 x19 x20 x21 : DV) (h0 : Hp) : aK :=
 aU x21 (
  xU r n kk18 x2 x3 x6 x7 x19 x20 h0) (
  cT r n x2 x3 x6 x7 h0)
noncomputable def aRj (r : RT) (n : Nat) (kk18 : cZ) (x2 x3 x6 x7 x19 x20 : DV) (h0 : Hp) : aK :=
 bnd (aF .lss x20 x19 h0) fun v1 h1 =>
  aDq r n kk18 x2 x3 x6 x7 x19 x20 v1 h1
noncomputable def rN (r : RT) (n : Nat) (m : Nat) : cZ :=
 Nat.rec (motive := fun _ => cZ) (fun _ _ _ _ _ _ _ => none) (fun _ ih => aRj r n ih) m
noncomputable def bGg (r : RT) (n : Nat) : cZ := rN r n n
noncomputable def aLa (r : RT) (n : Nat) (x2 x3 x6 x7 x19 x20 : DV) (h0 : Hp) : aK :=
 bGg r n x2 x3 x6 x7 x19 x20 h0
noncomputable def aBu (r : RT) (n : Nat) (x2 x3 x6 x7 : DV) (h0 : Hp) : aK :=
 bnd (aA x6 h0) fun v1 h1 =>
 bnd (bO v1 h1) fun v2 h2 =>
  aLa r n x2 x3 x6 x7 v2 (aD 0) h2
noncomputable def rQ (r : RT) (n : Nat) (x2 x3 x6 : DV) (h0 : Hp) : aK :=
 bnd (aZ [.l0] h0) fun v1 h1 =>
  aBu r n x2 x3 x6 v1 h1
noncomputable def sB (r : RT) (n : Nat) (x2 x3 : DV) (h0 : Hp) : aK :=
 bnd (aA x2 h0) fun v1 h1 =>
 bnd (bO v1 h1) fun v2 h2 =>
 bnd (cJ 1 8 [(aD 0)] v2 v2 h2) fun v3 h3 =>
 bnd (aZ [.l0] h3) fun v4 h4 =>
 bnd (aC 1 v4 v3 h4) fun _ h5 =>
  rQ r n x2 x3 v4 h5
noncomputable def s149 (r : RT) (n : Nat) (x0 x1 : DV) (h0 : Hp) : aK :=
 bnd (bJ x0 h0) fun v1 h1 =>
 bnd (bJ x1 h1) fun v2 h2 =>
  sB r n v1 v2 h2
noncomputable abbrev c149 : Code := cf Tryz.f149
noncomputable abbrev aVu : Code := cR c149
noncomputable abbrev aMc : Code := cL aVu
noncomputable abbrev aMj : Code := cR aMc
noncomputable abbrev aNs : Code := cR aMj
noncomputable abbrev aKg : Code := cR aNs
noncomputable abbrev aQd : Code := cR aKg
noncomputable abbrev aOp : Code := cR aQd
noncomputable abbrev aNv : Code := cR aOp
noncomputable abbrev dPi : Code := cR aNv
noncomputable abbrev uP : Code := cL aNv
noncomputable abbrev xE : Code := cL uP
noncomputable abbrev iZ : Code := cL xE
noncomputable abbrev aDd : Code := cR iZ
noncomputable abbrev uL : Code := cL aDd
noncomputable abbrev wR : Code := cR uL
noncomputable abbrev xN : Code := cR wR
noncomputable abbrev uY : Code := cR xN
noncomputable abbrev wN : Code := cR uY
noncomputable abbrev uS : Code := cR wN
noncomputable abbrev dBz : Code := cR uS
noncomputable abbrev bFn : Code := cL uS
noncomputable abbrev bFs : Code := cL wN
noncomputable abbrev bGq : Code := cL uY
noncomputable abbrev bEi : Code := cL xN
noncomputable abbrev bJi : Code := cL wR
noncomputable abbrev bJw : Code := cL uL
noncomputable abbrev bCr : Code := cL iZ
noncomputable abbrev bEa : Code := cL aOp
noncomputable abbrev bKs : Code := cL aQd
noncomputable abbrev aKc : Code := cL aKg
noncomputable abbrev pU : Code := cL aNs
noncomputable abbrev aQh : Code := cR pU
noncomputable abbrev xV : Code := cL aQh
noncomputable abbrev iW : Code := cL xV
noncomputable abbrev vG : Code := cR iW
noncomputable abbrev uI : Code := cR vG
noncomputable abbrev cWt : Code := cR uI
noncomputable abbrev aHw : Code := cL uI
noncomputable abbrev bJv : Code := cL vG
noncomputable abbrev bGv : Code := cL iW
noncomputable abbrev bEs : Code := cL pU
noncomputable abbrev aHc : Code := cL aMj
noncomputable abbrev aLb : Code := cL aMc
noncomputable abbrev aOz : Code := cL c149
noncomputable abbrev r149 : K := aR CF Tryz.f149
noncomputable def D149 (r : RT) (n : Nat) (c : Code) (X : Nat → K) (k : K) : K := aM CF r 144 n c X r149 k
theorem cPc : D149 r n dPi x0 r149 = (K2 (bR r n) 6 9) :=
 (by kernel_rfl)
theorem cAp (kk9 : cZ) : D149 r n dBz (xs (xs x0 2 (K2 (bR r n) 6 9)) 3 (K6 kk9 2 3 6 7 9 10)) (K6 kk9 2 3 6 7 9 10) = (K8 (vV r n kk9) 2 3 6 7 9 10 11 14) :=
 (by kernel_rfl)
theorem bLk (kk9 : cZ) : D149 r n uS (xs (xs x0 2 (K2 (bR r n) 6 9)) 3 (K6 kk9 2 3 6 7 9 10)) (K6 kk9 2 3 6 7 9 10) = D149 r n bFn (xs (xs x0 2 (K2 (bR r n) 6 9)) 3 (K6 kk9 2 3 6 7 9 10)) (K8 (vV r n kk9) 2 3 6 7 9 10 11 14) :=
 congrArg (fun k => D149 r n bFn (xs (xs x0 2 (K2 (bR r n) 6 9)) 3 (K6 kk9 2 3 6 7 9 10)) k) (cAp r n kk9)
theorem bVf (kk9 : cZ) : D149 r n uS (xs (xs x0 2 (K2 (bR r n) 6 9)) 3 (K6 kk9 2 3 6 7 9 10)) (K6 kk9 2 3 6 7 9 10) = (K10 (aQi r n kk9) 2 3 6 7 9 10 11 12 13 14) :=
 (bLk r n kk9).trans
 ((by kernel_rfl))
theorem bLl (kk9 : cZ) : D149 r n wN (xs (xs x0 2 (K2 (bR r n) 6 9)) 3 (K6 kk9 2 3 6 7 9 10)) (K6 kk9 2 3 6 7 9 10) = D149 r n bFs (xs (xs x0 2 (K2 (bR r n) 6 9)) 3 (K6 kk9 2 3 6 7 9 10)) (K10 (aQi r n kk9) 2 3 6 7 9 10 11 12 13 14) :=
 congrArg (fun k => D149 r n bFs (xs (xs x0 2 (K2 (bR r n) 6 9)) 3 (K6 kk9 2 3 6 7 9 10)) k) (bVf r n kk9)
theorem cHh (kk9 : cZ) : D149 r n wN (xs (xs x0 2 (K2 (bR r n) 6 9)) 3 (K6 kk9 2 3 6 7 9 10)) (K6 kk9 2 3 6 7 9 10) = (K10 (aDj r n kk9) 2 3 6 7 9 10 11 12 13 14) :=
 (bLl r n kk9).trans
 ((by kernel_rfl))
theorem bOo (kk9 : cZ) : D149 r n uY (xs (xs x0 2 (K2 (bR r n) 6 9)) 3 (K6 kk9 2 3 6 7 9 10)) (K6 kk9 2 3 6 7 9 10) = D149 r n bGq (xs (xs x0 2 (K2 (bR r n) 6 9)) 3 (K6 kk9 2 3 6 7 9 10)) (K10 (aDj r n kk9) 2 3 6 7 9 10 11 12 13 14) :=
 congrArg (fun k => D149 r n bGq (xs (xs x0 2 (K2 (bR r n) 6 9)) 3 (K6 kk9 2 3 6 7 9 10)) k) (cHh r n kk9)
theorem cGq (kk9 : cZ) : D149 r n uY (xs (xs x0 2 (K2 (bR r n) 6 9)) 3 (K6 kk9 2 3 6 7 9 10)) (K6 kk9 2 3 6 7 9 10) = (K9 (aNy r n kk9) 2 3 6 7 9 10 11 12 13) :=
 (bOo r n kk9).trans
 ((by kernel_rfl))
theorem bMm (kk9 : cZ) : D149 r n xN (xs (xs x0 2 (K2 (bR r n) 6 9)) 3 (K6 kk9 2 3 6 7 9 10)) (K6 kk9 2 3 6 7 9 10) = D149 r n bEi (xs (xs x0 2 (K2 (bR r n) 6 9)) 3 (K6 kk9 2 3 6 7 9 10)) (K9 (aNy r n kk9) 2 3 6 7 9 10 11 12 13) :=
 congrArg (fun k => D149 r n bEi (xs (xs x0 2 (K2 (bR r n) 6 9)) 3 (K6 kk9 2 3 6 7 9 10)) k) (cGq r n kk9)
theorem cHl (kk9 : cZ) : D149 r n xN (xs (xs x0 2 (K2 (bR r n) 6 9)) 3 (K6 kk9 2 3 6 7 9 10)) (K6 kk9 2 3 6 7 9 10) = (K7 (aEs r n kk9) 2 3 6 7 9 10 11) :=
 (bMm r n kk9).trans
 ((by kernel_rfl))
theorem bPj (kk9 : cZ) : D149 r n wR (xs (xs x0 2 (K2 (bR r n) 6 9)) 3 (K6 kk9 2 3 6 7 9 10)) (K6 kk9 2 3 6 7 9 10) = D149 r n bJi (xs (xs x0 2 (K2 (bR r n) 6 9)) 3 (K6 kk9 2 3 6 7 9 10)) (K7 (aEs r n kk9) 2 3 6 7 9 10 11) :=
 congrArg (fun k => D149 r n bJi (xs (xs x0 2 (K2 (bR r n) 6 9)) 3 (K6 kk9 2 3 6 7 9 10)) k) (cHl r n kk9)
theorem cIj (kk9 : cZ) : D149 r n wR (xs (xs x0 2 (K2 (bR r n) 6 9)) 3 (K6 kk9 2 3 6 7 9 10)) (K6 kk9 2 3 6 7 9 10) = (K7 (aOs r n kk9) 2 3 6 7 9 10 11) :=
 (bPj r n kk9).trans
 ((by kernel_rfl))
theorem bMr (kk9 : cZ) : D149 r n uL (xs (xs x0 2 (K2 (bR r n) 6 9)) 3 (K6 kk9 2 3 6 7 9 10)) (K6 kk9 2 3 6 7 9 10) = D149 r n bJw (xs (xs x0 2 (K2 (bR r n) 6 9)) 3 (K6 kk9 2 3 6 7 9 10)) (K7 (aOs r n kk9) 2 3 6 7 9 10 11) :=
 congrArg (fun k => D149 r n bJw (xs (xs x0 2 (K2 (bR r n) 6 9)) 3 (K6 kk9 2 3 6 7 9 10)) k) (cIj r n kk9)
theorem bQw (kk9 : cZ) : D149 r n aDd (xs x0 2 (K2 (bR r n) 6 9)) (K6 kk9 2 3 6 7 9 10) = (K6 (aNf r n kk9) 2 3 6 7 9 10) :=
 (by kernel_rfl : D149 r n aDd (xs x0 2 (K2 (bR r n) 6 9)) (K6 kk9 2 3 6 7 9 10) = D149 r n uL (xs (xs x0 2 (K2 (bR r n) 6 9)) 3 (K6 kk9 2 3 6 7 9 10)) (K6 kk9 2 3 6 7 9 10)).trans
 ((bMr r n kk9).trans
 ((by kernel_rfl)))
theorem bWu (kk9 : cZ) : D149 r n iZ (xs x0 2 (K2 (bR r n) 6 9)) (K6 kk9 2 3 6 7 9 10) = D149 r n bCr (xs x0 2 (K2 (bR r n) 6 9)) (K6 (aNf r n kk9) 2 3 6 7 9 10) :=
 congrArg (fun k => D149 r n bCr (xs x0 2 (K2 (bR r n) 6 9)) k) (bQw r n kk9)
theorem bSo (kk9 : cZ) : D149 r n iZ (xs x0 2 (K2 (bR r n) 6 9)) (K6 kk9 2 3 6 7 9 10) = (K6 (bGl r n kk9) 2 3 6 7 9 10) :=
 (bWu r n kk9).trans
 ((by kernel_rfl))
theorem cOa (m : Nat) : aL (fun kk => D149 r n iZ (xs x0 2 (K2 (bR r n) 6 9)) kk) m = (K6 (wG r n m) 2 3 6 7 9 10) := by
 induction m with
 | zero => exact (by kernel_rfl : aL (fun kk => D149 r n iZ (xs x0 2 (K2 (bR r n) 6 9)) kk) 0 = (K6 (wG r n 0) 2 3 6 7 9 10))
 | succ m ih =>
  refine (by kernel_rfl : aL (fun kk => D149 r n iZ (xs x0 2 (K2 (bR r n) 6 9)) kk) (m + 1) = D149 r n iZ (xs x0 2 (K2 (bR r n) 6 9)) (aL (fun kk => D149 r n iZ (xs x0 2 (K2 (bR r n) 6 9)) kk) m)).trans ?_
  rw [ih]
  exact (bSo r n (wG r n m)).trans (by kernel_rfl)
theorem dEp : D149 r n xE (xs x0 2 (K2 (bR r n) 6 9)) (K2 (bR r n) 6 9) = (K6 (cNo r n) 2 3 6 7 9 10) :=
 (by kernel_rfl : D149 r n xE (xs x0 2 (K2 (bR r n) 6 9)) (K2 (bR r n) 6 9) = aL (fun kk => D149 r n iZ (xs x0 2 (K2 (bR r n) 6 9)) kk) n).trans ((cOa r n n).trans (by kernel_rfl))
theorem bXa : D149 r n aNv x0 r149 = D149 r n uP x0 (K2 (bR r n) 6 9) :=
 congrArg (fun k => D149 r n uP x0 k) (cPc r n)
theorem cRm : D149 r n aNv x0 r149 = (K6 (aTb r n) 2 3 6 7 9 10) :=
 (bXa r n).trans
 ((by kernel_rfl : D149 r n uP x0 (K2 (bR r n) 6 9) = D149 r n xE (xs x0 2 (K2 (bR r n) 6 9)) (K2 (bR r n) 6 9)).trans
 ((dEp r n).trans (by kernel_rfl)))
theorem cGx : D149 r n aOp x0 r149 = D149 r n bEa x0 (K6 (aTb r n) 2 3 6 7 9 10) :=
 congrArg (fun k => D149 r n bEa x0 k) (cRm r n)
theorem cOt : D149 r n aOp x0 r149 = (K6 (aTq r n) 2 3 6 7 9 10) :=
 (cGx r n).trans
 ((by kernel_rfl))
theorem bOu : D149 r n aQd x0 r149 = D149 r n bKs x0 (K6 (aTq r n) 2 3 6 7 9 10) :=
 congrArg (fun k => D149 r n bKs x0 k) (cOt r n)
theorem cVb : D149 r n aQd x0 r149 = (K5 (yK r n) 2 3 6 7 9) :=
 (bOu r n).trans
 ((by kernel_rfl))
theorem bMq : D149 r n aKg x0 r149 = D149 r n aKc x0 (K5 (yK r n) 2 3 6 7 9) :=
 congrArg (fun k => D149 r n aKc x0 k) (cVb r n)
theorem bOb (q0 : bU) : D149 r n aKc x0 (K5 q0 2 3 6 7 9) = fun (env : bB) (h : Hp) =>
 bnd (aZ [(.b false)] h) fun v1 h1 =>
 bnd (aC 1 v1 (.b true) h1) fun _ h2 =>
  q0 (env 2) (env 3) (env 6) (env 7) v1 h2 := by kernel_rfl
theorem aTk : (fun (env : bB) (h : Hp) =>
 bnd (aZ [(.b false)] h) fun v1 h1 =>
 bnd (aC 1 v1 (.b true) h1) fun _ h2 =>
  yK r n (env 2) (env 3) (env 6) (env 7) v1 h2) = (K4 (cT r n) 2 3 6 7) := by kernel_rfl
theorem dCu : D149 r n aKg x0 r149 = (K4 (cT r n) 2 3 6 7) :=
 (bMq r n).trans
 ((bOb r n (yK r n)).trans (aTk r n))
theorem cGp (kk18 : cZ) : D149 r n cWt (xs x0 0 (K4 (cT r n) 2 3 6 7)) (K6 kk18 2 3 6 7 19 20) = (K6 (mD r n kk18) 2 3 6 7 19 20) :=
 (by kernel_rfl)
theorem aZp (kk18 : cZ) : D149 r n uI (xs x0 0 (K4 (cT r n) 2 3 6 7)) (K6 kk18 2 3 6 7 19 20) = D149 r n aHw (xs x0 0 (K4 (cT r n) 2 3 6 7)) (K6 (mD r n kk18) 2 3 6 7 19 20) :=
 congrArg (fun k => D149 r n aHw (xs x0 0 (K4 (cT r n) 2 3 6 7)) k) (cGp r n kk18)
theorem aUu (kk18 : cZ) (q0 : cZ) (q1 : dJ) : D149 r n aHw (xs x0 0 (K4 q1 2 3 6 7)) (K6 q0 2 3 6 7 19 20) = fun (env : bB) (h : Hp) =>
 bnd (aA (env 6) h) fun v1 h1 =>
 bnd (aJ 1 v1 (env 20) h1) fun v2 h2 =>
 bnd (aC 1 v2 (.i .i64 (Int.negSucc 0)) h2) fun _ h3 =>
 bnd (aF .eql (env 20) (aD 0) h3) fun v4 h4 =>
 bnd (gD v4 false (some ((env 20), h4)) h4) fun v5 h5 =>
 bnd (gD v4 false (aF .gtr v5 (aD 1) h5) h5) fun v6 h6 =>
 bnd (gD v4 false (some (v6, h6)) h6) fun v7 h7 =>
 bnd (gD v7 true (aA (env 2) h7) h7) fun v8 h8 =>
 bnd (gD v7 true (some ((env 20), h8)) h8) fun v9 h9 =>
 bnd (gD v7 true (aF .sub v9 (aD 2) h9) h9) fun v10 h10 =>
 bnd (gD v7 true (aJ 3 v8 v10 h10) h10) fun v11 h11 =>
 bnd (gD v7 true (aB 0 v11 h11) h11) fun v12 h12 =>
 bnd (gD v7 true (aA v12 h12) h12) fun v13 h13 =>
 bnd (gD v7 true (aF .eql v13 (aD 18) h13) h13) fun v14 h14 =>
 bnd (gD v4 false (aP v7 v14 (.b false) h14) h14) fun v15 h15 =>
 bnd (gD v4 false (some (v15, h15)) h15) fun v16 h16 =>
 bnd (gD v16 true (aA (env 3) h16) h16) fun v17 h17 =>
 bnd (gD v16 true (some ((env 20), h17)) h17) fun v18 h18 =>
 bnd (gD v16 true (aJ 1 v17 v18 h18) h18) fun v19 h19 =>
 bnd (gD v16 true (aA v19 h19) h19) fun v20 h20 =>
 bnd (gD v16 true (some ((env 20), h20)) h20) fun v21 h21 =>
 bnd (gD v16 true (aF .sub v21 (aD 2) h21) h21) fun v22 h22 =>
 bnd (gD v16 true (aF .eql v20 v22 h22) h22) fun v23 h23 =>
 bnd (gD v4 false (aP v16 v23 (.b false) h23) h23) fun v24 h24 =>
 bnd (aP v4 (.b true) v24 h24) fun v25 h25 =>
 aU v25 (
 bnd (aA (env 6) h25) fun v26 h26 =>
 bnd (aJ 1 v26 (env 20) h26) fun v27 h27 =>
 bnd (aC 1 v27 (aD 0) h27) fun _ h28 =>
 bnd (aA (env 7) h28) fun v29 h29 =>
 bnd (aN [(aD 0)] 1 [(0, 1, (env 20))] h29) fun v30 h30 =>
 bnd (aY 1 8 v29 v30 h30) fun v31 h31 =>
 bnd (aC 1 (env 7) v31 h31) fun _ h32 =>
      q0 (env 2) (env 3) (env 6) (env 7) (env 19) (env 20) h32) (
      q0 (env 2) (env 3) (env 6) (env 7) (env 19) (env 20) h25) := by kernel_rfl
theorem aRd (kk18 : cZ) : (fun (env : bB) (h : Hp) =>
 bnd (aA (env 6) h) fun v1 h1 =>
 bnd (aJ 1 v1 (env 20) h1) fun v2 h2 =>
 bnd (aC 1 v2 (.i .i64 (Int.negSucc 0)) h2) fun _ h3 =>
 bnd (aF .eql (env 20) (aD 0) h3) fun v4 h4 =>
 bnd (gD v4 false (some ((env 20), h4)) h4) fun v5 h5 =>
 bnd (gD v4 false (aF .gtr v5 (aD 1) h5) h5) fun v6 h6 =>
 bnd (gD v4 false (some (v6, h6)) h6) fun v7 h7 =>
 bnd (gD v7 true (aA (env 2) h7) h7) fun v8 h8 =>
 bnd (gD v7 true (some ((env 20), h8)) h8) fun v9 h9 =>
 bnd (gD v7 true (aF .sub v9 (aD 2) h9) h9) fun v10 h10 =>
 bnd (gD v7 true (aJ 3 v8 v10 h10) h10) fun v11 h11 =>
 bnd (gD v7 true (aB 0 v11 h11) h11) fun v12 h12 =>
 bnd (gD v7 true (aA v12 h12) h12) fun v13 h13 =>
 bnd (gD v7 true (aF .eql v13 (aD 18) h13) h13) fun v14 h14 =>
 bnd (gD v4 false (aP v7 v14 (.b false) h14) h14) fun v15 h15 =>
 bnd (gD v4 false (some (v15, h15)) h15) fun v16 h16 =>
 bnd (gD v16 true (aA (env 3) h16) h16) fun v17 h17 =>
 bnd (gD v16 true (some ((env 20), h17)) h17) fun v18 h18 =>
 bnd (gD v16 true (aJ 1 v17 v18 h18) h18) fun v19 h19 =>
 bnd (gD v16 true (aA v19 h19) h19) fun v20 h20 =>
 bnd (gD v16 true (some ((env 20), h20)) h20) fun v21 h21 =>
 bnd (gD v16 true (aF .sub v21 (aD 2) h21) h21) fun v22 h22 =>
 bnd (gD v16 true (aF .eql v20 v22 h22) h22) fun v23 h23 =>
 bnd (gD v4 false (aP v16 v23 (.b false) h23) h23) fun v24 h24 =>
 bnd (aP v4 (.b true) v24 h24) fun v25 h25 =>
 aU v25 (
 bnd (aA (env 6) h25) fun v26 h26 =>
 bnd (aJ 1 v26 (env 20) h26) fun v27 h27 =>
 bnd (aC 1 v27 (aD 0) h27) fun _ h28 =>
 bnd (aA (env 7) h28) fun v29 h29 =>
 bnd (aN [(aD 0)] 1 [(0, 1, (env 20))] h29) fun v30 h30 =>
 bnd (aY 1 8 v29 v30 h30) fun v31 h31 =>
 bnd (aC 1 (env 7) v31 h31) fun _ h32 =>
      mD r n kk18 (env 2) (env 3) (env 6) (env 7) (env 19) (env 20) h32) (
      mD r n kk18 (env 2) (env 3) (env 6) (env 7) (env 19) (env 20) h25)) = (K6 (xU r n kk18) 2 3 6 7 19 20) := by kernel_rfl
theorem bXv (kk18 : cZ) : D149 r n uI (xs x0 0 (K4 (cT r n) 2 3 6 7)) (K6 kk18 2 3 6 7 19 20) = (K6 (xU r n kk18) 2 3 6 7 19 20) :=
 (aZp r n kk18).trans
 ((aUu r n kk18 (mD r n kk18) (cT r n)).trans (aRd r n kk18))
theorem bBk (kk18 : cZ) : D149 r n vG (xs x0 0 (K4 (cT r n) 2 3 6 7)) (K6 kk18 2 3 6 7 19 20) = D149 r n bJv (xs x0 0 (K4 (cT r n) 2 3 6 7)) (K6 (xU r n kk18) 2 3 6 7 19 20) :=
 congrArg (fun k => D149 r n bJv (xs x0 0 (K4 (cT r n) 2 3 6 7)) k) (bXv r n kk18)
theorem cJk (kk18 : cZ) : D149 r n vG (xs x0 0 (K4 (cT r n) 2 3 6 7)) (K6 kk18 2 3 6 7 19 20) = (K7 (aDq r n kk18) 2 3 6 7 19 20 21) :=
 (bBk r n kk18).trans
 ((by kernel_rfl))
theorem aWk (kk18 : cZ) : D149 r n iW (xs x0 0 (K4 (cT r n) 2 3 6 7)) (K6 kk18 2 3 6 7 19 20) = D149 r n bGv (xs x0 0 (K4 (cT r n) 2 3 6 7)) (K7 (aDq r n kk18) 2 3 6 7 19 20 21) :=
 congrArg (fun k => D149 r n bGv (xs x0 0 (K4 (cT r n) 2 3 6 7)) k) (cJk r n kk18)
theorem bQc (kk18 : cZ) : D149 r n iW (xs x0 0 (K4 (cT r n) 2 3 6 7)) (K6 kk18 2 3 6 7 19 20) = (K6 (aRj r n kk18) 2 3 6 7 19 20) :=
 (aWk r n kk18).trans
 ((by kernel_rfl))
theorem bOj (m : Nat) : aL (fun kk => D149 r n iW (xs x0 0 (K4 (cT r n) 2 3 6 7)) kk) m = (K6 (rN r n m) 2 3 6 7 19 20) := by
 induction m with
 | zero => exact (by kernel_rfl : aL (fun kk => D149 r n iW (xs x0 0 (K4 (cT r n) 2 3 6 7)) kk) 0 = (K6 (rN r n 0) 2 3 6 7 19 20))
 | succ m ih =>
  refine (by kernel_rfl : aL (fun kk => D149 r n iW (xs x0 0 (K4 (cT r n) 2 3 6 7)) kk) (m + 1) = D149 r n iW (xs x0 0 (K4 (cT r n) 2 3 6 7)) (aL (fun kk => D149 r n iW (xs x0 0 (K4 (cT r n) 2 3 6 7)) kk) m)).trans ?_
  rw [ih]
  exact (bQc r n (rN r n m)).trans (by kernel_rfl)
theorem cMj : D149 r n xV (xs x0 0 (K4 (cT r n) 2 3 6 7)) (K4 (cT r n) 2 3 6 7) = (K6 (bGg r n) 2 3 6 7 19 20) :=
 (by kernel_rfl : D149 r n xV (xs x0 0 (K4 (cT r n) 2 3 6 7)) (K4 (cT r n) 2 3 6 7) = aL (fun kk => D149 r n iW (xs x0 0 (K4 (cT r n) 2 3 6 7)) kk) n).trans ((bOj r n n).trans (by kernel_rfl))
theorem cAg : D149 r n aQh x0 (K4 (cT r n) 2 3 6 7) = (K6 (aLa r n) 2 3 6 7 19 20) :=
 (by kernel_rfl : D149 r n aQh x0 (K4 (cT r n) 2 3 6 7) = D149 r n xV (xs x0 0 (K4 (cT r n) 2 3 6 7)) (K4 (cT r n) 2 3 6 7)).trans
 ((cMj r n).trans (by kernel_rfl))
theorem bNu : D149 r n aNs x0 r149 = D149 r n pU x0 (K4 (cT r n) 2 3 6 7) :=
 congrArg (fun k => D149 r n pU x0 k) (dCu r n)
theorem bPn : D149 r n pU x0 (K4 (cT r n) 2 3 6 7) = D149 r n bEs x0 (K6 (aLa r n) 2 3 6 7 19 20) :=
 congrArg (fun k => D149 r n bEs x0 k) (cAg r n)
theorem cTf : D149 r n aNs x0 r149 = (K4 (aBu r n) 2 3 6 7) :=
 (bNu r n).trans
 ((bPn r n).trans
 ((by kernel_rfl)))
theorem bPf : D149 r n aMj x0 r149 = D149 r n aHc x0 (K4 (aBu r n) 2 3 6 7) :=
 congrArg (fun k => D149 r n aHc x0 k) (cTf r n)
theorem bLu (q0 : dJ) : D149 r n aHc x0 (K4 q0 2 3 6 7) = fun (env : bB) (h : Hp) =>
 bnd (aZ [.l0] h) fun v1 h1 =>
  q0 (env 2) (env 3) (env 6) v1 h1 := by kernel_rfl
theorem aVr : (fun (env : bB) (h : Hp) =>
 bnd (aZ [.l0] h) fun v1 h1 =>
  aBu r n (env 2) (env 3) (env 6) v1 h1) = (K3 (rQ r n) 2 3 6) := by kernel_rfl
theorem dCv : D149 r n aMj x0 r149 = (K3 (rQ r n) 2 3 6) :=
 (bPf r n).trans
 ((bLu r n (aBu r n)).trans (aVr r n))
theorem bNw : D149 r n aMc x0 r149 = D149 r n aLb x0 (K3 (rQ r n) 2 3 6) :=
 congrArg (fun k => D149 r n aLb x0 k) (dCv r n)
theorem bPz (q0 : dU) : D149 r n aLb x0 (K3 q0 2 3 6) = fun (env : bB) (h : Hp) =>
 bnd (aA (env 2) h) fun v1 h1 =>
 bnd (bO v1 h1) fun v2 h2 =>
 bnd (cJ 1 8 [(aD 0)] v2 v2 h2) fun v3 h3 =>
 bnd (aZ [.l0] h3) fun v4 h4 =>
 bnd (aC 1 v4 v3 h4) fun _ h5 =>
  q0 (env 2) (env 3) v4 h5 := by kernel_rfl
theorem aWp : (fun (env : bB) (h : Hp) =>
 bnd (aA (env 2) h) fun v1 h1 =>
 bnd (bO v1 h1) fun v2 h2 =>
 bnd (cJ 1 8 [(aD 0)] v2 v2 h2) fun v3 h3 =>
 bnd (aZ [.l0] h3) fun v4 h4 =>
 bnd (aC 1 v4 v3 h4) fun _ h5 =>
  rQ r n (env 2) (env 3) v4 h5) = (K2 (sB r n) 2 3) := by kernel_rfl
theorem cRo : D149 r n aVu x0 r149 = (K2 (sB r n) 2 3) :=
 (by kernel_rfl : D149 r n aVu x0 r149 = D149 r n aMc x0 r149).trans
 ((bNw r n).trans
 ((bPz r n (rQ r n)).trans (aWp r n)))
theorem cXy : D149 r n c149 x0 r149 = D149 r n aOz x0 (K2 (sB r n) 2 3) :=
 congrArg (fun k => D149 r n aOz x0 k) (cRo r n)
theorem cVq (q0 : eK) : D149 r n aOz x0 (K2 q0 2 3) = fun (env : bB) (h : Hp) =>
 bnd (bJ (env 0) h) fun v1 h1 =>
 bnd (bJ (env 1) h1) fun v2 h2 =>
  q0 v1 v2 h2 := by kernel_rfl
theorem cCi : (fun (env : bB) (h : Hp) =>
 bnd (bJ (env 0) h) fun v1 h1 =>
 bnd (bJ (env 1) h1) fun v2 h2 =>
  sB r n v1 v2 h2) = (K2 (s149 r n) 0 1) := by kernel_rfl
theorem eFg : D149 r n c149 x0 r149 = (K2 (s149 r n) 0 1) :=
 (cXy r n).trans
 ((cVq r n (sB r n)).trans (cCi r n))
theorem dWl : aE CF r n 149 args h = s149 r n (aO args 0) (aO args 1) h :=
 (by kernel_rfl : aE CF r n 149 args h = D149 r n c149 x0 r149 (aI args) h).trans ((congrFun (congrFun (eFg r n) (aI args)) h).trans (by kernel_rfl))
end Go.Dd

namespace Go.Dd
open Go.Proofs
variable (r : RT) (n : Nat) (args : List DV) (h : Hp)
noncomputable def fQ (r : RT) (n : Nat) (x0 x6 : DV) (h0 : Hp) : aK :=
 bnd (eC x0 h0) fun v1 h1 =>
 bnd (aS [(aD 0), (.s []), (aD 0), (aD 0)] [(3, 1, v1)] h1) fun v2 h2 =>
 bnd (aN [(aD 0), (.s []), (aD 0), (aD 0)] 1 [(0, 4, v2)] h2) fun v3 h3 =>
 bnd (aY 4 40 x6 v3 h3) fun v4 h4 =>
 some (.t [v4, (aD 0), (aD 0)], h4)
noncomputable def aLn (r : RT) (n : Nat) (kk7 : dU) (x0 x5 x6 : DV) (h0 : Hp) : aK :=
 bnd (r 176 [(.s [9, 10, 13, 32])] h0) fun v1 h1 =>
 bnd (eC x0 h1) fun v2 h2 =>
 bnd (r 175 [x5, v1, v2] h2) fun v3 h3 =>
 bnd (aQ x5 h3) fun v4 h4 =>
 bnd (aB 1 v4 h4) fun v5 h5 =>
 bnd (aA v5 h5) fun v6 h6 =>
 bnd (eC x0 h6) fun v7 h7 =>
 bnd (aF .geq v6 v7 h7) fun v8 h8 =>
 aU v8 (
   fQ r n x0 x6 h8) (
 bnd (aQ x5 h8) fun v9 h9 =>
 bnd (aB 1 v9 h9) fun v10 h10 =>
 bnd (aA v10 h10) fun v11 h11 =>
 bnd (eT x0 v11 h11) fun v12 h12 =>
 bnd (aF .eql v12 (.i .u8 (Int.ofNat 34)) h12) fun v13 h13 =>
 aU v13 (
 bnd (aQ x5 h13) fun v14 h14 =>
 bnd (aB 1 v14 h14) fun v15 h15 =>
 bnd (aA v15 h15) fun v16 h16 =>
 bnd (aF .add v16 (aD 1) h16) fun v17 h17 =>
 bnd (jP x0 (some v17) none h17) fun v18 h18 =>
 bnd (r 177 [v18, (.i .u8 (Int.ofNat 34))] h18) fun v19 h19 =>
 bnd (aF .lss v19 (aD 0) h19) fun v20 h20 =>
 aU v20 (
 bnd (aQ x5 h20) fun v21 h21 =>
 bnd (aB 1 v21 h21) fun v22 h22 =>
 bnd (aA v22 h22) fun v23 h23 =>
 some (.t [.l0, v23, (aD 11)], h23)) (
 bnd (aQ x5 h20) fun v24 h24 =>
 bnd (aB 1 v24 h24) fun v25 h25 =>
 bnd (aA v25 h25) fun v26 h26 =>
 bnd (aF .add v19 (aD 2) h26) fun v27 h27 =>
 bnd (aF .add v26 v27 h27) fun v28 h28 =>
 bnd (aQ x5 h28) fun v29 h29 =>
 bnd (aB 1 v29 h29) fun v30 h30 =>
 bnd (aC 1 v30 v28 h30) fun _ h31 =>
     kk7 x0 x5 x6 h31)) (
 bnd (r 178 [x5] h13) fun v32 h32 =>
 bnd (aH 0 v32 h32) fun v33 h33 =>
 bnd (aH 1 v32 h33) fun v34 h34 =>
 bnd (aZ [(aD 0), (.s []), (aD 0), (aD 0)] h34) fun v35 h35 =>
 bnd (aC 4 v35 v33 h35) fun _ h36 =>
 bnd (aF .neq v34 (aD 0) h36) fun v37 h37 =>
 aU v37 (
 bnd (aB 3 v35 h37) fun v38 h38 =>
 bnd (aA v38 h38) fun v39 h39 =>
 some (.t [.l0, v39, v34], h39)) (
 bnd (aG 4 v35 h37) fun v40 h40 =>
 bnd (aN [(aD 0), (.s []), (aD 0), (aD 0)] 1 [(0, 4, v40)] h40) fun v41 h41 =>
 bnd (aY 4 40 x6 v41 h41) fun v42 h42 =>
     kk7 x0 x5 v42 h42)))
noncomputable def vE (r : RT) (n : Nat) (m : Nat) : dU :=
 Nat.rec (motive := fun _ => dU) (fun _ _ _ _ => none) (fun _ ih => aLn r n ih) m
noncomputable def cMo (r : RT) (n : Nat) : dU := vE r n n
noncomputable def aYb (r : RT) (n : Nat) (x0 x5 x6 : DV) (h0 : Hp) : aK :=
 cMo r n x0 x5 x6 h0
noncomputable def aZh (r : RT) (n : Nat) (x0 x5 x6 : DV) (h0 : Hp) : aK :=
 aYb r n x0 x5 x6 h0
noncomputable def aBm (r : RT) (n : Nat) (x0 x5 : DV) (h0 : Hp) : aK :=
 aZh r n x0 x5 .l0 h0
noncomputable def aHp (r : RT) (n : Nat) (x0 : DV) (h0 : Hp) : aK :=
 bnd (aS [(.s []), (aD 0)] [(0, 1, x0)] h0) fun v1 h1 =>
 bnd (bJ v1 h1) fun v2 h2 =>
  aBm r n x0 v2 h2
noncomputable def aTh (r : RT) (n : Nat) (x0 : DV) (h0 : Hp) : aK :=
 bnd (eC x0 h0) fun v1 h1 =>
 bnd (aF .gtr v1 (aD 2000) h1) fun v2 h2 =>
 aU v2 (
 some (.t [.l0, (aD 0), (aD 12)], h2)) (
  aHp r n x0 h2)
noncomputable def s153 (r : RT) (n : Nat) (x0 : DV) (h0 : Hp) : aK :=
 aTh r n x0 h0
noncomputable abbrev c153 : Code := cf Tryz.f153
noncomputable abbrev bAl : Code := cR c153
noncomputable abbrev aMx : Code := cL bAl
noncomputable abbrev aDh : Code := cR aMx
noncomputable abbrev aKi : Code := cR aDh
noncomputable abbrev aGe : Code := cR aKi
noncomputable abbrev aDk : Code := cR aGe
noncomputable abbrev dRz : Code := cR aDk
noncomputable abbrev aIk : Code := cL aDk
noncomputable abbrev aOk : Code := cL aIk
noncomputable abbrev kN : Code := cL aOk
noncomputable abbrev bCa : Code := cL aGe
noncomputable abbrev bHc : Code := cL aKi
noncomputable abbrev aIt : Code := cL aDh
noncomputable abbrev bGj : Code := cL aMx
noncomputable abbrev bEy : Code := cL c153
noncomputable abbrev r153 : K := aR CF Tryz.f153
noncomputable def D153 (r : RT) (n : Nat) (c : Code) (X : Nat → K) (k : K) : K := aM CF r 80 n c X r153 k
theorem dFe : D153 r n dRz x0 r153 = (K2 (fQ r n) 0 6) :=
 (by kernel_rfl)
theorem cCd (kk7 : dU) (q0 : eK) : D153 r n kN (xs x0 0 (K2 q0 0 6)) (K3 kk7 0 5 6) = fun (env : bB) (h : Hp) =>
 bnd (r 176 [(.s [9, 10, 13, 32])] h) fun v1 h1 =>
 bnd (eC (env 0) h1) fun v2 h2 =>
 bnd (r 175 [(env 5), v1, v2] h2) fun v3 h3 =>
 bnd (aQ (env 5) h3) fun v4 h4 =>
 bnd (aB 1 v4 h4) fun v5 h5 =>
 bnd (aA v5 h5) fun v6 h6 =>
 bnd (eC (env 0) h6) fun v7 h7 =>
 bnd (aF .geq v6 v7 h7) fun v8 h8 =>
 aU v8 (
   q0 (env 0) (env 6) h8) (
 bnd (aQ (env 5) h8) fun v9 h9 =>
 bnd (aB 1 v9 h9) fun v10 h10 =>
 bnd (aA v10 h10) fun v11 h11 =>
 bnd (eT (env 0) v11 h11) fun v12 h12 =>
 bnd (aF .eql v12 (.i .u8 (Int.ofNat 34)) h12) fun v13 h13 =>
 aU v13 (
 bnd (aQ (env 5) h13) fun v14 h14 =>
 bnd (aB 1 v14 h14) fun v15 h15 =>
 bnd (aA v15 h15) fun v16 h16 =>
 bnd (aF .add v16 (aD 1) h16) fun v17 h17 =>
 bnd (jP (env 0) (some v17) none h17) fun v18 h18 =>
 bnd (r 177 [v18, (.i .u8 (Int.ofNat 34))] h18) fun v19 h19 =>
 bnd (aF .lss v19 (aD 0) h19) fun v20 h20 =>
 aU v20 (
 bnd (aQ (env 5) h20) fun v21 h21 =>
 bnd (aB 1 v21 h21) fun v22 h22 =>
 bnd (aA v22 h22) fun v23 h23 =>
 some (.t [.l0, v23, (aD 11)], h23)) (
 bnd (aQ (env 5) h20) fun v24 h24 =>
 bnd (aB 1 v24 h24) fun v25 h25 =>
 bnd (aA v25 h25) fun v26 h26 =>
 bnd (aF .add v19 (aD 2) h26) fun v27 h27 =>
 bnd (aF .add v26 v27 h27) fun v28 h28 =>
 bnd (aQ (env 5) h28) fun v29 h29 =>
 bnd (aB 1 v29 h29) fun v30 h30 =>
 bnd (aC 1 v30 v28 h30) fun _ h31 =>
     kk7 (env 0) (env 5) (env 6) h31)) (
 bnd (r 178 [(env 5)] h13) fun v32 h32 =>
 bnd (aH 0 v32 h32) fun v33 h33 =>
 bnd (aH 1 v32 h33) fun v34 h34 =>
 bnd (aZ [(aD 0), (.s []), (aD 0), (aD 0)] h34) fun v35 h35 =>
 bnd (aC 4 v35 v33 h35) fun _ h36 =>
 bnd (aF .neq v34 (aD 0) h36) fun v37 h37 =>
 aU v37 (
 bnd (aB 3 v35 h37) fun v38 h38 =>
 bnd (aA v38 h38) fun v39 h39 =>
 some (.t [.l0, v39, v34], h39)) (
 bnd (aG 4 v35 h37) fun v40 h40 =>
 bnd (aN [(aD 0), (.s []), (aD 0), (aD 0)] 1 [(0, 4, v40)] h40) fun v41 h41 =>
 bnd (aY 4 40 (env 6) v41 h41) fun v42 h42 =>
     kk7 (env 0) (env 5) v42 h42))) := by kernel_rfl
theorem bMe (kk7 : dU) : (fun (env : bB) (h : Hp) =>
 bnd (r 176 [(.s [9, 10, 13, 32])] h) fun v1 h1 =>
 bnd (eC (env 0) h1) fun v2 h2 =>
 bnd (r 175 [(env 5), v1, v2] h2) fun v3 h3 =>
 bnd (aQ (env 5) h3) fun v4 h4 =>
 bnd (aB 1 v4 h4) fun v5 h5 =>
 bnd (aA v5 h5) fun v6 h6 =>
 bnd (eC (env 0) h6) fun v7 h7 =>
 bnd (aF .geq v6 v7 h7) fun v8 h8 =>
 aU v8 (
   fQ r n (env 0) (env 6) h8) (
 bnd (aQ (env 5) h8) fun v9 h9 =>
 bnd (aB 1 v9 h9) fun v10 h10 =>
 bnd (aA v10 h10) fun v11 h11 =>
 bnd (eT (env 0) v11 h11) fun v12 h12 =>
 bnd (aF .eql v12 (.i .u8 (Int.ofNat 34)) h12) fun v13 h13 =>
 aU v13 (
 bnd (aQ (env 5) h13) fun v14 h14 =>
 bnd (aB 1 v14 h14) fun v15 h15 =>
 bnd (aA v15 h15) fun v16 h16 =>
 bnd (aF .add v16 (aD 1) h16) fun v17 h17 =>
 bnd (jP (env 0) (some v17) none h17) fun v18 h18 =>
 bnd (r 177 [v18, (.i .u8 (Int.ofNat 34))] h18) fun v19 h19 =>
 bnd (aF .lss v19 (aD 0) h19) fun v20 h20 =>
 aU v20 (
 bnd (aQ (env 5) h20) fun v21 h21 =>
 bnd (aB 1 v21 h21) fun v22 h22 =>
 bnd (aA v22 h22) fun v23 h23 =>
 some (.t [.l0, v23, (aD 11)], h23)) (
 bnd (aQ (env 5) h20) fun v24 h24 =>
 bnd (aB 1 v24 h24) fun v25 h25 =>
 bnd (aA v25 h25) fun v26 h26 =>
 bnd (aF .add v19 (aD 2) h26) fun v27 h27 =>
 bnd (aF .add v26 v27 h27) fun v28 h28 =>
 bnd (aQ (env 5) h28) fun v29 h29 =>
 bnd (aB 1 v29 h29) fun v30 h30 =>
 bnd (aC 1 v30 v28 h30) fun _ h31 =>
     kk7 (env 0) (env 5) (env 6) h31)) (
 bnd (r 178 [(env 5)] h13) fun v32 h32 =>
 bnd (aH 0 v32 h32) fun v33 h33 =>
 bnd (aH 1 v32 h33) fun v34 h34 =>
 bnd (aZ [(aD 0), (.s []), (aD 0), (aD 0)] h34) fun v35 h35 =>
 bnd (aC 4 v35 v33 h35) fun _ h36 =>
 bnd (aF .neq v34 (aD 0) h36) fun v37 h37 =>
 aU v37 (
 bnd (aB 3 v35 h37) fun v38 h38 =>
 bnd (aA v38 h38) fun v39 h39 =>
 some (.t [.l0, v39, v34], h39)) (
 bnd (aG 4 v35 h37) fun v40 h40 =>
 bnd (aN [(aD 0), (.s []), (aD 0), (aD 0)] 1 [(0, 4, v40)] h40) fun v41 h41 =>
 bnd (aY 4 40 (env 6) v41 h41) fun v42 h42 =>
     kk7 (env 0) (env 5) v42 h42)))) = (K3 (aLn r n kk7) 0 5 6) := by kernel_rfl
theorem cKa (kk7 : dU) : D153 r n kN (xs x0 0 (K2 (fQ r n) 0 6)) (K3 kk7 0 5 6) = (K3 (aLn r n kk7) 0 5 6) :=
 (cCd r n kk7 (fQ r n)).trans (bMe r n kk7)
theorem bRv (m : Nat) : aL (fun kk => D153 r n kN (xs x0 0 (K2 (fQ r n) 0 6)) kk) m = (K3 (vE r n m) 0 5 6) := by
 induction m with
 | zero => exact (by kernel_rfl : aL (fun kk => D153 r n kN (xs x0 0 (K2 (fQ r n) 0 6)) kk) 0 = (K3 (vE r n 0) 0 5 6))
 | succ m ih =>
  refine (by kernel_rfl : aL (fun kk => D153 r n kN (xs x0 0 (K2 (fQ r n) 0 6)) kk) (m + 1) = D153 r n kN (xs x0 0 (K2 (fQ r n) 0 6)) (aL (fun kk => D153 r n kN (xs x0 0 (K2 (fQ r n) 0 6)) kk) m)).trans ?_
  rw [ih]
  exact (cKa r n (vE r n m)).trans (by kernel_rfl)
theorem cWv : D153 r n aOk (xs x0 0 (K2 (fQ r n) 0 6)) (K2 (fQ r n) 0 6) = (K3 (cMo r n) 0 5 6) :=
 (by kernel_rfl : D153 r n aOk (xs x0 0 (K2 (fQ r n) 0 6)) (K2 (fQ r n) 0 6) = aL (fun kk => D153 r n kN (xs x0 0 (K2 (fQ r n) 0 6)) kk) n).trans ((bRv r n n).trans (by kernel_rfl))
theorem bRo : D153 r n aDk x0 r153 = D153 r n aIk x0 (K2 (fQ r n) 0 6) :=
 congrArg (fun k => D153 r n aIk x0 k) (dFe r n)
theorem cVc : D153 r n aDk x0 r153 = (K3 (aYb r n) 0 5 6) :=
 (bRo r n).trans
 ((by kernel_rfl : D153 r n aIk x0 (K2 (fQ r n) 0 6) = D153 r n aOk (xs x0 0 (K2 (fQ r n) 0 6)) (K2 (fQ r n) 0 6)).trans
 ((cWv r n).trans (by kernel_rfl)))
theorem bSr : D153 r n aGe x0 r153 = D153 r n bCa x0 (K3 (aYb r n) 0 5 6) :=
 congrArg (fun k => D153 r n bCa x0 k) (cVc r n)
theorem cSd : D153 r n aGe x0 r153 = (K3 (aZh r n) 0 5 6) :=
 (bSr r n).trans
 ((by kernel_rfl))
theorem cDn : D153 r n aKi x0 r153 = D153 r n bHc x0 (K3 (aZh r n) 0 5 6) :=
 congrArg (fun k => D153 r n bHc x0 k) (cSd r n)
theorem cTe : D153 r n aKi x0 r153 = (K2 (aBm r n) 0 5) :=
 (cDn r n).trans
 ((by kernel_rfl))
theorem bVx : D153 r n aDh x0 r153 = D153 r n aIt x0 (K2 (aBm r n) 0 5) :=
 congrArg (fun k => D153 r n aIt x0 k) (cTe r n)
theorem bZo (q0 : eK) : D153 r n aIt x0 (K2 q0 0 5) = fun (env : bB) (h : Hp) =>
 bnd (aS [(.s []), (aD 0)] [(0, 1, (env 0))] h) fun v1 h1 =>
 bnd (bJ v1 h1) fun v2 h2 =>
  q0 (env 0) v2 h2 := by kernel_rfl
theorem bPr : (fun (env : bB) (h : Hp) =>
 bnd (aS [(.s []), (aD 0)] [(0, 1, (env 0))] h) fun v1 h1 =>
 bnd (bJ v1 h1) fun v2 h2 =>
  aBm r n (env 0) v2 h2) = (K1 (aHp r n) 0) := by kernel_rfl
theorem cQf : D153 r n aDh x0 r153 = (K1 (aHp r n) 0) :=
 (bVx r n).trans
 ((bZo r n (aBm r n)).trans (bPr r n))
theorem cFb : D153 r n aMx x0 r153 = D153 r n bGj x0 (K1 (aHp r n) 0) :=
 congrArg (fun k => D153 r n bGj x0 k) (cQf r n)
theorem cWx : D153 r n bAl x0 r153 = (K1 (aTh r n) 0) :=
 (by kernel_rfl : D153 r n bAl x0 r153 = D153 r n aMx x0 r153).trans
 ((cFb r n).trans
 ((by kernel_rfl)))
theorem dKj : D153 r n c153 x0 r153 = D153 r n bEy x0 (K1 (aTh r n) 0) :=
 congrArg (fun k => D153 r n bEy x0 k) (cWx r n)
theorem eEn : D153 r n c153 x0 r153 = (K1 (s153 r n) 0) :=
 (dKj r n).trans
 ((by kernel_rfl))
theorem dSv : aE CF r n 153 args h = s153 r n (aO args 0) h :=
 (by kernel_rfl : aE CF r n 153 args h = D153 r n c153 x0 r153 (aI args) h).trans ((congrFun (congrFun (eEn r n) (aI args)) h).trans (by kernel_rfl))
noncomputable def fG (r : RT) (n : Nat) (x0 x3 : DV) (h0 : Hp) : aK :=
 bnd (r 156 [x0, (aD 10), (.s [124])] h0) fun v1 h1 =>
 some (x3, h1)
noncomputable def aJk (r : RT) (n : Nat) (kk6 : eK) (x0 x3 : DV) (h0 : Hp) : aK :=
 bnd (r 179 [x0, (aD 1), (.s [])] h0) fun v1 h1 =>
 aU v1 (
 bnd (r 180 [x0] h1) fun v2 h2 =>
 bnd (dO 1 v2 h2) fun v3 h3 =>
 bnd (aN [(.s [])] 1 [(0, 1, v3)] h3) fun v4 h4 =>
 bnd (aY 1 16 x3 v4 h4) fun v5 h5 =>
      kk6 x0 v5 h5) (
      fG r n x0 x3 h1)
noncomputable def xB (r : RT) (n : Nat) (m : Nat) : eK :=
 Nat.rec (motive := fun _ => eK) (fun _ _ _ => none) (fun _ ih => aJk r n ih) m
noncomputable def cGy (r : RT) (n : Nat) : eK := xB r n n
noncomputable def aXw (r : RT) (n : Nat) (x0 x3 : DV) (h0 : Hp) : aK :=
 cGy r n x0 x3 h0
noncomputable def aWa (r : RT) (n : Nat) (x0 x3 : DV) (h0 : Hp) : aK :=
 bnd (r 180 [x0] h0) fun v1 h1 =>
  aXw r n x0 x3 h1
noncomputable def aYi (r : RT) (n : Nat) (x0 x3 : DV) (h0 : Hp) : aK :=
 bnd (r 179 [x0, (aD 10), (.s [124])] h0) fun v1 h1 =>
 bnd (fR .not v1 h1) fun v2 h2 =>
 aU v2 (
 some (.l0, h2)) (
  aWa r n x0 x3 h2)
noncomputable def aZe (r : RT) (n : Nat) (x0 : DV) (h0 : Hp) : aK :=
 aYi r n x0 .l0 h0
noncomputable def s154 (r : RT) (n : Nat) (x0 : DV) (h0 : Hp) : aK :=
 aZe r n x0 h0
noncomputable abbrev c154 : Code := cf Tryz.f154
noncomputable abbrev aKr : Code := cR c154
noncomputable abbrev aDi : Code := cR aKr
noncomputable abbrev aDz : Code := cR aDi
noncomputable abbrev aIn : Code := cR aDz
noncomputable abbrev dRh : Code := cR aIn
noncomputable abbrev aLm : Code := cL aIn
noncomputable abbrev aEw : Code := cL aLm
noncomputable abbrev nE : Code := cL aEw
noncomputable abbrev cDx : Code := cL aDz
noncomputable abbrev bFz : Code := cL aDi
noncomputable abbrev bBt : Code := cL aKr
noncomputable abbrev bHa : Code := cL c154
noncomputable abbrev r154 : K := aR CF Tryz.f154
noncomputable def D154 (r : RT) (n : Nat) (c : Code) (X : Nat → K) (k : K) : K := aM CF r 20 n c X r154 k
theorem cRy : D154 r n dRh x0 r154 = (K2 (fG r n) 0 3) :=
 (by kernel_rfl)
theorem bRp (kk6 : eK) (q0 : eK) : D154 r n nE (xs x0 0 (K2 q0 0 3)) (K2 kk6 0 3) = fun (env : bB) (h : Hp) =>
 bnd (r 179 [(env 0), (aD 1), (.s [])] h) fun v1 h1 =>
 aU v1 (
 bnd (r 180 [(env 0)] h1) fun v2 h2 =>
 bnd (dO 1 v2 h2) fun v3 h3 =>
 bnd (aN [(.s [])] 1 [(0, 1, v3)] h3) fun v4 h4 =>
 bnd (aY 1 16 (env 3) v4 h4) fun v5 h5 =>
      kk6 (env 0) v5 h5) (
      q0 (env 0) (env 3) h1) := by kernel_rfl
theorem bMl (kk6 : eK) : (fun (env : bB) (h : Hp) =>
 bnd (r 179 [(env 0), (aD 1), (.s [])] h) fun v1 h1 =>
 aU v1 (
 bnd (r 180 [(env 0)] h1) fun v2 h2 =>
 bnd (dO 1 v2 h2) fun v3 h3 =>
 bnd (aN [(.s [])] 1 [(0, 1, v3)] h3) fun v4 h4 =>
 bnd (aY 1 16 (env 3) v4 h4) fun v5 h5 =>
      kk6 (env 0) v5 h5) (
      fG r n (env 0) (env 3) h1)) = (K2 (aJk r n kk6) 0 3) := by kernel_rfl
theorem cCe (kk6 : eK) : D154 r n nE (xs x0 0 (K2 (fG r n) 0 3)) (K2 kk6 0 3) = (K2 (aJk r n kk6) 0 3) :=
 (bRp r n kk6 (fG r n)).trans (bMl r n kk6)
theorem bYi (m : Nat) : aL (fun kk => D154 r n nE (xs x0 0 (K2 (fG r n) 0 3)) kk) m = (K2 (xB r n m) 0 3) := by
 induction m with
 | zero => exact (by kernel_rfl : aL (fun kk => D154 r n nE (xs x0 0 (K2 (fG r n) 0 3)) kk) 0 = (K2 (xB r n 0) 0 3))
 | succ m ih =>
  refine (by kernel_rfl : aL (fun kk => D154 r n nE (xs x0 0 (K2 (fG r n) 0 3)) kk) (m + 1) = D154 r n nE (xs x0 0 (K2 (fG r n) 0 3)) (aL (fun kk => D154 r n nE (xs x0 0 (K2 (fG r n) 0 3)) kk) m)).trans ?_
  rw [ih]
  exact (cCe r n (xB r n m)).trans (by kernel_rfl)
theorem cWl : D154 r n aEw (xs x0 0 (K2 (fG r n) 0 3)) (K2 (fG r n) 0 3) = (K2 (cGy r n) 0 3) :=
 (by kernel_rfl : D154 r n aEw (xs x0 0 (K2 (fG r n) 0 3)) (K2 (fG r n) 0 3) = aL (fun kk => D154 r n nE (xs x0 0 (K2 (fG r n) 0 3)) kk) n).trans ((bYi r n n).trans (by kernel_rfl))
theorem cDd : D154 r n aIn x0 r154 = D154 r n aLm x0 (K2 (fG r n) 0 3) :=
 congrArg (fun k => D154 r n aLm x0 k) (cRy r n)
theorem dFv : D154 r n aIn x0 r154 = (K2 (aXw r n) 0 3) :=
 (cDd r n).trans
 ((by kernel_rfl : D154 r n aLm x0 (K2 (fG r n) 0 3) = D154 r n aEw (xs x0 0 (K2 (fG r n) 0 3)) (K2 (fG r n) 0 3)).trans
 ((cWl r n).trans (by kernel_rfl)))
theorem cLn : D154 r n aDz x0 r154 = D154 r n cDx x0 (K2 (aXw r n) 0 3) :=
 congrArg (fun k => D154 r n cDx x0 k) (dFv r n)
theorem dBe : D154 r n aDz x0 r154 = (K2 (aWa r n) 0 3) :=
 (cLn r n).trans
 ((by kernel_rfl))
theorem cGn : D154 r n aDi x0 r154 = D154 r n bFz x0 (K2 (aWa r n) 0 3) :=
 congrArg (fun k => D154 r n bFz x0 k) (dBe r n)
theorem cUn : D154 r n aDi x0 r154 = (K2 (aYi r n) 0 3) :=
 (cGn r n).trans
 ((by kernel_rfl))
theorem cIe : D154 r n aKr x0 r154 = D154 r n bBt x0 (K2 (aYi r n) 0 3) :=
 congrArg (fun k => D154 r n bBt x0 k) (cUn r n)
theorem cUv : D154 r n aKr x0 r154 = (K1 (aZe r n) 0) :=
 (cIe r n).trans
 ((by kernel_rfl))
theorem dPy : D154 r n c154 x0 r154 = D154 r n bHa x0 (K1 (aZe r n) 0) :=
 congrArg (fun k => D154 r n bHa x0 k) (cUv r n)
theorem eAj : D154 r n c154 x0 r154 = (K1 (s154 r n) 0) :=
 (dPy r n).trans
 ((by kernel_rfl))
theorem dVn : aE CF r n 154 args h = s154 r n (aO args 0) h :=
 (by kernel_rfl : aE CF r n 154 args h = D154 r n c154 x0 r154 (aI args) h).trans ((congrFun (congrFun (eAj r n) (aI args)) h).trans (by kernel_rfl))
noncomputable def bP (r : RT) (n : Nat) (x3 : DV) (h0 : Hp) : aK :=
 some (x3, h0)
noncomputable def gO (r : RT) (n : Nat) (kk4 : eK) (x0 x3 : DV) (h0 : Hp) : aK :=
 bnd (r 181 [x0] h0) fun v1 h1 =>
 bnd (aN cV 1 [(0, 6, v1)] h1) fun v2 h2 =>
 bnd (aY 6 104 x3 v2 h2) fun v3 h3 =>
 bnd (r 179 [x0, (aD 10), (.s [46])] h3) fun v4 h4 =>
 bnd (fR .not v4 h4) fun v5 h5 =>
 aU v5 (
 some (v3, h5)) (
 bnd (r 180 [x0] h5) fun v6 h6 =>
  kk4 x0 v3 h6)
noncomputable def wY (r : RT) (n : Nat) (kk4 : eK) (x3 : DV) (h0 : Hp) : aK :=
 some (x3, h0)
noncomputable def qA (r : RT) (n : Nat) (kk4 : eK) (x0 x3 : DV) (h0 : Hp) : aK :=
 bnd (r 179 [x0, (aD 10), (.s [46])] h0) fun v1 h1 =>
 aU v1 (
 bnd (r 180 [x0] h1) fun v2 h2 =>
  wY r n kk4 x3 h2) (
  wY r n kk4 x3 h1)
noncomputable def aLx (r : RT) (n : Nat) (kk4 : eK) (x0 x3 : DV) (h0 : Hp) : aK :=
 bnd (r 181 [x0] h0) fun v1 h1 =>
 bnd (aN cV 1 [(0, 6, v1)] h1) fun v2 h2 =>
 bnd (aS cV [(0, 1, (aD 10)), (5, 1, v2)] h2) fun v3 h3 =>
 bnd (aN cV 1 [(0, 6, v3)] h3) fun v4 h4 =>
 bnd (aY 6 104 x3 v4 h4) fun v5 h5 =>
  qA r n kk4 x0 v5 h5
noncomputable def cJp (r : RT) (n : Nat) (kk4 : eK) (x0 x3 : DV) (h0 : Hp) : aK :=
 bnd (r 180 [x0] h0) fun v1 h1 =>
  aLx r n kk4 x0 x3 h1
noncomputable def aYt (r : RT) (n : Nat) (kk4 : eK) (x0 x3 x20 : DV) (h0 : Hp) : aK :=
 aU x20 (
  cJp r n kk4 x0 x3 h0) (
  gO r n kk4 x0 x3 h0)
noncomputable def bAq (r : RT) (n : Nat) (kk4 : eK) (x0 x3 : DV) (h0 : Hp) : aK :=
 bnd (r 179 [x0, (aD 10), (.s [94])] h0) fun v1 h1 =>
  aYt r n kk4 x0 x3 v1 h1
noncomputable def bJn (r : RT) (n : Nat) (kk4 : eK) (x0 x3 : DV) (h0 : Hp) : aK :=
 bnd (aQ x0 h0) fun v1 h1 =>
 bnd (aB 3 v1 h1) fun v2 h2 =>
 bnd (aA v2 h2) fun v3 h3 =>
 bnd (aF .eql v3 (aD 0) h3) fun v4 h4 =>
 bnd (gD v4 true (some (x0, h4)) h4) fun v5 h5 =>
 bnd (gD v4 true (r 179 [v5, (aD 0), (.s [])] h5) h5) fun v6 h6 =>
 bnd (gD v4 true (fR .not v6 h6) h6) fun v7 h7 =>
 bnd (aP v4 v7 (.b false) h7) fun v8 h8 =>
 bnd (gD v8 true (some (x0, h8)) h8) fun v9 h9 =>
 bnd (gD v8 true (r 179 [v9, (aD 10), (.s [93])] h9) h9) fun v10 h10 =>
 bnd (gD v8 true (fR .not v10 h10) h10) fun v11 h11 =>
 bnd (aP v8 v11 (.b false) h11) fun v12 h12 =>
 aU v12 (
   bAq r n kk4 x0 x3 h12) (
   bP r n x3 h12)
noncomputable def xK (r : RT) (n : Nat) (m : Nat) : eK :=
 Nat.rec (motive := fun _ => eK) (fun _ _ _ => none) (fun _ ih => bJn r n ih) m
noncomputable def bSu (r : RT) (n : Nat) : eK := xK r n n
noncomputable def aWr (r : RT) (n : Nat) (x0 x3 : DV) (h0 : Hp) : aK :=
 bSu r n x0 x3 h0
noncomputable def aXl (r : RT) (n : Nat) (x0 : DV) (h0 : Hp) : aK :=
 aWr r n x0 .l0 h0
noncomputable def s155 (r : RT) (n : Nat) (x0 : DV) (h0 : Hp) : aK :=
 aXl r n x0 h0
noncomputable abbrev c155 : Code := cf Tryz.f155
noncomputable abbrev aOc : Code := cR c155
noncomputable abbrev aEd : Code := cR aOc
noncomputable abbrev dTs : Code := cR aEd
noncomputable abbrev aQc : Code := cL aEd
noncomputable abbrev aEp : Code := cL aQc
noncomputable abbrev kP : Code := cL aEp
noncomputable abbrev aUs : Code := cR kP
noncomputable abbrev aKj : Code := cL aUs
noncomputable abbrev bQt : Code := cR aKj
noncomputable abbrev qN : Code := cL aKj
noncomputable abbrev qP : Code := cR qN
noncomputable abbrev qJ : Code := cL qP
noncomputable abbrev xL : Code := cR qJ
noncomputable abbrev vZ : Code := cR xL
noncomputable abbrev dDb : Code := cR vZ
noncomputable abbrev bKt : Code := cL vZ
noncomputable abbrev aHt : Code := cL xL
noncomputable abbrev bEe : Code := cL qJ
noncomputable abbrev dCt : Code := cR qP
noncomputable abbrev bEv : Code := cL qN
noncomputable abbrev bFw : Code := cL kP
noncomputable abbrev bKh : Code := cL aOc
noncomputable abbrev bIr : Code := cL c155
noncomputable abbrev r155 : K := aR CF Tryz.f155
noncomputable def D155 (r : RT) (n : Nat) (c : Code) (X : Nat → K) (k : K) : K := aM CF r 47 n c X r155 k
theorem dGb : D155 r n dTs x0 r155 = (K1 (bP r n) 3) :=
 (by kernel_rfl)
theorem bSv (kk4 : eK) (q0 : TT1) : D155 r n bQt (xs (xs x0 0 (K1 q0 3)) 1 (K2 kk4 0 3)) (K2 kk4 0 3) = fun (env : bB) (h : Hp) =>
 bnd (r 181 [(env 0)] h) fun v1 h1 =>
 bnd (aN cV 1 [(0, 6, v1)] h1) fun v2 h2 =>
 bnd (aY 6 104 (env 3) v2 h2) fun v3 h3 =>
 bnd (r 179 [(env 0), (aD 10), (.s [46])] h3) fun v4 h4 =>
 bnd (fR .not v4 h4) fun v5 h5 =>
 aU v5 (
 some (v3, h5)) (
 bnd (r 180 [(env 0)] h5) fun v6 h6 =>
      kk4 (env 0) v3 h6) := by kernel_rfl
theorem bQe (kk4 : eK) : (fun (env : bB) (h : Hp) =>
 bnd (r 181 [(env 0)] h) fun v1 h1 =>
 bnd (aN cV 1 [(0, 6, v1)] h1) fun v2 h2 =>
 bnd (aY 6 104 (env 3) v2 h2) fun v3 h3 =>
 bnd (r 179 [(env 0), (aD 10), (.s [46])] h3) fun v4 h4 =>
 bnd (fR .not v4 h4) fun v5 h5 =>
 aU v5 (
 some (v3, h5)) (
 bnd (r 180 [(env 0)] h5) fun v6 h6 =>
      kk4 (env 0) v3 h6)) = (K2 (gO r n kk4) 0 3) := by kernel_rfl
theorem dCx (kk4 : eK) : D155 r n bQt (xs (xs x0 0 (K1 (bP r n) 3)) 1 (K2 kk4 0 3)) (K2 kk4 0 3) = (K2 (gO r n kk4) 0 3) :=
 (bSv r n kk4 (bP r n)).trans (bQe r n kk4)
theorem bUr (kk4 : eK) : D155 r n dDb (xs (xs x0 0 (K1 (bP r n) 3)) 1 (K2 kk4 0 3)) (K2 (gO r n kk4) 0 3) = (K1 (wY r n kk4) 3) :=
 (by kernel_rfl)
theorem bMg (kk4 : eK) : D155 r n vZ (xs (xs x0 0 (K1 (bP r n) 3)) 1 (K2 kk4 0 3)) (K2 (gO r n kk4) 0 3) = D155 r n bKt (xs (xs x0 0 (K1 (bP r n) 3)) 1 (K2 kk4 0 3)) (K1 (wY r n kk4) 3) :=
 congrArg (fun k => D155 r n bKt (xs (xs x0 0 (K1 (bP r n) 3)) 1 (K2 kk4 0 3)) k) (bUr r n kk4)
theorem cAo (kk4 : eK) : D155 r n vZ (xs (xs x0 0 (K1 (bP r n) 3)) 1 (K2 kk4 0 3)) (K2 (gO r n kk4) 0 3) = (K2 (qA r n kk4) 0 3) :=
 (bMg r n kk4).trans
 ((by kernel_rfl))
theorem cNx (kk4 : eK) : D155 r n xL (xs (xs x0 0 (K1 (bP r n) 3)) 1 (K2 kk4 0 3)) (K2 (gO r n kk4) 0 3) = D155 r n aHt (xs (xs x0 0 (K1 (bP r n) 3)) 1 (K2 kk4 0 3)) (K2 (qA r n kk4) 0 3) :=
 congrArg (fun k => D155 r n aHt (xs (xs x0 0 (K1 (bP r n) 3)) 1 (K2 kk4 0 3)) k) (cAo r n kk4)
theorem bTz (kk4 : eK) (q0 : eK) (q1 : TT1) : D155 r n aHt (xs (xs x0 0 (K1 q1 3)) 1 (K2 kk4 0 3)) (K2 q0 0 3) = fun (env : bB) (h : Hp) =>
 bnd (r 181 [(env 0)] h) fun v1 h1 =>
 bnd (aN cV 1 [(0, 6, v1)] h1) fun v2 h2 =>
 bnd (aS cV [(0, 1, (aD 10)), (5, 1, v2)] h2) fun v3 h3 =>
 bnd (aN cV 1 [(0, 6, v3)] h3) fun v4 h4 =>
 bnd (aY 6 104 (env 3) v4 h4) fun v5 h5 =>
  q0 (env 0) v5 h5 := by kernel_rfl
theorem bLh (kk4 : eK) : (fun (env : bB) (h : Hp) =>
 bnd (r 181 [(env 0)] h) fun v1 h1 =>
 bnd (aN cV 1 [(0, 6, v1)] h1) fun v2 h2 =>
 bnd (aS cV [(0, 1, (aD 10)), (5, 1, v2)] h2) fun v3 h3 =>
 bnd (aN cV 1 [(0, 6, v3)] h3) fun v4 h4 =>
 bnd (aY 6 104 (env 3) v4 h4) fun v5 h5 =>
  qA r n kk4 (env 0) v5 h5) = (K2 (aLx r n kk4) 0 3) := by kernel_rfl
theorem dFb (kk4 : eK) : D155 r n xL (xs (xs x0 0 (K1 (bP r n) 3)) 1 (K2 kk4 0 3)) (K2 (gO r n kk4) 0 3) = (K2 (aLx r n kk4) 0 3) :=
 (cNx r n kk4).trans
 ((bTz r n kk4 (qA r n kk4) (bP r n)).trans (bLh r n kk4))
theorem cCa (kk4 : eK) : D155 r n qJ (xs (xs x0 0 (K1 (bP r n) 3)) 1 (K2 kk4 0 3)) (K2 (gO r n kk4) 0 3) = D155 r n bEe (xs (xs x0 0 (K1 (bP r n) 3)) 1 (K2 kk4 0 3)) (K2 (aLx r n kk4) 0 3) :=
 congrArg (fun k => D155 r n bEe (xs (xs x0 0 (K1 (bP r n) 3)) 1 (K2 kk4 0 3)) k) (dFb r n kk4)
theorem cOu (kk4 : eK) : D155 r n qJ (xs (xs x0 0 (K1 (bP r n) 3)) 1 (K2 kk4 0 3)) (K2 (gO r n kk4) 0 3) = (K2 (cJp r n kk4) 0 3) :=
 (cCa r n kk4).trans
 ((by kernel_rfl))
theorem dAj (kk4 : eK) : D155 r n qP (xs (xs x0 0 (K1 (bP r n) 3)) 1 (K2 kk4 0 3)) (K2 (gO r n kk4) 0 3) = (K3 (aYt r n kk4) 0 3 20) :=
 (by kernel_rfl : D155 r n qP (xs (xs x0 0 (K1 (bP r n) 3)) 1 (K2 kk4 0 3)) (K2 (gO r n kk4) 0 3) = (fun (env : bB) (h : Hp) => aU (opr env (cC qP)) (D155 r n qJ (xs (xs x0 0 (K1 (bP r n) 3)) 1 (K2 kk4 0 3)) (K2 (gO r n kk4) 0 3) env h) (D155 r n dCt (xs (xs x0 0 (K1 (bP r n) 3)) 1 (K2 kk4 0 3)) (K2 (gO r n kk4) 0 3) env h))).trans (by rw [cOu r n kk4]; kernel_rfl)
theorem cJx (kk4 : eK) : D155 r n aKj (xs (xs x0 0 (K1 (bP r n) 3)) 1 (K2 kk4 0 3)) (K2 kk4 0 3) = D155 r n qN (xs (xs x0 0 (K1 (bP r n) 3)) 1 (K2 kk4 0 3)) (K2 (gO r n kk4) 0 3) :=
 congrArg (fun k => D155 r n qN (xs (xs x0 0 (K1 (bP r n) 3)) 1 (K2 kk4 0 3)) k) (dCx r n kk4)
theorem cNc (kk4 : eK) : D155 r n qN (xs (xs x0 0 (K1 (bP r n) 3)) 1 (K2 kk4 0 3)) (K2 (gO r n kk4) 0 3) = D155 r n bEv (xs (xs x0 0 (K1 (bP r n) 3)) 1 (K2 kk4 0 3)) (K3 (aYt r n kk4) 0 3 20) :=
 congrArg (fun k => D155 r n bEv (xs (xs x0 0 (K1 (bP r n) 3)) 1 (K2 kk4 0 3)) k) (dAj r n kk4)
theorem cXo (kk4 : eK) : D155 r n aUs (xs x0 0 (K1 (bP r n) 3)) (K2 kk4 0 3) = (K2 (bAq r n kk4) 0 3) :=
 (by kernel_rfl : D155 r n aUs (xs x0 0 (K1 (bP r n) 3)) (K2 kk4 0 3) = D155 r n aKj (xs (xs x0 0 (K1 (bP r n) 3)) 1 (K2 kk4 0 3)) (K2 kk4 0 3)).trans
 ((cJx r n kk4).trans
 ((cNc r n kk4).trans
 ((by kernel_rfl))))
theorem cNi (kk4 : eK) : D155 r n kP (xs x0 0 (K1 (bP r n) 3)) (K2 kk4 0 3) = D155 r n bFw (xs x0 0 (K1 (bP r n) 3)) (K2 (bAq r n kk4) 0 3) :=
 congrArg (fun k => D155 r n bFw (xs x0 0 (K1 (bP r n) 3)) k) (cXo r n kk4)
theorem bSw (kk4 : eK) : D155 r n kP (xs x0 0 (K1 (bP r n) 3)) (K2 kk4 0 3) = (K2 (bJn r n kk4) 0 3) :=
 (cNi r n kk4).trans
 ((by kernel_rfl))
theorem cAb (m : Nat) : aL (fun kk => D155 r n kP (xs x0 0 (K1 (bP r n) 3)) kk) m = (K2 (xK r n m) 0 3) := by
 induction m with
 | zero => exact (by kernel_rfl : aL (fun kk => D155 r n kP (xs x0 0 (K1 (bP r n) 3)) kk) 0 = (K2 (xK r n 0) 0 3))
 | succ m ih =>
  refine (by kernel_rfl : aL (fun kk => D155 r n kP (xs x0 0 (K1 (bP r n) 3)) kk) (m + 1) = D155 r n kP (xs x0 0 (K1 (bP r n) 3)) (aL (fun kk => D155 r n kP (xs x0 0 (K1 (bP r n) 3)) kk) m)).trans ?_
  rw [ih]
  exact (bSw r n (xK r n m)).trans (by kernel_rfl)
theorem dGg : D155 r n aEp (xs x0 0 (K1 (bP r n) 3)) (K1 (bP r n) 3) = (K2 (bSu r n) 0 3) :=
 (by kernel_rfl : D155 r n aEp (xs x0 0 (K1 (bP r n) 3)) (K1 (bP r n) 3) = aL (fun kk => D155 r n kP (xs x0 0 (K1 (bP r n) 3)) kk) n).trans ((cAb r n n).trans (by kernel_rfl))
theorem cEp : D155 r n aEd x0 r155 = D155 r n aQc x0 (K1 (bP r n) 3) :=
 congrArg (fun k => D155 r n aQc x0 k) (dGb r n)
theorem dHk : D155 r n aEd x0 r155 = (K2 (aWr r n) 0 3) :=
 (cEp r n).trans
 ((by kernel_rfl : D155 r n aQc x0 (K1 (bP r n) 3) = D155 r n aEp (xs x0 0 (K1 (bP r n) 3)) (K1 (bP r n) 3)).trans
 ((dGg r n).trans (by kernel_rfl)))
theorem bOf : D155 r n aOc x0 r155 = D155 r n bKh x0 (K2 (aWr r n) 0 3) :=
 congrArg (fun k => D155 r n bKh x0 k) (dHk r n)
theorem cUy : D155 r n aOc x0 r155 = (K1 (aXl r n) 0) :=
 (bOf r n).trans
 ((by kernel_rfl))
theorem dGk : D155 r n c155 x0 r155 = D155 r n bIr x0 (K1 (aXl r n) 0) :=
 congrArg (fun k => D155 r n bIr x0 k) (cUy r n)
theorem dZk : D155 r n c155 x0 r155 = (K1 (s155 r n) 0) :=
 (dGk r n).trans
 ((by kernel_rfl))
theorem dMl : aE CF r n 155 args h = s155 r n (aO args 0) h :=
 (by kernel_rfl : aE CF r n 155 args h = D155 r n c155 x0 r155 (aI args) h).trans ((congrFun (congrFun (dZk r n) (aI args)) h).trans (by kernel_rfl))
noncomputable def s156 (r : RT) (n : Nat) (x0 x1 x2 : DV) (h0 : Hp) : aK :=
 bnd (aZ [(aD 0), (.s []), (aD 0), (aD 0)] h0) fun v1 h1 =>
 bnd (r 179 [x0, x1, x2] h1) fun v2 h2 =>
 bnd (fR .not v2 h2) fun v3 h3 =>
 aU v3 (
 bnd (r 183 [x0, (aD 0)] h3) fun v4 h4 =>
 bnd (r 182 [x0, v4, (aD 13)] h4) fun v5 h5 =>
 bnd (aS [(aD 0), (.s []), (aD 0), (aD 0)] [] h5) fun v6 h6 =>
 bnd (aC 4 v1 v6 h6) fun _ h7 =>
 bnd (aG 4 v1 h7) fun v8 _ =>
 some (v8, h7)) (
 bnd (r 180 [x0] h3) fun v9 h9 =>
 bnd (aC 4 v1 v9 h9) fun _ h10 =>
 bnd (aG 4 v1 h10) fun v11 _ =>
 some (v11, h10))
noncomputable abbrev c156 : Code := cf Tryz.f156
noncomputable abbrev r156 : K := aR CF Tryz.f156
noncomputable def D156 (r : RT) (n : Nat) (c : Code) (X : Nat → K) (k : K) : K := aM CF r 19 n c X r156 k
theorem eCn : D156 r n c156 x0 r156 = (K3 (s156 r n) 0 1 2) :=
 (by kernel_rfl)
theorem dLe : aE CF r n 156 args h = s156 r n (aO args 0) (aO args 1) (aO args 2) h :=
 (by kernel_rfl : aE CF r n 156 args h = D156 r n c156 x0 r156 (aI args) h).trans ((congrFun (congrFun (eCn r n) (aI args)) h).trans (by kernel_rfl))
noncomputable def bKl (r : RT) (n : Nat) (kk6 : dU) (x0 x1 x4 : DV) (h0 : Hp) : aK :=
 bnd (gD x4 false (some (x0, h0)) h0) fun v1 h1 =>
 bnd (gD x4 false (r 179 [v1, (aD 2), (.s [])] h1) h1) fun v2 h2 =>
 bnd (aP x4 (.b true) v2 h2) fun v3 h3 =>
 aU v3 (
 bnd (aQ x1 h3) fun v4 h4 =>
 bnd (aB 1 v4 h4) fun v5 h5 =>
 bnd (aA v5 h5) fun v6 h6 =>
 bnd (r 156 [x0, (aD 2), (.s [])] h6) fun v7 h7 =>
 cnd (aX (aA v5 h7) v6 && true) (
 bnd (dO 1 v7 h7) fun v8 h8 =>
 bnd (eE .add v6 v8 h8) fun v9 h9 =>
 bnd (aQ x1 h9) fun v10 h10 =>
 bnd (aB 1 v10 h10) fun v11 h11 =>
 bnd (aC 1 v11 v9 h11) fun v12 h12 =>
 bnd (aQ x1 (resv 1 h12)) fun v13 h13 =>
 bnd (aB 3 v13 h13) fun v14 h14 =>
 bnd (aA v14 h14) fun v15 h15 =>
 bnd (aQ x1 h15) fun v16 h16 =>
 bnd (aB 3 v16 h16) fun v17 h17 =>
 bnd (aA v17 h17) fun v18 h18 =>
 bnd (r 184 [x0, (aD 1), v18] h18) fun v19 h19 =>
 cnd (aX (aA v14 h19) v15 && true) (
 bnd (aV (bF 0 h12.next) [(.s [])] 1 [(0, 1, v19)] h19) fun v20 h20 =>
 bnd (aY 1 16 v15 v20 h20) fun v21 h21 =>
 bnd (aQ x1 h21) fun v22 h22 =>
 bnd (aB 3 v22 h22) fun v23 h23 =>
 bnd (aC 1 v23 v21 h23) fun v24 h24 =>
      kk6 x0 x1 (.b false) h24))) (
 some (.t [], h3))
noncomputable def wV (r : RT) (n : Nat) (m : Nat) : dU :=
 Nat.rec (motive := fun _ => dU) (fun _ _ _ _ => none) (fun _ ih => bKl r n ih) m
noncomputable def cKn (r : RT) (n : Nat) : dU := wV r n n
noncomputable def bAe (r : RT) (n : Nat) (x0 x1 x4 : DV) (h0 : Hp) : aK :=
 cKn r n x0 x1 x4 h0
noncomputable def bYa (r : RT) (n : Nat) (x0 x1 : DV) (h0 : Hp) : aK :=
 bAe r n x0 x1 (.b true) h0
noncomputable def aXn (r : RT) (n : Nat) (x0 x1 x44 : DV) (h0 : Hp) : aK :=
 aU x44 (
 bnd (r 180 [x0] h0) fun v1 h1 =>
 bnd (dO 1 v1 h1) fun v2 h2 =>
 bnd (aQ x1 h2) fun v3 h3 =>
 bnd (aB 1 v3 h3) fun v4 h4 =>
 bnd (aC 1 v4 v2 h4) fun _ h5 =>
 bnd (aQ x1 (resv 1 h5)) fun v6 h6 =>
 bnd (aB 3 v6 h6) fun v7 h7 =>
 bnd (aA v7 h7) fun v8 h8 =>
 bnd (aQ x1 h8) fun v9 h9 =>
 bnd (aB 3 v9 h9) fun v10 h10 =>
 bnd (aA v10 h10) fun v11 h11 =>
 bnd (r 184 [x0, (aD 1), v11] h11) fun v12 h12 =>
 cnd (aX (aA v7 h12) v8 && true) (
 bnd (aV (bF 0 h5.next) [(.s [])] 1 [(0, 1, v12)] h12) fun v13 h13 =>
 bnd (aY 1 16 v8 v13 h13) fun v14 h14 =>
 bnd (aQ x1 h14) fun v15 h15 =>
 bnd (aB 3 v15 h15) fun v16 h16 =>
 bnd (aC 1 v16 v14 h16) fun v17 h17 =>
 some (.t [], h17))) (
  bYa r n x0 x1 h0)
noncomputable def cCh (r : RT) (n : Nat) (x0 x1 : DV) (h0 : Hp) : aK :=
 bnd (r 179 [x0, (aD 3), (.s [])] h0) fun v1 h1 =>
  aXn r n x0 x1 v1 h1
noncomputable def bAt (r : RT) (n : Nat) (x0 x1 x35 : DV) (h0 : Hp) : aK :=
 aU x35 (
 bnd (r 180 [x0] h0) fun v1 h1 =>
 bnd (dO 1 v1 h1) fun v2 h2 =>
 bnd (aQ x1 h2) fun v3 h3 =>
 bnd (aB 1 v3 h3) fun v4 h4 =>
 bnd (aC 1 v4 v2 h4) fun _ h5 =>
 some (.t [], h5)) (
  cCh r n x0 x1 h0)
noncomputable def s157 (r : RT) (n : Nat) (x0 x1 : DV) (h0 : Hp) : aK :=
 bnd (r 179 [x0, (aD 1), (.s [])] h0) fun v1 h1 =>
  bAt r n x0 x1 v1 h1
noncomputable abbrev c157 : Code := cf Tryz.f157
noncomputable abbrev aNj : Code := cL c157
noncomputable abbrev yQ : Code := cR aNj
noncomputable abbrev aBi : Code := cR yQ
noncomputable abbrev aAt : Code := cR aBi
noncomputable abbrev zZ : Code := cR aAt
noncomputable abbrev bAb : Code := cR zZ
noncomputable abbrev aFo : Code := cL bAb
noncomputable abbrev pI : Code := cL aFo
noncomputable abbrev bQk : Code := cL zZ
noncomputable abbrev cQz : Code := cL aAt
noncomputable abbrev bIf : Code := cL aBi
noncomputable abbrev dHb : Code := cL yQ
noncomputable abbrev bIg : Code := cL aNj
noncomputable abbrev r157 : K := aR CF Tryz.f157
noncomputable def D157 (r : RT) (n : Nat) (c : Code) (X : Nat → K) (k : K) : K := aM CF r 68 n c X r157 k
theorem bWo (kk6 : dU) : D157 r n pI (xs (xs x0 0 r157) 1 r157) (K3 kk6 0 1 4) = (K3 (bKl r n kk6) 0 1 4) :=
 (by kernel_rfl)
theorem bWh (m : Nat) : aL (fun kk => D157 r n pI (xs (xs x0 0 r157) 1 r157) kk) m = (K3 (wV r n m) 0 1 4) := by
 induction m with
 | zero => exact (by kernel_rfl : aL (fun kk => D157 r n pI (xs (xs x0 0 r157) 1 r157) kk) 0 = (K3 (wV r n 0) 0 1 4))
 | succ m ih =>
  refine (by kernel_rfl : aL (fun kk => D157 r n pI (xs (xs x0 0 r157) 1 r157) kk) (m + 1) = D157 r n pI (xs (xs x0 0 r157) 1 r157) (aL (fun kk => D157 r n pI (xs (xs x0 0 r157) 1 r157) kk) m)).trans ?_
  rw [ih]
  exact (bWo r n (wV r n m)).trans (by kernel_rfl)
theorem cXi : D157 r n aFo (xs (xs x0 0 r157) 1 r157) r157 = (K3 (cKn r n) 0 1 4) :=
 (by kernel_rfl : D157 r n aFo (xs (xs x0 0 r157) 1 r157) r157 = aL (fun kk => D157 r n pI (xs (xs x0 0 r157) 1 r157) kk) n).trans ((bWh r n n).trans (by kernel_rfl))
theorem cQq : D157 r n bAb (xs x0 0 r157) r157 = (K3 (bAe r n) 0 1 4) :=
 (by kernel_rfl : D157 r n bAb (xs x0 0 r157) r157 = D157 r n aFo (xs (xs x0 0 r157) 1 r157) r157).trans
 ((cXi r n).trans (by kernel_rfl))
theorem bUe : D157 r n zZ (xs x0 0 r157) r157 = D157 r n bQk (xs x0 0 r157) (K3 (bAe r n) 0 1 4) :=
 congrArg (fun k => D157 r n bQk (xs x0 0 r157) k) (cQq r n)
theorem cXa : D157 r n zZ (xs x0 0 r157) r157 = (K2 (bYa r n) 0 1) :=
 (bUe r n).trans
 ((by kernel_rfl))
theorem cQu : D157 r n aAt (xs x0 0 r157) r157 = (K3 (aXn r n) 0 1 44) :=
 (by kernel_rfl : D157 r n aAt (xs x0 0 r157) r157 = (fun (env : bB) (h : Hp) => aU (opr env (cC aAt)) (D157 r n cQz (xs x0 0 r157) r157 env h) (D157 r n zZ (xs x0 0 r157) r157 env h))).trans (by rw [cXa r n]; kernel_rfl)
theorem cOl : D157 r n aBi (xs x0 0 r157) r157 = D157 r n bIf (xs x0 0 r157) (K3 (aXn r n) 0 1 44) :=
 congrArg (fun k => D157 r n bIf (xs x0 0 r157) k) (cQu r n)
theorem dDx : D157 r n aBi (xs x0 0 r157) r157 = (K2 (cCh r n) 0 1) :=
 (cOl r n).trans
 ((by kernel_rfl))
theorem cUx : D157 r n yQ (xs x0 0 r157) r157 = (K3 (bAt r n) 0 1 35) :=
 (by kernel_rfl : D157 r n yQ (xs x0 0 r157) r157 = (fun (env : bB) (h : Hp) => aU (opr env (cC yQ)) (D157 r n dHb (xs x0 0 r157) r157 env h) (D157 r n aBi (xs x0 0 r157) r157 env h))).trans (by rw [dDx r n]; kernel_rfl)
theorem dTv : D157 r n aNj (xs x0 0 r157) r157 = D157 r n bIg (xs x0 0 r157) (K3 (bAt r n) 0 1 35) :=
 congrArg (fun k => D157 r n bIg (xs x0 0 r157) k) (cUx r n)
theorem eGf : D157 r n c157 x0 r157 = (K2 (s157 r n) 0 1) :=
 (by kernel_rfl : D157 r n c157 x0 r157 = D157 r n aNj (xs x0 0 r157) r157).trans
 ((dTv r n).trans
 ((by kernel_rfl)))
theorem dJm : aE CF r n 157 args h = s157 r n (aO args 0) (aO args 1) h :=
 (by kernel_rfl : aE CF r n 157 args h = D157 r n c157 x0 r157 (aI args) h).trans ((congrFun (congrFun (eGf r n) (aI args)) h).trans (by kernel_rfl))
noncomputable def aIz (r : RT) (n : Nat) (x0 x3 : DV) (h0 : Hp) : aK :=
 bnd (r 156 [x0, (aD 3), (.s [62])] h0) fun v1 h1 =>
 bnd (aB 2 x3 h1) fun v2 h2 =>
 bnd (aA v2 h2) fun v3 h3 =>
 some (v3, h3)
noncomputable def aAh (r : RT) (n : Nat) (x0 x3 : DV) (h0 : Hp) : aK :=
 bnd (aB 2 x3 h0) fun v1 h1 =>
 bnd (aA v1 h1) fun v2 h2 =>
 bnd (aF .gtr v2 (aD 255) h2) fun v3 h3 =>
 aU v3 (
 bnd (aG 4 x3 h3) fun v4 h4 =>
 bnd (r 182 [x0, v4, (aD 2)] h4) fun v5 h5 =>
  aIz r n x0 x3 h5) (
  aIz r n x0 x3 h3)
noncomputable def aLf (r : RT) (n : Nat) (x0 : DV) (h0 : Hp) : aK :=
 bnd (r 156 [x0, (aD 4), (.s [])] h0) fun v1 h1 =>
 bnd (aZ [(aD 0), (.s []), (aD 0), (aD 0)] h1) fun v2 h2 =>
 bnd (aC 4 v2 v1 h2) fun _ h3 =>
  aAh r n x0 v2 h3
noncomputable def aZf (r : RT) (n : Nat) (x0 : DV) (h0 : Hp) : aK :=
 bnd (r 156 [x0, (aD 2), (.s [112, 114, 105, 109, 105, 116, 105, 118, 101, 58])] h0) fun v1 h1 =>
  aLf r n x0 h1
noncomputable def bBj (r : RT) (n : Nat) (x0 : DV) (h0 : Hp) : aK :=
 bnd (r 180 [x0] h0) fun v1 h1 =>
  aZf r n x0 h1
noncomputable def bBa (r : RT) (n : Nat) (x0 : DV) (h0 : Hp) : aK :=
 bnd (r 179 [x0, (aD 3), (.s [60])] h0) fun v1 h1 =>
 bnd (fR .not v1 h1) fun v2 h2 =>
 aU v2 (
 some ((aD 0), h2)) (
  bBj r n x0 h2)
noncomputable def s158 (r : RT) (n : Nat) (x0 : DV) (h0 : Hp) : aK :=
 bBa r n x0 h0
noncomputable abbrev c158 : Code := cf Tryz.f158
noncomputable abbrev aFi : Code := cR c158
noncomputable abbrev aIs : Code := cR aFi
noncomputable abbrev aFf : Code := cR aIs
noncomputable abbrev aLv : Code := cR aFf
noncomputable abbrev aMa : Code := cR aLv
noncomputable abbrev dRd : Code := cR aMa
noncomputable abbrev cDp : Code := cL aMa
noncomputable abbrev aVp : Code := cL aLv
noncomputable abbrev bWq : Code := cL aFf
noncomputable abbrev bHi : Code := cL aIs
noncomputable abbrev bJa : Code := cL aFi
noncomputable abbrev bCw : Code := cL c158
noncomputable abbrev r158 : K := aR CF Tryz.f158
noncomputable def D158 (r : RT) (n : Nat) (c : Code) (X : Nat → K) (k : K) : K := aM CF r 23 n c X r158 k
theorem cUu : D158 r n dRd x0 r158 = (K2 (aIz r n) 0 3) :=
 (by kernel_rfl)
theorem bXe : D158 r n aMa x0 r158 = D158 r n cDp x0 (K2 (aIz r n) 0 3) :=
 congrArg (fun k => D158 r n cDp x0 k) (cUu r n)
theorem dDk : D158 r n aMa x0 r158 = (K2 (aAh r n) 0 3) :=
 (bXe r n).trans
 ((by kernel_rfl))
theorem bTv : D158 r n aLv x0 r158 = D158 r n aVp x0 (K2 (aAh r n) 0 3) :=
 congrArg (fun k => D158 r n aVp x0 k) (dDk r n)
theorem cDf (q0 : eK) : D158 r n aVp x0 (K2 q0 0 3) = fun (env : bB) (h : Hp) =>
 bnd (r 156 [(env 0), (aD 4), (.s [])] h) fun v1 h1 =>
 bnd (aZ [(aD 0), (.s []), (aD 0), (aD 0)] h1) fun v2 h2 =>
 bnd (aC 4 v2 v1 h2) fun _ h3 =>
  q0 (env 0) v2 h3 := by kernel_rfl
theorem bLm : (fun (env : bB) (h : Hp) =>
 bnd (r 156 [(env 0), (aD 4), (.s [])] h) fun v1 h1 =>
 bnd (aZ [(aD 0), (.s []), (aD 0), (aD 0)] h1) fun v2 h2 =>
 bnd (aC 4 v2 v1 h2) fun _ h3 =>
  aAh r n (env 0) v2 h3) = (K1 (aLf r n) 0) := by kernel_rfl
theorem dBq : D158 r n aLv x0 r158 = (K1 (aLf r n) 0) :=
 (bTv r n).trans
 ((cDf r n (aAh r n)).trans (bLm r n))
theorem cFq : D158 r n aFf x0 r158 = D158 r n bWq x0 (K1 (aLf r n) 0) :=
 congrArg (fun k => D158 r n bWq x0 k) (dBq r n)
theorem cTq : D158 r n aFf x0 r158 = (K1 (aZf r n) 0) :=
 (cFq r n).trans
 ((by kernel_rfl))
theorem cNy : D158 r n aIs x0 r158 = D158 r n bHi x0 (K1 (aZf r n) 0) :=
 congrArg (fun k => D158 r n bHi x0 k) (cTq r n)
theorem dGw : D158 r n aIs x0 r158 = (K1 (bBj r n) 0) :=
 (cNy r n).trans
 ((by kernel_rfl))
theorem cFi : D158 r n aFi x0 r158 = D158 r n bJa x0 (K1 (bBj r n) 0) :=
 congrArg (fun k => D158 r n bJa x0 k) (dGw r n)
theorem dEf : D158 r n aFi x0 r158 = (K1 (bBa r n) 0) :=
 (cFi r n).trans
 ((by kernel_rfl))
theorem dJk : D158 r n c158 x0 r158 = D158 r n bCw x0 (K1 (bBa r n) 0) :=
 congrArg (fun k => D158 r n bCw x0 k) (dEf r n)
theorem eBh : D158 r n c158 x0 r158 = (K1 (s158 r n) 0) :=
 (dJk r n).trans
 ((by kernel_rfl))
theorem dMt : aE CF r n 158 args h = s158 r n (aO args 0) h :=
 (by kernel_rfl : aE CF r n 158 args h = D158 r n c158 x0 r158 (aI args) h).trans ((congrFun (congrFun (eBh r n) (aI args)) h).trans (by kernel_rfl))
noncomputable def aOa (r : RT) (n : Nat) (x0 : DV) (h0 : Hp) : aK :=
 bnd (r 187 [x0, (aD 20), (aD 0), (aD 0)] h0) fun v1 h1 =>
 some (.t [], h1)
noncomputable def cY (r : RT) (n : Nat) (x0 x2 : DV) (h0 : Hp) : aK :=
 aU x2 (
 bnd (r 187 [x0, (aD 2), (aD 0), (aD 0)] h0) fun v1 h1 =>
  aOa r n x0 h1) (
 bnd (r 187 [x0, (aD 1), (aD 0), (aD 0)] h0) fun v2 h2 =>
  aOa r n x0 h2)
noncomputable def lW (r : RT) (n : Nat) (kk8 : cZ) (x0 x2 x6 x22 x23 x24 : DV) (h0 : Hp) : aK :=
 bnd (aF .add x24 (aD 1) h0) fun v1 h1 =>
  kk8 x0 x2 x6 x22 x23 v1 h1
noncomputable def vC (r : RT) (n : Nat) (kk8 : cZ) (x0 x2 x6 x22 x23 x24 : DV) (h0 : Hp) : aK :=
 bnd (aJ 6 x22 x24 h0) fun v1 h1 =>
 bnd (aG 6 v1 h1) fun v2 h2 =>
 bnd (aZ cV h2) fun v3 h3 =>
 bnd (aC 6 v3 v2 h3) fun _ h4 =>
 bnd (aG 6 v3 h4) fun v5 h5 =>
 bnd (r 186 [x0, v5] h5) fun v6 h6 =>
 bnd (aF .eql x24 x6 h6) fun v7 h7 =>
 bnd (gD v7 true (aB 0 v3 h7) h7) fun v8 h8 =>
 bnd (gD v7 true (aA v8 h8) h8) fun v9 h9 =>
 bnd (gD v7 true (aF .eql v9 (aD 10) h9) h9) fun v10 h10 =>
 bnd (aP v7 v10 (.b false) h10) fun v11 h11 =>
 aU v11 (
 some (.t [], h11)) (
 bnd (aF .eql x24 x6 h11) fun v12 h12 =>
 bnd (gD v12 true (some (x2, h12)) h12) fun v13 h13 =>
 bnd (aP v12 v13 (.b false) h13) fun v14 h14 =>
 aU v14 (
 bnd (r 187 [x0, (aD 20), (aD 0), (aD 0)] h14) fun v15 h15 =>
 some (.t [], h15)) (
 bnd (aB 0 v3 h14) fun v16 h16 =>
 bnd (aA v16 h16) fun v17 h17 =>
 bnd (aF .eql v17 (aD 10) h17) fun v18 h18 =>
 aU v18 (
    lW r n kk8 x0 x2 x6 x22 x23 x24 h18) (
 bnd (r 187 [x0, (aD 12), (aD 0), (aD 0)] h18) fun v19 h19 =>
    lW r n kk8 x0 x2 x6 x22 x23 x24 h19)))
noncomputable def aWb (r : RT) (n : Nat) (kk8 : cZ) (x0 x2 x6 x22 x23 x24 x25 : DV) (h0 : Hp) : aK :=
 aU x25 (
  vC r n kk8 x0 x2 x6 x22 x23 x24 h0) (
  cY r n x0 x2 h0)
noncomputable def bHu (r : RT) (n : Nat) (kk8 : cZ) (x0 x2 x6 x22 x23 x24 : DV) (h0 : Hp) : aK :=
 bnd (aF .lss x24 x23 h0) fun v1 h1 =>
  aWb r n kk8 x0 x2 x6 x22 x23 x24 v1 h1
noncomputable def vO (r : RT) (n : Nat) (m : Nat) : cZ :=
 Nat.rec (motive := fun _ => cZ) (fun _ _ _ _ _ _ _ => none) (fun _ ih => bHu r n ih) m
noncomputable def cKi (r : RT) (n : Nat) : cZ := vO r n n
noncomputable def aUl (r : RT) (n : Nat) (x0 x2 x6 x22 x23 x24 : DV) (h0 : Hp) : aK :=
 cKi r n x0 x2 x6 x22 x23 x24 h0
noncomputable def bAf (r : RT) (n : Nat) (x0 x2 x4 x6 : DV) (h0 : Hp) : aK :=
 bnd (aB 5 x4 h0) fun v1 h1 =>
 bnd (aA v1 h1) fun v2 h2 =>
 bnd (bO v2 h2) fun v3 h3 =>
  aUl r n x0 x2 x6 v2 v3 (aD 0) h3
noncomputable def bAm (r : RT) (n : Nat) (x0 x2 x4 : DV) (h0 : Hp) : aK :=
 bnd (aB 5 x4 h0) fun v1 h1 =>
 bnd (aA v1 h1) fun v2 h2 =>
 bnd (bO v2 h2) fun v3 h3 =>
 bnd (aF .sub v3 (aD 1) h3) fun v4 h4 =>
  bAf r n x0 x2 x4 v4 h4
noncomputable def aVj (r : RT) (n : Nat) (x0 x2 x4 : DV) (h0 : Hp) : aK :=
 bnd (aB 4 x4 h0) fun v1 h1 =>
 bnd (aA v1 h1) fun v2 h2 =>
 bnd (r 185 [x0, v2, (.b false)] h2) fun v3 h3 =>
  bAm r n x0 x2 x4 h3
noncomputable def yT (r : RT) (n : Nat) (x0 x2 x4 : DV) (h0 : Hp) : aK :=
 bnd (aB 3 x4 h0) fun v1 h1 =>
 bnd (aA v1 h1) fun v2 h2 =>
 bnd (r 185 [x0, v2, (.b true)] h2) fun v3 h3 =>
  aVj r n x0 x2 x4 h3
noncomputable def s159 (r : RT) (n : Nat) (x0 x1 x2 : DV) (h0 : Hp) : aK :=
 bnd (bJ x1 h0) fun v1 h1 =>
  yT r n x0 x2 v1 h1
noncomputable abbrev c159 : Code := cf Tryz.f159
noncomputable abbrev aPm : Code := cR c159
noncomputable abbrev aFs : Code := cR aPm
noncomputable abbrev aGw : Code := cR aFs
noncomputable abbrev aGy : Code := cR aGw
noncomputable abbrev aIv : Code := cR aGy
noncomputable abbrev dJw : Code := cR aIv
noncomputable abbrev cKr : Code := cL aIv
noncomputable abbrev yP : Code := cL aGy
noncomputable abbrev bAw : Code := cR yP
noncomputable abbrev uE : Code := cL bAw
noncomputable abbrev iX : Code := cL uE
noncomputable abbrev wJ : Code := cR iX
noncomputable abbrev wB : Code := cR wJ
noncomputable abbrev dAq : Code := cR wB
noncomputable abbrev aPf : Code := cL wB
noncomputable abbrev bIh : Code := cL wJ
noncomputable abbrev bCu : Code := cL iX
noncomputable abbrev bIq : Code := cL yP
noncomputable abbrev bFq : Code := cL aGw
noncomputable abbrev bDp : Code := cL aFs
noncomputable abbrev bHj : Code := cL aPm
noncomputable abbrev aPb : Code := cL c159
noncomputable abbrev r159 : K := aR CF Tryz.f159
noncomputable def D159 (r : RT) (n : Nat) (c : Code) (X : Nat → K) (k : K) : K := aM CF r 64 n c X r159 k
theorem cQr : D159 r n dJw x0 r159 = (K1 (aOa r n) 0) :=
 (by kernel_rfl)
theorem cEi : D159 r n aIv x0 r159 = D159 r n cKr x0 (K1 (aOa r n) 0) :=
 congrArg (fun k => D159 r n cKr x0 k) (cQr r n)
theorem dBr : D159 r n aIv x0 r159 = (K2 (cY r n) 0 2) :=
 (cEi r n).trans
 ((by kernel_rfl))
theorem cEk (kk8 : cZ) : D159 r n dAq (xs x0 0 (K2 (cY r n) 0 2)) (K6 kk8 0 2 6 22 23 24) = (K6 (lW r n kk8) 0 2 6 22 23 24) :=
 (by kernel_rfl)
theorem bNk (kk8 : cZ) : D159 r n wB (xs x0 0 (K2 (cY r n) 0 2)) (K6 kk8 0 2 6 22 23 24) = D159 r n aPf (xs x0 0 (K2 (cY r n) 0 2)) (K6 (lW r n kk8) 0 2 6 22 23 24) :=
 congrArg (fun k => D159 r n aPf (xs x0 0 (K2 (cY r n) 0 2)) k) (cEk r n kk8)
theorem bMj (kk8 : cZ) (q0 : cZ) (q1 : eK) : D159 r n aPf (xs x0 0 (K2 q1 0 2)) (K6 q0 0 2 6 22 23 24) = fun (env : bB) (h : Hp) =>
 bnd (aJ 6 (env 22) (env 24) h) fun v1 h1 =>
 bnd (aG 6 v1 h1) fun v2 h2 =>
 bnd (aZ cV h2) fun v3 h3 =>
 bnd (aC 6 v3 v2 h3) fun _ h4 =>
 bnd (aG 6 v3 h4) fun v5 h5 =>
 bnd (r 186 [(env 0), v5] h5) fun v6 h6 =>
 bnd (aF .eql (env 24) (env 6) h6) fun v7 h7 =>
 bnd (gD v7 true (aB 0 v3 h7) h7) fun v8 h8 =>
 bnd (gD v7 true (aA v8 h8) h8) fun v9 h9 =>
 bnd (gD v7 true (aF .eql v9 (aD 10) h9) h9) fun v10 h10 =>
 bnd (aP v7 v10 (.b false) h10) fun v11 h11 =>
 aU v11 (
 some (.t [], h11)) (
 bnd (aF .eql (env 24) (env 6) h11) fun v12 h12 =>
 bnd (gD v12 true (some ((env 2), h12)) h12) fun v13 h13 =>
 bnd (aP v12 v13 (.b false) h13) fun v14 h14 =>
 aU v14 (
 bnd (r 187 [(env 0), (aD 20), (aD 0), (aD 0)] h14) fun v15 h15 =>
 some (.t [], h15)) (
 bnd (aB 0 v3 h14) fun v16 h16 =>
 bnd (aA v16 h16) fun v17 h17 =>
 bnd (aF .eql v17 (aD 10) h17) fun v18 h18 =>
 aU v18 (
     q0 (env 0) (env 2) (env 6) (env 22) (env 23) (env 24) h18) (
 bnd (r 187 [(env 0), (aD 12), (aD 0), (aD 0)] h18) fun v19 h19 =>
     q0 (env 0) (env 2) (env 6) (env 22) (env 23) (env 24) h19))) := by kernel_rfl
theorem aXv (kk8 : cZ) : (fun (env : bB) (h : Hp) =>
 bnd (aJ 6 (env 22) (env 24) h) fun v1 h1 =>
 bnd (aG 6 v1 h1) fun v2 h2 =>
 bnd (aZ cV h2) fun v3 h3 =>
 bnd (aC 6 v3 v2 h3) fun _ h4 =>
 bnd (aG 6 v3 h4) fun v5 h5 =>
 bnd (r 186 [(env 0), v5] h5) fun v6 h6 =>
 bnd (aF .eql (env 24) (env 6) h6) fun v7 h7 =>
 bnd (gD v7 true (aB 0 v3 h7) h7) fun v8 h8 =>
 bnd (gD v7 true (aA v8 h8) h8) fun v9 h9 =>
 bnd (gD v7 true (aF .eql v9 (aD 10) h9) h9) fun v10 h10 =>
 bnd (aP v7 v10 (.b false) h10) fun v11 h11 =>
 aU v11 (
 some (.t [], h11)) (
 bnd (aF .eql (env 24) (env 6) h11) fun v12 h12 =>
 bnd (gD v12 true (some ((env 2), h12)) h12) fun v13 h13 =>
 bnd (aP v12 v13 (.b false) h13) fun v14 h14 =>
 aU v14 (
 bnd (r 187 [(env 0), (aD 20), (aD 0), (aD 0)] h14) fun v15 h15 =>
 some (.t [], h15)) (
 bnd (aB 0 v3 h14) fun v16 h16 =>
 bnd (aA v16 h16) fun v17 h17 =>
 bnd (aF .eql v17 (aD 10) h17) fun v18 h18 =>
 aU v18 (
     lW r n kk8 (env 0) (env 2) (env 6) (env 22) (env 23) (env 24) h18) (
 bnd (r 187 [(env 0), (aD 12), (aD 0), (aD 0)] h18) fun v19 h19 =>
     lW r n kk8 (env 0) (env 2) (env 6) (env 22) (env 23) (env 24) h19)))) = (K6 (vC r n kk8) 0 2 6 22 23 24) := by kernel_rfl
theorem bUq (kk8 : cZ) : D159 r n wB (xs x0 0 (K2 (cY r n) 0 2)) (K6 kk8 0 2 6 22 23 24) = (K6 (vC r n kk8) 0 2 6 22 23 24) :=
 (bNk r n kk8).trans
 ((bMj r n kk8 (lW r n kk8) (cY r n)).trans (aXv r n kk8))
theorem cNs (kk8 : cZ) : D159 r n wJ (xs x0 0 (K2 (cY r n) 0 2)) (K6 kk8 0 2 6 22 23 24) = D159 r n bIh (xs x0 0 (K2 (cY r n) 0 2)) (K6 (vC r n kk8) 0 2 6 22 23 24) :=
 congrArg (fun k => D159 r n bIh (xs x0 0 (K2 (cY r n) 0 2)) k) (bUq r n kk8)
theorem cVp (kk8 : cZ) : D159 r n wJ (xs x0 0 (K2 (cY r n) 0 2)) (K6 kk8 0 2 6 22 23 24) = (K7 (aWb r n kk8) 0 2 6 22 23 24 25) :=
 (cNs r n kk8).trans
 ((by kernel_rfl))
theorem bYo (kk8 : cZ) : D159 r n iX (xs x0 0 (K2 (cY r n) 0 2)) (K6 kk8 0 2 6 22 23 24) = D159 r n bCu (xs x0 0 (K2 (cY r n) 0 2)) (K7 (aWb r n kk8) 0 2 6 22 23 24 25) :=
 congrArg (fun k => D159 r n bCu (xs x0 0 (K2 (cY r n) 0 2)) k) (cVp r n kk8)
theorem cJa (kk8 : cZ) : D159 r n iX (xs x0 0 (K2 (cY r n) 0 2)) (K6 kk8 0 2 6 22 23 24) = (K6 (bHu r n kk8) 0 2 6 22 23 24) :=
 (bYo r n kk8).trans
 ((by kernel_rfl))
theorem bZs (m : Nat) : aL (fun kk => D159 r n iX (xs x0 0 (K2 (cY r n) 0 2)) kk) m = (K6 (vO r n m) 0 2 6 22 23 24) := by
 induction m with
 | zero => exact (by kernel_rfl : aL (fun kk => D159 r n iX (xs x0 0 (K2 (cY r n) 0 2)) kk) 0 = (K6 (vO r n 0) 0 2 6 22 23 24))
 | succ m ih =>
  refine (by kernel_rfl : aL (fun kk => D159 r n iX (xs x0 0 (K2 (cY r n) 0 2)) kk) (m + 1) = D159 r n iX (xs x0 0 (K2 (cY r n) 0 2)) (aL (fun kk => D159 r n iX (xs x0 0 (K2 (cY r n) 0 2)) kk) m)).trans ?_
  rw [ih]
  exact (cJa r n (vO r n m)).trans (by kernel_rfl)
theorem cXk : D159 r n uE (xs x0 0 (K2 (cY r n) 0 2)) (K2 (cY r n) 0 2) = (K6 (cKi r n) 0 2 6 22 23 24) :=
 (by kernel_rfl : D159 r n uE (xs x0 0 (K2 (cY r n) 0 2)) (K2 (cY r n) 0 2) = aL (fun kk => D159 r n iX (xs x0 0 (K2 (cY r n) 0 2)) kk) n).trans ((bZs r n n).trans (by kernel_rfl))
theorem cWc : D159 r n bAw x0 (K2 (cY r n) 0 2) = (K6 (aUl r n) 0 2 6 22 23 24) :=
 (by kernel_rfl : D159 r n bAw x0 (K2 (cY r n) 0 2) = D159 r n uE (xs x0 0 (K2 (cY r n) 0 2)) (K2 (cY r n) 0 2)).trans
 ((cXk r n).trans (by kernel_rfl))
theorem bZr : D159 r n aGy x0 r159 = D159 r n yP x0 (K2 (cY r n) 0 2) :=
 congrArg (fun k => D159 r n yP x0 k) (dBr r n)
theorem bUl : D159 r n yP x0 (K2 (cY r n) 0 2) = D159 r n bIq x0 (K6 (aUl r n) 0 2 6 22 23 24) :=
 congrArg (fun k => D159 r n bIq x0 k) (cWc r n)
theorem cSm : D159 r n aGy x0 r159 = (K4 (bAf r n) 0 2 4 6) :=
 (bZr r n).trans
 ((bUl r n).trans
 ((by kernel_rfl)))
theorem bTl : D159 r n aGw x0 r159 = D159 r n bFq x0 (K4 (bAf r n) 0 2 4 6) :=
 congrArg (fun k => D159 r n bFq x0 k) (cSm r n)
theorem cYs : D159 r n aGw x0 r159 = (K3 (bAm r n) 0 2 4) :=
 (bTl r n).trans
 ((by kernel_rfl))
theorem bTa : D159 r n aFs x0 r159 = D159 r n bDp x0 (K3 (bAm r n) 0 2 4) :=
 congrArg (fun k => D159 r n bDp x0 k) (cYs r n)
theorem cYd : D159 r n aFs x0 r159 = (K3 (aVj r n) 0 2 4) :=
 (bTa r n).trans
 ((by kernel_rfl))
theorem bNo : D159 r n aPm x0 r159 = D159 r n bHj x0 (K3 (aVj r n) 0 2 4) :=
 congrArg (fun k => D159 r n bHj x0 k) (cYd r n)
theorem dBx : D159 r n aPm x0 r159 = (K3 (yT r n) 0 2 4) :=
 (bNo r n).trans
 ((by kernel_rfl))
theorem cZj : D159 r n c159 x0 r159 = D159 r n aPb x0 (K3 (yT r n) 0 2 4) :=
 congrArg (fun k => D159 r n aPb x0 k) (dBx r n)
theorem dHi (q0 : dU) : D159 r n aPb x0 (K3 q0 0 2 4) = fun (env : bB) (h : Hp) =>
 bnd (bJ (env 1) h) fun v1 h1 =>
  q0 (env 0) (env 2) v1 h1 := by kernel_rfl
theorem bWs : (fun (env : bB) (h : Hp) =>
 bnd (bJ (env 1) h) fun v1 h1 =>
  yT r n (env 0) (env 2) v1 h1) = (K3 (s159 r n) 0 1 2) := by kernel_rfl
theorem eAr : D159 r n c159 x0 r159 = (K3 (s159 r n) 0 1 2) :=
 (cZj r n).trans
 ((dHi r n (yT r n)).trans (bWs r n))
theorem dTy : aE CF r n 159 args h = s159 r n (aO args 0) (aO args 1) (aO args 2) h :=
 (by kernel_rfl : aE CF r n 159 args h = D159 r n c159 x0 r159 (aI args) h).trans ((congrFun (congrFun (eAr r n) (aI args)) h).trans (by kernel_rfl))
noncomputable def eP (r : RT) (n : Nat) (x4 : DV) (h0 : Hp) : aK :=
 some (.t [x4, (aD 0)], h0)
noncomputable def aNt (r : RT) (n : Nat) (kk6 : dJ) (x4 x10 x11 x12 : DV) (h0 : Hp) : aK :=
 bnd (aF .lss x12 x11 h0) fun v1 h1 =>
 aU v1 (
 bnd (aJ 3 x10 x12 h1) fun v2 h2 =>
 bnd (aG 3 v2 h2) fun v3 h3 =>
 bnd (aZ [(aD 0), (aD 0), (aD 0)] h3) fun v4 h4 =>
 bnd (aC 3 v4 v3 h4) fun _ h5 =>
 bnd (aG 3 v4 h5) fun v6 h6 =>
 bnd (r 145 [v6] h6) fun v7 h7 =>
 bnd (fR .not v7 h7) fun v8 h8 =>
 aU v8 (
 some (.t [.l0, (aD 19)], h8)) (
 bnd (aB 0 v4 h8) fun v9 h9 =>
 bnd (aA v9 h9) fun v10 h10 =>
 bnd (dS .u8 v10 h10) fun v11 h11 =>
 bnd (aB 1 v4 h11) fun v12 h12 =>
 bnd (aA v12 h12) fun v13 h13 =>
 bnd (dS .u8 v13 h13) fun v14 h14 =>
 bnd (aB 2 v4 h14) fun v15 h15 =>
 bnd (aA v15 h15) fun v16 h16 =>
 bnd (dS .u8 v16 h16) fun v17 h17 =>
 bnd (aN [(.i .u8 (Int.ofNat 0)), (.i .u8 (Int.ofNat 0)), (.i .u8 (Int.ofNat 0))] 3 [(0, 1, v11), (1, 1, v14), (2, 1, v17)] h17) fun v18 h18 =>
 bnd (aY 1 1 x4 v18 h18) fun v19 h19 =>
 bnd (aF .add x12 (aD 1) h19) fun v20 h20 =>
    kk6 v19 x10 x11 v20 h20)) (
      eP r n x4 h1)
noncomputable def xA (r : RT) (n : Nat) (m : Nat) : dJ :=
 Nat.rec (motive := fun _ => dJ) (fun _ _ _ _ _ => none) (fun _ ih => aNt r n ih) m
noncomputable def cCx (r : RT) (n : Nat) : dJ := xA r n n
noncomputable def aUo (r : RT) (n : Nat) (x4 x10 x11 x12 : DV) (h0 : Hp) : aK :=
 cCx r n x4 x10 x11 x12 h0
noncomputable def aWg (r : RT) (n : Nat) (x0 x4 : DV) (h0 : Hp) : aK :=
 bnd (bO x0 h0) fun v1 h1 =>
  aUo r n x4 x0 v1 (aD 0) h1
noncomputable def aTw (r : RT) (n : Nat) (x0 : DV) (h0 : Hp) : aK :=
 aWg r n x0 .l0 h0
noncomputable def aUn (r : RT) (n : Nat) (x0 : DV) (h0 : Hp) : aK :=
 bnd (bO x0 h0) fun v1 h1 =>
 bnd (aF .gtr v1 (aD 400) h1) fun v2 h2 =>
 aU v2 (
 some (.t [.l0, (aD 19)], h2)) (
  aTw r n x0 h2)
noncomputable def s160 (r : RT) (n : Nat) (x0 : DV) (h0 : Hp) : aK :=
 aUn r n x0 h0
noncomputable abbrev c160 : Code := cf Tryz.f160
noncomputable abbrev aFl : Code := cR c160
noncomputable abbrev aEy : Code := cR aFl
noncomputable abbrev aDg : Code := cR aEy
noncomputable abbrev dOy : Code := cR aDg
noncomputable abbrev aAb : Code := cL aDg
noncomputable abbrev bAj : Code := cR aAb
noncomputable abbrev aMq : Code := cL bAj
noncomputable abbrev nR : Code := cL aMq
noncomputable abbrev cGw : Code := cL aAb
noncomputable abbrev bJp : Code := cL aEy
noncomputable abbrev bIy : Code := cL aFl
noncomputable abbrev bFk : Code := cL c160
noncomputable abbrev r160 : K := aR CF Tryz.f160
noncomputable def D160 (r : RT) (n : Nat) (c : Code) (X : Nat → K) (k : K) : K := aM CF r 33 n c X r160 k
theorem cSn : D160 r n dOy x0 r160 = (K1 (eP r n) 4) :=
 (by kernel_rfl)
theorem bZn (kk6 : dJ) (q0 : TT1) : D160 r n nR (xs x0 0 (K1 q0 4)) (K4 kk6 4 10 11 12) = fun (env : bB) (h : Hp) =>
 bnd (aF .lss (env 12) (env 11) h) fun v1 h1 =>
 aU v1 (
 bnd (aJ 3 (env 10) (env 12) h1) fun v2 h2 =>
 bnd (aG 3 v2 h2) fun v3 h3 =>
 bnd (aZ [(aD 0), (aD 0), (aD 0)] h3) fun v4 h4 =>
 bnd (aC 3 v4 v3 h4) fun _ h5 =>
 bnd (aG 3 v4 h5) fun v6 h6 =>
 bnd (r 145 [v6] h6) fun v7 h7 =>
 bnd (fR .not v7 h7) fun v8 h8 =>
 aU v8 (
 some (.t [.l0, (aD 19)], h8)) (
 bnd (aB 0 v4 h8) fun v9 h9 =>
 bnd (aA v9 h9) fun v10 h10 =>
 bnd (dS .u8 v10 h10) fun v11 h11 =>
 bnd (aB 1 v4 h11) fun v12 h12 =>
 bnd (aA v12 h12) fun v13 h13 =>
 bnd (dS .u8 v13 h13) fun v14 h14 =>
 bnd (aB 2 v4 h14) fun v15 h15 =>
 bnd (aA v15 h15) fun v16 h16 =>
 bnd (dS .u8 v16 h16) fun v17 h17 =>
 bnd (aN [(.i .u8 (Int.ofNat 0)), (.i .u8 (Int.ofNat 0)), (.i .u8 (Int.ofNat 0))] 3 [(0, 1, v11), (1, 1, v14), (2, 1, v17)] h17) fun v18 h18 =>
 bnd (aY 1 1 (env 4) v18 h18) fun v19 h19 =>
 bnd (aF .add (env 12) (aD 1) h19) fun v20 h20 =>
    kk6 v19 (env 10) (env 11) v20 h20)) (
      q0 (env 4) h1) := by kernel_rfl
theorem bNc (kk6 : dJ) : (fun (env : bB) (h : Hp) =>
 bnd (aF .lss (env 12) (env 11) h) fun v1 h1 =>
 aU v1 (
 bnd (aJ 3 (env 10) (env 12) h1) fun v2 h2 =>
 bnd (aG 3 v2 h2) fun v3 h3 =>
 bnd (aZ [(aD 0), (aD 0), (aD 0)] h3) fun v4 h4 =>
 bnd (aC 3 v4 v3 h4) fun _ h5 =>
 bnd (aG 3 v4 h5) fun v6 h6 =>
 bnd (r 145 [v6] h6) fun v7 h7 =>
 bnd (fR .not v7 h7) fun v8 h8 =>
 aU v8 (
 some (.t [.l0, (aD 19)], h8)) (
 bnd (aB 0 v4 h8) fun v9 h9 =>
 bnd (aA v9 h9) fun v10 h10 =>
 bnd (dS .u8 v10 h10) fun v11 h11 =>
 bnd (aB 1 v4 h11) fun v12 h12 =>
 bnd (aA v12 h12) fun v13 h13 =>
 bnd (dS .u8 v13 h13) fun v14 h14 =>
 bnd (aB 2 v4 h14) fun v15 h15 =>
 bnd (aA v15 h15) fun v16 h16 =>
 bnd (dS .u8 v16 h16) fun v17 h17 =>
 bnd (aN [(.i .u8 (Int.ofNat 0)), (.i .u8 (Int.ofNat 0)), (.i .u8 (Int.ofNat 0))] 3 [(0, 1, v11), (1, 1, v14), (2, 1, v17)] h17) fun v18 h18 =>
 bnd (aY 1 1 (env 4) v18 h18) fun v19 h19 =>
 bnd (aF .add (env 12) (aD 1) h19) fun v20 h20 =>
    kk6 v19 (env 10) (env 11) v20 h20)) (
      eP r n (env 4) h1)) = (K4 (aNt r n kk6) 4 10 11 12) := by kernel_rfl
theorem bUm (kk6 : dJ) : D160 r n nR (xs x0 0 (K1 (eP r n) 4)) (K4 kk6 4 10 11 12) = (K4 (aNt r n kk6) 4 10 11 12) :=
 (bZn r n kk6 (eP r n)).trans (bNc r n kk6)
theorem cBe (m : Nat) : aL (fun kk => D160 r n nR (xs x0 0 (K1 (eP r n) 4)) kk) m = (K4 (xA r n m) 4 10 11 12) := by
 induction m with
 | zero => exact (by kernel_rfl : aL (fun kk => D160 r n nR (xs x0 0 (K1 (eP r n) 4)) kk) 0 = (K4 (xA r n 0) 4 10 11 12))
 | succ m ih =>
  refine (by kernel_rfl : aL (fun kk => D160 r n nR (xs x0 0 (K1 (eP r n) 4)) kk) (m + 1) = D160 r n nR (xs x0 0 (K1 (eP r n) 4)) (aL (fun kk => D160 r n nR (xs x0 0 (K1 (eP r n) 4)) kk) m)).trans ?_
  rw [ih]
  exact (bUm r n (xA r n m)).trans (by kernel_rfl)
theorem cYr : D160 r n aMq (xs x0 0 (K1 (eP r n) 4)) (K1 (eP r n) 4) = (K4 (cCx r n) 4 10 11 12) :=
 (by kernel_rfl : D160 r n aMq (xs x0 0 (K1 (eP r n) 4)) (K1 (eP r n) 4) = aL (fun kk => D160 r n nR (xs x0 0 (K1 (eP r n) 4)) kk) n).trans ((cBe r n n).trans (by kernel_rfl))
theorem dEq : D160 r n bAj x0 (K1 (eP r n) 4) = (K4 (aUo r n) 4 10 11 12) :=
 (by kernel_rfl : D160 r n bAj x0 (K1 (eP r n) 4) = D160 r n aMq (xs x0 0 (K1 (eP r n) 4)) (K1 (eP r n) 4)).trans
 ((cYr r n).trans (by kernel_rfl))
theorem cEr : D160 r n aDg x0 r160 = D160 r n aAb x0 (K1 (eP r n) 4) :=
 congrArg (fun k => D160 r n aAb x0 k) (cSn r n)
theorem bTu : D160 r n aAb x0 (K1 (eP r n) 4) = D160 r n cGw x0 (K4 (aUo r n) 4 10 11 12) :=
 congrArg (fun k => D160 r n cGw x0 k) (dEq r n)
theorem dGq : D160 r n aDg x0 r160 = (K2 (aWg r n) 0 4) :=
 (cEr r n).trans
 ((bTu r n).trans
 ((by kernel_rfl)))
theorem cMb : D160 r n aEy x0 r160 = D160 r n bJp x0 (K2 (aWg r n) 0 4) :=
 congrArg (fun k => D160 r n bJp x0 k) (dGq r n)
theorem dGp : D160 r n aEy x0 r160 = (K1 (aTw r n) 0) :=
 (cMb r n).trans
 ((by kernel_rfl))
theorem bXg : D160 r n aFl x0 r160 = D160 r n bIy x0 (K1 (aTw r n) 0) :=
 congrArg (fun k => D160 r n bIy x0 k) (dGp r n)
theorem dGr : D160 r n aFl x0 r160 = (K1 (aUn r n) 0) :=
 (bXg r n).trans
 ((by kernel_rfl))
theorem dTw : D160 r n c160 x0 r160 = D160 r n bFk x0 (K1 (aUn r n) 0) :=
 congrArg (fun k => D160 r n bFk x0 k) (dGr r n)
theorem eCg : D160 r n c160 x0 r160 = (K1 (s160 r n) 0) :=
 (dTw r n).trans
 ((by kernel_rfl))
theorem dSb : aE CF r n 160 args h = s160 r n (aO args 0) h :=
 (by kernel_rfl : aE CF r n 160 args h = D160 r n c160 x0 r160 (aI args) h).trans ((congrFun (congrFun (eCg r n) (aI args)) h).trans (by kernel_rfl))
noncomputable def fF (r : RT) (n : Nat) (x0 x6 : DV) (h0 : Hp) : aK :=
 bnd (r 36 [x0, x6] h0) fun v1 h1 =>
 bnd (aH 0 v1 h1) fun v2 h2 =>
 bnd (aH 1 v1 h2) fun v3 h3 =>
 some (.t [v2, v3], h3)
noncomputable def aNr (r : RT) (n : Nat) (kk4 : dU) (x0 x1 x6 : DV) (h0 : Hp) : aK :=
 bnd (bO x1 h0) fun v1 h1 =>
 bnd (aF .gtr v1 (aD 0) h1) fun v2 h2 =>
 aU v2 (
 bnd (bO x1 h2) fun v3 h3 =>
 bnd (aVw v3 (aD 240) h3) fun v4 h4 =>
 bnd (r 34 [x0, (aD 10)] h4) fun v5 h5 =>
 bnd (cW 1 x1 none (some v4) h5) fun v6 h6 =>
 cnd (aX (cW 1 x1 none (some v4) h4) v6 && true) (
 bnd (iH v6 h6) fun v7 h7 =>
 cnd (aX (iH v6 h4) v7 && true) (
 bnd (r 43 [x0, v5, v7] h7) fun v8 h8 =>
 bnd (aH 0 v8 h8) fun v9 h9 =>
 bnd (aH 1 v8 h9) fun v10 h10 =>
 bnd (aF .neq v10 (aD 0) h10) fun v11 h11 =>
 aU v11 (
 some (.t [(aD 0), v10], h11)) (
 bnd (aV (bF 0 h11.next) [(aD 0)] 1 [(0, 1, v9)] (resv 1 h11)) fun v12 h12 =>
 bnd (aY 1 8 x6 v12 h12) fun v13 h13 =>
 bnd (cW 1 x1 (some v4) none h13) fun v14 h14 =>
 cnd (aX (cW 1 x1 (some v4) none (resv 1 h11)) v14 && true) (
    kk4 x0 v14 v13 h14))))) (
      fF r n x0 x6 h2)
noncomputable def wO (r : RT) (n : Nat) (m : Nat) : dU :=
 Nat.rec (motive := fun _ => dU) (fun _ _ _ _ => none) (fun _ ih => aNr r n ih) m
noncomputable def cOi (r : RT) (n : Nat) : dU := wO r n n
noncomputable def bAs (r : RT) (n : Nat) (x0 x1 x6 : DV) (h0 : Hp) : aK :=
 cOi r n x0 x1 x6 h0
noncomputable def bAp (r : RT) (n : Nat) (x0 x1 : DV) (h0 : Hp) : aK :=
 bAs r n x0 x1 .l0 h0
noncomputable def s161 (r : RT) (n : Nat) (x0 x1 : DV) (h0 : Hp) : aK :=
 bAp r n x0 x1 h0
noncomputable abbrev c161 : Code := cf Tryz.f161
noncomputable abbrev aFd : Code := cR c161
noncomputable abbrev aLj : Code := cR aFd
noncomputable abbrev dMh : Code := cR aLj
noncomputable abbrev aKe : Code := cL aLj
noncomputable abbrev aHk : Code := cL aKe
noncomputable abbrev nB : Code := cL aHk
noncomputable abbrev cKu : Code := cL aFd
noncomputable abbrev cOb : Code := cL c161
noncomputable abbrev r161 : K := aR CF Tryz.f161
noncomputable def D161 (r : RT) (n : Nat) (c : Code) (X : Nat → K) (k : K) : K := aM CF r 42 n c X r161 k
theorem cZn : D161 r n dMh x0 r161 = (K2 (fF r n) 0 6) :=
 (by kernel_rfl)
theorem bXz (kk4 : dU) (q0 : eK) : D161 r n nB (xs x0 0 (K2 q0 0 6)) (K3 kk4 0 1 6) = fun (env : bB) (h : Hp) =>
 bnd (bO (env 1) h) fun v1 h1 =>
 bnd (aF .gtr v1 (aD 0) h1) fun v2 h2 =>
 aU v2 (
 bnd (bO (env 1) h2) fun v3 h3 =>
 bnd (aVw v3 (aD 240) h3) fun v4 h4 =>
 bnd (r 34 [(env 0), (aD 10)] h4) fun v5 h5 =>
 bnd (cW 1 (env 1) none (some v4) h5) fun v6 h6 =>
 cnd (aX (cW 1 (env 1) none (some v4) h4) v6 && true) (
 bnd (iH v6 h6) fun v7 h7 =>
 cnd (aX (iH v6 h4) v7 && true) (
 bnd (r 43 [(env 0), v5, v7] h7) fun v8 h8 =>
 bnd (aH 0 v8 h8) fun v9 h9 =>
 bnd (aH 1 v8 h9) fun v10 h10 =>
 bnd (aF .neq v10 (aD 0) h10) fun v11 h11 =>
 aU v11 (
 some (.t [(aD 0), v10], h11)) (
 bnd (aV (bF 0 h11.next) [(aD 0)] 1 [(0, 1, v9)] (resv 1 h11)) fun v12 h12 =>
 bnd (aY 1 8 (env 6) v12 h12) fun v13 h13 =>
 bnd (cW 1 (env 1) (some v4) none h13) fun v14 h14 =>
 cnd (aX (cW 1 (env 1) (some v4) none (resv 1 h11)) v14 && true) (
    kk4 (env 0) v14 v13 h14))))) (
      q0 (env 0) (env 6) h2) := by kernel_rfl
theorem bOs (kk4 : dU) : (fun (env : bB) (h : Hp) =>
 bnd (bO (env 1) h) fun v1 h1 =>
 bnd (aF .gtr v1 (aD 0) h1) fun v2 h2 =>
 aU v2 (
 bnd (bO (env 1) h2) fun v3 h3 =>
 bnd (aVw v3 (aD 240) h3) fun v4 h4 =>
 bnd (r 34 [(env 0), (aD 10)] h4) fun v5 h5 =>
 bnd (cW 1 (env 1) none (some v4) h5) fun v6 h6 =>
 cnd (aX (cW 1 (env 1) none (some v4) h4) v6 && true) (
 bnd (iH v6 h6) fun v7 h7 =>
 cnd (aX (iH v6 h4) v7 && true) (
 bnd (r 43 [(env 0), v5, v7] h7) fun v8 h8 =>
 bnd (aH 0 v8 h8) fun v9 h9 =>
 bnd (aH 1 v8 h9) fun v10 h10 =>
 bnd (aF .neq v10 (aD 0) h10) fun v11 h11 =>
 aU v11 (
 some (.t [(aD 0), v10], h11)) (
 bnd (aV (bF 0 h11.next) [(aD 0)] 1 [(0, 1, v9)] (resv 1 h11)) fun v12 h12 =>
 bnd (aY 1 8 (env 6) v12 h12) fun v13 h13 =>
 bnd (cW 1 (env 1) (some v4) none h13) fun v14 h14 =>
 cnd (aX (cW 1 (env 1) (some v4) none (resv 1 h11)) v14 && true) (
    kk4 (env 0) v14 v13 h14))))) (
      fF r n (env 0) (env 6) h2)) = (K3 (aNr r n kk4) 0 1 6) := by kernel_rfl
theorem bVq (kk4 : dU) : D161 r n nB (xs x0 0 (K2 (fF r n) 0 6)) (K3 kk4 0 1 6) = (K3 (aNr r n kk4) 0 1 6) :=
 (bXz r n kk4 (fF r n)).trans (bOs r n kk4)
theorem cLp (m : Nat) : aL (fun kk => D161 r n nB (xs x0 0 (K2 (fF r n) 0 6)) kk) m = (K3 (wO r n m) 0 1 6) := by
 induction m with
 | zero => exact (by kernel_rfl : aL (fun kk => D161 r n nB (xs x0 0 (K2 (fF r n) 0 6)) kk) 0 = (K3 (wO r n 0) 0 1 6))
 | succ m ih =>
  refine (by kernel_rfl : aL (fun kk => D161 r n nB (xs x0 0 (K2 (fF r n) 0 6)) kk) (m + 1) = D161 r n nB (xs x0 0 (K2 (fF r n) 0 6)) (aL (fun kk => D161 r n nB (xs x0 0 (K2 (fF r n) 0 6)) kk) m)).trans ?_
  rw [ih]
  exact (bVq r n (wO r n m)).trans (by kernel_rfl)
theorem dFf : D161 r n aHk (xs x0 0 (K2 (fF r n) 0 6)) (K2 (fF r n) 0 6) = (K3 (cOi r n) 0 1 6) :=
 (by kernel_rfl : D161 r n aHk (xs x0 0 (K2 (fF r n) 0 6)) (K2 (fF r n) 0 6) = aL (fun kk => D161 r n nB (xs x0 0 (K2 (fF r n) 0 6)) kk) n).trans ((cLp r n n).trans (by kernel_rfl))
theorem bVt : D161 r n aLj x0 r161 = D161 r n aKe x0 (K2 (fF r n) 0 6) :=
 congrArg (fun k => D161 r n aKe x0 k) (cZn r n)
theorem cTw : D161 r n aLj x0 r161 = (K3 (bAs r n) 0 1 6) :=
 (bVt r n).trans
 ((by kernel_rfl : D161 r n aKe x0 (K2 (fF r n) 0 6) = D161 r n aHk (xs x0 0 (K2 (fF r n) 0 6)) (K2 (fF r n) 0 6)).trans
 ((dFf r n).trans (by kernel_rfl)))
theorem cMg : D161 r n aFd x0 r161 = D161 r n cKu x0 (K3 (bAs r n) 0 1 6) :=
 congrArg (fun k => D161 r n cKu x0 k) (cTw r n)
theorem dCc : D161 r n aFd x0 r161 = (K2 (bAp r n) 0 1) :=
 (cMg r n).trans
 ((by kernel_rfl))
theorem dQc : D161 r n c161 x0 r161 = D161 r n cOb x0 (K2 (bAp r n) 0 1) :=
 congrArg (fun k => D161 r n cOb x0 k) (dCc r n)
theorem dZx : D161 r n c161 x0 r161 = (K2 (s161 r n) 0 1) :=
 (dQc r n).trans
 ((by kernel_rfl))
theorem dWq : aE CF r n 161 args h = s161 r n (aO args 0) (aO args 1) h :=
 (by kernel_rfl : aE CF r n 161 args h = D161 r n c161 x0 r161 (aI args) h).trans ((congrFun (congrFun (dZx r n) (aI args)) h).trans (by kernel_rfl))
noncomputable def bGd (r : RT) (n : Nat) (kk2 : dJ) (x0 x1 x2 x4 : DV) (h0 : Hp) : aK :=
 bnd (aF .gtr x4 (aD 0) h0) fun v1 h1 =>
 bnd (gD v1 true (aA x1 h1) h1) fun v2 h2 =>
 bnd (gD v1 true (aQ v2 h2) h2) fun v3 h3 =>
 bnd (gD v1 true (aB 0 v3 h3) h3) fun v4 h4 =>
 bnd (gD v1 true (aA v4 h4) h4) fun v5 h5 =>
 bnd (gD v1 true (aA x2 h5) h5) fun v6 h6 =>
 bnd (gD v1 true (isF [v5, v6] h6) h6) fun v7 h7 =>
 bnd (aP v1 v7 (.b false) h7) fun v8 h8 =>
 aU v8 (
 bnd (aA x1 h8) fun v9 h9 =>
 bnd (aA x2 h9) fun v10 h10 =>
 bnd (r 111 [v9, v10, (aD 0)] h10) fun v11 h11 =>
 bnd (dF CF r x0 [v11] h11) fun v12 h12 =>
 bnd (fR .not v12 h12) fun v13 h13 =>
 aU v13 (
 some (.t [], h13)) (
 bnd (aA x1 h13) fun v14 h14 =>
 bnd (aA x2 h14) fun v15 h15 =>
 bnd (r 111 [v14, v15, (aD 1)] h15) fun v16 h16 =>
 bnd (aC 1 x2 v16 h16) fun _ h17 =>
 bnd (aF .sub x4 (aD 1) h17) fun v18 h18 =>
    kk2 x0 x1 x2 v18 h18)) (
 some (.t [], h8))
noncomputable def uB (r : RT) (n : Nat) (m : Nat) : dJ :=
 Nat.rec (motive := fun _ => dJ) (fun _ _ _ _ _ => none) (fun _ ih => bGd r n ih) m
noncomputable def bYz (r : RT) (n : Nat) : dJ := uB r n n
noncomputable def aUt (r : RT) (n : Nat) (x0 x1 x2 x4 : DV) (h0 : Hp) : aK :=
 bYz r n x0 x1 x2 x4 h0
noncomputable def s162 (r : RT) (n : Nat) (x0 x1 x2 : DV) (h0 : Hp) : aK :=
 bnd (aA x1 h0) fun v1 h1 =>
 bnd (aQ v1 h1) fun v2 h2 =>
 bnd (aB 0 v2 h2) fun v3 h3 =>
 bnd (aA v3 h3) fun v4 h4 =>
 bnd (kG [v4] h4) fun v5 h5 =>
  aUt r n x0 x1 x2 v5 h5
noncomputable abbrev c162 : Code := cf Tryz.f162
noncomputable abbrev bBh : Code := cR c162
noncomputable abbrev aHj : Code := cL bBh
noncomputable abbrev oZ : Code := cL aHj
noncomputable abbrev bVl : Code := cL c162
noncomputable abbrev r162 : K := aR CF Tryz.f162
noncomputable def D162 (r : RT) (n : Nat) (c : Code) (X : Nat → K) (k : K) : K := aM CF r 31 n c X r162 k
theorem cMz (kk2 : dJ) : D162 r n oZ (xs x0 0 r162) (K4 kk2 0 1 2 4) = (K4 (bGd r n kk2) 0 1 2 4) :=
 (by kernel_rfl)
theorem bUt (m : Nat) : aL (fun kk => D162 r n oZ (xs x0 0 r162) kk) m = (K4 (uB r n m) 0 1 2 4) := by
 induction m with
 | zero => exact (by kernel_rfl : aL (fun kk => D162 r n oZ (xs x0 0 r162) kk) 0 = (K4 (uB r n 0) 0 1 2 4))
 | succ m ih =>
  refine (by kernel_rfl : aL (fun kk => D162 r n oZ (xs x0 0 r162) kk) (m + 1) = D162 r n oZ (xs x0 0 r162) (aL (fun kk => D162 r n oZ (xs x0 0 r162) kk) m)).trans ?_
  rw [ih]
  exact (cMz r n (uB r n m)).trans (by kernel_rfl)
theorem cXc : D162 r n aHj (xs x0 0 r162) r162 = (K4 (bYz r n) 0 1 2 4) :=
 (by kernel_rfl : D162 r n aHj (xs x0 0 r162) r162 = aL (fun kk => D162 r n oZ (xs x0 0 r162) kk) n).trans ((bUt r n n).trans (by kernel_rfl))
theorem dFm : D162 r n bBh x0 r162 = (K4 (aUt r n) 0 1 2 4) :=
 (by kernel_rfl : D162 r n bBh x0 r162 = D162 r n aHj (xs x0 0 r162) r162).trans
 ((cXc r n).trans (by kernel_rfl))
theorem dRp : D162 r n c162 x0 r162 = D162 r n bVl x0 (K4 (aUt r n) 0 1 2 4) :=
 congrArg (fun k => D162 r n bVl x0 k) (dFm r n)
theorem eGp : D162 r n c162 x0 r162 = (K3 (s162 r n) 0 1 2) :=
 (dRp r n).trans
 ((by kernel_rfl))
theorem dSo : aE CF r n 162 args h = s162 r n (aO args 0) (aO args 1) (aO args 2) h :=
 (by kernel_rfl : aE CF r n 162 args h = D162 r n c162 x0 r162 (aI args) h).trans ((congrFun (congrFun (eGp r n) (aI args)) h).trans (by kernel_rfl))
end Go.Dd

namespace Go.Dd
open Go.Proofs
variable (r : RT) (n : Nat) (args : List DV) (h : Hp)
noncomputable def fE (r : RT) (n : Nat) (h0 : Hp) : aK :=
 some ((.i .i64 (Int.negSucc 0)), h0)
noncomputable def bGz (r : RT) (n : Nat) (kk4 : dJ) (x0 x1 x7 x8 : DV) (h0 : Hp) : aK :=
 bnd (aF .lss x8 x7 h0) fun v1 h1 =>
 aU v1 (
 bnd (aJ 4 x0 x8 h1) fun v2 h2 =>
 bnd (aG 4 v2 h2) fun v3 h3 =>
 bnd (dF CF r x1 [v3] h3) fun v4 h4 =>
 aU v4 (
 some (x8, h4)) (
 bnd (aF .add x8 (aD 1) h4) fun v5 h5 =>
    kk4 x0 x1 x7 v5 h5)) (
      fE r n h1)
noncomputable def wA (r : RT) (n : Nat) (m : Nat) : dJ :=
 Nat.rec (motive := fun _ => dJ) (fun _ _ _ _ _ => none) (fun _ ih => bGz r n ih) m
noncomputable def cHv (r : RT) (n : Nat) : dJ := wA r n n
noncomputable def aYl (r : RT) (n : Nat) (x0 x1 x7 x8 : DV) (h0 : Hp) : aK :=
 cHv r n x0 x1 x7 x8 h0
noncomputable def bAa (r : RT) (n : Nat) (x0 x1 : DV) (h0 : Hp) : aK :=
 bnd (bO x0 h0) fun v1 h1 =>
  aYl r n x0 x1 v1 (aD 0) h1
noncomputable def s163 (r : RT) (n : Nat) (x0 x1 : DV) (h0 : Hp) : aK :=
 bAa r n x0 x1 h0
noncomputable abbrev c163 : Code := cf Tryz.f163
noncomputable abbrev aLs : Code := cR c163
noncomputable abbrev dSw : Code := cR aLs
noncomputable abbrev yW : Code := cL aLs
noncomputable abbrev aWi : Code := cR yW
noncomputable abbrev aPd : Code := cL aWi
noncomputable abbrev oT : Code := cL aPd
noncomputable abbrev cNg : Code := cL yW
noncomputable abbrev cOj : Code := cL c163
noncomputable abbrev r163 : K := aR CF Tryz.f163
noncomputable def D163 (r : RT) (n : Nat) (c : Code) (X : Nat → K) (k : K) : K := aM CF r 19 n c X r163 k
theorem cOs : D163 r n dSw x0 r163 = (K0 (fE r n)) :=
 (by kernel_rfl)
theorem bYe (kk4 : dJ) : D163 r n oT (xs x0 0 (K0 (fE r n))) (K4 kk4 0 1 7 8) = (K4 (bGz r n kk4) 0 1 7 8) :=
 (by kernel_rfl)
theorem cFc (m : Nat) : aL (fun kk => D163 r n oT (xs x0 0 (K0 (fE r n))) kk) m = (K4 (wA r n m) 0 1 7 8) := by
 induction m with
 | zero => exact (by kernel_rfl : aL (fun kk => D163 r n oT (xs x0 0 (K0 (fE r n))) kk) 0 = (K4 (wA r n 0) 0 1 7 8))
 | succ m ih =>
  refine (by kernel_rfl : aL (fun kk => D163 r n oT (xs x0 0 (K0 (fE r n))) kk) (m + 1) = D163 r n oT (xs x0 0 (K0 (fE r n))) (aL (fun kk => D163 r n oT (xs x0 0 (K0 (fE r n))) kk) m)).trans ?_
  rw [ih]
  exact (bYe r n (wA r n m)).trans (by kernel_rfl)
theorem cWq : D163 r n aPd (xs x0 0 (K0 (fE r n))) (K0 (fE r n)) = (K4 (cHv r n) 0 1 7 8) :=
 (by kernel_rfl : D163 r n aPd (xs x0 0 (K0 (fE r n))) (K0 (fE r n)) = aL (fun kk => D163 r n oT (xs x0 0 (K0 (fE r n))) kk) n).trans ((cFc r n n).trans (by kernel_rfl))
theorem cYe : D163 r n aWi x0 (K0 (fE r n)) = (K4 (aYl r n) 0 1 7 8) :=
 (by kernel_rfl : D163 r n aWi x0 (K0 (fE r n)) = D163 r n aPd (xs x0 0 (K0 (fE r n))) (K0 (fE r n))).trans
 ((cWq r n).trans (by kernel_rfl))
theorem cNn : D163 r n aLs x0 r163 = D163 r n yW x0 (K0 (fE r n)) :=
 congrArg (fun k => D163 r n yW x0 k) (cOs r n)
theorem cHf : D163 r n yW x0 (K0 (fE r n)) = D163 r n cNg x0 (K4 (aYl r n) 0 1 7 8) :=
 congrArg (fun k => D163 r n cNg x0 k) (cYe r n)
theorem cXh : D163 r n aLs x0 r163 = (K2 (bAa r n) 0 1) :=
 (cNn r n).trans
 ((cHf r n).trans
 ((by kernel_rfl)))
theorem dQn : D163 r n c163 x0 r163 = D163 r n cOj x0 (K2 (bAa r n) 0 1) :=
 congrArg (fun k => D163 r n cOj x0 k) (cXh r n)
theorem eDz : D163 r n c163 x0 r163 = (K2 (s163 r n) 0 1) :=
 (dQn r n).trans
 ((by kernel_rfl))
theorem dRk : aE CF r n 163 args h = s163 r n (aO args 0) (aO args 1) h :=
 (by kernel_rfl : aE CF r n 163 args h = D163 r n c163 x0 r163 (aI args) h).trans ((congrFun (congrFun (eDz r n) (aI args)) h).trans (by kernel_rfl))
noncomputable def cF (r : RT) (n : Nat) (x2 x3 : DV) (h0 : Hp) : aK :=
 some (.t [x2, x3], h0)
noncomputable def dA (r : RT) (n : Nat) (x3 : DV) (h0 : Hp) : aK :=
 cF r n (.b true) x3 h0
noncomputable def dW (r : RT) (n : Nat) (h0 : Hp) : aK :=
 dA r n (.b true) h0
noncomputable def pL (r : RT) (n : Nat) (x2 x3 : DV) (h0 : Hp) : aK :=
 cF r n x2 x3 h0
noncomputable def nS (r : RT) (n : Nat) (x2 x3 x11 : DV) (h0 : Hp) : aK :=
 aU x11 (
  dA r n x3 h0) (
  pL r n x2 x3 h0)
noncomputable def aBv (r : RT) (n : Nat) (x2 x3 x4 : DV) (h0 : Hp) : aK :=
 bnd (aF .eql x4 (aD 6) h0) fun v1 h1 =>
 aU v1 (
  nS r n x2 x3 v1 h1) (
 bnd (aF .eql x4 (aD 7) h1) fun v2 h2 =>
 aU v2 (
   nS r n x2 x3 v2 h2) (
 bnd (aF .eql x4 (aD 8) h2) fun v3 h3 =>
 aU v3 (
    nS r n x2 x3 v3 h3) (
 bnd (aF .eql x4 (aD 9) h3) fun v4 h4 =>
 aU v4 (
     nS r n x2 x3 v4 h4) (
 bnd (aF .eql x4 (aD 10) h4) fun v5 h5 =>
 aU v5 (
      nS r n x2 x3 v5 h5) (
 bnd (aF .eql x4 (aD 11) h5) fun v6 h6 =>
      nS r n x2 x3 v6 h6)))))
noncomputable def pP (r : RT) (n : Nat) (x2 x3 x4 x5 : DV) (h0 : Hp) : aK :=
 aU x5 (
  dW r n h0) (
  aBv r n x2 x3 x4 h0)
noncomputable def aUe (r : RT) (n : Nat) (x2 x3 x4 : DV) (h0 : Hp) : aK :=
 bnd (aF .eql x4 (aD 14) h0) fun v1 h1 =>
 aU v1 (
  pP r n x2 x3 x4 v1 h1) (
 bnd (aF .eql x4 (aD 15) h1) fun v2 h2 =>
 aU v2 (
   pP r n x2 x3 x4 v2 h2) (
 bnd (aF .eql x4 (aD 16) h2) fun v3 h3 =>
 aU v3 (
    pP r n x2 x3 x4 v3 h3) (
 bnd (aF .eql x4 (aD 17) h3) fun v4 h4 =>
 aU v4 (
     pP r n x2 x3 x4 v4 h4) (
 bnd (aF .eql x4 (aD 18) h4) fun v5 h5 =>
     pP r n x2 x3 x4 v5 h5))))
noncomputable def bAu (r : RT) (n : Nat) (x0 x2 x3 : DV) (h0 : Hp) : aK :=
 aUe r n x2 x3 x0 h0
noncomputable def s165 (r : RT) (n : Nat) (x0 : DV) (h0 : Hp) : aK :=
 bAu r n x0 (.b false) (.b false) h0
noncomputable abbrev c165 : Code := cf Tryz.f165
noncomputable abbrev aHd : Code := cR c165
noncomputable abbrev dUt : Code := cR aHd
noncomputable abbrev aAm : Code := cL aHd
noncomputable abbrev bAi : Code := cR aAm
noncomputable abbrev aPj : Code := cL bAi
noncomputable abbrev dPj : Code := cR aPj
noncomputable abbrev aFv : Code := cL aPj
noncomputable abbrev aHu : Code := cL aFv
noncomputable abbrev dWg : Code := cR aHu
noncomputable abbrev vJ : Code := cL aHu
noncomputable abbrev xT : Code := cL vJ
noncomputable abbrev cSr : Code := cR xT
noncomputable abbrev qU : Code := cL xT
noncomputable abbrev uU : Code := cR qU
noncomputable abbrev cVm : Code := cR uU
noncomputable abbrev bGa : Code := cL uU
noncomputable abbrev qW : Code := cL qU
noncomputable abbrev cVo : Code := cR qW
noncomputable abbrev bHp : Code := cL qW
noncomputable abbrev bIw : Code := cL aAm
noncomputable abbrev bIx : Code := cL c165
noncomputable abbrev r165 : K := aR CF Tryz.f165
noncomputable def D165 (r : RT) (n : Nat) (c : Code) (X : Nat → K) (k : K) : K := aM CF r 20 n c X r165 k
theorem cPo : D165 r n dUt x0 r165 = (K2 (cF r n) 2 3) :=
 (by kernel_rfl)
theorem cXv : D165 r n dPj (xs x0 0 (K2 (cF r n) 2 3)) (K2 (cF r n) 2 3) = (K1 (dA r n) 3) :=
 (by kernel_rfl)
theorem cPg : D165 r n dWg (xs (xs x0 0 (K2 (cF r n) 2 3)) 2 (K1 (dA r n) 3)) (K1 (dA r n) 3) = (K0 (dW r n)) :=
 (by kernel_rfl)
theorem cTc : D165 r n cSr (xs (xs (xs x0 0 (K2 (cF r n) 2 3)) 2 (K1 (dA r n) 3)) 1 (K0 (dW r n))) (K0 (dW r n)) = (K2 (pL r n) 2 3) :=
 (by kernel_rfl)
theorem dGs : D165 r n cVm (xs (xs (xs x0 0 (K2 (cF r n) 2 3)) 2 (K1 (dA r n) 3)) 1 (K0 (dW r n))) (K2 (pL r n) 2 3) = (K3 (nS r n) 2 3 11) :=
 (by kernel_rfl)
theorem bWw : D165 r n uU (xs (xs (xs x0 0 (K2 (cF r n) 2 3)) 2 (K1 (dA r n) 3)) 1 (K0 (dW r n))) (K2 (pL r n) 2 3) = D165 r n bGa (xs (xs (xs x0 0 (K2 (cF r n) 2 3)) 2 (K1 (dA r n) 3)) 1 (K0 (dW r n))) (K3 (nS r n) 2 3 11) :=
 congrArg (fun k => D165 r n bGa (xs (xs (xs x0 0 (K2 (cF r n) 2 3)) 2 (K1 (dA r n) 3)) 1 (K0 (dW r n))) k) (dGs r n)
theorem cSp : D165 r n uU (xs (xs (xs x0 0 (K2 (cF r n) 2 3)) 2 (K1 (dA r n) 3)) 1 (K0 (dW r n))) (K2 (pL r n) 2 3) = (K3 (aBv r n) 2 3 4) :=
 (bWw r n).trans
 ((by kernel_rfl))
theorem cUl : D165 r n cVo (xs (xs (xs x0 0 (K2 (cF r n) 2 3)) 2 (K1 (dA r n) 3)) 1 (K0 (dW r n))) (K3 (aBv r n) 2 3 4) = (K4 (pP r n) 2 3 4 5) :=
 (by kernel_rfl)
theorem cGd : D165 r n aPj (xs x0 0 (K2 (cF r n) 2 3)) (K2 (cF r n) 2 3) = D165 r n aFv (xs x0 0 (K2 (cF r n) 2 3)) (K1 (dA r n) 3) :=
 congrArg (fun k => D165 r n aFv (xs x0 0 (K2 (cF r n) 2 3)) k) (cXv r n)
theorem cBh : D165 r n aHu (xs (xs x0 0 (K2 (cF r n) 2 3)) 2 (K1 (dA r n) 3)) (K1 (dA r n) 3) = D165 r n vJ (xs (xs x0 0 (K2 (cF r n) 2 3)) 2 (K1 (dA r n) 3)) (K0 (dW r n)) :=
 congrArg (fun k => D165 r n vJ (xs (xs x0 0 (K2 (cF r n) 2 3)) 2 (K1 (dA r n) 3)) k) (cPg r n)
theorem bZk : D165 r n xT (xs (xs (xs x0 0 (K2 (cF r n) 2 3)) 2 (K1 (dA r n) 3)) 1 (K0 (dW r n))) (K0 (dW r n)) = D165 r n qU (xs (xs (xs x0 0 (K2 (cF r n) 2 3)) 2 (K1 (dA r n) 3)) 1 (K0 (dW r n))) (K2 (pL r n) 2 3) :=
 congrArg (fun k => D165 r n qU (xs (xs (xs x0 0 (K2 (cF r n) 2 3)) 2 (K1 (dA r n) 3)) 1 (K0 (dW r n))) k) (cTc r n)
theorem bQu : D165 r n qU (xs (xs (xs x0 0 (K2 (cF r n) 2 3)) 2 (K1 (dA r n) 3)) 1 (K0 (dW r n))) (K2 (pL r n) 2 3) = D165 r n qW (xs (xs (xs x0 0 (K2 (cF r n) 2 3)) 2 (K1 (dA r n) 3)) 1 (K0 (dW r n))) (K3 (aBv r n) 2 3 4) :=
 congrArg (fun k => D165 r n qW (xs (xs (xs x0 0 (K2 (cF r n) 2 3)) 2 (K1 (dA r n) 3)) 1 (K0 (dW r n))) k) (cSp r n)
theorem cEs : D165 r n qW (xs (xs (xs x0 0 (K2 (cF r n) 2 3)) 2 (K1 (dA r n) 3)) 1 (K0 (dW r n))) (K3 (aBv r n) 2 3 4) = D165 r n bHp (xs (xs (xs x0 0 (K2 (cF r n) 2 3)) 2 (K1 (dA r n) 3)) 1 (K0 (dW r n))) (K4 (pP r n) 2 3 4 5) :=
 congrArg (fun k => D165 r n bHp (xs (xs (xs x0 0 (K2 (cF r n) 2 3)) 2 (K1 (dA r n) 3)) 1 (K0 (dW r n))) k) (cUl r n)
theorem cRi : D165 r n bAi x0 (K2 (cF r n) 2 3) = (K3 (aUe r n) 2 3 4) :=
 (by kernel_rfl : D165 r n bAi x0 (K2 (cF r n) 2 3) = D165 r n aPj (xs x0 0 (K2 (cF r n) 2 3)) (K2 (cF r n) 2 3)).trans
 ((cGd r n).trans
 ((by kernel_rfl : D165 r n aFv (xs x0 0 (K2 (cF r n) 2 3)) (K1 (dA r n) 3) = D165 r n aHu (xs (xs x0 0 (K2 (cF r n) 2 3)) 2 (K1 (dA r n) 3)) (K1 (dA r n) 3)).trans
 ((cBh r n).trans
 ((by kernel_rfl : D165 r n vJ (xs (xs x0 0 (K2 (cF r n) 2 3)) 2 (K1 (dA r n) 3)) (K0 (dW r n)) = D165 r n xT (xs (xs (xs x0 0 (K2 (cF r n) 2 3)) 2 (K1 (dA r n) 3)) 1 (K0 (dW r n))) (K0 (dW r n))).trans
 ((bZk r n).trans
 ((bQu r n).trans
 ((cEs r n).trans
 ((by kernel_rfl)))))))))
theorem cCj : D165 r n aHd x0 r165 = D165 r n aAm x0 (K2 (cF r n) 2 3) :=
 congrArg (fun k => D165 r n aAm x0 k) (cPo r n)
theorem cKp : D165 r n aAm x0 (K2 (cF r n) 2 3) = D165 r n bIw x0 (K3 (aUe r n) 2 3 4) :=
 congrArg (fun k => D165 r n bIw x0 k) (cRi r n)
theorem cTh : D165 r n aHd x0 r165 = (K3 (bAu r n) 0 2 3) :=
 (cCj r n).trans
 ((cKp r n).trans
 ((by kernel_rfl)))
theorem dVk : D165 r n c165 x0 r165 = D165 r n bIx x0 (K3 (bAu r n) 0 2 3) :=
 congrArg (fun k => D165 r n bIx x0 k) (cTh r n)
theorem eBv : D165 r n c165 x0 r165 = (K1 (s165 r n) 0) :=
 (dVk r n).trans
 ((by kernel_rfl))
theorem dJt : aE CF r n 165 args h = s165 r n (aO args 0) h :=
 (by kernel_rfl : aE CF r n 165 args h = D165 r n c165 x0 r165 (aI args) h).trans ((congrFun (congrFun (eBv r n) (aI args)) h).trans (by kernel_rfl))
noncomputable def s166 (r : RT) (n : Nat) (x0 x1 : DV) (h0 : Hp) : aK :=
 bnd (aF .eql x0 (aD 0) h0) fun v1 h1 =>
 bnd (gD v1 false (some (x1, h1)) h1) fun v2 h2 =>
 bnd (gD v1 false (some (v2, h2)) h2) fun v3 h3 =>
 bnd (gD v3 true (some (x0, h3)) h3) fun v4 h4 =>
 bnd (gD v3 true (aF .gtr v4 (aD 0) h4) h4) fun v5 h5 =>
 bnd (gD v1 false (aP v3 v5 (.b false) h5) h5) fun v6 h6 =>
 bnd (gD v1 false (some (v6, h6)) h6) fun v7 h7 =>
 bnd (gD v7 true (some (x0, h7)) h7) fun v8 h8 =>
 bnd (gD v7 true (aF .leq v8 (aD 255) h8) h8) fun v9 h9 =>
 bnd (gD v1 false (aP v7 v9 (.b false) h9) h9) fun v10 h10 =>
 bnd (aP v1 (.b true) v10 h10) fun v11 h11 =>
 some (v11, h11)
noncomputable abbrev c166 : Code := cf Tryz.f166
noncomputable abbrev r166 : K := aR CF Tryz.f166
noncomputable def D166 (r : RT) (n : Nat) (c : Code) (X : Nat → K) (k : K) : K := aM CF r 18 n c X r166 k
theorem eDl : D166 r n c166 x0 r166 = (K2 (s166 r n) 0 1) :=
 (by kernel_rfl)
theorem dVm : aE CF r n 166 args h = s166 r n (aO args 0) (aO args 1) h :=
 (by kernel_rfl : aE CF r n 166 args h = D166 r n c166 x0 r166 (aI args) h).trans ((congrFun (congrFun (eDl r n) (aI args)) h).trans (by kernel_rfl))
noncomputable def dL (r : RT) (n : Nat) (x4 : DV) (h0 : Hp) : aK :=
 some (x4, h0)
noncomputable def aNo (r : RT) (n : Nat) (kk5 : dJ) (x0 x1 x4 x5 : DV) (h0 : Hp) : aK :=
 bnd (aF .add x5 (aD 1) h0) fun v1 h1 =>
  kk5 x0 x1 x4 v1 h1
noncomputable def aUw (r : RT) (n : Nat) (kk5 : dJ) (x0 x1 x4 x5 : DV) (h0 : Hp) : aK :=
 bnd (aA x1 h0) fun v1 h1 =>
 bnd (r 168 [v1, x5] h1) fun v2 h2 =>
 bnd (aH 0 v2 h2) fun v3 h3 =>
 bnd (aH 1 v2 h3) fun v4 h4 =>
 bnd (gD v4 true (some (x0, h4)) h4) fun v5 h5 =>
 bnd (gD v4 true (some (v3, h5)) h5) fun v6 h6 =>
 bnd (gD v4 true (aF .lss v5 v6 h6) h6) fun v7 h7 =>
 bnd (aP v4 v7 (.b false) h7) fun v8 h8 =>
 aU v8 (
  aNo r n kk5 x0 x1 x5 x5 h8) (
  aNo r n kk5 x0 x1 x4 x5 h8)
noncomputable def bFh (r : RT) (n : Nat) (kk5 : dJ) (x0 x1 x4 x5 : DV) (h0 : Hp) : aK :=
 bnd (aF .add x5 (aD 2) h0) fun v1 h1 =>
 bnd (aF .leq v1 x0 h1) fun v2 h2 =>
 aU v2 (
   aUw r n kk5 x0 x1 x4 x5 h2) (
   dL r n x4 h2)
noncomputable def wK (r : RT) (n : Nat) (m : Nat) : dJ :=
 Nat.rec (motive := fun _ => dJ) (fun _ _ _ _ _ => none) (fun _ ih => bFh r n ih) m
noncomputable def cHo (r : RT) (n : Nat) : dJ := wK r n n
noncomputable def aVo (r : RT) (n : Nat) (x0 x1 x4 x5 : DV) (h0 : Hp) : aK :=
 cHo r n x0 x1 x4 x5 h0
noncomputable def aVq (r : RT) (n : Nat) (x0 x1 x4 : DV) (h0 : Hp) : aK :=
 aVo r n x0 x1 x4 (aD 0) h0
noncomputable def aTg (r : RT) (n : Nat) (x0 x1 : DV) (h0 : Hp) : aK :=
 aVq r n x0 x1 (.i .i64 (Int.negSucc 0)) h0
noncomputable def s167 (r : RT) (n : Nat) (x0 x1 : DV) (h0 : Hp) : aK :=
 aTg r n x0 x1 h0
noncomputable abbrev c167 : Code := cf Tryz.f167
noncomputable abbrev aMb : Code := cR c167
noncomputable abbrev aFe : Code := cR aMb
noncomputable abbrev dWr : Code := cR aFe
noncomputable abbrev aBt : Code := cL aFe
noncomputable abbrev aUm : Code := cR aBt
noncomputable abbrev aJw : Code := cL aUm
noncomputable abbrev kQ : Code := cL aJw
noncomputable abbrev aJd : Code := cR kQ
noncomputable abbrev dPa : Code := cR aJd
noncomputable abbrev bJj : Code := cL aJd
noncomputable abbrev bHq : Code := cL kQ
noncomputable abbrev bCy : Code := cL aBt
noncomputable abbrev bDv : Code := cL aMb
noncomputable abbrev bHb : Code := cL c167
noncomputable abbrev r167 : K := aR CF Tryz.f167
noncomputable def D167 (r : RT) (n : Nat) (c : Code) (X : Nat → K) (k : K) : K := aM CF r 28 n c X r167 k
theorem cXp : D167 r n dWr x0 r167 = (K1 (dL r n) 4) :=
 (by kernel_rfl)
theorem dHj (kk5 : dJ) : D167 r n dPa (xs x0 0 (K1 (dL r n) 4)) (K4 kk5 0 1 4 5) = (K4 (aNo r n kk5) 0 1 4 5) :=
 (by kernel_rfl)
theorem cKo (kk5 : dJ) : D167 r n aJd (xs x0 0 (K1 (dL r n) 4)) (K4 kk5 0 1 4 5) = D167 r n bJj (xs x0 0 (K1 (dL r n) 4)) (K4 (aNo r n kk5) 0 1 4 5) :=
 congrArg (fun k => D167 r n bJj (xs x0 0 (K1 (dL r n) 4)) k) (dHj r n kk5)
theorem cRu (kk5 : dJ) : D167 r n aJd (xs x0 0 (K1 (dL r n) 4)) (K4 kk5 0 1 4 5) = (K4 (aUw r n kk5) 0 1 4 5) :=
 (cKo r n kk5).trans
 ((by kernel_rfl))
theorem cMi (kk5 : dJ) : D167 r n kQ (xs x0 0 (K1 (dL r n) 4)) (K4 kk5 0 1 4 5) = D167 r n bHq (xs x0 0 (K1 (dL r n) 4)) (K4 (aUw r n kk5) 0 1 4 5) :=
 congrArg (fun k => D167 r n bHq (xs x0 0 (K1 (dL r n) 4)) k) (cRu r n kk5)
theorem bXt (kk5 : dJ) : D167 r n kQ (xs x0 0 (K1 (dL r n) 4)) (K4 kk5 0 1 4 5) = (K4 (bFh r n kk5) 0 1 4 5) :=
 (cMi r n kk5).trans
 ((by kernel_rfl))
theorem cJw (m : Nat) : aL (fun kk => D167 r n kQ (xs x0 0 (K1 (dL r n) 4)) kk) m = (K4 (wK r n m) 0 1 4 5) := by
 induction m with
 | zero => exact (by kernel_rfl : aL (fun kk => D167 r n kQ (xs x0 0 (K1 (dL r n) 4)) kk) 0 = (K4 (wK r n 0) 0 1 4 5))
 | succ m ih =>
  refine (by kernel_rfl : aL (fun kk => D167 r n kQ (xs x0 0 (K1 (dL r n) 4)) kk) (m + 1) = D167 r n kQ (xs x0 0 (K1 (dL r n) 4)) (aL (fun kk => D167 r n kQ (xs x0 0 (K1 (dL r n) 4)) kk) m)).trans ?_
  rw [ih]
  exact (bXt r n (wK r n m)).trans (by kernel_rfl)
theorem cOp : D167 r n aJw (xs x0 0 (K1 (dL r n) 4)) (K1 (dL r n) 4) = (K4 (cHo r n) 0 1 4 5) :=
 (by kernel_rfl : D167 r n aJw (xs x0 0 (K1 (dL r n) 4)) (K1 (dL r n) 4) = aL (fun kk => D167 r n kQ (xs x0 0 (K1 (dL r n) 4)) kk) n).trans ((cJw r n n).trans (by kernel_rfl))
theorem cTz : D167 r n aUm x0 (K1 (dL r n) 4) = (K4 (aVo r n) 0 1 4 5) :=
 (by kernel_rfl : D167 r n aUm x0 (K1 (dL r n) 4) = D167 r n aJw (xs x0 0 (K1 (dL r n) 4)) (K1 (dL r n) 4)).trans
 ((cOp r n).trans (by kernel_rfl))
theorem cGh : D167 r n aFe x0 r167 = D167 r n aBt x0 (K1 (dL r n) 4) :=
 congrArg (fun k => D167 r n aBt x0 k) (cXp r n)
theorem bTj : D167 r n aBt x0 (K1 (dL r n) 4) = D167 r n bCy x0 (K4 (aVo r n) 0 1 4 5) :=
 congrArg (fun k => D167 r n bCy x0 k) (cTz r n)
theorem cXx : D167 r n aFe x0 r167 = (K3 (aVq r n) 0 1 4) :=
 (cGh r n).trans
 ((bTj r n).trans
 ((by kernel_rfl)))
theorem bUy : D167 r n aMb x0 r167 = D167 r n bDv x0 (K3 (aVq r n) 0 1 4) :=
 congrArg (fun k => D167 r n bDv x0 k) (cXx r n)
theorem dBc : D167 r n aMb x0 r167 = (K2 (aTg r n) 0 1) :=
 (bUy r n).trans
 ((by kernel_rfl))
theorem dOk : D167 r n c167 x0 r167 = D167 r n bHb x0 (K2 (aTg r n) 0 1) :=
 congrArg (fun k => D167 r n bHb x0 k) (dBc r n)
theorem eCk : D167 r n c167 x0 r167 = (K2 (s167 r n) 0 1) :=
 (dOk r n).trans
 ((by kernel_rfl))
theorem dWv : aE CF r n 167 args h = s167 r n (aO args 0) (aO args 1) h :=
 (by kernel_rfl : aE CF r n 167 args h = D167 r n c167 x0 r167 (aI args) h).trans ((congrFun (congrFun (eCk r n) (aI args)) h).trans (by kernel_rfl))
noncomputable def s168 (r : RT) (n : Nat) (x0 x1 : DV) (h0 : Hp) : aK :=
 bnd (aJ 3 x0 x1 h0) fun v1 h1 =>
 bnd (aB 0 v1 h1) fun v2 h2 =>
 bnd (aA v2 h2) fun v3 h3 =>
 bnd (aF .neq v3 (aD 18) h3) fun v4 h4 =>
 bnd (gD v4 false (some (x1, h4)) h4) fun v5 h5 =>
 bnd (gD v4 false (aF .add v5 (aD 1) h5) h5) fun v6 h6 =>
 bnd (gD v4 false (some (x0, h6)) h6) fun v7 h7 =>
 bnd (gD v4 false (bO v7 h7) h7) fun v8 h8 =>
 bnd (gD v4 false (aF .geq v6 v8 h8) h8) fun v9 h9 =>
 bnd (aP v4 (.b true) v9 h9) fun v10 h10 =>
 bnd (gD v10 false (some (x0, h10)) h10) fun v11 h11 =>
 bnd (gD v10 false (some (x1, h11)) h11) fun v12 h12 =>
 bnd (gD v10 false (aF .add v12 (aD 1) h12) h12) fun v13 h13 =>
 bnd (gD v10 false (aJ 3 v11 v13 h13) h13) fun v14 h14 =>
 bnd (gD v10 false (aB 0 v14 h14) h14) fun v15 h15 =>
 bnd (gD v10 false (aA v15 h15) h15) fun v16 h16 =>
 bnd (gD v10 false (aF .neq v16 (aD 16) h16) h16) fun v17 h17 =>
 bnd (aP v10 (.b true) v17 h17) fun v18 h18 =>
 aU v18 (
 some (.t [(aD 0), (.b false)], h18)) (
 bnd (aF .add x1 (aD 1) h18) fun v19 h19 =>
 bnd (aJ 3 x0 v19 h19) fun v20 h20 =>
 bnd (aG 3 v20 h20) fun v21 h21 =>
 bnd (r 169 [v21] h21) fun v22 h22 =>
 bnd (aF .add x1 (aD 2) h22) fun v23 h23 =>
 bnd (aF .gtr v22 v23 h23) fun v24 h24 =>
 some (.t [v22, v24], h24))
noncomputable abbrev c168 : Code := cf Tryz.f168
noncomputable abbrev r168 : K := aR CF Tryz.f168
noncomputable def D168 (r : RT) (n : Nat) (c : Code) (X : Nat → K) (k : K) : K := aM CF r 40 n c X r168 k
theorem eAx : D168 r n c168 x0 r168 = (K2 (s168 r n) 0 1) :=
 (by kernel_rfl)
theorem dMm : aE CF r n 168 args h = s168 r n (aO args 0) (aO args 1) h :=
 (by kernel_rfl : aE CF r n 168 args h = D168 r n c168 x0 r168 (aI args) h).trans ((congrFun (congrFun (eAx r n) (aI args)) h).trans (by kernel_rfl))
noncomputable def s169 (r : RT) (n : Nat) (x0 : DV) (h0 : Hp) : aK :=
 bnd (bJ x0 h0) fun v1 h1 =>
 bnd (aB 0 v1 h1) fun v2 h2 =>
 bnd (aA v2 h2) fun v3 h3 =>
 bnd (r 188 [v3] h3) fun v4 h4 =>
 bnd (fR .not v4 h4) fun v5 h5 =>
 aU v5 (
 some ((.i .i64 (Int.negSucc 0)), h5)) (
 bnd (aB 1 v1 h5) fun v6 h6 =>
 bnd (aA v6 h6) fun v7 h7 =>
 bnd (aB 2 v1 h7) fun v8 h8 =>
 bnd (aA v8 h8) fun v9 h9 =>
 bnd (dG .shl v9 (.i .u64 (Int.ofNat 8)) h9) fun v10 h10 =>
 bnd (aF .add v7 v10 h10) fun v11 h11 =>
 some (v11, h11))
noncomputable abbrev c169 : Code := cf Tryz.f169
noncomputable abbrev r169 : K := aR CF Tryz.f169
noncomputable def D169 (r : RT) (n : Nat) (c : Code) (X : Nat → K) (k : K) : K := aM CF r 13 n c X r169 k
theorem dXz : D169 r n c169 x0 r169 = (K1 (s169 r n) 0) :=
 (by kernel_rfl)
theorem dKk : aE CF r n 169 args h = s169 r n (aO args 0) h :=
 (by kernel_rfl : aE CF r n 169 args h = D169 r n c169 x0 r169 (aI args) h).trans ((congrFun (congrFun (dXz r n) (aI args)) h).trans (by kernel_rfl))
noncomputable def s170 (r : RT) (n : Nat) (x0 x1 x2 x3 x4 x5 x6 x7 : DV) (h0 : Hp) : aK :=
 bnd (aA x3 h0) fun v1 h1 =>
 bnd (bO v1 h1) fun v2 h2 =>
 bnd (aF .geq x0 v2 h2) fun v3 h3 =>
 bnd (gD v3 false (aA x4 h3) h3) fun v4 h4 =>
 bnd (gD v3 false (some (x0, h4)) h4) fun v5 h5 =>
 bnd (gD v3 false (aJ 1 v4 v5 h5) h5) fun v6 h6 =>
 bnd (gD v3 false (aA v6 h6) h6) fun v7 h7 =>
 bnd (gD v3 false (some (x1, h7)) h7) fun v8 h8 =>
 bnd (gD v3 false (aF .neq v7 v8 h8) h8) fun v9 h9 =>
 bnd (aP v3 (.b true) v9 h9) fun v10 h10 =>
 bnd (gD v10 false (aA x5 h10) h10) fun v11 h11 =>
 bnd (gD v10 false (some (x0, h11)) h11) fun v12 h12 =>
 bnd (gD v10 false (aJ 1 v11 v12 h12) h12) fun v13 h13 =>
 bnd (gD v10 false (aA v13 h13) h13) fun v14 h14 =>
 bnd (gD v10 false (aF .geq v14 (aD 0) h14) h14) fun v15 h15 =>
 bnd (gD v10 false (some (v15, h15)) h15) fun v16 h16 =>
 bnd (gD v16 true (aA x5 h16) h16) fun v17 h17 =>
 bnd (gD v16 true (some (x0, h17)) h17) fun v18 h18 =>
 bnd (gD v16 true (aJ 1 v17 v18 h18) h18) fun v19 h19 =>
 bnd (gD v16 true (aA v19 h19) h19) fun v20 h20 =>
 bnd (gD v16 true (some (x2, h20)) h20) fun v21 h21 =>
 bnd (gD v16 true (aF .neq v20 v21 h21) h21) fun v22 h22 =>
 bnd (gD v10 false (aP v16 v22 (.b false) h22) h22) fun v23 h23 =>
 bnd (aP v10 (.b true) v23 h23) fun v24 h24 =>
 aU v24 (
 bnd (aC 1 x6 (.b false) h24) fun _ h25 =>
 some (.t [], h25)) (
 bnd (aA x5 h24) fun v26 h26 =>
 bnd (aJ 1 v26 x0 h26) fun v27 h27 =>
 bnd (aA v27 h27) fun v28 h28 =>
 bnd (aF .lss v28 (aD 0) h28) fun v29 h29 =>
 aU v29 (
 bnd (aA x5 h29) fun v30 h30 =>
 bnd (aJ 1 v30 x0 h30) fun v31 h31 =>
 bnd (aC 1 v31 x2 h31) fun _ h32 =>
 bnd (aA x7 h32) fun v33 h33 =>
 bnd (aN [(aD 0)] 1 [(0, 1, x0)] h33) fun v34 h34 =>
 bnd (aY 1 8 v33 v34 h34) fun v35 h35 =>
 bnd (aC 1 x7 v35 h35) fun _ h36 =>
 some (.t [], h36)) (
 some (.t [], h29)))
noncomputable abbrev c170 : Code := cf Tryz.f170
noncomputable abbrev r170 : K := aR CF Tryz.f170
noncomputable def D170 (r : RT) (n : Nat) (c : Code) (X : Nat → K) (k : K) : K := aM CF r 53 n c X r170 k
theorem dZs : D170 r n c170 x0 r170 = (K8 (s170 r n) 0 1 2 3 4 5 6 7) :=
 (by kernel_rfl)
theorem dQy : aE CF r n 170 args h = s170 r n (aO args 0) (aO args 1) (aO args 2) (aO args 3) (aO args 4) (aO args 5) (aO args 6) (aO args 7) h :=
 (by kernel_rfl : aE CF r n 170 args h = D170 r n c170 x0 r170 (aI args) h).trans ((congrFun (congrFun (dZs r n) (aI args)) h).trans (by kernel_rfl))
noncomputable def bX (r : RT) (n : Nat) (h0 : Hp) : aK :=
 some ((aD 0), h0)
noncomputable def aOo (r : RT) (n : Nat) (x1 x22 : DV) (h0 : Hp) : aK :=
 aU x22 (
 bnd (aB 2 x1 h0) fun v1 h1 =>
 bnd (aA v1 h1) fun v2 h2 =>
 bnd (fR .neg v2 h2) fun v3 h3 =>
 some (v3, h3)) (
  bX r n h0)
noncomputable def bYp (r : RT) (n : Nat) (x1 x4 : DV) (h0 : Hp) : aK :=
 bnd (aF .eql x4 (aD 14) h0) fun v1 h1 =>
 aU v1 (
  aOo r n x1 v1 h1) (
 bnd (aF .eql x4 (aD 15) h1) fun v2 h2 =>
  aOo r n x1 v2 h2)
noncomputable def sZ (r : RT) (n : Nat) (x1 x4 x17 : DV) (h0 : Hp) : aK :=
 aU x17 (
 some ((.i .i64 (Int.negSucc 0)), h0)) (
  bYp r n x1 x4 h0)
noncomputable def cIo (r : RT) (n : Nat) (x1 x4 : DV) (h0 : Hp) : aK :=
 bnd (aF .eql x4 (aD 12) h0) fun v1 h1 =>
 aU v1 (
  sZ r n x1 x4 v1 h1) (
 bnd (aF .eql x4 (aD 17) h1) fun v2 h2 =>
 aU v2 (
   sZ r n x1 x4 v2 h2) (
 bnd (aF .eql x4 (aD 19) h2) fun v3 h3 =>
 aU v3 (
    sZ r n x1 x4 v3 h3) (
 bnd (aF .eql x4 (aD 20) h3) fun v4 h4 =>
    sZ r n x1 x4 v4 h4)))
noncomputable def iU (r : RT) (n : Nat) (x1 x4 x5 : DV) (h0 : Hp) : aK :=
 aU x5 (
 some ((aD 1), h0)) (
  cIo r n x1 x4 h0)
noncomputable def aTa (r : RT) (n : Nat) (x1 x4 : DV) (h0 : Hp) : aK :=
 bnd (aF .eql x4 (aD 1) h0) fun v1 h1 =>
 aU v1 (
  iU r n x1 x4 v1 h1) (
 bnd (aF .eql x4 (aD 2) h1) fun v2 h2 =>
 aU v2 (
   iU r n x1 x4 v2 h2) (
 bnd (aF .eql x4 (aD 3) h2) fun v3 h3 =>
 aU v3 (
    iU r n x1 x4 v3 h3) (
 bnd (aF .eql x4 (aD 4) h3) fun v4 h4 =>
 aU v4 (
     iU r n x1 x4 v4 h4) (
 bnd (aF .eql x4 (aD 5) h4) fun v5 h5 =>
 aU v5 (
      iU r n x1 x4 v5 h5) (
 bnd (aF .eql x4 (aD 6) h5) fun v6 h6 =>
 aU v6 (
       iU r n x1 x4 v6 h6) (
 bnd (aF .eql x4 (aD 7) h6) fun v7 h7 =>
 aU v7 (
        iU r n x1 x4 v7 h7) (
 bnd (aF .eql x4 (aD 8) h7) fun v8 h8 =>
 aU v8 (
         iU r n x1 x4 v8 h8) (
 bnd (aF .eql x4 (aD 9) h8) fun v9 h9 =>
 aU v9 (
          iU r n x1 x4 v9 h9) (
 bnd (aF .eql x4 (aD 13) h9) fun v10 h10 =>
 aU v10 (
           iU r n x1 x4 v10 h10) (
 bnd (aF .eql x4 (aD 18) h10) fun v11 h11 =>
           iU r n x1 x4 v11 h11))))))))))
noncomputable def zQ (r : RT) (n : Nat) (x1 : DV) (h0 : Hp) : aK :=
 bnd (aB 0 x1 h0) fun v1 h1 =>
 bnd (aA v1 h1) fun v2 h2 =>
  aTa r n x1 v2 h2
noncomputable def s171 (r : RT) (n : Nat) (x0 : DV) (h0 : Hp) : aK :=
 bnd (bJ x0 h0) fun v1 h1 =>
  zQ r n v1 h1
noncomputable abbrev c171 : Code := cf Tryz.f171
noncomputable abbrev aNl : Code := cR c171
noncomputable abbrev dTt : Code := cR aNl
noncomputable abbrev aBa : Code := cL aNl
noncomputable abbrev aXx : Code := cR aBa
noncomputable abbrev aGz : Code := cL aXx
noncomputable abbrev yM : Code := cR aGz
noncomputable abbrev yB : Code := cR yM
noncomputable abbrev zT : Code := cR yB
noncomputable abbrev aAu : Code := cR zT
noncomputable abbrev cQy : Code := cR aAu
noncomputable abbrev bHr : Code := cL aAu
noncomputable abbrev dCn : Code := cL zT
noncomputable abbrev bGo : Code := cL yB
noncomputable abbrev cRb : Code := cL yM
noncomputable abbrev bJu : Code := cL aGz
noncomputable abbrev bCq : Code := cL aBa
noncomputable abbrev aMv : Code := cL c171
noncomputable abbrev r171 : K := aR CF Tryz.f171
noncomputable def D171 (r : RT) (n : Nat) (c : Code) (X : Nat → K) (k : K) : K := aM CF r 28 n c X r171 k
theorem cPv : D171 r n dTt x0 r171 = (K0 (bX r n)) :=
 (by kernel_rfl)
theorem dAs : D171 r n cQy (xs x0 0 (K0 (bX r n))) (K0 (bX r n)) = (K2 (aOo r n) 1 22) :=
 (by kernel_rfl)
theorem cGs : D171 r n aAu (xs x0 0 (K0 (bX r n))) (K0 (bX r n)) = D171 r n bHr (xs x0 0 (K0 (bX r n))) (K2 (aOo r n) 1 22) :=
 congrArg (fun k => D171 r n bHr (xs x0 0 (K0 (bX r n))) k) (dAs r n)
theorem cTu : D171 r n aAu (xs x0 0 (K0 (bX r n))) (K0 (bX r n)) = (K2 (bYp r n) 1 4) :=
 (cGs r n).trans
 ((by kernel_rfl))
theorem cWb : D171 r n zT (xs x0 0 (K0 (bX r n))) (K0 (bX r n)) = (K3 (sZ r n) 1 4 17) :=
 (by kernel_rfl : D171 r n zT (xs x0 0 (K0 (bX r n))) (K0 (bX r n)) = (fun (env : bB) (h : Hp) => aU (opr env (cC zT)) (D171 r n dCn (xs x0 0 (K0 (bX r n))) (K0 (bX r n)) env h) (D171 r n aAu (xs x0 0 (K0 (bX r n))) (K0 (bX r n)) env h))).trans (by rw [cTu r n]; kernel_rfl)
theorem cFo : D171 r n yB (xs x0 0 (K0 (bX r n))) (K0 (bX r n)) = D171 r n bGo (xs x0 0 (K0 (bX r n))) (K3 (sZ r n) 1 4 17) :=
 congrArg (fun k => D171 r n bGo (xs x0 0 (K0 (bX r n))) k) (cWb r n)
theorem cVz : D171 r n yB (xs x0 0 (K0 (bX r n))) (K0 (bX r n)) = (K2 (cIo r n) 1 4) :=
 (cFo r n).trans
 ((by kernel_rfl))
theorem dEx : D171 r n yM (xs x0 0 (K0 (bX r n))) (K0 (bX r n)) = (K3 (iU r n) 1 4 5) :=
 (by kernel_rfl : D171 r n yM (xs x0 0 (K0 (bX r n))) (K0 (bX r n)) = (fun (env : bB) (h : Hp) => aU (opr env (cC yM)) (D171 r n cRb (xs x0 0 (K0 (bX r n))) (K0 (bX r n)) env h) (D171 r n yB (xs x0 0 (K0 (bX r n))) (K0 (bX r n)) env h))).trans (by rw [cVz r n]; kernel_rfl)
theorem cAx : D171 r n aGz (xs x0 0 (K0 (bX r n))) (K0 (bX r n)) = D171 r n bJu (xs x0 0 (K0 (bX r n))) (K3 (iU r n) 1 4 5) :=
 congrArg (fun k => D171 r n bJu (xs x0 0 (K0 (bX r n))) k) (dEx r n)
theorem cVx : D171 r n aXx x0 (K0 (bX r n)) = (K2 (aTa r n) 1 4) :=
 (by kernel_rfl : D171 r n aXx x0 (K0 (bX r n)) = D171 r n aGz (xs x0 0 (K0 (bX r n))) (K0 (bX r n))).trans
 ((cAx r n).trans
 ((by kernel_rfl)))
theorem cNj : D171 r n aNl x0 r171 = D171 r n aBa x0 (K0 (bX r n)) :=
 congrArg (fun k => D171 r n aBa x0 k) (cPv r n)
theorem cBq : D171 r n aBa x0 (K0 (bX r n)) = D171 r n bCq x0 (K2 (aTa r n) 1 4) :=
 congrArg (fun k => D171 r n bCq x0 k) (cVx r n)
theorem cQn : D171 r n aNl x0 r171 = (K1 (zQ r n) 1) :=
 (cNj r n).trans
 ((cBq r n).trans
 ((by kernel_rfl)))
theorem dPl : D171 r n c171 x0 r171 = D171 r n aMv x0 (K1 (zQ r n) 1) :=
 congrArg (fun k => D171 r n aMv x0 k) (cQn r n)
theorem dSa (q0 : TT1) : D171 r n aMv x0 (K1 q0 1) = fun (env : bB) (h : Hp) =>
 bnd (bJ (env 0) h) fun v1 h1 =>
  q0 v1 h1 := by kernel_rfl
theorem cZl : (fun (env : bB) (h : Hp) =>
 bnd (bJ (env 0) h) fun v1 h1 =>
  zQ r n v1 h1) = (K1 (s171 r n) 0) := by kernel_rfl
theorem eEf : D171 r n c171 x0 r171 = (K1 (s171 r n) 0) :=
 (dPl r n).trans
 ((dSa r n (zQ r n)).trans (cZl r n))
theorem dLa : aE CF r n 171 args h = s171 r n (aO args 0) h :=
 (by kernel_rfl : aE CF r n 171 args h = D171 r n c171 x0 r171 (aI args) h).trans ((congrFun (congrFun (eEf r n) (aI args)) h).trans (by kernel_rfl))
noncomputable def dI (r : RT) (n : Nat) (h0 : Hp) : aK :=
 some ((aD 0), h0)
noncomputable def aPu (r : RT) (n : Nat) (x1 x13 : DV) (h0 : Hp) : aK :=
 aU x13 (
 bnd (aB 2 x1 h0) fun v1 h1 =>
 bnd (aA v1 h1) fun v2 h2 =>
 bnd (aF .add v2 (aD 1) h2) fun v3 h3 =>
 some (v3, h3)) (
  dI r n h0)
noncomputable def bTq (r : RT) (n : Nat) (x1 x4 : DV) (h0 : Hp) : aK :=
 bnd (aF .eql x4 (aD 14) h0) fun v1 h1 =>
 aU v1 (
  aPu r n x1 v1 h1) (
 bnd (aF .eql x4 (aD 15) h1) fun v2 h2 =>
  aPu r n x1 v2 h2)
noncomputable def lR (r : RT) (n : Nat) (x1 x4 x5 : DV) (h0 : Hp) : aK :=
 aU x5 (
 some ((aD 1), h0)) (
  bTq r n x1 x4 h0)
noncomputable def aZw (r : RT) (n : Nat) (x1 x4 : DV) (h0 : Hp) : aK :=
 bnd (aF .eql x4 (aD 12) h0) fun v1 h1 =>
 aU v1 (
  lR r n x1 x4 v1 h1) (
 bnd (aF .eql x4 (aD 13) h1) fun v2 h2 =>
 aU v2 (
   lR r n x1 x4 v2 h2) (
 bnd (aF .eql x4 (aD 10) h2) fun v3 h3 =>
 aU v3 (
    lR r n x1 x4 v3 h3) (
 bnd (aF .eql x4 (aD 11) h3) fun v4 h4 =>
 aU v4 (
     lR r n x1 x4 v4 h4) (
 bnd (aF .eql x4 (aD 17) h4) fun v5 h5 =>
 aU v5 (
      lR r n x1 x4 v5 h5) (
 bnd (aF .eql x4 (aD 20) h5) fun v6 h6 =>
 aU v6 (
       lR r n x1 x4 v6 h6) (
 bnd (aF .eql x4 (aD 19) h6) fun v7 h7 =>
       lR r n x1 x4 v7 h7))))))
noncomputable def aBz (r : RT) (n : Nat) (x1 : DV) (h0 : Hp) : aK :=
 bnd (aB 0 x1 h0) fun v1 h1 =>
 bnd (aA v1 h1) fun v2 h2 =>
  aZw r n x1 v2 h2
noncomputable def s172 (r : RT) (n : Nat) (x0 : DV) (h0 : Hp) : aK :=
 bnd (bJ x0 h0) fun v1 h1 =>
  aBz r n v1 h1
noncomputable abbrev c172 : Code := cf Tryz.f172
noncomputable abbrev aDp : Code := cR c172
noncomputable abbrev dNq : Code := cR aDp
noncomputable abbrev yZ : Code := cL aDp
noncomputable abbrev aYz : Code := cR yZ
noncomputable abbrev aEl : Code := cL aYz
noncomputable abbrev zB : Code := cR aEl
noncomputable abbrev aBo : Code := cR zB
noncomputable abbrev dPe : Code := cR aBo
noncomputable abbrev cHi : Code := cL aBo
noncomputable abbrev cPr : Code := cL zB
noncomputable abbrev bJt : Code := cL aEl
noncomputable abbrev bCf : Code := cL yZ
noncomputable abbrev aMf : Code := cL c172
noncomputable abbrev r172 : K := aR CF Tryz.f172
noncomputable def D172 (r : RT) (n : Nat) (c : Code) (X : Nat → K) (k : K) : K := aM CF r 19 n c X r172 k
theorem dAp : D172 r n dNq x0 r172 = (K0 (dI r n)) :=
 (by kernel_rfl)
theorem cSj : D172 r n dPe (xs x0 0 (K0 (dI r n))) (K0 (dI r n)) = (K2 (aPu r n) 1 13) :=
 (by kernel_rfl)
theorem cKx : D172 r n aBo (xs x0 0 (K0 (dI r n))) (K0 (dI r n)) = D172 r n cHi (xs x0 0 (K0 (dI r n))) (K2 (aPu r n) 1 13) :=
 congrArg (fun k => D172 r n cHi (xs x0 0 (K0 (dI r n))) k) (cSj r n)
theorem dDa : D172 r n aBo (xs x0 0 (K0 (dI r n))) (K0 (dI r n)) = (K2 (bTq r n) 1 4) :=
 (cKx r n).trans
 ((by kernel_rfl))
theorem cWp : D172 r n zB (xs x0 0 (K0 (dI r n))) (K0 (dI r n)) = (K3 (lR r n) 1 4 5) :=
 (by kernel_rfl : D172 r n zB (xs x0 0 (K0 (dI r n))) (K0 (dI r n)) = (fun (env : bB) (h : Hp) => aU (opr env (cC zB)) (D172 r n cPr (xs x0 0 (K0 (dI r n))) (K0 (dI r n)) env h) (D172 r n aBo (xs x0 0 (K0 (dI r n))) (K0 (dI r n)) env h))).trans (by rw [dDa r n]; kernel_rfl)
theorem bWj : D172 r n aEl (xs x0 0 (K0 (dI r n))) (K0 (dI r n)) = D172 r n bJt (xs x0 0 (K0 (dI r n))) (K3 (lR r n) 1 4 5) :=
 congrArg (fun k => D172 r n bJt (xs x0 0 (K0 (dI r n))) k) (cWp r n)
theorem cXd : D172 r n aYz x0 (K0 (dI r n)) = (K2 (aZw r n) 1 4) :=
 (by kernel_rfl : D172 r n aYz x0 (K0 (dI r n)) = D172 r n aEl (xs x0 0 (K0 (dI r n))) (K0 (dI r n))).trans
 ((bWj r n).trans
 ((by kernel_rfl)))
theorem cIb : D172 r n aDp x0 r172 = D172 r n yZ x0 (K0 (dI r n)) :=
 congrArg (fun k => D172 r n yZ x0 k) (dAp r n)
theorem bSs : D172 r n yZ x0 (K0 (dI r n)) = D172 r n bCf x0 (K2 (aZw r n) 1 4) :=
 congrArg (fun k => D172 r n bCf x0 k) (cXd r n)
theorem cZr : D172 r n aDp x0 r172 = (K1 (aBz r n) 1) :=
 (cIb r n).trans
 ((bSs r n).trans
 ((by kernel_rfl)))
theorem dOs : D172 r n c172 x0 r172 = D172 r n aMf x0 (K1 (aBz r n) 1) :=
 congrArg (fun k => D172 r n aMf x0 k) (cZr r n)
theorem dSp (q0 : TT1) : D172 r n aMf x0 (K1 q0 1) = fun (env : bB) (h : Hp) =>
 bnd (bJ (env 0) h) fun v1 h1 =>
  q0 v1 h1 := by kernel_rfl
theorem cXw : (fun (env : bB) (h : Hp) =>
 bnd (bJ (env 0) h) fun v1 h1 =>
  aBz r n v1 h1) = (K1 (s172 r n) 0) := by kernel_rfl
theorem eDr : D172 r n c172 x0 r172 = (K1 (s172 r n) 0) :=
 (dOs r n).trans
 ((dSp r n (aBz r n)).trans (cXw r n))
theorem dLp : aE CF r n 172 args h = s172 r n (aO args 0) h :=
 (by kernel_rfl : aE CF r n 172 args h = D172 r n c172 x0 r172 (aI args) h).trans ((congrFun (congrFun (eDr r n) (aI args)) h).trans (by kernel_rfl))
noncomputable def gC (r : RT) (n : Nat) (x0 x7 : DV) (h0 : Hp) : aK :=
 bnd (aQ x0 h0) fun v1 h1 =>
 bnd (aB 0 v1 h1) fun v2 h2 =>
 bnd (aA v2 h2) fun v3 h3 =>
 bnd (aQ x0 h3) fun v4 h4 =>
 bnd (aB 1 v4 h4) fun v5 h5 =>
 bnd (aA v5 h5) fun v6 h6 =>
 bnd (jP v3 (some x7) (some v6) h6) fun v7 h7 =>
 some (v7, h7)
noncomputable def bKa (r : RT) (n : Nat) (kk4 : dJ) (x0 x1 x2 x7 : DV) (h0 : Hp) : aK :=
 bnd (aQ x0 h0) fun v1 h1 =>
 bnd (aB 1 v1 h1) fun v2 h2 =>
 bnd (aA v2 h2) fun v3 h3 =>
 bnd (aQ x0 h3) fun v4 h4 =>
 bnd (aB 0 v4 h4) fun v5 h5 =>
 bnd (aA v5 h5) fun v6 h6 =>
 bnd (eC v6 h6) fun v7 h7 =>
 bnd (aF .lss v3 v7 h7) fun v8 h8 =>
 bnd (gD v8 true (some (x0, h8)) h8) fun v9 h9 =>
 bnd (gD v8 true (aQ v9 h9) h9) fun v10 h10 =>
 bnd (gD v8 true (aB 1 v10 h10) h10) fun v11 h11 =>
 bnd (gD v8 true (aA v11 h11) h11) fun v12 h12 =>
 bnd (gD v8 true (some (x7, h12)) h12) fun v13 h13 =>
 bnd (gD v8 true (aF .sub v12 v13 h13) h13) fun v14 h14 =>
 bnd (gD v8 true (some (x2, h14)) h14) fun v15 h15 =>
 bnd (gD v8 true (aF .lss v14 v15 h15) h15) fun v16 h16 =>
 bnd (aP v8 v16 (.b false) h16) fun v17 h17 =>
 bnd (gD v17 true (some (x1, h17)) h17) fun v18 h18 =>
 bnd (gD v17 true (some (x0, h18)) h18) fun v19 h19 =>
 bnd (gD v17 true (aQ v19 h19) h19) fun v20 h20 =>
 bnd (gD v17 true (aB 0 v20 h20) h20) fun v21 h21 =>
 bnd (gD v17 true (aA v21 h21) h21) fun v22 h22 =>
 bnd (gD v17 true (some (x0, h22)) h22) fun v23 h23 =>
 bnd (gD v17 true (aQ v23 h23) h23) fun v24 h24 =>
 bnd (gD v17 true (aB 1 v24 h24) h24) fun v25 h25 =>
 bnd (gD v17 true (aA v25 h25) h25) fun v26 h26 =>
 bnd (gD v17 true (eT v22 v26 h26) h26) fun v27 h27 =>
 bnd (gD v17 true (dF CF r v18 [v27] h27) h27) fun v28 h28 =>
 bnd (aP v17 v28 (.b false) h28) fun v29 h29 =>
 aU v29 (
 bnd (aQ x0 h29) fun v30 h30 =>
 bnd (aB 1 v30 h30) fun v31 h31 =>
 bnd (aA v31 h31) fun v32 h32 =>
 bnd (aF .add v32 (aD 1) h32) fun v33 h33 =>
 bnd (aQ x0 h33) fun v34 h34 =>
 bnd (aB 1 v34 h34) fun v35 h35 =>
 bnd (aC 1 v35 v33 h35) fun _ h36 =>
      kk4 x0 x1 x2 x7 h36) (
      gC r n x0 x7 h29)
noncomputable def wF (r : RT) (n : Nat) (m : Nat) : dJ :=
 Nat.rec (motive := fun _ => dJ) (fun _ _ _ _ _ => none) (fun _ ih => bKa r n ih) m
noncomputable def cHt (r : RT) (n : Nat) : dJ := wF r n n
noncomputable def aXd (r : RT) (n : Nat) (x0 x1 x2 x7 : DV) (h0 : Hp) : aK :=
 cHt r n x0 x1 x2 x7 h0
noncomputable def aWo (r : RT) (n : Nat) (x0 x1 x2 : DV) (h0 : Hp) : aK :=
 bnd (aQ x0 h0) fun v1 h1 =>
 bnd (aB 1 v1 h1) fun v2 h2 =>
 bnd (aA v2 h2) fun v3 h3 =>
  aXd r n x0 x1 x2 v3 h3
noncomputable def s175 (r : RT) (n : Nat) (x0 x1 x2 : DV) (h0 : Hp) : aK :=
 aWo r n x0 x1 x2 h0
noncomputable abbrev c175 : Code := cf Tryz.f175
noncomputable abbrev aDc : Code := cR c175
noncomputable abbrev aJe : Code := cR aDc
noncomputable abbrev dMj : Code := cR aJe
noncomputable abbrev aFq : Code := cL aJe
noncomputable abbrev aFw : Code := cL aFq
noncomputable abbrev oU : Code := cL aFw
noncomputable abbrev cId : Code := cL aDc
noncomputable abbrev cGf : Code := cL c175
noncomputable abbrev r175 : K := aR CF Tryz.f175
noncomputable def D175 (r : RT) (n : Nat) (c : Code) (X : Nat → K) (k : K) : K := aM CF r 62 n c X r175 k
theorem cRs : D175 r n dMj x0 r175 = (K2 (gC r n) 0 7) :=
 (by kernel_rfl)
theorem cDc (kk4 : dJ) : D175 r n oU (xs x0 0 (K2 (gC r n) 0 7)) (K4 kk4 0 1 2 7) = (K4 (bKa r n kk4) 0 1 2 7) :=
 (by kernel_rfl)
theorem bWg (m : Nat) : aL (fun kk => D175 r n oU (xs x0 0 (K2 (gC r n) 0 7)) kk) m = (K4 (wF r n m) 0 1 2 7) := by
 induction m with
 | zero => exact (by kernel_rfl : aL (fun kk => D175 r n oU (xs x0 0 (K2 (gC r n) 0 7)) kk) 0 = (K4 (wF r n 0) 0 1 2 7))
 | succ m ih =>
  refine (by kernel_rfl : aL (fun kk => D175 r n oU (xs x0 0 (K2 (gC r n) 0 7)) kk) (m + 1) = D175 r n oU (xs x0 0 (K2 (gC r n) 0 7)) (aL (fun kk => D175 r n oU (xs x0 0 (K2 (gC r n) 0 7)) kk) m)).trans ?_
  rw [ih]
  exact (cDc r n (wF r n m)).trans (by kernel_rfl)
theorem dDf : D175 r n aFw (xs x0 0 (K2 (gC r n) 0 7)) (K2 (gC r n) 0 7) = (K4 (cHt r n) 0 1 2 7) :=
 (by kernel_rfl : D175 r n aFw (xs x0 0 (K2 (gC r n) 0 7)) (K2 (gC r n) 0 7) = aL (fun kk => D175 r n oU (xs x0 0 (K2 (gC r n) 0 7)) kk) n).trans ((bWg r n n).trans (by kernel_rfl))
theorem cGt : D175 r n aJe x0 r175 = D175 r n aFq x0 (K2 (gC r n) 0 7) :=
 congrArg (fun k => D175 r n aFq x0 k) (cRs r n)
theorem cYx : D175 r n aJe x0 r175 = (K4 (aXd r n) 0 1 2 7) :=
 (cGt r n).trans
 ((by kernel_rfl : D175 r n aFq x0 (K2 (gC r n) 0 7) = D175 r n aFw (xs x0 0 (K2 (gC r n) 0 7)) (K2 (gC r n) 0 7)).trans
 ((dDf r n).trans (by kernel_rfl)))
theorem bQl : D175 r n aDc x0 r175 = D175 r n cId x0 (K4 (aXd r n) 0 1 2 7) :=
 congrArg (fun k => D175 r n cId x0 k) (cYx r n)
theorem dGo : D175 r n aDc x0 r175 = (K3 (aWo r n) 0 1 2) :=
 (bQl r n).trans
 ((by kernel_rfl))
theorem dMn : D175 r n c175 x0 r175 = D175 r n cGf x0 (K3 (aWo r n) 0 1 2) :=
 congrArg (fun k => D175 r n cGf x0 k) (dGo r n)
theorem eEd : D175 r n c175 x0 r175 = (K3 (s175 r n) 0 1 2) :=
 (dMn r n).trans
 ((by kernel_rfl))
theorem dSr : aE CF r n 175 args h = s175 r n (aO args 0) (aO args 1) (aO args 2) h :=
 (by kernel_rfl : aE CF r n 175 args h = D175 r n c175 x0 r175 (aI args) h).trans ((congrFun (congrFun (eEd r n) (aI args)) h).trans (by kernel_rfl))
noncomputable def s176 (r : RT) (n : Nat) (x0 : DV) (h0 : Hp) : aK :=
 bnd (bJ x0 h0) fun v1 h1 =>
 some ((.f 200 [] [v1]), h1)
noncomputable abbrev c176 : Code := cf Tryz.f176
noncomputable abbrev r176 : K := aR CF Tryz.f176
noncomputable def D176 (r : RT) (n : Nat) (c : Code) (X : Nat → K) (k : K) : K := aM CF r 4 n c X r176 k
theorem dXl : D176 r n c176 x0 r176 = (K1 (s176 r n) 0) :=
 (by kernel_rfl)
theorem dSi : aE CF r n 176 args h = s176 r n (aO args 0) h :=
 (by kernel_rfl : aE CF r n 176 args h = D176 r n c176 x0 r176 (aI args) h).trans ((congrFun (congrFun (dXl r n) (aI args)) h).trans (by kernel_rfl))
noncomputable def s177 (r : RT) (n : Nat) (x0 x1 : DV) (h0 : Hp) : aK :=
 bnd (r 201 [x0, x1] h0) fun v1 h1 =>
 some (v1, h1)
noncomputable abbrev c177 : Code := cf Tryz.f177
noncomputable abbrev r177 : K := aR CF Tryz.f177
noncomputable def D177 (r : RT) (n : Nat) (c : Code) (X : Nat → K) (k : K) : K := aM CF r 8 n c X r177 k
theorem eCl : D177 r n c177 x0 r177 = (K2 (s177 r n) 0 1) :=
 (by kernel_rfl)
theorem dRr : aE CF r n 177 args h = s177 r n (aO args 0) (aO args 1) h :=
 (by kernel_rfl : aE CF r n 177 args h = D177 r n c177 x0 r177 (aI args) h).trans ((congrFun (congrFun (eCl r n) (aI args)) h).trans (by kernel_rfl))
noncomputable def iS (r : RT) (n : Nat) (x2 x4 x5 : DV) (h0 : Hp) : aK :=
 bnd (aG 4 x4 h0) fun v1 h1 =>
 bnd (aC 4 x2 v1 h1) fun _ h2 =>
 bnd (aG 4 x2 h2) fun v3 _ =>
 some (.t [v3, x5], h2)
noncomputable def bAk (r : RT) (n : Nat) (x0 x2 x4 x5 x6 : DV) (h0 : Hp) : aK :=
 bnd (r 203 [x6] h0) fun v1 h1 =>
 aU v1 (
 bnd (aB 0 x4 h1) fun v2 h2 =>
 bnd (aC 1 v2 (aD 1) h2) fun _ h3 =>
 bnd (r 204 [x0] h3) fun v4 h4 =>
 bnd (aH 0 v4 h4) fun v5 h5 =>
 bnd (aH 1 v4 h5) fun v6 h6 =>
 bnd (aB 1 x4 h6) fun v7 h7 =>
 bnd (aC 1 v7 v5 h7) fun _ h8 =>
 bnd (aF .eql v6 (aD 0) h8) fun v9 h9 =>
 bnd (gD v9 true (some (x0, h9)) h9) fun v10 h10 =>
 bnd (gD v9 true (r 205 [v10] h10) h10) fun v11 h11 =>
 bnd (aP v9 v11 (.b false) h11) fun v12 h12 =>
 aU v12 (
 bnd (aB 1 x4 h12) fun v13 h13 =>
 bnd (aA v13 h13) fun v14 h14 =>
 bnd (eE .add v14 (.s [58]) h14) fun v15 h15 =>
 bnd (aB 0 x4 h15) fun v16 h16 =>
 bnd (aC 1 v16 (aD 2) h16) fun _ h17 =>
 bnd (aB 1 x4 h17) fun v18 h18 =>
 bnd (aC 1 v18 v15 h18) fun _ h19 =>
      iS r n x2 x4 v6 h19) (
      iS r n x2 x4 v6 h12)) (
 bnd (r 206 [x6] h1) fun v20 h20 =>
 aU v20 (
 bnd (aB 0 x4 h20) fun v21 h21 =>
 bnd (aC 1 v21 (aD 4) h21) fun _ h22 =>
 bnd (r 207 [x0] h22) fun v23 h23 =>
 bnd (aH 0 v23 h23) fun v24 h24 =>
 bnd (aH 1 v23 h24) fun v25 h25 =>
 bnd (aB 2 x4 h25) fun v26 h26 =>
 bnd (aC 1 v26 v24 h26) fun _ h27 =>
      iS r n x2 x4 v25 h27) (
 bnd (aF .eql x6 (.i .u8 (Int.ofNat 39)) h20) fun v28 h28 =>
 aU v28 (
 bnd (aQ x0 h28) fun v29 h29 =>
 bnd (aB 1 v29 h29) fun v30 h30 =>
 bnd (aA v30 h30) fun v31 h31 =>
 bnd (aF .add v31 (aD 1) h31) fun v32 h32 =>
 bnd (aQ x0 h32) fun v33 h33 =>
 bnd (aB 1 v33 h33) fun v34 h34 =>
 bnd (aC 1 v34 v32 h34) fun _ h35 =>
 bnd (aB 0 x4 h35) fun v36 h36 =>
 bnd (aC 1 v36 (aD 5) h36) fun _ h37 =>
 bnd (r 208 [x0] h37) fun v38 h38 =>
 bnd (aH 0 v38 h38) fun v39 h39 =>
 bnd (aH 1 v38 h39) fun v40 h40 =>
 bnd (aB 1 x4 h40) fun v41 h41 =>
 bnd (aC 1 v41 v39 h41) fun _ h42 =>
    iS r n x2 x4 v40 h42) (
 bnd (aF .eql x6 (.i .u8 (Int.ofNat 35)) h28) fun v43 h43 =>
 bnd (gD v43 true (some (x0, h43)) h43) fun v44 h44 =>
 bnd (gD v43 true (r 202 [v44, (aD 1)] h44) h44) fun v45 h45 =>
 bnd (gD v43 true (aF .eql v45 (.i .u8 (Int.ofNat 40)) h45) h45) fun v46 h46 =>
 bnd (aP v43 v46 (.b false) h46) fun v47 h47 =>
 aU v47 (
 bnd (aQ x0 h47) fun v48 h48 =>
 bnd (aB 1 v48 h48) fun v49 h49 =>
 bnd (aA v49 h49) fun v50 h50 =>
 bnd (aF .add v50 (aD 2) h50) fun v51 h51 =>
 bnd (aQ x0 h51) fun v52 h52 =>
 bnd (aB 1 v52 h52) fun v53 h53 =>
 bnd (aC 1 v53 v51 h53) fun _ h54 =>
 bnd (aB 0 x4 h54) fun v55 h55 =>
 bnd (aC 1 v55 (aD 7) h55) fun _ h56 =>
     iS r n x2 x4 x5 h56) (
 bnd (aF .eql x6 (.i .u8 (Int.ofNat 35)) h47) fun v57 h57 =>
 aU v57 (
 bnd (aQ x0 h57) fun v58 h58 =>
 bnd (aB 1 v58 h58) fun v59 h59 =>
 bnd (aA v59 h59) fun v60 h60 =>
 bnd (aF .add v60 (aD 1) h60) fun v61 h61 =>
 bnd (aQ x0 h61) fun v62 h62 =>
 bnd (aB 1 v62 h62) fun v63 h63 =>
 bnd (aC 1 v63 v61 h63) fun _ h64 =>
 bnd (aB 0 x4 h64) fun v65 h65 =>
 bnd (aC 1 v65 (aD 6) h65) fun _ h66 =>
 bnd (r 209 [x0] h66) fun v67 h67 =>
 bnd (aH 0 v67 h67) fun v68 h68 =>
 bnd (aH 1 v67 h68) fun v69 h69 =>
 bnd (aB 1 x4 h69) fun v70 h70 =>
 bnd (aC 1 v70 v68 h70) fun _ h71 =>
      iS r n x2 x4 v69 h71) (
 bnd (aF .eql x6 (.i .u8 (Int.ofNat 58)) h57) fun v72 h72 =>
 bnd (gD v72 true (some (x0, h72)) h72) fun v73 h73 =>
 bnd (gD v72 true (r 202 [v73, (aD 1)] h73) h73) fun v74 h74 =>
 bnd (gD v72 true (aF .eql v74 (.i .u8 (Int.ofNat 61)) h74) h74) fun v75 h75 =>
 bnd (aP v72 v75 (.b false) h75) fun v76 h76 =>
 aU v76 (
 bnd (aQ x0 h76) fun v77 h77 =>
 bnd (aB 1 v77 h77) fun v78 h78 =>
 bnd (aA v78 h78) fun v79 h79 =>
 bnd (aF .add v79 (aD 2) h79) fun v80 h80 =>
 bnd (aQ x0 h80) fun v81 h81 =>
 bnd (aB 1 v81 h81) fun v82 h82 =>
 bnd (aC 1 v82 v80 h82) fun _ h83 =>
 bnd (aB 0 x4 h83) fun v84 h84 =>
 bnd (aC 1 v84 (aD 9) h84) fun _ h85 =>
       iS r n x2 x4 x5 h85) (
 bnd (aF .eql x6 (.i .u8 (Int.ofNat 58)) h76) fun v86 h86 =>
 bnd (gD v86 true (some (x0, h86)) h86) fun v87 h87 =>
 bnd (gD v86 true (r 202 [v87, (aD 1)] h87) h87) fun v88 h88 =>
 bnd (gD v86 true (r 203 [v88] h88) h88) fun v89 h89 =>
 bnd (aP v86 v89 (.b false) h89) fun v90 h90 =>
 aU v90 (
 bnd (aQ x0 h90) fun v91 h91 =>
 bnd (aB 1 v91 h91) fun v92 h92 =>
 bnd (aA v92 h92) fun v93 h93 =>
 bnd (aF .add v93 (aD 1) h93) fun v94 h94 =>
 bnd (aQ x0 h94) fun v95 h95 =>
 bnd (aB 1 v95 h95) fun v96 h96 =>
 bnd (aC 1 v96 v94 h96) fun _ h97 =>
 bnd (aB 0 x4 h97) fun v98 h98 =>
 bnd (aC 1 v98 (aD 8) h98) fun _ h99 =>
 bnd (r 204 [x0] h99) fun v100 h100 =>
 bnd (aH 0 v100 h100) fun v101 h101 =>
 bnd (aH 1 v100 h101) fun v102 h102 =>
 bnd (aB 1 x4 h102) fun v103 h103 =>
 bnd (aC 1 v103 v101 h103) fun _ h104 =>
        iS r n x2 x4 v102 h104) (
 bnd (r 176 [(.s [43, 45, 42, 47, 60, 62, 61, 126, 44, 64, 38, 37])] h90) fun v105 h105 =>
 bnd (dF CF r v105 [x6] h105) fun v106 h106 =>
 aU v106 (
 bnd (r 176 [(.s [43, 45, 42, 47, 60, 62, 61, 126, 44, 64, 38, 37])] h106) fun v107 h107 =>
 bnd (r 175 [x0, v107, (aD 2)] h107) fun v108 h108 =>
 bnd (aB 0 x4 h108) fun v109 h109 =>
 bnd (aC 1 v109 (aD 3) h109) fun _ h110 =>
 bnd (aB 1 x4 h110) fun v111 h111 =>
 bnd (aC 1 v111 v108 h111) fun _ h112 =>
         iS r n x2 x4 x5 h112) (
 bnd (r 176 [(.s [94, 46, 59, 40, 41, 91, 93, 124])] h106) fun v113 h113 =>
 bnd (dF CF r v113 [x6] h113) fun v114 h114 =>
 aU v114 (
 bnd (r 176 [(.s [94, 46, 59, 40, 41, 91, 93, 124])] h114) fun v115 h115 =>
 bnd (r 175 [x0, v115, (aD 1)] h115) fun v116 h116 =>
 bnd (aB 0 x4 h116) fun v117 h117 =>
 bnd (aC 1 v117 (aD 10) h117) fun _ h118 =>
 bnd (aB 1 x4 h118) fun v119 h119 =>
 bnd (aC 1 v119 v116 h119) fun _ h120 =>
          iS r n x2 x4 x5 h120) (
          iS r n x2 x4 (aD 10) h114)))))))))
noncomputable def aZt (r : RT) (n : Nat) (x0 x2 x4 x5 : DV) (h0 : Hp) : aK :=
 bnd (r 202 [x0, (aD 0)] h0) fun v1 h1 =>
  bAk r n x0 x2 x4 x5 v1 h1
noncomputable def aAz (r : RT) (n : Nat) (x0 x2 x4 : DV) (h0 : Hp) : aK :=
 aZt r n x0 x2 x4 (aD 0) h0
noncomputable def sC (r : RT) (n : Nat) (x0 x2 : DV) (h0 : Hp) : aK :=
 bnd (aQ x0 h0) fun v1 h1 =>
 bnd (aB 1 v1 h1) fun v2 h2 =>
 bnd (aA v2 h2) fun v3 h3 =>
 bnd (aS [(aD 0), (.s []), (aD 0), (aD 0)] [(3, 1, v3)] h3) fun v4 h4 =>
 bnd (aZ [(aD 0), (.s []), (aD 0), (aD 0)] h4) fun v5 h5 =>
 bnd (aC 4 v5 v4 h5) fun _ h6 =>
  aAz r n x0 x2 v5 h6
noncomputable def s178 (r : RT) (n : Nat) (x0 : DV) (h0 : Hp) : aK :=
 bnd (aZ [(aD 0), (.s []), (aD 0), (aD 0)] h0) fun v1 h1 =>
  sC r n x0 v1 h1
noncomputable abbrev c178 : Code := cf Tryz.f178
noncomputable abbrev aOn : Code := cR c178
noncomputable abbrev aMr : Code := cR aOn
noncomputable abbrev aOv : Code := cR aMr
noncomputable abbrev aFa : Code := cR aOv
noncomputable abbrev dTi : Code := cR aFa
noncomputable abbrev bSl : Code := cL aFa
noncomputable abbrev cGz : Code := cL aOv
noncomputable abbrev cKf : Code := cL aMr
noncomputable abbrev aSy : Code := cL aOn
noncomputable abbrev aHo : Code := cL c178
noncomputable abbrev r178 : K := aR CF Tryz.f178
noncomputable def D178 (r : RT) (n : Nat) (c : Code) (X : Nat → K) (k : K) : K := aM CF r 153 n c X r178 k
theorem dDu : D178 r n dTi x0 r178 = (K3 (iS r n) 2 4 5) :=
 (by kernel_rfl)
theorem bTm : D178 r n aFa x0 r178 = D178 r n bSl x0 (K3 (iS r n) 2 4 5) :=
 congrArg (fun k => D178 r n bSl x0 k) (dDu r n)
theorem dFi : D178 r n aFa x0 r178 = (K5 (bAk r n) 0 2 4 5 6) :=
 (bTm r n).trans
 ((by kernel_rfl))
theorem cJz : D178 r n aOv x0 r178 = D178 r n cGz x0 (K5 (bAk r n) 0 2 4 5 6) :=
 congrArg (fun k => D178 r n cGz x0 k) (dFi r n)
theorem cYm : D178 r n aOv x0 r178 = (K4 (aZt r n) 0 2 4 5) :=
 (cJz r n).trans
 ((by kernel_rfl))
theorem bWi : D178 r n aMr x0 r178 = D178 r n cKf x0 (K4 (aZt r n) 0 2 4 5) :=
 congrArg (fun k => D178 r n cKf x0 k) (cYm r n)
theorem cZu : D178 r n aMr x0 r178 = (K3 (aAz r n) 0 2 4) :=
 (bWi r n).trans
 ((by kernel_rfl))
theorem cIz : D178 r n aOn x0 r178 = D178 r n aSy x0 (K3 (aAz r n) 0 2 4) :=
 congrArg (fun k => D178 r n aSy x0 k) (cZu r n)
theorem bVa (q0 : dU) : D178 r n aSy x0 (K3 q0 0 2 4) = fun (env : bB) (h : Hp) =>
 bnd (aQ (env 0) h) fun v1 h1 =>
 bnd (aB 1 v1 h1) fun v2 h2 =>
 bnd (aA v2 h2) fun v3 h3 =>
 bnd (aS [(aD 0), (.s []), (aD 0), (aD 0)] [(3, 1, v3)] h3) fun v4 h4 =>
 bnd (aZ [(aD 0), (.s []), (aD 0), (aD 0)] h4) fun v5 h5 =>
 bnd (aC 4 v5 v4 h5) fun _ h6 =>
  q0 (env 0) (env 2) v5 h6 := by kernel_rfl
theorem bMf : (fun (env : bB) (h : Hp) =>
 bnd (aQ (env 0) h) fun v1 h1 =>
 bnd (aB 1 v1 h1) fun v2 h2 =>
 bnd (aA v2 h2) fun v3 h3 =>
 bnd (aS [(aD 0), (.s []), (aD 0), (aD 0)] [(3, 1, v3)] h3) fun v4 h4 =>
 bnd (aZ [(aD 0), (.s []), (aD 0), (aD 0)] h4) fun v5 h5 =>
 bnd (aC 4 v5 v4 h5) fun _ h6 =>
  aAz r n (env 0) (env 2) v5 h6) = (K2 (sC r n) 0 2) := by kernel_rfl
theorem dAf : D178 r n aOn x0 r178 = (K2 (sC r n) 0 2) :=
 (cIz r n).trans
 ((bVa r n (aAz r n)).trans (bMf r n))
theorem dWw : D178 r n c178 x0 r178 = D178 r n aHo x0 (K2 (sC r n) 0 2) :=
 congrArg (fun k => D178 r n aHo x0 k) (dAf r n)
theorem dSz (q0 : eK) : D178 r n aHo x0 (K2 q0 0 2) = fun (env : bB) (h : Hp) =>
 bnd (aZ [(aD 0), (.s []), (aD 0), (aD 0)] h) fun v1 h1 =>
  q0 (env 0) v1 h1 := by kernel_rfl
theorem cPw : (fun (env : bB) (h : Hp) =>
 bnd (aZ [(aD 0), (.s []), (aD 0), (aD 0)] h) fun v1 h1 =>
  sC r n (env 0) v1 h1) = (K1 (s178 r n) 0) := by kernel_rfl
theorem dZw : D178 r n c178 x0 r178 = (K1 (s178 r n) 0) :=
 (dWw r n).trans
 ((dSz r n (sC r n)).trans (cPw r n))
theorem dWm : aE CF r n 178 args h = s178 r n (aO args 0) h :=
 (by kernel_rfl : aE CF r n 178 args h = D178 r n c178 x0 r178 (aI args) h).trans ((congrFun (congrFun (dZw r n) (aI args)) h).trans (by kernel_rfl))
noncomputable def s179 (r : RT) (n : Nat) (x0 x1 x2 : DV) (h0 : Hp) : aK :=
 bnd (r 183 [x0, (aD 0)] h0) fun v1 h1 =>
 bnd (aZ [(aD 0), (.s []), (aD 0), (aD 0)] h1) fun v2 h2 =>
 bnd (aC 4 v2 v1 h2) fun _ h3 =>
 bnd (aQ x0 h3) fun v4 h4 =>
 bnd (aB 3 v4 h4) fun v5 h5 =>
 bnd (aA v5 h5) fun v6 h6 =>
 bnd (aF .eql v6 (aD 0) h6) fun v7 h7 =>
 bnd (gD v7 true (aB 0 v2 h7) h7) fun v8 h8 =>
 bnd (gD v7 true (aA v8 h8) h8) fun v9 h9 =>
 bnd (gD v7 true (some (x1, h9)) h9) fun v10 h10 =>
 bnd (gD v7 true (aF .eql v9 v10 h10) h10) fun v11 h11 =>
 bnd (aP v7 v11 (.b false) h11) fun v12 h12 =>
 bnd (gD v12 true (some (x2, h12)) h12) fun v13 h13 =>
 bnd (gD v12 true (eE .eql v13 (.s []) h13) h13) fun v14 h14 =>
 bnd (gD v12 true (some (v14, h14)) h14) fun v15 h15 =>
 bnd (gD v15 false (aB 1 v2 h15) h15) fun v16 h16 =>
 bnd (gD v15 false (aA v16 h16) h16) fun v17 h17 =>
 bnd (gD v15 false (some (x2, h17)) h17) fun v18 h18 =>
 bnd (gD v15 false (eE .eql v17 v18 h18) h18) fun v19 h19 =>
 bnd (gD v12 true (aP v15 (.b true) v19 h19) h19) fun v20 h20 =>
 bnd (aP v12 v20 (.b false) h20) fun v21 h21 =>
 some (v21, h21)
noncomputable abbrev c179 : Code := cf Tryz.f179
noncomputable abbrev r179 : K := aR CF Tryz.f179
noncomputable def D179 (r : RT) (n : Nat) (c : Code) (X : Nat → K) (k : K) : K := aM CF r 31 n c X r179 k
theorem eCs : D179 r n c179 x0 r179 = (K3 (s179 r n) 0 1 2) :=
 (by kernel_rfl)
theorem dSq : aE CF r n 179 args h = s179 r n (aO args 0) (aO args 1) (aO args 2) h :=
 (by kernel_rfl : aE CF r n 179 args h = D179 r n c179 x0 r179 (aI args) h).trans ((congrFun (congrFun (eCs r n) (aI args)) h).trans (by kernel_rfl))
noncomputable def aDv (r : RT) (n : Nat) (x2 x3 : DV) (h0 : Hp) : aK :=
 bnd (aG 4 x3 h0) fun v1 h1 =>
 bnd (aC 4 x2 v1 h1) fun _ h2 =>
 bnd (aG 4 x2 h2) fun v3 _ =>
 some (v3, h2)
noncomputable def zX (r : RT) (n : Nat) (x0 x2 x3 : DV) (h0 : Hp) : aK :=
 bnd (aB 0 x3 h0) fun v1 h1 =>
 bnd (aA v1 h1) fun v2 h2 =>
 bnd (aF .neq v2 (aD 0) h2) fun v3 h3 =>
 aU v3 (
 bnd (aQ x0 h3) fun v4 h4 =>
 bnd (aB 0 v4 h4) fun v5 h5 =>
 bnd (aA v5 h5) fun v6 h6 =>
 bnd (cW 4 v6 (some (aD 1)) none h6) fun v7 h7 =>
 bnd (aQ x0 h7) fun v8 h8 =>
 bnd (aB 0 v8 h8) fun v9 h9 =>
 bnd (aC 1 v9 v7 h9) fun _ h10 =>
  aDv r n x2 x3 h10) (
  aDv r n x2 x3 h3)
noncomputable def sG (r : RT) (n : Nat) (x0 x2 : DV) (h0 : Hp) : aK :=
 bnd (r 183 [x0, (aD 0)] h0) fun v1 h1 =>
 bnd (aZ [(aD 0), (.s []), (aD 0), (aD 0)] h1) fun v2 h2 =>
 bnd (aC 4 v2 v1 h2) fun _ h3 =>
  zX r n x0 x2 v2 h3
noncomputable def s180 (r : RT) (n : Nat) (x0 : DV) (h0 : Hp) : aK :=
 bnd (aZ [(aD 0), (.s []), (aD 0), (aD 0)] h0) fun v1 h1 =>
  sG r n x0 v1 h1
noncomputable abbrev c180 : Code := cf Tryz.f180
noncomputable abbrev aIq : Code := cR c180
noncomputable abbrev aOt : Code := cR aIq
noncomputable abbrev dLt : Code := cR aOt
noncomputable abbrev cDu : Code := cL aOt
noncomputable abbrev aTf : Code := cL aIq
noncomputable abbrev aWs : Code := cL c180
noncomputable abbrev r180 : K := aR CF Tryz.f180
noncomputable def D180 (r : RT) (n : Nat) (c : Code) (X : Nat → K) (k : K) : K := aM CF r 18 n c X r180 k
theorem dEc : D180 r n dLt x0 r180 = (K2 (aDv r n) 2 3) :=
 (by kernel_rfl)
theorem cMp : D180 r n aOt x0 r180 = D180 r n cDu x0 (K2 (aDv r n) 2 3) :=
 congrArg (fun k => D180 r n cDu x0 k) (dEc r n)
theorem cPk : D180 r n aOt x0 r180 = (K3 (zX r n) 0 2 3) :=
 (cMp r n).trans
 ((by kernel_rfl))
theorem cNk : D180 r n aIq x0 r180 = D180 r n aTf x0 (K3 (zX r n) 0 2 3) :=
 congrArg (fun k => D180 r n aTf x0 k) (cPk r n)
theorem cMt (q0 : dU) : D180 r n aTf x0 (K3 q0 0 2 3) = fun (env : bB) (h : Hp) =>
 bnd (r 183 [(env 0), (aD 0)] h) fun v1 h1 =>
 bnd (aZ [(aD 0), (.s []), (aD 0), (aD 0)] h1) fun v2 h2 =>
 bnd (aC 4 v2 v1 h2) fun _ h3 =>
  q0 (env 0) (env 2) v2 h3 := by kernel_rfl
theorem bOa : (fun (env : bB) (h : Hp) =>
 bnd (r 183 [(env 0), (aD 0)] h) fun v1 h1 =>
 bnd (aZ [(aD 0), (.s []), (aD 0), (aD 0)] h1) fun v2 h2 =>
 bnd (aC 4 v2 v1 h2) fun _ h3 =>
  zX r n (env 0) (env 2) v2 h3) = (K2 (sG r n) 0 2) := by kernel_rfl
theorem cZq : D180 r n aIq x0 r180 = (K2 (sG r n) 0 2) :=
 (cNk r n).trans
 ((cMt r n (zX r n)).trans (bOa r n))
theorem dQi : D180 r n c180 x0 r180 = D180 r n aWs x0 (K2 (sG r n) 0 2) :=
 congrArg (fun k => D180 r n aWs x0 k) (cZq r n)
theorem dVc (q0 : eK) : D180 r n aWs x0 (K2 q0 0 2) = fun (env : bB) (h : Hp) =>
 bnd (aZ [(aD 0), (.s []), (aD 0), (aD 0)] h) fun v1 h1 =>
  q0 (env 0) v1 h1 := by kernel_rfl
theorem cXb : (fun (env : bB) (h : Hp) =>
 bnd (aZ [(aD 0), (.s []), (aD 0), (aD 0)] h) fun v1 h1 =>
  sG r n (env 0) v1 h1) = (K1 (s180 r n) 0) := by kernel_rfl
theorem dXv : D180 r n c180 x0 r180 = (K1 (s180 r n) 0) :=
 (dQi r n).trans
 ((dVc r n (sG r n)).trans (cXb r n))
theorem dOt : aE CF r n 180 args h = s180 r n (aO args 0) h :=
 (by kernel_rfl : aE CF r n 180 args h = D180 r n c180 x0 r180 (aI args) h).trans ((congrFun (congrFun (dXv r n) (aI args)) h).trans (by kernel_rfl))
noncomputable def s181 (r : RT) (n : Nat) (x0 : DV) (h0 : Hp) : aK :=
 bnd (aZ cV h0) fun v1 h1 =>
 bnd (r 179 [x0, (aD 1), (.s [])] h1) fun v2 h2 =>
 bnd (gD v2 true (some (x0, h2)) h2) fun v3 h3 =>
 bnd (gD v2 true (r 183 [v3, (aD 1)] h3) h3) fun v4 h4 =>
 bnd (gD v2 true (dO 0 v4 h4) h4) fun v5 h5 =>
 bnd (gD v2 true (aF .eql v5 (aD 9) h5) h5) fun v6 h6 =>
 bnd (aP v2 v6 (.b false) h6) fun v7 h7 =>
 aU v7 (
 bnd (r 180 [x0] h7) fun v8 h8 =>
 bnd (dO 1 v8 h8) fun v9 h9 =>
 bnd (aS cV [(0, 1, (aD 6)), (1, 1, v9)] h9) fun v10 h10 =>
 bnd (aZ cV h10) fun v11 h11 =>
 bnd (aC 6 v11 v10 h11) fun _ h12 =>
 bnd (r 180 [x0] h12) fun v13 h13 =>
 bnd (r 181 [x0] h13) fun v14 h14 =>
 bnd (aN cV 1 [(0, 6, v14)] h14) fun v15 h15 =>
 bnd (aB 5 v11 h15) fun v16 h16 =>
 bnd (aC 1 v16 v15 h16) fun _ h17 =>
 bnd (aG 6 v11 h17) fun v18 h18 =>
 bnd (aC 6 v1 v18 h18) fun _ h19 =>
 bnd (aG 6 v1 h19) fun v20 _ =>
 some (v20, h19)) (
 bnd (r 210 [x0] h7) fun v21 h21 =>
 bnd (aC 6 v1 v21 h21) fun _ h22 =>
 bnd (aG 6 v1 h22) fun v23 _ =>
 some (v23, h22))
noncomputable abbrev c181 : Code := cf Tryz.f181
noncomputable abbrev r181 : K := aR CF Tryz.f181
noncomputable def D181 (r : RT) (n : Nat) (c : Code) (X : Nat → K) (k : K) : K := aM CF r 25 n c X r181 k
theorem eDc : D181 r n c181 x0 r181 = (K1 (s181 r n) 0) :=
 (by kernel_rfl)
theorem dSm : aE CF r n 181 args h = s181 r n (aO args 0) h :=
 (by kernel_rfl : aE CF r n 181 args h = D181 r n c181 x0 r181 (aI args) h).trans ((congrFun (congrFun (eDc r n) (aI args)) h).trans (by kernel_rfl))
noncomputable def s183 (r : RT) (n : Nat) (x0 x1 : DV) (h0 : Hp) : aK :=
 bnd (aZ [(aD 0), (.s []), (aD 0), (aD 0)] h0) fun v1 h1 =>
 bnd (aQ x0 h1) fun v2 h2 =>
 bnd (aB 0 v2 h2) fun v3 h3 =>
 bnd (aA v3 h3) fun v4 h4 =>
 bnd (aQ x0 h4) fun v5 h5 =>
 bnd (aB 0 v5 h5) fun v6 h6 =>
 bnd (aA v6 h6) fun v7 h7 =>
 bnd (bO v7 h7) fun v8 h8 =>
 bnd (aF .sub v8 (aD 1) h8) fun v9 h9 =>
 bnd (aVw x1 v9 h9) fun v10 h10 =>
 bnd (aJ 4 v4 v10 h10) fun v11 h11 =>
 bnd (aG 4 v11 h11) fun v12 h12 =>
 bnd (aC 4 v1 v12 h12) fun v13 h13 =>
 bnd (aG 4 v1 h13) fun v14 _ =>
 some (v14, h13)
noncomputable abbrev c183 : Code := cf Tryz.f183
noncomputable abbrev r183 : K := aR CF Tryz.f183
noncomputable def D183 (r : RT) (n : Nat) (c : Code) (X : Nat → K) (k : K) : K := aM CF r 19 n c X r183 k
theorem eBw : D183 r n c183 x0 r183 = (K2 (s183 r n) 0 1) :=
 (by kernel_rfl)
theorem dKc : aE CF r n 183 args h = s183 r n (aO args 0) (aO args 1) h :=
 (by kernel_rfl : aE CF r n 183 args h = D183 r n c183 x0 r183 (aI args) h).trans ((congrFun (congrFun (eBw r n) (aI args)) h).trans (by kernel_rfl))
end Go.Dd

namespace Go.Dd
open Go.Proofs
variable (r : RT) (n : Nat) (args : List DV) (h : Hp)
noncomputable def aHx (r : RT) (n : Nat) (x7 : DV) (h0 : Hp) : aK :=
 bnd (aB 1 x7 h0) fun v1 h1 =>
 bnd (aA v1 h1) fun v2 h2 =>
 some (v2, h2)
noncomputable def aCa (r : RT) (n : Nat) (x0 x2 x7 : DV) (h0 : Hp) : aK :=
 bnd (bO x2 h0) fun v1 h1 =>
 bnd (aF .eql v1 (aD 4) h1) fun v2 h2 =>
 aU v2 (
 bnd (aG 4 x7 h2) fun v3 h3 =>
 bnd (r 182 [x0, v3, (aD 18)] h3) fun v4 h4 =>
  aHx r n x7 h4) (
  aHx r n x7 h2)
noncomputable def aEo (r : RT) (n : Nat) (x0 x1 x2 : DV) (h0 : Hp) : aK :=
 bnd (r 156 [x0, x1, (.s [])] h0) fun v1 h1 =>
 bnd (aZ [(aD 0), (.s []), (aD 0), (aD 0)] h1) fun v2 h2 =>
 bnd (aC 4 v2 v1 h2) fun _ h3 =>
  aCa r n x0 x2 v2 h3
noncomputable def s184 (r : RT) (n : Nat) (x0 x1 x2 : DV) (h0 : Hp) : aK :=
 aEo r n x0 x1 x2 h0
noncomputable abbrev c184 : Code := cf Tryz.f184
noncomputable abbrev aFh : Code := cR c184
noncomputable abbrev aOm : Code := cR aFh
noncomputable abbrev dLb : Code := cR aOm
noncomputable abbrev cHs : Code := cL aOm
noncomputable abbrev bAg : Code := cL aFh
noncomputable abbrev bVk : Code := cL c184
noncomputable abbrev r184 : K := aR CF Tryz.f184
noncomputable def D184 (r : RT) (n : Nat) (c : Code) (X : Nat → K) (k : K) : K := aM CF r 19 n c X r184 k
theorem cUg : D184 r n dLb x0 r184 = (K1 (aHx r n) 7) :=
 (by kernel_rfl)
theorem cEc : D184 r n aOm x0 r184 = D184 r n cHs x0 (K1 (aHx r n) 7) :=
 congrArg (fun k => D184 r n cHs x0 k) (cUg r n)
theorem cZf : D184 r n aOm x0 r184 = (K3 (aCa r n) 0 2 7) :=
 (cEc r n).trans
 ((by kernel_rfl))
theorem cKz : D184 r n aFh x0 r184 = D184 r n bAg x0 (K3 (aCa r n) 0 2 7) :=
 congrArg (fun k => D184 r n bAg x0 k) (cZf r n)
theorem cLg (q0 : dU) : D184 r n bAg x0 (K3 q0 0 2 7) = fun (env : bB) (h : Hp) =>
 bnd (r 156 [(env 0), (env 1), (.s [])] h) fun v1 h1 =>
 bnd (aZ [(aD 0), (.s []), (aD 0), (aD 0)] h1) fun v2 h2 =>
 bnd (aC 4 v2 v1 h2) fun _ h3 =>
  q0 (env 0) (env 2) v2 h3 := by kernel_rfl
theorem bLq : (fun (env : bB) (h : Hp) =>
 bnd (r 156 [(env 0), (env 1), (.s [])] h) fun v1 h1 =>
 bnd (aZ [(aD 0), (.s []), (aD 0), (aD 0)] h1) fun v2 h2 =>
 bnd (aC 4 v2 v1 h2) fun _ h3 =>
  aCa r n (env 0) (env 2) v2 h3) = (K3 (aEo r n) 0 1 2) := by kernel_rfl
theorem cZp : D184 r n aFh x0 r184 = (K3 (aEo r n) 0 1 2) :=
 (cKz r n).trans
 ((cLg r n (aCa r n)).trans (bLq r n))
theorem dMa : D184 r n c184 x0 r184 = D184 r n bVk x0 (K3 (aEo r n) 0 1 2) :=
 congrArg (fun k => D184 r n bVk x0 k) (cZp r n)
theorem dYg : D184 r n c184 x0 r184 = (K3 (s184 r n) 0 1 2) :=
 (dMa r n).trans
 ((by kernel_rfl))
theorem dUv : aE CF r n 184 args h = s184 r n (aO args 0) (aO args 1) (aO args 2) h :=
 (by kernel_rfl : aE CF r n 184 args h = D184 r n c184 x0 r184 (aI args) h).trans ((congrFun (congrFun (dYg r n) (aI args)) h).trans (by kernel_rfl))
noncomputable def dM (r : RT) (n : Nat) (kk2 : bU) (x0 x2 x10 x11 x12 : DV) (h0 : Hp) : aK :=
 bnd (aF .add x12 (aD 1) h0) fun v1 h1 =>
  kk2 x0 x2 x10 x11 v1 h1
noncomputable def aAa (r : RT) (n : Nat) (kk2 : bU) (x0 x2 x7 x10 x11 x12 : DV) (h0 : Hp) : aK :=
 bnd (aQ x0 h0) fun v1 h1 =>
 bnd (aB 8 v1 h1) fun v2 h2 =>
 bnd (aA v2 h2) fun v3 h3 =>
 bnd (aF .neq v3 (aD 0) h3) fun v4 h4 =>
 aU v4 (
 some (.t [], h4)) (
 bnd (aQ x0 (resv 1 h4)) fun v5 h5 =>
 bnd (aB 6 v5 h5) fun v6 h6 =>
 bnd (aA v6 h6) fun v7 h7 =>
 bnd (aQ x0 h7) fun v8 h8 =>
 bnd (aB 0 v8 h8) fun v9 h9 =>
 bnd (aB 2 v9 h9) fun v10 h10 =>
 bnd (aA v10 h10) fun v11 h11 =>
 bnd (aS [(.s []), (.b false), (.b false), (aD 0)] [(0, 1, x7), (1, 1, (.b false)), (2, 1, x2), (3, 1, v11)] h11) fun v12 h12 =>
 bnd (aV (bF 0 h4.next) [(.s []), (.b false), (.b false), (aD 0)] 1 [(0, 4, v12)] h12) fun v13 h13 =>
 bnd (aY 4 32 v7 v13 h13) fun v14 h14 =>
 bnd (aQ x0 h14) fun v15 h15 =>
 bnd (aB 6 v15 h15) fun v16 h16 =>
 bnd (aC 1 v16 v14 h16) fun v17 h17 =>
 bnd (aQ x0 h17) fun v18 h18 =>
 bnd (aB 0 v18 h18) fun v19 h19 =>
 bnd (aB 2 v19 h19) fun v20 h20 =>
 bnd (aA v20 h20) fun v21 h21 =>
 bnd (aF .add v21 (aD 1) h21) fun v22 h22 =>
 bnd (aQ x0 h22) fun v23 h23 =>
 bnd (aB 0 v23 h23) fun v24 h24 =>
 bnd (aB 2 v24 h24) fun v25 h25 =>
 bnd (aC 1 v25 v22 h25) fun _ h26 =>
  dM r n kk2 x0 x2 x10 x11 x12 h26)
noncomputable def pS (r : RT) (n : Nat) (kk2 : bU) (x0 x2 x7 x10 x11 x12 : DV) (h0 : Hp) : aK :=
 bnd (aQ x0 h0) fun v1 h1 =>
 bnd (aB 0 v1 h1) fun v2 h2 =>
 bnd (aB 2 v2 h2) fun v3 h3 =>
 bnd (aA v3 h3) fun v4 h4 =>
 bnd (aF .eql v4 (aD 24) h4) fun v5 h5 =>
 aU v5 (
 bnd (r 213 [x0, x7, (aD 18)] h5) fun v6 h6 =>
  aAa r n kk2 x0 x2 x7 x10 x11 x12 h6) (
  aAa r n kk2 x0 x2 x7 x10 x11 x12 h5)
noncomputable def aGf (r : RT) (n : Nat) (kk2 : bU) (x0 x2 x7 x10 x11 x12 : DV) (h0 : Hp) : aK :=
 bnd (r 211 [x0, x7] h0) fun v1 h1 =>
 bnd (aH 0 v1 h1) fun v2 h2 =>
 bnd (aH 1 v1 h2) fun v3 h3 =>
 bnd (aZ [(.s []), (.b false), (.b false), (aD 0)] h3) fun v4 h4 =>
 bnd (aC 4 v4 v2 h4) fun _ h5 =>
 bnd (gD v3 false (some (x7, h5)) h5) fun v6 h6 =>
 bnd (gD v3 false (r 212 [v6] h6) h6) fun v7 h7 =>
 bnd (aP v3 (.b true) v7 h7) fun v8 h8 =>
 aU v8 (
 bnd (r 213 [x0, x7, (aD 16)] h8) fun v9 h9 =>
  pS r n kk2 x0 x2 x7 x10 x11 x12 h9) (
  pS r n kk2 x0 x2 x7 x10 x11 x12 h8)
noncomputable def aYq (r : RT) (n : Nat) (kk2 : bU) (x0 x2 x10 x11 x12 : DV) (h0 : Hp) : aK :=
 bnd (aJ 1 x10 x12 h0) fun v1 h1 =>
 bnd (aA v1 h1) fun v2 h2 =>
  aGf r n kk2 x0 x2 v2 x10 x11 x12 h2
noncomputable def aTv (r : RT) (n : Nat) (kk2 : bU) (x0 x2 x10 x11 x12 x13 : DV) (h0 : Hp) : aK :=
 aU x13 (
  aYq r n kk2 x0 x2 x10 x11 x12 h0) (
 some (.t [], h0))
noncomputable def bCg (r : RT) (n : Nat) (kk2 : bU) (x0 x2 x10 x11 x12 : DV) (h0 : Hp) : aK :=
 bnd (aF .lss x12 x11 h0) fun v1 h1 =>
  aTv r n kk2 x0 x2 x10 x11 x12 v1 h1
noncomputable def xH (r : RT) (n : Nat) (m : Nat) : bU :=
 Nat.rec (motive := fun _ => bU) (fun _ _ _ _ _ _ => none) (fun _ ih => bCg r n ih) m
noncomputable def cGi (r : RT) (n : Nat) : bU := xH r n n
noncomputable def aYd (r : RT) (n : Nat) (x0 x2 x10 x11 x12 : DV) (h0 : Hp) : aK :=
 cGi r n x0 x2 x10 x11 x12 h0
noncomputable def s185 (r : RT) (n : Nat) (x0 x1 x2 : DV) (h0 : Hp) : aK :=
 bnd (bO x1 h0) fun v1 h1 =>
  aYd r n x0 x2 x1 v1 (aD 0) h1
noncomputable abbrev c185 : Code := cf Tryz.f185
noncomputable abbrev aYy : Code := cR c185
noncomputable abbrev aOf : Code := cL aYy
noncomputable abbrev kX : Code := cL aOf
noncomputable abbrev aEj : Code := cR kX
noncomputable abbrev aMi : Code := cR aEj
noncomputable abbrev dLy : Code := cR aMi
noncomputable abbrev aGx : Code := cL aMi
noncomputable abbrev aLw : Code := cL aGx
noncomputable abbrev aGg : Code := cR aLw
noncomputable abbrev uT : Code := cR aGg
noncomputable abbrev bDl : Code := cR uT
noncomputable abbrev bJr : Code := cL uT
noncomputable abbrev aPc : Code := cL aGg
noncomputable abbrev bCs : Code := cL aLw
noncomputable abbrev bDi : Code := cL aEj
noncomputable abbrev bCk : Code := cL kX
noncomputable abbrev bHx : Code := cL c185
noncomputable abbrev r185 : K := aR CF Tryz.f185
noncomputable def D185 (r : RT) (n : Nat) (c : Code) (X : Nat → K) (k : K) : K := aM CF r 71 n c X r185 k
theorem cYj (kk2 : bU) : D185 r n dLy (xs x0 0 r185) (K5 kk2 0 2 10 11 12) = (K5 (dM r n kk2) 0 2 10 11 12) :=
 (by kernel_rfl)
theorem cLr (kk2 : bU) (q0 : bU) : D185 r n bDl (xs (xs x0 0 r185) 1 (K5 q0 0 2 10 11 12)) (K5 q0 0 2 10 11 12) = fun (env : bB) (h : Hp) =>
 bnd (aQ (env 0) h) fun v1 h1 =>
 bnd (aB 8 v1 h1) fun v2 h2 =>
 bnd (aA v2 h2) fun v3 h3 =>
 bnd (aF .neq v3 (aD 0) h3) fun v4 h4 =>
 aU v4 (
 some (.t [], h4)) (
 bnd (aQ (env 0) (resv 1 h4)) fun v5 h5 =>
 bnd (aB 6 v5 h5) fun v6 h6 =>
 bnd (aA v6 h6) fun v7 h7 =>
 bnd (aQ (env 0) h7) fun v8 h8 =>
 bnd (aB 0 v8 h8) fun v9 h9 =>
 bnd (aB 2 v9 h9) fun v10 h10 =>
 bnd (aA v10 h10) fun v11 h11 =>
 bnd (aS [(.s []), (.b false), (.b false), (aD 0)] [(0, 1, (env 7)), (1, 1, (.b false)), (2, 1, (env 2)), (3, 1, v11)] h11) fun v12 h12 =>
 bnd (aV (bF 0 h4.next) [(.s []), (.b false), (.b false), (aD 0)] 1 [(0, 4, v12)] h12) fun v13 h13 =>
 bnd (aY 4 32 v7 v13 h13) fun v14 h14 =>
 bnd (aQ (env 0) h14) fun v15 h15 =>
 bnd (aB 6 v15 h15) fun v16 h16 =>
 bnd (aC 1 v16 v14 h16) fun v17 h17 =>
 bnd (aQ (env 0) h17) fun v18 h18 =>
 bnd (aB 0 v18 h18) fun v19 h19 =>
 bnd (aB 2 v19 h19) fun v20 h20 =>
 bnd (aA v20 h20) fun v21 h21 =>
 bnd (aF .add v21 (aD 1) h21) fun v22 h22 =>
 bnd (aQ (env 0) h22) fun v23 h23 =>
 bnd (aB 0 v23 h23) fun v24 h24 =>
 bnd (aB 2 v24 h24) fun v25 h25 =>
 bnd (aC 1 v25 v22 h25) fun _ h26 =>
      q0 (env 0) (env 2) (env 10) (env 11) (env 12) h26) := by kernel_rfl
theorem bQj (kk2 : bU) : (fun (env : bB) (h : Hp) =>
 bnd (aQ (env 0) h) fun v1 h1 =>
 bnd (aB 8 v1 h1) fun v2 h2 =>
 bnd (aA v2 h2) fun v3 h3 =>
 bnd (aF .neq v3 (aD 0) h3) fun v4 h4 =>
 aU v4 (
 some (.t [], h4)) (
 bnd (aQ (env 0) (resv 1 h4)) fun v5 h5 =>
 bnd (aB 6 v5 h5) fun v6 h6 =>
 bnd (aA v6 h6) fun v7 h7 =>
 bnd (aQ (env 0) h7) fun v8 h8 =>
 bnd (aB 0 v8 h8) fun v9 h9 =>
 bnd (aB 2 v9 h9) fun v10 h10 =>
 bnd (aA v10 h10) fun v11 h11 =>
 bnd (aS [(.s []), (.b false), (.b false), (aD 0)] [(0, 1, (env 7)), (1, 1, (.b false)), (2, 1, (env 2)), (3, 1, v11)] h11) fun v12 h12 =>
 bnd (aV (bF 0 h4.next) [(.s []), (.b false), (.b false), (aD 0)] 1 [(0, 4, v12)] h12) fun v13 h13 =>
 bnd (aY 4 32 v7 v13 h13) fun v14 h14 =>
 bnd (aQ (env 0) h14) fun v15 h15 =>
 bnd (aB 6 v15 h15) fun v16 h16 =>
 bnd (aC 1 v16 v14 h16) fun v17 h17 =>
 bnd (aQ (env 0) h17) fun v18 h18 =>
 bnd (aB 0 v18 h18) fun v19 h19 =>
 bnd (aB 2 v19 h19) fun v20 h20 =>
 bnd (aA v20 h20) fun v21 h21 =>
 bnd (aF .add v21 (aD 1) h21) fun v22 h22 =>
 bnd (aQ (env 0) h22) fun v23 h23 =>
 bnd (aB 0 v23 h23) fun v24 h24 =>
 bnd (aB 2 v24 h24) fun v25 h25 =>
 bnd (aC 1 v25 v22 h25) fun _ h26 =>
      dM r n kk2 (env 0) (env 2) (env 10) (env 11) (env 12) h26)) = (K6 (aAa r n kk2) 0 2 7 10 11 12) := by kernel_rfl
theorem cXz (kk2 : bU) : D185 r n bDl (xs (xs x0 0 r185) 1 (K5 (dM r n kk2) 0 2 10 11 12)) (K5 (dM r n kk2) 0 2 10 11 12) = (K6 (aAa r n kk2) 0 2 7 10 11 12) :=
 (cLr r n kk2 (dM r n kk2)).trans (bQj r n kk2)
theorem bZq (kk2 : bU) : D185 r n uT (xs (xs x0 0 r185) 1 (K5 (dM r n kk2) 0 2 10 11 12)) (K5 (dM r n kk2) 0 2 10 11 12) = D185 r n bJr (xs (xs x0 0 r185) 1 (K5 (dM r n kk2) 0 2 10 11 12)) (K6 (aAa r n kk2) 0 2 7 10 11 12) :=
 congrArg (fun k => D185 r n bJr (xs (xs x0 0 r185) 1 (K5 (dM r n kk2) 0 2 10 11 12)) k) (cXz r n kk2)
theorem cVh (kk2 : bU) : D185 r n uT (xs (xs x0 0 r185) 1 (K5 (dM r n kk2) 0 2 10 11 12)) (K5 (dM r n kk2) 0 2 10 11 12) = (K6 (pS r n kk2) 0 2 7 10 11 12) :=
 (bZq r n kk2).trans
 ((by kernel_rfl))
theorem cKv (kk2 : bU) : D185 r n aGg (xs (xs x0 0 r185) 1 (K5 (dM r n kk2) 0 2 10 11 12)) (K5 (dM r n kk2) 0 2 10 11 12) = D185 r n aPc (xs (xs x0 0 r185) 1 (K5 (dM r n kk2) 0 2 10 11 12)) (K6 (pS r n kk2) 0 2 7 10 11 12) :=
 congrArg (fun k => D185 r n aPc (xs (xs x0 0 r185) 1 (K5 (dM r n kk2) 0 2 10 11 12)) k) (cVh r n kk2)
theorem cMl (kk2 : bU) (q0 : cZ) (q1 : bU) : D185 r n aPc (xs (xs x0 0 r185) 1 (K5 q1 0 2 10 11 12)) (K6 q0 0 2 7 10 11 12) = fun (env : bB) (h : Hp) =>
 bnd (r 211 [(env 0), (env 7)] h) fun v1 h1 =>
 bnd (aH 0 v1 h1) fun v2 h2 =>
 bnd (aH 1 v1 h2) fun v3 h3 =>
 bnd (aZ [(.s []), (.b false), (.b false), (aD 0)] h3) fun v4 h4 =>
 bnd (aC 4 v4 v2 h4) fun _ h5 =>
 bnd (gD v3 false (some ((env 7), h5)) h5) fun v6 h6 =>
 bnd (gD v3 false (r 212 [v6] h6) h6) fun v7 h7 =>
 bnd (aP v3 (.b true) v7 h7) fun v8 h8 =>
 aU v8 (
 bnd (r 213 [(env 0), (env 7), (aD 16)] h8) fun v9 h9 =>
      q0 (env 0) (env 2) (env 7) (env 10) (env 11) (env 12) h9) (
      q0 (env 0) (env 2) (env 7) (env 10) (env 11) (env 12) h8) := by kernel_rfl
theorem bNg (kk2 : bU) : (fun (env : bB) (h : Hp) =>
 bnd (r 211 [(env 0), (env 7)] h) fun v1 h1 =>
 bnd (aH 0 v1 h1) fun v2 h2 =>
 bnd (aH 1 v1 h2) fun v3 h3 =>
 bnd (aZ [(.s []), (.b false), (.b false), (aD 0)] h3) fun v4 h4 =>
 bnd (aC 4 v4 v2 h4) fun _ h5 =>
 bnd (gD v3 false (some ((env 7), h5)) h5) fun v6 h6 =>
 bnd (gD v3 false (r 212 [v6] h6) h6) fun v7 h7 =>
 bnd (aP v3 (.b true) v7 h7) fun v8 h8 =>
 aU v8 (
 bnd (r 213 [(env 0), (env 7), (aD 16)] h8) fun v9 h9 =>
      pS r n kk2 (env 0) (env 2) (env 7) (env 10) (env 11) (env 12) h9) (
      pS r n kk2 (env 0) (env 2) (env 7) (env 10) (env 11) (env 12) h8)) = (K6 (aGf r n kk2) 0 2 7 10 11 12) := by kernel_rfl
theorem dEl (kk2 : bU) : D185 r n aGg (xs (xs x0 0 r185) 1 (K5 (dM r n kk2) 0 2 10 11 12)) (K5 (dM r n kk2) 0 2 10 11 12) = (K6 (aGf r n kk2) 0 2 7 10 11 12) :=
 (cKv r n kk2).trans
 ((cMl r n kk2 (pS r n kk2) (dM r n kk2)).trans (bNg r n kk2))
theorem bWc (kk2 : bU) : D185 r n aMi (xs x0 0 r185) (K5 kk2 0 2 10 11 12) = D185 r n aGx (xs x0 0 r185) (K5 (dM r n kk2) 0 2 10 11 12) :=
 congrArg (fun k => D185 r n aGx (xs x0 0 r185) k) (cYj r n kk2)
theorem cHy (kk2 : bU) : D185 r n aLw (xs (xs x0 0 r185) 1 (K5 (dM r n kk2) 0 2 10 11 12)) (K5 (dM r n kk2) 0 2 10 11 12) = D185 r n bCs (xs (xs x0 0 r185) 1 (K5 (dM r n kk2) 0 2 10 11 12)) (K6 (aGf r n kk2) 0 2 7 10 11 12) :=
 congrArg (fun k => D185 r n bCs (xs (xs x0 0 r185) 1 (K5 (dM r n kk2) 0 2 10 11 12)) k) (dEl r n kk2)
theorem dAr (kk2 : bU) : D185 r n aMi (xs x0 0 r185) (K5 kk2 0 2 10 11 12) = (K5 (aYq r n kk2) 0 2 10 11 12) :=
 (bWc r n kk2).trans
 ((by kernel_rfl : D185 r n aGx (xs x0 0 r185) (K5 (dM r n kk2) 0 2 10 11 12) = D185 r n aLw (xs (xs x0 0 r185) 1 (K5 (dM r n kk2) 0 2 10 11 12)) (K5 (dM r n kk2) 0 2 10 11 12)).trans
 ((cHy r n kk2).trans
 ((by kernel_rfl))))
theorem cEo (kk2 : bU) : D185 r n aEj (xs x0 0 r185) (K5 kk2 0 2 10 11 12) = D185 r n bDi (xs x0 0 r185) (K5 (aYq r n kk2) 0 2 10 11 12) :=
 congrArg (fun k => D185 r n bDi (xs x0 0 r185) k) (dAr r n kk2)
theorem cYk (kk2 : bU) : D185 r n aEj (xs x0 0 r185) (K5 kk2 0 2 10 11 12) = (K6 (aTv r n kk2) 0 2 10 11 12 13) :=
 (cEo r n kk2).trans
 ((by kernel_rfl))
theorem cJm (kk2 : bU) : D185 r n kX (xs x0 0 r185) (K5 kk2 0 2 10 11 12) = D185 r n bCk (xs x0 0 r185) (K6 (aTv r n kk2) 0 2 10 11 12 13) :=
 congrArg (fun k => D185 r n bCk (xs x0 0 r185) k) (cYk r n kk2)
theorem cOc (kk2 : bU) : D185 r n kX (xs x0 0 r185) (K5 kk2 0 2 10 11 12) = (K5 (bCg r n kk2) 0 2 10 11 12) :=
 (cJm r n kk2).trans
 ((by kernel_rfl))
theorem cBy (m : Nat) : aL (fun kk => D185 r n kX (xs x0 0 r185) kk) m = (K5 (xH r n m) 0 2 10 11 12) := by
 induction m with
 | zero => exact (by kernel_rfl : aL (fun kk => D185 r n kX (xs x0 0 r185) kk) 0 = (K5 (xH r n 0) 0 2 10 11 12))
 | succ m ih =>
  refine (by kernel_rfl : aL (fun kk => D185 r n kX (xs x0 0 r185) kk) (m + 1) = D185 r n kX (xs x0 0 r185) (aL (fun kk => D185 r n kX (xs x0 0 r185) kk) m)).trans ?_
  rw [ih]
  exact (cOc r n (xH r n m)).trans (by kernel_rfl)
theorem dDt : D185 r n aOf (xs x0 0 r185) r185 = (K5 (cGi r n) 0 2 10 11 12) :=
 (by kernel_rfl : D185 r n aOf (xs x0 0 r185) r185 = aL (fun kk => D185 r n kX (xs x0 0 r185) kk) n).trans ((cBy r n n).trans (by kernel_rfl))
theorem dBy : D185 r n aYy x0 r185 = (K5 (aYd r n) 0 2 10 11 12) :=
 (by kernel_rfl : D185 r n aYy x0 r185 = D185 r n aOf (xs x0 0 r185) r185).trans
 ((dDt r n).trans (by kernel_rfl))
theorem dTp : D185 r n c185 x0 r185 = D185 r n bHx x0 (K5 (aYd r n) 0 2 10 11 12) :=
 congrArg (fun k => D185 r n bHx x0 k) (dBy r n)
theorem eBu : D185 r n c185 x0 r185 = (K3 (s185 r n) 0 1 2) :=
 (dTp r n).trans
 ((by kernel_rfl))
theorem dNg : aE CF r n 185 args h = s185 r n (aO args 0) (aO args 1) (aO args 2) h :=
 (by kernel_rfl : aE CF r n 185 args h = D185 r n c185 x0 r185 (aI args) h).trans ((congrFun (congrFun (eBu r n) (aI args)) h).trans (by kernel_rfl))
noncomputable def sV (r : RT) (n : Nat) (x0 x3 x11 x14 : DV) (h0 : Hp) : aK :=
 aU x14 (
 bnd (aG 6 x3 h0) fun v1 h1 =>
 bnd (r 215 [x0, v1] h1) fun v2 h2 =>
 bnd (lV [x0, v2] h2) fun v3 h3 =>
 bnd (r 187 [x0, (aD 6), v3, (aD 0)] h3) fun v4 h4 =>
 some (.t [], h4)) (
 bnd (aF .eql x11 (aD 5) h0) fun v5 h5 =>
 aU v5 (
 bnd (aB 1 x3 h5) fun v6 h6 =>
 bnd (aA v6 h6) fun v7 h7 =>
 bnd (r 216 [x0, v7] h7) fun v8 h8 =>
 some (.t [], h8)) (
 bnd (aF .eql x11 (aD 6) h5) fun v9 h9 =>
 aU v9 (
 bnd (aG 6 x3 h9) fun v10 h10 =>
 bnd (r 217 [x0, v10] h10) fun v11 h11 =>
 some (.t [], h11)) (
 bnd (aF .eql x11 (aD 7) h9) fun v12 h12 =>
 aU v12 (
 bnd (aG 6 x3 h12) fun v13 h13 =>
 bnd (r 218 [x0, v13] h13) fun v14 h14 =>
 some (.t [], h14)) (
 bnd (aF .eql x11 (aD 8) h12) fun v15 h15 =>
 aU v15 (
 bnd (aG 6 x3 h15) fun v16 h16 =>
 bnd (r 219 [x0, v16] h16) fun v17 h17 =>
 some (.t [], h17)) (
 bnd (aF .eql x11 (aD 9) h15) fun v18 h18 =>
 aU v18 (
 bnd (aQ x0 h18) fun v19 h19 =>
 bnd (aB 0 v19 h19) fun v20 h20 =>
 bnd (aB 2 v20 h20) fun v21 h21 =>
 bnd (aA v21 h21) fun v22 h22 =>
 bnd (aB 3 x3 h22) fun v23 h23 =>
 bnd (aA v23 h23) fun v24 h24 =>
 bnd (bO v24 h24) fun v25 h25 =>
 bnd (r 187 [x0, (aD 18), v22, v25] h25) fun v26 h26 =>
 bnd (r 220 [x0, (aD 16)] h26) fun v27 h27 =>
 bnd (aG 6 x3 h27) fun v28 h28 =>
 bnd (r 221 [x0, v28] h28) fun v29 h29 =>
 bnd (r 187 [x0, (aD 19), (aD 0), (aD 0)] h29) fun v30 h30 =>
 bnd (dF CF r v27 [] h30) fun v31 h31 =>
 some (.t [], h31)) (
 bnd (aF .eql x11 (aD 10) h18) fun v32 h32 =>
 aU v32 (
 bnd (aG 6 x3 h32) fun v33 h33 =>
 bnd (r 222 [x0, v33] h33) fun v34 h34 =>
 aU v34 (
 bnd (aB 5 x3 h34) fun v35 h35 =>
 bnd (aA v35 h35) fun v36 h36 =>
 bnd (aJ 6 v36 (aD 0) h36) fun v37 h37 =>
 bnd (aG 6 v37 h37) fun v38 h38 =>
 bnd (r 186 [x0, v38] h38) fun v39 h39 =>
 bnd (r 187 [x0, (aD 20), (aD 0), (aD 0)] h39) fun v40 h40 =>
 some (.t [], h40)) (
 some (.t [], h34))) (
 bnd (r 213 [x0, (.s []), (aD 1)] h32) fun v41 h41 =>
 some (.t [], h41))))))))
noncomputable def aWl (r : RT) (n : Nat) (x0 x3 x11 : DV) (h0 : Hp) : aK :=
 bnd (aF .eql x11 (aD 1) h0) fun v1 h1 =>
 aU v1 (
  sV r n x0 x3 x11 v1 h1) (
 bnd (aF .eql x11 (aD 2) h1) fun v2 h2 =>
 aU v2 (
   sV r n x0 x3 x11 v2 h2) (
 bnd (aF .eql x11 (aD 3) h2) fun v3 h3 =>
 aU v3 (
    sV r n x0 x3 x11 v3 h3) (
 bnd (aF .eql x11 (aD 4) h3) fun v4 h4 =>
    sV r n x0 x3 x11 v4 h4)))
noncomputable def aZv (r : RT) (n : Nat) (x0 x3 : DV) (h0 : Hp) : aK :=
 bnd (aB 0 x3 h0) fun v1 h1 =>
 bnd (aA v1 h1) fun v2 h2 =>
  aWl r n x0 x3 v2 h2
noncomputable def aBs (r : RT) (n : Nat) (x0 x3 : DV) (h0 : Hp) : aK :=
 bnd (aQ x0 h0) fun v1 h1 =>
 bnd (aB 8 v1 h1) fun v2 h2 =>
 bnd (aA v2 h2) fun v3 h3 =>
 bnd (aF .neq v3 (aD 0) h3) fun v4 h4 =>
 aU v4 (
 some (.t [], h4)) (
  aZv r n x0 x3 h4)
noncomputable def s186 (r : RT) (n : Nat) (x0 x1 : DV) (h0 : Hp) : aK :=
 bnd (bJ x1 h0) fun v1 h1 =>
  aBs r n x0 v1 h1
noncomputable abbrev c186 : Code := cf Tryz.f186
noncomputable abbrev aPl : Code := cR c186
noncomputable abbrev aPr : Code := cR aPl
noncomputable abbrev aUy : Code := cR aPr
noncomputable abbrev aJs : Code := cL aUy
noncomputable abbrev dUc : Code := cR aJs
noncomputable abbrev cMq : Code := cL aJs
noncomputable abbrev cIk : Code := cL aPr
noncomputable abbrev bWk : Code := cL aPl
noncomputable abbrev aTs : Code := cL c186
noncomputable abbrev r186 : K := aR CF Tryz.f186
noncomputable def D186 (r : RT) (n : Nat) (c : Code) (X : Nat → K) (k : K) : K := aM CF r 81 n c X r186 k
theorem dHa : D186 r n dUc (xs x0 0 r186) r186 = (K4 (sV r n) 0 3 11 14) :=
 (by kernel_rfl)
theorem bRa : D186 r n aJs (xs x0 0 r186) r186 = D186 r n cMq (xs x0 0 r186) (K4 (sV r n) 0 3 11 14) :=
 congrArg (fun k => D186 r n cMq (xs x0 0 r186) k) (dHa r n)
theorem cTi : D186 r n aUy x0 r186 = (K3 (aWl r n) 0 3 11) :=
 (by kernel_rfl : D186 r n aUy x0 r186 = D186 r n aJs (xs x0 0 r186) r186).trans
 ((bRa r n).trans
 ((by kernel_rfl)))
theorem cLx : D186 r n aPr x0 r186 = D186 r n cIk x0 (K3 (aWl r n) 0 3 11) :=
 congrArg (fun k => D186 r n cIk x0 k) (cTi r n)
theorem dAd : D186 r n aPr x0 r186 = (K2 (aZv r n) 0 3) :=
 (cLx r n).trans
 ((by kernel_rfl))
theorem bRq : D186 r n aPl x0 r186 = D186 r n bWk x0 (K2 (aZv r n) 0 3) :=
 congrArg (fun k => D186 r n bWk x0 k) (dAd r n)
theorem dDq : D186 r n aPl x0 r186 = (K2 (aBs r n) 0 3) :=
 (bRq r n).trans
 ((by kernel_rfl))
theorem dJq : D186 r n c186 x0 r186 = D186 r n aTs x0 (K2 (aBs r n) 0 3) :=
 congrArg (fun k => D186 r n aTs x0 k) (dDq r n)
theorem dVa (q0 : eK) : D186 r n aTs x0 (K2 q0 0 3) = fun (env : bB) (h : Hp) =>
 bnd (bJ (env 1) h) fun v1 h1 =>
  q0 (env 0) v1 h1 := by kernel_rfl
theorem cXq : (fun (env : bB) (h : Hp) =>
 bnd (bJ (env 1) h) fun v1 h1 =>
  aBs r n (env 0) v1 h1) = (K2 (s186 r n) 0 1) := by kernel_rfl
theorem eBi : D186 r n c186 x0 r186 = (K2 (s186 r n) 0 1) :=
 (dJq r n).trans
 ((dVa r n (aBs r n)).trans (cXq r n))
theorem dSy : aE CF r n 186 args h = s186 r n (aO args 0) (aO args 1) h :=
 (by kernel_rfl : aE CF r n 186 args h = D186 r n c186 x0 r186 (aI args) h).trans ((congrFun (congrFun (eBi r n) (aI args)) h).trans (by kernel_rfl))
noncomputable def s187 (r : RT) (n : Nat) (x0 x1 x2 x3 : DV) (h0 : Hp) : aK :=
 bnd (aQ x0 h0) fun v1 h1 =>
 bnd (aB 0 v1 h1) fun v2 h2 =>
 bnd (aB 5 v2 h2) fun v3 h3 =>
 bnd (aA v3 h3) fun v4 h4 =>
 bnd (aS [(aD 0), (aD 0), (aD 0)] [(0, 1, x1), (1, 1, x2), (2, 1, x3)] h4) fun v5 h5 =>
 bnd (aN [(aD 0), (aD 0), (aD 0)] 1 [(0, 3, v5)] h5) fun v6 h6 =>
 bnd (aY 3 24 v4 v6 h6) fun v7 h7 =>
 bnd (aQ x0 h7) fun v8 h8 =>
 bnd (aB 0 v8 h8) fun v9 h9 =>
 bnd (aB 5 v9 h9) fun v10 h10 =>
 bnd (aC 1 v10 v7 h10) fun _ h11 =>
 some (.t [], h11)
noncomputable abbrev c187 : Code := cf Tryz.f187
noncomputable abbrev r187 : K := aR CF Tryz.f187
noncomputable def D187 (r : RT) (n : Nat) (c : Code) (X : Nat → K) (k : K) : K := aM CF r 23 n c X r187 k
theorem eEs : D187 r n c187 x0 r187 = (K4 (s187 r n) 0 1 2 3) :=
 (by kernel_rfl)
theorem dKu : aE CF r n 187 args h = s187 r n (aO args 0) (aO args 1) (aO args 2) (aO args 3) h :=
 (by kernel_rfl : aE CF r n 187 args h = D187 r n c187 x0 r187 (aI args) h).trans ((congrFun (congrFun (eEs r n) (aI args)) h).trans (by kernel_rfl))
noncomputable def s188 (r : RT) (n : Nat) (x0 : DV) (h0 : Hp) : aK :=
 bnd (aF .eql x0 (aD 16) h0) fun v1 h1 =>
 bnd (gD v1 false (some (x0, h1)) h1) fun v2 h2 =>
 bnd (gD v1 false (aF .eql v2 (aD 17) h2) h2) fun v3 h3 =>
 bnd (aP v1 (.b true) v3 h3) fun v4 h4 =>
 some (v4, h4)
noncomputable abbrev c188 : Code := cf Tryz.f188
noncomputable abbrev r188 : K := aR CF Tryz.f188
noncomputable def D188 (r : RT) (n : Nat) (c : Code) (X : Nat → K) (k : K) : K := aM CF r 9 n c X r188 k
theorem eBq : D188 r n c188 x0 r188 = (K1 (s188 r n) 0) :=
 (by kernel_rfl)
theorem dTl : aE CF r n 188 args h = s188 r n (aO args 0) h :=
 (by kernel_rfl : aE CF r n 188 args h = D188 r n c188 x0 r188 (aI args) h).trans ((congrFun (congrFun (eBq r n) (aI args)) h).trans (by kernel_rfl))
end Go.Dd

namespace Go.Dd
open Go.Proofs
variable (r : RT) (n : Nat) (args : List DV) (h : Hp)
end Go.Dd

