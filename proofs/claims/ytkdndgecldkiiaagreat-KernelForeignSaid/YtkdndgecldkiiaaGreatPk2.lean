/- A part of the proof: Q2 Q3 Q4 Q5 Q6 Q7 Q8: each text has a comment of its own. -/
import Derived.Test.YtkdndgecldkiiaaGreatPk1
set_option linter.unusedVariables false
set_option linter.unusedSimpArgs false
set_option linter.constructorNameAsVariable false
set_option maxRecDepth 100000
namespace Go.Dd
open Go.Proofs
variable (r : RT) (n : Nat) (args : List DV) (h : Hp)
noncomputable def s63 (r : RT) (n : Nat) (x0 x1 : DV) (h0 : Hp) : aG :=
 bnd (bS x0 h0) fun v1 h1 =>
 bnd (aK 6 v1 h1) fun v2 h2 =>
 bnd (r 116 [v2, x1] h2) fun v3 h3 =>
 bnd (aC 0 v3 h3) fun v4 h4 =>
 bnd (aC 1 v3 h4) fun v5 h5 =>
 some (v5, h5)
noncomputable abbrev c63 : Code := cf Tryz.f63
noncomputable abbrev r63 : K := aQ CF Tryz.f63
noncomputable def D63 (r : RT) (n : Nat) (c : Code) (X : Nat → K) (k : K) : K := aM CF r 14 n c X r63 k
theorem dFf : D63 r n c63 x0 r63 = (K2 (s63 r n) 0 1) :=
 (by kernel_rfl)
theorem dBi : aF CF r n 63 args h = s63 r n (aT args 0) (aT args 1) h :=
 (by kernel_rfl : aF CF r n 63 args h = D63 r n c63 x0 r63 (aJ args) h).trans ((congrFun (congrFun (dFf r n) (aJ args)) h).trans (by kernel_rfl))
noncomputable def fM (r : RT) (n : Nat) (x0 x6 : DV) (h0 : Hp) : aG :=
 bnd (r 36 [x0, x6] h0) fun v1 h1 =>
 bnd (aC 0 v1 h1) fun v2 h2 =>
 bnd (aC 1 v1 h2) fun v3 h3 =>
 some (.t [v2, v3], h3)
noncomputable def aKa (r : RT) (n : Nat) (kk6 : bX) (x0 x6 x38 x39 x40 : DV) (h0 : Hp) : aG :=
 bnd (aD .lss x40 x39 h0) fun v1 h1 =>
 aU v1 (
 bnd (aI 4 x38 x40 h1) fun v2 h2 =>
 bnd (aK 4 v2 h2) fun v3 h3 =>
 bnd (bJ [(aH 0), (.s []), (aH 0), .l0] h3) fun v4 h4 =>
 bnd (aE 4 v4 v3 h4) fun _ h5 =>
 bnd (aK 4 v4 h5) fun v6 h6 =>
 bnd (r 64 [x0, v6] h6) fun v7 h7 =>
 bnd (aC 0 v7 h7) fun v8 h8 =>
 bnd (aC 1 v7 h8) fun v9 h9 =>
 bnd (aD .neq v9 (aH 0) h9) fun v10 h10 =>
 aU v10 (
 some (.t [(aH 0), v9], h10)) (
 bnd (aN [(aH 0)] 1 [(0, 1, v8)] h10) fun v11 h11 =>
 bnd (aW 1 8 x6 v11 h11) fun v12 h12 =>
 bnd (aD .add x40 (aH 1) h12) fun v13 h13 =>
    kk6 x0 v12 x38 x39 v13 h13)) (
      fM r n x0 x6 h1)
noncomputable def aEh (r : RT) (n : Nat) (m : Nat) : bX :=
 Nat.rec (motive := fun _ => bX) (fun _ _ _ _ _ _ => none) (fun _ ih => aKa r n ih) m
noncomputable def cId (r : RT) (n : Nat) : bX := aEh r n n
noncomputable def bRc (r : RT) (n : Nat) (x0 x6 x38 x39 x40 : DV) (h0 : Hp) : aG :=
 cId r n x0 x6 x38 x39 x40 h0
noncomputable def bSc (r : RT) (n : Nat) (x0 x3 x6 : DV) (h0 : Hp) : aG :=
 bnd (aB 3 x3 h0) fun v1 h1 =>
 bnd (aA v1 h1) fun v2 h2 =>
 bnd (bQ v2 h2) fun v3 h3 =>
  bRc r n x0 x6 v2 v3 (aH 0) h3
noncomputable def bLx (r : RT) (n : Nat) (x0 x3 : DV) (h0 : Hp) : aG :=
 bSc r n x0 x3 .l0 h0
noncomputable def aJt (r : RT) (n : Nat) (x0 x3 : DV) (h0 : Hp) : aG :=
 bnd (aB 0 x3 h0) fun v1 h1 =>
 bnd (aA v1 h1) fun v2 h2 =>
 bnd (aD .eql v2 (aH 1) h2) fun v3 h3 =>
 aU v3 (
 bnd (aB 2 x3 h3) fun v4 h4 =>
 bnd (aA v4 h4) fun v5 h5 =>
 bnd (r 60 [x0, v5] h5) fun v6 h6 =>
 bnd (aC 0 v6 h6) fun v7 h7 =>
 bnd (aC 1 v6 h7) fun v8 h8 =>
 some (.t [v7, v8], h8)) (
 bnd (aD .eql v2 (aH 2) h3) fun v9 h9 =>
 aU v9 (
 bnd (aB 1 x3 h9) fun v10 h10 =>
 bnd (aA v10 h10) fun v11 h11 =>
 bnd (r 117 [x0, v11] h11) fun v12 h12 =>
 bnd (aC 0 v12 h12) fun v13 h13 =>
 bnd (aC 1 v12 h13) fun v14 h14 =>
 some (.t [v13, v14], h14)) (
 bnd (aD .eql v2 (aH 3) h9) fun v15 h15 =>
 aU v15 (
 bnd (aB 1 x3 h15) fun v16 h16 =>
 bnd (aA v16 h16) fun v17 h17 =>
 bnd (r 10 [x0, v17] h17) fun v18 h18 =>
 bnd (aC 0 v18 h18) fun v19 h19 =>
 bnd (aC 1 v18 h19) fun v20 h20 =>
 some (.t [v19, v20], h20)) (
    bLx r n x0 x3 h15)))
noncomputable def s64 (r : RT) (n : Nat) (x0 x1 : DV) (h0 : Hp) : aG :=
 bnd (bS x1 h0) fun v1 h1 =>
  aJt r n x0 v1 h1
noncomputable abbrev c64 : Code := cf Tryz.f64
noncomputable abbrev aSp : Code := cR c64
noncomputable abbrev aTf : Code := cR aSp
noncomputable abbrev aSc : Code := cR aTf
noncomputable abbrev cWw : Code := cR aSc
noncomputable abbrev aIq : Code := cL aSc
noncomputable abbrev bFv : Code := cR aIq
noncomputable abbrev aWs : Code := cL bFv
noncomputable abbrev qZ : Code := cL aWs
noncomputable abbrev cIn : Code := cL aIq
noncomputable abbrev bRh : Code := cL aTf
noncomputable abbrev bKp : Code := cL aSp
noncomputable abbrev aNz : Code := cL c64
noncomputable abbrev r64 : K := aQ CF Tryz.f64
noncomputable def D64 (r : RT) (n : Nat) (c : Code) (X : Nat → K) (k : K) : K := aM CF r 63 n c X r64 k
theorem cUg : D64 r n cWw x0 r64 = (K2 (fM r n) 0 6) :=
 (by kernel_rfl)
theorem bZj (kk6 : bX) (q0 : gP) : D64 r n qZ (xs x0 1 (K2 q0 0 6)) (K5 kk6 0 6 38 39 40) = fun (env : aS) (h : Hp) =>
 bnd (aD .lss (env 40) (env 39) h) fun v1 h1 =>
 aU v1 (
 bnd (aI 4 (env 38) (env 40) h1) fun v2 h2 =>
 bnd (aK 4 v2 h2) fun v3 h3 =>
 bnd (bJ [(aH 0), (.s []), (aH 0), .l0] h3) fun v4 h4 =>
 bnd (aE 4 v4 v3 h4) fun _ h5 =>
 bnd (aK 4 v4 h5) fun v6 h6 =>
 bnd (r 64 [(env 0), v6] h6) fun v7 h7 =>
 bnd (aC 0 v7 h7) fun v8 h8 =>
 bnd (aC 1 v7 h8) fun v9 h9 =>
 bnd (aD .neq v9 (aH 0) h9) fun v10 h10 =>
 aU v10 (
 some (.t [(aH 0), v9], h10)) (
 bnd (aN [(aH 0)] 1 [(0, 1, v8)] h10) fun v11 h11 =>
 bnd (aW 1 8 (env 6) v11 h11) fun v12 h12 =>
 bnd (aD .add (env 40) (aH 1) h12) fun v13 h13 =>
    kk6 (env 0) v12 (env 38) (env 39) v13 h13)) (
      q0 (env 0) (env 6) h1) := by kernel_rfl
theorem bNs (kk6 : bX) : (fun (env : aS) (h : Hp) =>
 bnd (aD .lss (env 40) (env 39) h) fun v1 h1 =>
 aU v1 (
 bnd (aI 4 (env 38) (env 40) h1) fun v2 h2 =>
 bnd (aK 4 v2 h2) fun v3 h3 =>
 bnd (bJ [(aH 0), (.s []), (aH 0), .l0] h3) fun v4 h4 =>
 bnd (aE 4 v4 v3 h4) fun _ h5 =>
 bnd (aK 4 v4 h5) fun v6 h6 =>
 bnd (r 64 [(env 0), v6] h6) fun v7 h7 =>
 bnd (aC 0 v7 h7) fun v8 h8 =>
 bnd (aC 1 v7 h8) fun v9 h9 =>
 bnd (aD .neq v9 (aH 0) h9) fun v10 h10 =>
 aU v10 (
 some (.t [(aH 0), v9], h10)) (
 bnd (aN [(aH 0)] 1 [(0, 1, v8)] h10) fun v11 h11 =>
 bnd (aW 1 8 (env 6) v11 h11) fun v12 h12 =>
 bnd (aD .add (env 40) (aH 1) h12) fun v13 h13 =>
    kk6 (env 0) v12 (env 38) (env 39) v13 h13)) (
      fM r n (env 0) (env 6) h1)) = (K5 (aKa r n kk6) 0 6 38 39 40) := by kernel_rfl
theorem cFo (kk6 : bX) : D64 r n qZ (xs x0 1 (K2 (fM r n) 0 6)) (K5 kk6 0 6 38 39 40) = (K5 (aKa r n kk6) 0 6 38 39 40) :=
 (bZj r n kk6 (fM r n)).trans (bNs r n kk6)
theorem cHl (m : Nat) : aL (fun kk => D64 r n qZ (xs x0 1 (K2 (fM r n) 0 6)) kk) m = (K5 (aEh r n m) 0 6 38 39 40) := by
 induction m with
 | zero => exact (by kernel_rfl : aL (fun kk => D64 r n qZ (xs x0 1 (K2 (fM r n) 0 6)) kk) 0 = (K5 (aEh r n 0) 0 6 38 39 40))
 | succ m ih =>
  refine (by kernel_rfl : aL (fun kk => D64 r n qZ (xs x0 1 (K2 (fM r n) 0 6)) kk) (m + 1) = D64 r n qZ (xs x0 1 (K2 (fM r n) 0 6)) (aL (fun kk => D64 r n qZ (xs x0 1 (K2 (fM r n) 0 6)) kk) m)).trans ?_
  rw [ih]
  exact (cFo r n (aEh r n m)).trans (by kernel_rfl)
theorem cPw : D64 r n aWs (xs x0 1 (K2 (fM r n) 0 6)) (K2 (fM r n) 0 6) = (K5 (cId r n) 0 6 38 39 40) :=
 (by kernel_rfl : D64 r n aWs (xs x0 1 (K2 (fM r n) 0 6)) (K2 (fM r n) 0 6) = aL (fun kk => D64 r n qZ (xs x0 1 (K2 (fM r n) 0 6)) kk) n).trans ((cHl r n n).trans (by kernel_rfl))
theorem cSb : D64 r n bFv x0 (K2 (fM r n) 0 6) = (K5 (bRc r n) 0 6 38 39 40) :=
 (by kernel_rfl : D64 r n bFv x0 (K2 (fM r n) 0 6) = D64 r n aWs (xs x0 1 (K2 (fM r n) 0 6)) (K2 (fM r n) 0 6)).trans
 ((cPw r n).trans (by kernel_rfl))
theorem cDm : D64 r n aSc x0 r64 = D64 r n aIq x0 (K2 (fM r n) 0 6) :=
 congrArg (fun k => D64 r n aIq x0 k) (cUg r n)
theorem bYc : D64 r n aIq x0 (K2 (fM r n) 0 6) = D64 r n cIn x0 (K5 (bRc r n) 0 6 38 39 40) :=
 congrArg (fun k => D64 r n cIn x0 k) (cSb r n)
theorem cKa : D64 r n aSc x0 r64 = (K3 (bSc r n) 0 3 6) :=
 (cDm r n).trans
 ((bYc r n).trans
 ((by kernel_rfl)))
theorem bXd : D64 r n aTf x0 r64 = D64 r n bRh x0 (K3 (bSc r n) 0 3 6) :=
 congrArg (fun k => D64 r n bRh x0 k) (cKa r n)
theorem cUk : D64 r n aTf x0 r64 = (K2 (bLx r n) 0 3) :=
 (bXd r n).trans
 ((by kernel_rfl))
theorem bWz : D64 r n aSp x0 r64 = D64 r n bKp x0 (K2 (bLx r n) 0 3) :=
 congrArg (fun k => D64 r n bKp x0 k) (cUk r n)
theorem cSd : D64 r n aSp x0 r64 = (K2 (aJt r n) 0 3) :=
 (bWz r n).trans
 ((by kernel_rfl))
theorem cYc : D64 r n c64 x0 r64 = D64 r n aNz x0 (K2 (aJt r n) 0 3) :=
 congrArg (fun k => D64 r n aNz x0 k) (cSd r n)
theorem dAx (q0 : gP) : D64 r n aNz x0 (K2 q0 0 3) = fun (env : aS) (h : Hp) =>
 bnd (bS (env 1) h) fun v1 h1 =>
  q0 (env 0) v1 h1 := by kernel_rfl
theorem cNp : (fun (env : aS) (h : Hp) =>
 bnd (bS (env 1) h) fun v1 h1 =>
  aJt r n (env 0) v1 h1) = (K2 (s64 r n) 0 1) := by kernel_rfl
theorem dHb : D64 r n c64 x0 r64 = (K2 (s64 r n) 0 1) :=
 (cYc r n).trans
 ((dAx r n (aJt r n)).trans (cNp r n))
theorem cVk : aF CF r n 64 args h = s64 r n (aT args 0) (aT args 1) h :=
 (by kernel_rfl : aF CF r n 64 args h = D64 r n c64 x0 r64 (aJ args) h).trans ((congrFun (congrFun (dHb r n) (aJ args)) h).trans (by kernel_rfl))
noncomputable def s71 (r : RT) (n : Nat) (x0 x1 : DV) (h0 : Hp) : aG :=
 bnd (iA [x1] h0) fun v1 h1 =>
 aU v1 (
 bnd (lI [x1] h1) fun v2 h2 =>
 some (.t [v2, (.b true)], h2)) (
 bnd (aP x0 h1) fun v3 h3 =>
 bnd (aB 0 v3 h3) fun v4 h4 =>
 bnd (aA v4 h4) fun v5 h5 =>
 bnd (isF [v5, x1] h5) fun v6 h6 =>
 bnd (gD v6 true (some (x0, h6)) h6) fun v7 h7 =>
 bnd (gD v6 true (aP v7 h7) h7) fun v8 h8 =>
 bnd (gD v6 true (aB 0 v8 h8) h8) fun v9 h9 =>
 bnd (gD v6 true (aA v9 h9) h9) fun v10 h10 =>
 bnd (gD v6 true (some (x1, h10)) h10) fun v11 h11 =>
 bnd (gD v6 true (fH [v10, v11] h11) h11) fun v12 h12 =>
 bnd (gD v6 true (some (x0, h12)) h12) fun v13 h13 =>
 bnd (gD v6 true (r 34 [v13, (aH 8)] h13) h13) fun v14 h14 =>
 bnd (gD v6 true (aD .eql v12 v14 h14) h14) fun v15 h15 =>
 bnd (aO v6 v15 (.b false) h15) fun v16 h16 =>
 bnd (gD v16 true (some (x0, h16)) h16) fun v17 h17 =>
 bnd (gD v16 true (aP v17 h17) h17) fun v18 h18 =>
 bnd (gD v16 true (aB 0 v18 h18) h18) fun v19 h19 =>
 bnd (gD v16 true (aA v19 h19) h19) fun v20 h20 =>
 bnd (gD v16 true (some (x1, h20)) h20) fun v21 h21 =>
 bnd (gD v16 true (fN [v20, v21] h21) h21) fun v22 h22 =>
 bnd (gD v16 true (aD .eql v22 (aH 1) h22) h22) fun v23 h23 =>
 bnd (aO v16 v23 (.b false) h23) fun v24 h24 =>
 aU v24 (
 bnd (r 111 [x0, x1, (aH 0)] h24) fun v25 h25 =>
 some (.t [v25, (.b true)], h25)) (
 some (.t [(aH 0), (.b false)], h24)))
noncomputable abbrev c71 : Code := cf Tryz.f71
noncomputable abbrev r71 : K := aQ CF Tryz.f71
noncomputable def D71 (r : RT) (n : Nat) (c : Code) (X : Nat → K) (k : K) : K := aM CF r 41 n c X r71 k
theorem dHa : D71 r n c71 x0 r71 = (K2 (s71 r n) 0 1) :=
 (by kernel_rfl)
theorem dBf : aF CF r n 71 args h = s71 r n (aT args 0) (aT args 1) h :=
 (by kernel_rfl : aF CF r n 71 args h = D71 r n c71 x0 r71 (aJ args) h).trans ((congrFun (congrFun (dHa r n) (aJ args)) h).trans (by kernel_rfl))
noncomputable def fI (r : RT) (n : Nat) (x7 : DV) (h0 : Hp) : aG :=
 bnd (gH x7 h0) fun v1 h1 =>
 some (.t [v1, (.b true)], h1)
noncomputable def aPe (r : RT) (n : Nat) (kk7 : bX) (x0 x1 x7 x48 x49 : DV) (h0 : Hp) : aG :=
 bnd (aD .lss x49 x48 h0) fun v1 h1 =>
 aU v1 (
 bnd (r 111 [x0, x1, x49] h1) fun v2 h2 =>
 bnd (eB .u8 v2 h2) fun v3 h3 =>
 bnd (aN [(.i .u8 (Int.ofNat 0))] 1 [(0, 1, v3)] h3) fun v4 h4 =>
 bnd (aW 1 1 x7 v4 h4) fun v5 h5 =>
 bnd (aD .add x49 (.i .i64 (Int.ofNat 1)) h5) fun v6 h6 =>
      kk7 x0 x1 v5 x48 v6 h6) (
      fI r n x7 h1)
noncomputable def aAp (r : RT) (n : Nat) (m : Nat) : bX :=
 Nat.rec (motive := fun _ => bX) (fun _ _ _ _ _ _ => none) (fun _ ih => aPe r n ih) m
noncomputable def cJn (r : RT) (n : Nat) : bX := aAp r n n
noncomputable def bSd (r : RT) (n : Nat) (x0 x1 x7 x48 x49 : DV) (h0 : Hp) : aG :=
 cJn r n x0 x1 x7 x48 x49 h0
noncomputable def bIs (r : RT) (n : Nat) (x0 x1 x7 : DV) (h0 : Hp) : aG :=
 bnd (aP x0 h0) fun v1 h1 =>
 bnd (aB 0 v1 h1) fun v2 h2 =>
 bnd (aA v2 h2) fun v3 h3 =>
 bnd (fO [v3, x1] h3) fun v4 h4 =>
  bSd r n x0 x1 x7 v4 (.i .i64 (Int.ofNat 0)) h4
noncomputable def bMt (r : RT) (n : Nat) (x0 x1 : DV) (h0 : Hp) : aG :=
 bIs r n x0 x1 .l0 h0
noncomputable def aRm (r : RT) (n : Nat) (x0 x1 x6 : DV) (h0 : Hp) : aG :=
 bnd (aP x0 h0) fun v1 h1 =>
 bnd (aB 0 v1 h1) fun v2 h2 =>
 bnd (aA v2 h2) fun v3 h3 =>
 bnd (isF [v3, x1] h3) fun v4 h4 =>
 bnd (fL .not v4 h4) fun v5 h5 =>
 bnd (gD v5 false (some (x6, h5)) h5) fun v6 h6 =>
 bnd (gD v5 false (some (x0, h6)) h6) fun v7 h7 =>
 bnd (gD v5 false (r 34 [v7, (.i .i64 (Int.ofNat 10))] h7) h7) fun v8 h8 =>
 bnd (gD v5 false (aD .neq v6 v8 h8) h8) fun v9 h9 =>
 bnd (gD v5 false (some (v9, h9)) h9) fun v10 h10 =>
 bnd (gD v10 true (some (x6, h10)) h10) fun v11 h11 =>
 bnd (gD v10 true (some (x0, h11)) h11) fun v12 h12 =>
 bnd (gD v10 true (r 34 [v12, (.i .i64 (Int.ofNat 11))] h12) h12) fun v13 h13 =>
 bnd (gD v10 true (aD .neq v11 v13 h13) h13) fun v14 h14 =>
 bnd (gD v5 false (aO v10 v14 (.b false) h14) h14) fun v15 h15 =>
 bnd (aO v5 (.b true) v15 h15) fun v16 h16 =>
 bnd (gD v16 false (some (x0, h16)) h16) fun v17 h17 =>
 bnd (gD v16 false (aP v17 h17) h17) fun v18 h18 =>
 bnd (gD v16 false (aB 0 v18 h18) h18) fun v19 h19 =>
 bnd (gD v16 false (aA v19 h19) h19) fun v20 h20 =>
 bnd (gD v16 false (some (x1, h20)) h20) fun v21 h21 =>
 bnd (gD v16 false (fN [v20, v21] h21) h21) fun v22 h22 =>
 bnd (gD v16 false (aD .neq v22 (.i .i64 (Int.ofNat 2)) h22) h22) fun v23 h23 =>
 bnd (aO v16 (.b true) v23 h23) fun v24 h24 =>
 aU v24 (
 some (.t [(.s []), (.b false)], h24)) (
  bMt r n x0 x1 h24)
noncomputable def aHj (r : RT) (n : Nat) (x0 x1 : DV) (h0 : Hp) : aG :=
 bnd (aP x0 h0) fun v1 h1 =>
 bnd (aB 0 v1 h1) fun v2 h2 =>
 bnd (aA v2 h2) fun v3 h3 =>
 bnd (fH [v3, x1] h3) fun v4 h4 =>
  aRm r n x0 x1 v4 h4
noncomputable def s72 (r : RT) (n : Nat) (x0 x1 : DV) (h0 : Hp) : aG :=
 aHj r n x0 x1 h0
noncomputable abbrev c72 : Code := cf Tryz.f72
noncomputable abbrev aVv : Code := cR c72
noncomputable abbrev aQv : Code := cR aVv
noncomputable abbrev aWk : Code := cR aQv
noncomputable abbrev aQy : Code := cR aWk
noncomputable abbrev dBr : Code := cR aQy
noncomputable abbrev aIf : Code := cL aQy
noncomputable abbrev bQr : Code := cR aIf
noncomputable abbrev aTz : Code := cL bQr
noncomputable abbrev qV : Code := cL aTz
noncomputable abbrev bGc : Code := cL aIf
noncomputable abbrev bNm : Code := cL aWk
noncomputable abbrev bSi : Code := cL aQv
noncomputable abbrev bCv : Code := cL aVv
noncomputable abbrev bDt : Code := cL c72
noncomputable abbrev r72 : K := aQ CF Tryz.f72
noncomputable def D72 (r : RT) (n : Nat) (c : Code) (X : Nat → K) (k : K) : K := aM CF r 63 n c X r72 k
theorem cNx : D72 r n dBr x0 r72 = (K1 (fI r n) 7) :=
 (by kernel_rfl)
theorem cBb (kk7 : bX) (q0 : TT1) : D72 r n qV (xs x0 0 (K1 q0 7)) (K5 kk7 0 1 7 48 49) = fun (env : aS) (h : Hp) =>
 bnd (aD .lss (env 49) (env 48) h) fun v1 h1 =>
 aU v1 (
 bnd (r 111 [(env 0), (env 1), (env 49)] h1) fun v2 h2 =>
 bnd (eB .u8 v2 h2) fun v3 h3 =>
 bnd (aN [(.i .u8 (Int.ofNat 0))] 1 [(0, 1, v3)] h3) fun v4 h4 =>
 bnd (aW 1 1 (env 7) v4 h4) fun v5 h5 =>
 bnd (aD .add (env 49) (.i .i64 (Int.ofNat 1)) h5) fun v6 h6 =>
      kk7 (env 0) (env 1) v5 (env 48) v6 h6) (
      q0 (env 7) h1) := by kernel_rfl
theorem bCt (kk7 : bX) : (fun (env : aS) (h : Hp) =>
 bnd (aD .lss (env 49) (env 48) h) fun v1 h1 =>
 aU v1 (
 bnd (r 111 [(env 0), (env 1), (env 49)] h1) fun v2 h2 =>
 bnd (eB .u8 v2 h2) fun v3 h3 =>
 bnd (aN [(.i .u8 (Int.ofNat 0))] 1 [(0, 1, v3)] h3) fun v4 h4 =>
 bnd (aW 1 1 (env 7) v4 h4) fun v5 h5 =>
 bnd (aD .add (env 49) (.i .i64 (Int.ofNat 1)) h5) fun v6 h6 =>
      kk7 (env 0) (env 1) v5 (env 48) v6 h6) (
      fI r n (env 7) h1)) = (K5 (aPe r n kk7) 0 1 7 48 49) := by kernel_rfl
theorem cHd (kk7 : bX) : D72 r n qV (xs x0 0 (K1 (fI r n) 7)) (K5 kk7 0 1 7 48 49) = (K5 (aPe r n kk7) 0 1 7 48 49) :=
 (cBb r n kk7 (fI r n)).trans (bCt r n kk7)
theorem bXw (m : Nat) : aL (fun kk => D72 r n qV (xs x0 0 (K1 (fI r n) 7)) kk) m = (K5 (aAp r n m) 0 1 7 48 49) := by
 induction m with
 | zero => exact (by kernel_rfl : aL (fun kk => D72 r n qV (xs x0 0 (K1 (fI r n) 7)) kk) 0 = (K5 (aAp r n 0) 0 1 7 48 49))
 | succ m ih =>
  refine (by kernel_rfl : aL (fun kk => D72 r n qV (xs x0 0 (K1 (fI r n) 7)) kk) (m + 1) = D72 r n qV (xs x0 0 (K1 (fI r n) 7)) (aL (fun kk => D72 r n qV (xs x0 0 (K1 (fI r n) 7)) kk) m)).trans ?_
  rw [ih]
  exact (cHd r n (aAp r n m)).trans (by kernel_rfl)
theorem cQa : D72 r n aTz (xs x0 0 (K1 (fI r n) 7)) (K1 (fI r n) 7) = (K5 (cJn r n) 0 1 7 48 49) :=
 (by kernel_rfl : D72 r n aTz (xs x0 0 (K1 (fI r n) 7)) (K1 (fI r n) 7) = aL (fun kk => D72 r n qV (xs x0 0 (K1 (fI r n) 7)) kk) n).trans ((bXw r n n).trans (by kernel_rfl))
theorem cUz : D72 r n bQr x0 (K1 (fI r n) 7) = (K5 (bSd r n) 0 1 7 48 49) :=
 (by kernel_rfl : D72 r n bQr x0 (K1 (fI r n) 7) = D72 r n aTz (xs x0 0 (K1 (fI r n) 7)) (K1 (fI r n) 7)).trans
 ((cQa r n).trans (by kernel_rfl))
theorem cFp : D72 r n aQy x0 r72 = D72 r n aIf x0 (K1 (fI r n) 7) :=
 congrArg (fun k => D72 r n aIf x0 k) (cNx r n)
theorem cCb : D72 r n aIf x0 (K1 (fI r n) 7) = D72 r n bGc x0 (K5 (bSd r n) 0 1 7 48 49) :=
 congrArg (fun k => D72 r n bGc x0 k) (cUz r n)
theorem cTo : D72 r n aQy x0 r72 = (K3 (bIs r n) 0 1 7) :=
 (cFp r n).trans
 ((cCb r n).trans
 ((by kernel_rfl)))
theorem cAo : D72 r n aWk x0 r72 = D72 r n bNm x0 (K3 (bIs r n) 0 1 7) :=
 congrArg (fun k => D72 r n bNm x0 k) (cTo r n)
theorem cSq : D72 r n aWk x0 r72 = (K2 (bMt r n) 0 1) :=
 (cAo r n).trans
 ((by kernel_rfl))
theorem bYp : D72 r n aQv x0 r72 = D72 r n bSi x0 (K2 (bMt r n) 0 1) :=
 congrArg (fun k => D72 r n bSi x0 k) (cSq r n)
theorem cTb : D72 r n aQv x0 r72 = (K3 (aRm r n) 0 1 6) :=
 (bYp r n).trans
 ((by kernel_rfl))
theorem cBi : D72 r n aVv x0 r72 = D72 r n bCv x0 (K3 (aRm r n) 0 1 6) :=
 congrArg (fun k => D72 r n bCv x0 k) (cTb r n)
theorem cQo : D72 r n aVv x0 r72 = (K2 (aHj r n) 0 1) :=
 (cBi r n).trans
 ((by kernel_rfl))
theorem dAe : D72 r n c72 x0 r72 = D72 r n bDt x0 (K2 (aHj r n) 0 1) :=
 congrArg (fun k => D72 r n bDt x0 k) (cQo r n)
theorem dHp : D72 r n c72 x0 r72 = (K2 (s72 r n) 0 1) :=
 (dAe r n).trans
 ((by kernel_rfl))
theorem cIv : aF CF r n 72 args h = s72 r n (aT args 0) (aT args 1) h :=
 (by kernel_rfl : aF CF r n 72 args h = D72 r n c72 x0 r72 (aJ args) h).trans ((congrFun (congrFun (dHp r n) (aJ args)) h).trans (by kernel_rfl))
noncomputable def s77 (r : RT) (n : Nat) (x0 x1 : DV) (h0 : Hp) : aG :=
 bnd (r 123 [x0, x1] h0) fun v1 h1 =>
 bnd (aD .geq v1 (.i .i64 (Int.ofNat 0)) h1) fun v2 h2 =>
 some (v2, h2)
noncomputable abbrev c77 : Code := cf Tryz.f77
noncomputable abbrev r77 : K := aQ CF Tryz.f77
noncomputable def D77 (r : RT) (n : Nat) (c : Code) (X : Nat → K) (k : K) : K := aM CF r 9 n c X r77 k
theorem dEr : D77 r n c77 x0 r77 = (K2 (s77 r n) 0 1) :=
 (by kernel_rfl)
theorem cIm : aF CF r n 77 args h = s77 r n (aT args 0) (aT args 1) h :=
 (by kernel_rfl : aF CF r n 77 args h = D77 r n c77 x0 r77 (aJ args) h).trans ((congrFun (congrFun (dEr r n) (aJ args)) h).trans (by kernel_rfl))
noncomputable def s78 (r : RT) (n : Nat) (x0 x1 : DV) (h0 : Hp) : aG :=
 bnd (aA x1 h0) fun v1 h1 =>
 bnd (aIn [v1, x0] h1) fun v2 h2 =>
 bnd (fL .not v2 h2) fun v3 h3 =>
 some (v3, h3)
noncomputable abbrev c78 : Code := cf Tryz.f78
noncomputable abbrev r78 : K := aQ CF Tryz.f78
noncomputable def D78 (r : RT) (n : Nat) (c : Code) (X : Nat → K) (k : K) : K := aM CF r 8 n c X r78 k
theorem dDf : D78 r n c78 x0 r78 = (K2 (s78 r n) 0 1) :=
 (by kernel_rfl)
theorem cJo : aF CF r n 78 args h = s78 r n (aT args 0) (aT args 1) h :=
 (by kernel_rfl : aF CF r n 78 args h = D78 r n c78 x0 r78 (aJ args) h).trans ((congrFun (congrFun (dDf r n) (aJ args)) h).trans (by kernel_rfl))
noncomputable def s79 (r : RT) (n : Nat) (x0 : DV) (h0 : Hp) : aG :=
 bnd (yU (.slice 3) true x0 .l0 h0) fun v1 h1 =>
 aU v1 (
 some (.l0, h1)) (
 bnd (aN [] 0 [] h1) fun v2 h2 =>
 bnd (aW 1 8 v2 x0 h2) fun v3 h3 =>
 some (v3, h3))
noncomputable abbrev c79 : Code := cf Tryz.f79
noncomputable abbrev r79 : K := aQ CF Tryz.f79
noncomputable def D79 (r : RT) (n : Nat) (c : Code) (X : Nat → K) (k : K) : K := aM CF r 8 n c X r79 k
theorem dEw : D79 r n c79 x0 r79 = (K1 (s79 r n) 0) :=
 (by kernel_rfl)
theorem cIf : aF CF r n 79 args h = s79 r n (aT args 0) h :=
 (by kernel_rfl : aF CF r n 79 args h = D79 r n c79 x0 r79 (aJ args) h).trans ((congrFun (congrFun (dEw r n) (aJ args)) h).trans (by kernel_rfl))
noncomputable def fZ (r : RT) (n : Nat) (x4 : DV) (h0 : Hp) : aG :=
 some (x4, h0)
noncomputable def qK (r : RT) (n : Nat) (kk5 : bX) (x0 x4 x23 x24 x25 : DV) (h0 : Hp) : aG :=
 bnd (aD .lss x25 x24 h0) fun v1 h1 =>
 aU v1 (
 bnd (aI 1 x23 x25 h1) fun v2 h2 =>
 bnd (aA v2 h2) fun v3 h3 =>
 bnd (aP x0 h3) fun v4 h4 =>
 bnd (aB 0 v4 h4) fun v5 h5 =>
 bnd (aA v5 h5) fun v6 h6 =>
 bnd (r 72 [v6, v3] h6) fun v7 h7 =>
 bnd (aC 0 v7 h7) fun v8 h8 =>
 bnd (aC 1 v7 h8) fun v9 h9 =>
 bnd (fL .not v9 h9) fun v10 h10 =>
 bnd (gD v10 false (some (x0, h10)) h10) fun v11 h11 =>
 bnd (gD v10 false (aP v11 h11) h11) fun v12 h12 =>
 bnd (gD v10 false (aB 0 v12 h12) h12) fun v13 h13 =>
 bnd (gD v10 false (aA v13 h13) h13) fun v14 h14 =>
 bnd (gD v10 false (aP v14 h14) h14) fun v15 h15 =>
 bnd (gD v10 false (aB 0 v15 h15) h15) fun v16 h16 =>
 bnd (gD v10 false (aA v16 h16) h16) fun v17 h17 =>
 bnd (gD v10 false (some (v3, h17)) h17) fun v18 h18 =>
 bnd (gD v10 false (fH [v17, v18] h18) h18) fun v19 h19 =>
 bnd (gD v10 false (some (x0, h19)) h19) fun v20 h20 =>
 bnd (gD v10 false (aP v20 h20) h20) fun v21 h21 =>
 bnd (gD v10 false (aB 0 v21 h21) h21) fun v22 h22 =>
 bnd (gD v10 false (aA v22 h22) h22) fun v23 h23 =>
 cnd (bD (gD v10 false (aA v22 h9) h9) v23 && true) (
 bnd (gD v10 false (r 34 [v23, (.i .i64 (Int.ofNat 11))] h23) h23) fun v24 h24 =>
 bnd (gD v10 false (aD .neq v19 v24 h24) h24) fun v25 h25 =>
 bnd (aO v10 (.b true) v25 h25) fun v26 h26 =>
 bnd (gD v26 false (some (v8, h26)) h26) fun v27 h27 =>
 bnd (gD v26 false (eT v27 h27) h27) fun v28 h28 =>
 bnd (gD v26 false (aD .lss v28 (.i .i64 (Int.ofNat 1)) h28) h28) fun v29 h29 =>
 bnd (aO v26 (.b true) v29 h29) fun v30 h30 =>
 bnd (gD v30 false (some (v8, h30)) h30) fun v31 h31 =>
 bnd (gD v30 false (eT v31 h31) h31) fun v32 h32 =>
 bnd (gD v30 false (aD .gtr v32 (.i .i64 (Int.ofNat 60)) h32) h32) fun v33 h33 =>
 bnd (aO v30 (.b true) v33 h33) fun v34 h34 =>
 bnd (gD v34 false (some (x0, h34)) h34) fun v35 h35 =>
 bnd (gD v34 false (aP v35 h35) h35) fun v36 h36 =>
 bnd (gD v34 false (aB 0 v36 h36) h36) fun v37 h37 =>
 bnd (gD v34 false (aA v37 h37) h37) fun v38 h38 =>
 bnd (gD v34 false (aP v38 h38) h38) fun v39 h39 =>
 bnd (gD v34 false (aB 2 v39 h39) h39) fun v40 h40 =>
 bnd (gD v34 false (aA v40 h40) h40) fun v41 h41 =>
 bnd (gD v34 false (some (v8, h41)) h41) fun v42 h42 =>
 bnd (gD v34 false (eS .string (.i .i64 (Int.ofNat 0)) false v41 v42 h42) h42) fun v43 h43 =>
 bnd (gD v34 false (aD .neq v43 (.i .i64 (Int.ofNat 0)) h43) h43) fun v44 h44 =>
 bnd (aO v34 (.b true) v44 h44) fun v45 h45 =>
 aU v45 (
 some ((.b false), h45)) (
 bnd (aP x0 h45) fun v46 h46 =>
 bnd (aB 0 v46 h46) fun v47 h47 =>
 bnd (aA v47 h47) fun v48 h48 =>
 bnd (aP v48 h48) fun v49 h49 =>
 bnd (aB 2 v49 h49) fun v50 h50 =>
 bnd (aA v50 h50) fun v51 h51 =>
 bnd (eK .string v51 v8 v3 h51) fun _ h52 =>
 bnd (aD .add x25 (.i .i64 (Int.ofNat 1)) h52) fun v53 h53 =>
    kk5 x0 x4 x23 x24 v53 h53))) (
      fZ r n x4 h1)
noncomputable def pJ (r : RT) (n : Nat) (m : Nat) : bX :=
 Nat.rec (motive := fun _ => bX) (fun _ _ _ _ _ _ => none) (fun _ ih => qK r n ih) m
noncomputable def cIx (r : RT) (n : Nat) : bX := pJ r n n
noncomputable def bMx (r : RT) (n : Nat) (x0 x4 x23 x24 x25 : DV) (h0 : Hp) : aG :=
 cIx r n x0 x4 x23 x24 x25 h0
noncomputable def aRs (r : RT) (n : Nat) (x0 x3 x4 : DV) (h0 : Hp) : aG :=
 bnd (bQ x3 h0) fun v1 h1 =>
  bMx r n x0 x4 x3 v1 (.i .i64 (Int.ofNat 0)) h1
noncomputable def aHf (r : RT) (n : Nat) (x0 : DV) (h0 : Hp) : aG :=
 bnd (aP x0 h0) fun v1 h1 =>
 bnd (aB 0 v1 h1) fun v2 h2 =>
 bnd (aA v2 h2) fun v3 h3 =>
 bnd (aP v3 h3) fun v4 h4 =>
 bnd (aB 1 v4 h4) fun v5 h5 =>
 bnd (aA v5 h5) fun v6 h6 =>
 bnd (aI 1 v6 (.i .i64 (Int.ofNat 0)) h6) fun v7 h7 =>
 bnd (aA v7 h7) fun v8 h8 =>
 bnd (r 124 [x0, v8] h8) fun v9 h9 =>
 bnd (aC 0 v9 h9) fun v10 h10 =>
 bnd (aC 1 v9 h10) fun v11 h11 =>
  aRs r n x0 v10 v11 h11
noncomputable def s80 (r : RT) (n : Nat) (x0 : DV) (h0 : Hp) : aG :=
 aHf r n x0 h0
noncomputable abbrev c80 : Code := cf Tryz.f80
noncomputable abbrev aTx : Code := cR c80
noncomputable abbrev aTv : Code := cR aTx
noncomputable abbrev cYj : Code := cR aTv
noncomputable abbrev aIu : Code := cL aTv
noncomputable abbrev bLs : Code := cR aIu
noncomputable abbrev aTm : Code := cL bLs
noncomputable abbrev wI : Code := cL aTm
noncomputable abbrev cIo : Code := cL aIu
noncomputable abbrev cJm : Code := cL aTx
noncomputable abbrev bLt : Code := cL c80
noncomputable abbrev r80 : K := aQ CF Tryz.f80
noncomputable def D80 (r : RT) (n : Nat) (c : Code) (X : Nat → K) (k : K) : K := aM CF r 90 n c X r80 k
theorem cPp : D80 r n cYj x0 r80 = (K1 (fZ r n) 4) :=
 (by kernel_rfl)
theorem cBe (kk5 : bX) : D80 r n wI (xs x0 0 (K1 (fZ r n) 4)) (K5 kk5 0 4 23 24 25) = (K5 (qK r n kk5) 0 4 23 24 25) :=
 (by kernel_rfl)
theorem cAi (m : Nat) : aL (fun kk => D80 r n wI (xs x0 0 (K1 (fZ r n) 4)) kk) m = (K5 (pJ r n m) 0 4 23 24 25) := by
 induction m with
 | zero => exact (by kernel_rfl : aL (fun kk => D80 r n wI (xs x0 0 (K1 (fZ r n) 4)) kk) 0 = (K5 (pJ r n 0) 0 4 23 24 25))
 | succ m ih =>
  refine (by kernel_rfl : aL (fun kk => D80 r n wI (xs x0 0 (K1 (fZ r n) 4)) kk) (m + 1) = D80 r n wI (xs x0 0 (K1 (fZ r n) 4)) (aL (fun kk => D80 r n wI (xs x0 0 (K1 (fZ r n) 4)) kk) m)).trans ?_
  rw [ih]
  exact (cBe r n (pJ r n m)).trans (by kernel_rfl)
theorem cUf : D80 r n aTm (xs x0 0 (K1 (fZ r n) 4)) (K1 (fZ r n) 4) = (K5 (cIx r n) 0 4 23 24 25) :=
 (by kernel_rfl : D80 r n aTm (xs x0 0 (K1 (fZ r n) 4)) (K1 (fZ r n) 4) = aL (fun kk => D80 r n wI (xs x0 0 (K1 (fZ r n) 4)) kk) n).trans ((cAi r n n).trans (by kernel_rfl))
theorem cOn : D80 r n bLs x0 (K1 (fZ r n) 4) = (K5 (bMx r n) 0 4 23 24 25) :=
 (by kernel_rfl : D80 r n bLs x0 (K1 (fZ r n) 4) = D80 r n aTm (xs x0 0 (K1 (fZ r n) 4)) (K1 (fZ r n) 4)).trans
 ((cUf r n).trans (by kernel_rfl))
theorem cEx : D80 r n aTv x0 r80 = D80 r n aIu x0 (K1 (fZ r n) 4) :=
 congrArg (fun k => D80 r n aIu x0 k) (cPp r n)
theorem bYf : D80 r n aIu x0 (K1 (fZ r n) 4) = D80 r n cIo x0 (K5 (bMx r n) 0 4 23 24 25) :=
 congrArg (fun k => D80 r n cIo x0 k) (cOn r n)
theorem cVa : D80 r n aTv x0 r80 = (K3 (aRs r n) 0 3 4) :=
 (cEx r n).trans
 ((bYf r n).trans
 ((by kernel_rfl)))
theorem cAp : D80 r n aTx x0 r80 = D80 r n cJm x0 (K3 (aRs r n) 0 3 4) :=
 congrArg (fun k => D80 r n cJm x0 k) (cVa r n)
theorem cMu : D80 r n aTx x0 r80 = (K1 (aHf r n) 0) :=
 (cAp r n).trans
 ((by kernel_rfl))
theorem dCy : D80 r n c80 x0 r80 = D80 r n bLt x0 (K1 (aHf r n) 0) :=
 congrArg (fun k => D80 r n bLt x0 k) (cMu r n)
theorem dFu : D80 r n c80 x0 r80 = (K1 (s80 r n) 0) :=
 (dCy r n).trans
 ((by kernel_rfl))
theorem cJq : aF CF r n 80 args h = s80 r n (aT args 0) h :=
 (by kernel_rfl : aF CF r n 80 args h = D80 r n c80 x0 r80 (aJ args) h).trans ((congrFun (congrFun (dFu r n) (aJ args)) h).trans (by kernel_rfl))
noncomputable def fX (r : RT) (n : Nat) (h0 : Hp) : aG :=
 some ((.b true), h0)
noncomputable def bFw (r : RT) (n : Nat) (kk7 : dD) (x0 x30 x31 x32 : DV) (h0 : Hp) : aG :=
 bnd (aD .lss x32 x31 h0) fun v1 h1 =>
 aU v1 (
 bnd (aI 1 x30 x32 h1) fun v2 h2 =>
 bnd (aA v2 h2) fun v3 h3 =>
 bnd (aP x0 h3) fun v4 h4 =>
 bnd (aB 0 v4 h4) fun v5 h5 =>
 bnd (aA v5 h5) fun v6 h6 =>
 bnd (r 110 [v6, v3] h6) fun v7 h7 =>
 bnd (fL .not v7 h7) fun v8 h8 =>
 bnd (gD v8 false (some (x0, h8)) h8) fun v9 h9 =>
 bnd (gD v8 false (aP v9 h9) h9) fun v10 h10 =>
 bnd (gD v8 false (aB 0 v10 h10) h10) fun v11 h11 =>
 bnd (gD v8 false (aA v11 h11) h11) fun v12 h12 =>
 bnd (gD v8 false (aP v12 h12) h12) fun v13 h13 =>
 bnd (gD v8 false (aB 0 v13 h13) h13) fun v14 h14 =>
 bnd (gD v8 false (aA v14 h14) h14) fun v15 h15 =>
 bnd (gD v8 false (some (v3, h15)) h15) fun v16 h16 =>
 bnd (gD v8 false (fN [v15, v16] h16) h16) fun v17 h17 =>
 bnd (gD v8 false (aD .neq v17 (.i .i64 (Int.ofNat 0)) h17) h17) fun v18 h18 =>
 bnd (aO v8 (.b true) v18 h18) fun v19 h19 =>
 bnd (gD v19 false (some (x0, h19)) h19) fun v20 h20 =>
 bnd (gD v19 false (some (x0, h20)) h20) fun v21 h21 =>
 bnd (gD v19 false (aP v21 h21) h21) fun v22 h22 =>
 bnd (gD v19 false (aB 0 v22 h22) h22) fun v23 h23 =>
 bnd (gD v19 false (aA v23 h23) h23) fun v24 h24 =>
 bnd (gD v19 false (some (v3, h24)) h24) fun v25 h25 =>
 bnd (gD v19 false (r 111 [v24, v25, (.i .i64 (Int.ofNat 0))] h25) h25) fun v26 h26 =>
 bnd (gD v19 false (r 126 [v20, v26] h26) h26) fun v27 h27 =>
 bnd (gD v19 false (fL .not v27 h27) h27) fun v28 h28 =>
 bnd (aO v19 (.b true) v28 h28) fun v29 h29 =>
 bnd (gD v29 false (some (x0, h29)) h29) fun v30 h30 =>
 bnd (gD v29 false (aP v30 h30) h30) fun v31 h31 =>
 bnd (gD v29 false (aB 0 v31 h31) h31) fun v32 h32 =>
 bnd (gD v29 false (aA v32 h32) h32) fun v33 h33 =>
 bnd (gD v29 false (aP v33 h33) h33) fun v34 h34 =>
 bnd (gD v29 false (aB 3 v34 h34) h34) fun v35 h35 =>
 bnd (gD v29 false (aA v35 h35) h35) fun v36 h36 =>
 bnd (gD v29 false (some (x0, h36)) h36) fun v37 h37 =>
 bnd (gD v29 false (aP v37 h37) h37) fun v38 h38 =>
 bnd (gD v29 false (aB 0 v38 h38) h38) fun v39 h39 =>
 bnd (gD v29 false (aA v39 h39) h39) fun v40 h40 =>
 bnd (gD v29 false (some (v3, h40)) h40) fun v41 h41 =>
 bnd (gD v29 false (r 61 [v40, v41] h41) h41) fun v42 h42 =>
 cnd (bD (gD v29 false (aA v35 h42) h42) v36 && (bD (gD v29 false (aA v32 h42) h42) v33 && true)) (
 bnd (gD v29 false (eS .string (.i .i64 (Int.ofNat 0)) false v36 v42 h42) h42) fun v43 h43 =>
 bnd (gD v29 false (aD .neq v43 (.i .i64 (Int.ofNat 0)) h43) h43) fun v44 h44 =>
 bnd (aO v29 (.b true) v44 h44) fun v45 h45 =>
 bnd (gD v45 false (some (x0, h45)) h45) fun v46 h46 =>
 bnd (gD v45 false (some (x32, h46)) h46) fun v47 h47 =>
 bnd (gD v45 false (some (v3, h47)) h47) fun v48 h48 =>
 bnd (gD v45 false (r 127 [v46, v47, v48] h48) h48) fun v49 h49 =>
 bnd (gD v45 false (fL .not v49 h49) h49) fun v50 h50 =>
 bnd (aO v45 (.b true) v50 h50) fun v51 h51 =>
 aU v51 (
 some ((.b false), h51)) (
 bnd (aP x0 h51) fun v52 h52 =>
 bnd (aB 0 v52 h52) fun v53 h53 =>
 bnd (aA v53 h53) fun v54 h54 =>
 bnd (aP v54 h54) fun v55 h55 =>
 bnd (aB 3 v55 h55) fun v56 h56 =>
 bnd (aA v56 h56) fun v57 h57 =>
 bnd (aP x0 h57) fun v58 h58 =>
 bnd (aB 0 v58 h58) fun v59 h59 =>
 bnd (aA v59 h59) fun v60 h60 =>
 bnd (r 61 [v60, v3] h60) fun v61 h61 =>
 cnd (bD (aA v56 h61) v57 && (bD (aA v53 h61) v54 && true)) (
 bnd (eK .string v57 v61 v3 h61) fun v62 h62 =>
 bnd (aP x0 h62) fun v63 h63 =>
 bnd (aB 1 v63 h63) fun v64 h64 =>
 bnd (aA v64 h64) fun v65 h65 =>
 bnd (eK (.int .i64) v65 v3 (.b true) h65) fun _ h66 =>
 bnd (aD .add x32 (.i .i64 (Int.ofNat 1)) h66) fun v67 h67 =>
    kk7 x0 x30 x31 v67 h67)))) (
      fX r n h1)
noncomputable def aEx (r : RT) (n : Nat) (m : Nat) : dD :=
 Nat.rec (motive := fun _ => dD) (fun _ _ _ _ _ => none) (fun _ ih => bFw r n ih) m
noncomputable def cIq (r : RT) (n : Nat) : dD := aEx r n n
noncomputable def bPt (r : RT) (n : Nat) (x0 x30 x31 x32 : DV) (h0 : Hp) : aG :=
 cIq r n x0 x30 x31 x32 h0
noncomputable def bRy (r : RT) (n : Nat) (x0 x3 : DV) (h0 : Hp) : aG :=
 bnd (bQ x3 h0) fun v1 h1 =>
  bPt r n x0 x3 v1 (.i .i64 (Int.ofNat 0)) h1
noncomputable def bDl (r : RT) (n : Nat) (x0 x3 : DV) (h0 : Hp) : aG :=
 bnd (r 125 [x3] h0) fun v1 h1 =>
  bRy r n x0 x3 h1
noncomputable def aRl (r : RT) (n : Nat) (x0 x3 x4 : DV) (h0 : Hp) : aG :=
 bnd (fL .not x4 h0) fun v1 h1 =>
 bnd (gD v1 false (some (x3, h1)) h1) fun v2 h2 =>
 bnd (gD v1 false (bQ v2 h2) h2) fun v3 h3 =>
 bnd (gD v1 false (aD .lss v3 (.i .i64 (Int.ofNat 16)) h3) h3) fun v4 h4 =>
 bnd (aO v1 (.b true) v4 h4) fun v5 h5 =>
 aU v5 (
 some ((.b false), h5)) (
  bDl r n x0 x3 h5)
noncomputable def aIz (r : RT) (n : Nat) (x0 : DV) (h0 : Hp) : aG :=
 bnd (aP x0 h0) fun v1 h1 =>
 bnd (aB 0 v1 h1) fun v2 h2 =>
 bnd (aA v2 h2) fun v3 h3 =>
 bnd (aP v3 h3) fun v4 h4 =>
 bnd (aB 1 v4 h4) fun v5 h5 =>
 bnd (aA v5 h5) fun v6 h6 =>
 bnd (aI 1 v6 (.i .i64 (Int.ofNat 1)) h6) fun v7 h7 =>
 bnd (aA v7 h7) fun v8 h8 =>
 bnd (r 124 [x0, v8] h8) fun v9 h9 =>
 bnd (aC 0 v9 h9) fun v10 h10 =>
 bnd (aC 1 v9 h10) fun v11 h11 =>
  aRl r n x0 v10 v11 h11
noncomputable def s81 (r : RT) (n : Nat) (x0 : DV) (h0 : Hp) : aG :=
 aIz r n x0 h0
noncomputable abbrev c81 : Code := cf Tryz.f81
noncomputable abbrev aTa : Code := cR c81
noncomputable abbrev aVy : Code := cR aTa
noncomputable abbrev aRx : Code := cR aVy
noncomputable abbrev aUs : Code := cR aRx
noncomputable abbrev dAn : Code := cR aUs
noncomputable abbrev aJn : Code := cL aUs
noncomputable abbrev bOy : Code := cR aJn
noncomputable abbrev aRd : Code := cL bOy
noncomputable abbrev uR : Code := cL aRd
noncomputable abbrev bIg : Code := cL aJn
noncomputable abbrev bCo : Code := cL aRx
noncomputable abbrev bSn : Code := cL aVy
noncomputable abbrev bGd : Code := cL aTa
noncomputable abbrev bDz : Code := cL c81
noncomputable abbrev r81 : K := aQ CF Tryz.f81
noncomputable def D81 (r : RT) (n : Nat) (c : Code) (X : Nat → K) (k : K) : K := aM CF r 111 n c X r81 k
theorem cSn : D81 r n dAn x0 r81 = (K0 (fX r n)) :=
 (by kernel_rfl)
theorem cCy (kk7 : dD) : D81 r n uR (xs x0 0 (K0 (fX r n))) (K4 kk7 0 30 31 32) = (K4 (bFw r n kk7) 0 30 31 32) :=
 (by kernel_rfl)
theorem cDr (m : Nat) : aL (fun kk => D81 r n uR (xs x0 0 (K0 (fX r n))) kk) m = (K4 (aEx r n m) 0 30 31 32) := by
 induction m with
 | zero => exact (by kernel_rfl : aL (fun kk => D81 r n uR (xs x0 0 (K0 (fX r n))) kk) 0 = (K4 (aEx r n 0) 0 30 31 32))
 | succ m ih =>
  refine (by kernel_rfl : aL (fun kk => D81 r n uR (xs x0 0 (K0 (fX r n))) kk) (m + 1) = D81 r n uR (xs x0 0 (K0 (fX r n))) (aL (fun kk => D81 r n uR (xs x0 0 (K0 (fX r n))) kk) m)).trans ?_
  rw [ih]
  exact (cCy r n (aEx r n m)).trans (by kernel_rfl)
theorem cLx : D81 r n aRd (xs x0 0 (K0 (fX r n))) (K0 (fX r n)) = (K4 (cIq r n) 0 30 31 32) :=
 (by kernel_rfl : D81 r n aRd (xs x0 0 (K0 (fX r n))) (K0 (fX r n)) = aL (fun kk => D81 r n uR (xs x0 0 (K0 (fX r n))) kk) n).trans ((cDr r n n).trans (by kernel_rfl))
theorem cRj : D81 r n bOy x0 (K0 (fX r n)) = (K4 (bPt r n) 0 30 31 32) :=
 (by kernel_rfl : D81 r n bOy x0 (K0 (fX r n)) = D81 r n aRd (xs x0 0 (K0 (fX r n))) (K0 (fX r n))).trans
 ((cLx r n).trans (by kernel_rfl))
theorem cBr : D81 r n aUs x0 r81 = D81 r n aJn x0 (K0 (fX r n)) :=
 congrArg (fun k => D81 r n aJn x0 k) (cSn r n)
theorem cAg : D81 r n aJn x0 (K0 (fX r n)) = D81 r n bIg x0 (K4 (bPt r n) 0 30 31 32) :=
 congrArg (fun k => D81 r n bIg x0 k) (cRj r n)
theorem cPm : D81 r n aUs x0 r81 = (K2 (bRy r n) 0 3) :=
 (cBr r n).trans
 ((cAg r n).trans
 ((by kernel_rfl)))
theorem bYz : D81 r n aRx x0 r81 = D81 r n bCo x0 (K2 (bRy r n) 0 3) :=
 congrArg (fun k => D81 r n bCo x0 k) (cPm r n)
theorem cPe : D81 r n aRx x0 r81 = (K2 (bDl r n) 0 3) :=
 (bYz r n).trans
 ((by kernel_rfl))
theorem bTu : D81 r n aVy x0 r81 = D81 r n bSn x0 (K2 (bDl r n) 0 3) :=
 congrArg (fun k => D81 r n bSn x0 k) (cPe r n)
theorem cLo : D81 r n aVy x0 r81 = (K3 (aRl r n) 0 3 4) :=
 (bTu r n).trans
 ((by kernel_rfl))
theorem bUg : D81 r n aTa x0 r81 = D81 r n bGd x0 (K3 (aRl r n) 0 3 4) :=
 congrArg (fun k => D81 r n bGd x0 k) (cLo r n)
theorem cOy : D81 r n aTa x0 r81 = (K1 (aIz r n) 0) :=
 (bUg r n).trans
 ((by kernel_rfl))
theorem cWl : D81 r n c81 x0 r81 = D81 r n bDz x0 (K1 (aIz r n) 0) :=
 congrArg (fun k => D81 r n bDz x0 k) (cOy r n)
theorem dEm : D81 r n c81 x0 r81 = (K1 (s81 r n) 0) :=
 (cWl r n).trans
 ((by kernel_rfl))
theorem cJt : aF CF r n 81 args h = s81 r n (aT args 0) h :=
 (by kernel_rfl : aF CF r n 81 args h = D81 r n c81 x0 r81 (aJ args) h).trans ((congrFun (congrFun (dEm r n) (aJ args)) h).trans (by kernel_rfl))
noncomputable def s86 (r : RT) (n : Nat) (x0 x1 : DV) (h0 : Hp) : aG :=
 bnd (aA x1 h0) fun v1 h1 =>
 bnd (aP v1 h1) fun v2 h2 =>
 bnd (aB 0 v2 h2) fun v3 h3 =>
 bnd (aA v3 h3) fun v4 h4 =>
 bnd (aIn [v4, x0] h4) fun v5 h5 =>
 bnd (fL .not v5 h5) fun v6 h6 =>
 some (v6, h6)
noncomputable abbrev c86 : Code := cf Tryz.f86
noncomputable abbrev r86 : K := aQ CF Tryz.f86
noncomputable def D86 (r : RT) (n : Nat) (c : Code) (X : Nat → K) (k : K) : K := aM CF r 11 n c X r86 k
theorem dEl : D86 r n c86 x0 r86 = (K2 (s86 r n) 0 1) :=
 (by kernel_rfl)
theorem cXv : aF CF r n 86 args h = s86 r n (aT args 0) (aT args 1) h :=
 (by kernel_rfl : aF CF r n 86 args h = D86 r n c86 x0 r86 (aJ args) h).trans ((congrFun (congrFun (dEl r n) (aJ args)) h).trans (by kernel_rfl))
noncomputable def gL (r : RT) (n : Nat) (x10 : DV) (h0 : Hp) : aG :=
 some (.t [x10, (aH 0)], h0)
noncomputable def bNh (r : RT) (n : Nat) (kk6 : bX) (x0 x10 x29 x30 x31 : DV) (h0 : Hp) : aG :=
 bnd (aD .lss x31 x30 h0) fun v1 h1 =>
 aU v1 (
 bnd (aI 1 x29 x31 h1) fun v2 h2 =>
 bnd (aA v2 h2) fun v3 h3 =>
 bnd (aP x0 h3) fun v4 h4 =>
 bnd (aB 0 v4 h4) fun v5 h5 =>
 bnd (aA v5 h5) fun v6 h6 =>
 bnd (aHp [v6, x10, x31, v3] h6) fun v7 h7 =>
 bnd (aD .add x31 (aH 1) h7) fun v8 h8 =>
      kk6 x0 x10 x29 x30 v8 h8) (
      gL r n x10 h1)
noncomputable def aBw (r : RT) (n : Nat) (m : Nat) : bX :=
 Nat.rec (motive := fun _ => bX) (fun _ _ _ _ _ _ => none) (fun _ ih => bNh r n ih) m
noncomputable def cIz (r : RT) (n : Nat) : bX := aBw r n n
noncomputable def bPa (r : RT) (n : Nat) (x0 x10 x29 x30 x31 : DV) (h0 : Hp) : aG :=
 cIz r n x0 x10 x29 x30 x31 h0
noncomputable def bEp (r : RT) (n : Nat) (x0 x3 x10 : DV) (h0 : Hp) : aG :=
 bnd (bQ x3 h0) fun v1 h1 =>
  bPa r n x0 x10 x3 v1 (aH 0) h1
noncomputable def bFg (r : RT) (n : Nat) (x0 x3 x10 x11 : DV) (h0 : Hp) : aG :=
 bnd (aD .neq x11 (aH 0) h0) fun v1 h1 =>
 aU v1 (
 some (.t [(aH 0), x11], h1)) (
  bEp r n x0 x3 x10 h1)
noncomputable def bRj (r : RT) (n : Nat) (x0 x1 x2 x3 : DV) (h0 : Hp) : aG :=
 bnd (aP x0 h0) fun v1 h1 =>
 bnd (aB 0 v1 h1) fun v2 h2 =>
 bnd (aA v2 h2) fun v3 h3 =>
 bnd (bQ x3 h3) fun v4 h4 =>
 bnd (lQ [v3, x1, x2, v4] h4) fun v5 h5 =>
 bnd (aC 0 v5 h5) fun v6 h6 =>
 bnd (aC 1 v5 h6) fun v7 h7 =>
  bFg r n x0 x3 v6 v7 h7
noncomputable def s87 (r : RT) (n : Nat) (x0 x1 x2 x3 : DV) (h0 : Hp) : aG :=
 bRj r n x0 x1 x2 x3 h0
noncomputable abbrev c87 : Code := cf Tryz.f87
noncomputable abbrev aUe : Code := cR c87
noncomputable abbrev aWf : Code := cR aUe
noncomputable abbrev aVd : Code := cR aWf
noncomputable abbrev dBg : Code := cR aVd
noncomputable abbrev aHl : Code := cL aVd
noncomputable abbrev bDj : Code := cR aHl
noncomputable abbrev aSv : Code := cL bDj
noncomputable abbrev xD : Code := cL aSv
noncomputable abbrev cHz : Code := cL aHl
noncomputable abbrev bNr : Code := cL aWf
noncomputable abbrev bEo : Code := cL aUe
noncomputable abbrev bJf : Code := cL c87
noncomputable abbrev r87 : K := aQ CF Tryz.f87
noncomputable def D87 (r : RT) (n : Nat) (c : Code) (X : Nat → K) (k : K) : K := aM CF r 46 n c X r87 k
theorem cPq : D87 r n dBg x0 r87 = (K1 (gL r n) 10) :=
 (by kernel_rfl)
theorem cDo (kk6 : bX) : D87 r n xD (xs x0 0 (K1 (gL r n) 10)) (K5 kk6 0 10 29 30 31) = (K5 (bNh r n kk6) 0 10 29 30 31) :=
 (by kernel_rfl)
theorem cBk (m : Nat) : aL (fun kk => D87 r n xD (xs x0 0 (K1 (gL r n) 10)) kk) m = (K5 (aBw r n m) 0 10 29 30 31) := by
 induction m with
 | zero => exact (by kernel_rfl : aL (fun kk => D87 r n xD (xs x0 0 (K1 (gL r n) 10)) kk) 0 = (K5 (aBw r n 0) 0 10 29 30 31))
 | succ m ih =>
  refine (by kernel_rfl : aL (fun kk => D87 r n xD (xs x0 0 (K1 (gL r n) 10)) kk) (m + 1) = D87 r n xD (xs x0 0 (K1 (gL r n) 10)) (aL (fun kk => D87 r n xD (xs x0 0 (K1 (gL r n) 10)) kk) m)).trans ?_
  rw [ih]
  exact (cDo r n (aBw r n m)).trans (by kernel_rfl)
theorem cOp : D87 r n aSv (xs x0 0 (K1 (gL r n) 10)) (K1 (gL r n) 10) = (K5 (cIz r n) 0 10 29 30 31) :=
 (by kernel_rfl : D87 r n aSv (xs x0 0 (K1 (gL r n) 10)) (K1 (gL r n) 10) = aL (fun kk => D87 r n xD (xs x0 0 (K1 (gL r n) 10)) kk) n).trans ((cBk r n n).trans (by kernel_rfl))
theorem cPv : D87 r n bDj x0 (K1 (gL r n) 10) = (K5 (bPa r n) 0 10 29 30 31) :=
 (by kernel_rfl : D87 r n bDj x0 (K1 (gL r n) 10) = D87 r n aSv (xs x0 0 (K1 (gL r n) 10)) (K1 (gL r n) 10)).trans
 ((cOp r n).trans (by kernel_rfl))
theorem cDv : D87 r n aVd x0 r87 = D87 r n aHl x0 (K1 (gL r n) 10) :=
 congrArg (fun k => D87 r n aHl x0 k) (cPq r n)
theorem cCf : D87 r n aHl x0 (K1 (gL r n) 10) = D87 r n cHz x0 (K5 (bPa r n) 0 10 29 30 31) :=
 congrArg (fun k => D87 r n cHz x0 k) (cPv r n)
theorem cKz : D87 r n aVd x0 r87 = (K3 (bEp r n) 0 3 10) :=
 (cDv r n).trans
 ((cCf r n).trans
 ((by kernel_rfl)))
theorem bZb : D87 r n aWf x0 r87 = D87 r n bNr x0 (K3 (bEp r n) 0 3 10) :=
 congrArg (fun k => D87 r n bNr x0 k) (cKz r n)
theorem cLg : D87 r n aWf x0 r87 = (K4 (bFg r n) 0 3 10 11) :=
 (bZb r n).trans
 ((by kernel_rfl))
theorem bWv : D87 r n aUe x0 r87 = D87 r n bEo x0 (K4 (bFg r n) 0 3 10 11) :=
 congrArg (fun k => D87 r n bEo x0 k) (cLg r n)
theorem cMm : D87 r n aUe x0 r87 = (K4 (bRj r n) 0 1 2 3) :=
 (bWv r n).trans
 ((by kernel_rfl))
theorem dAr : D87 r n c87 x0 r87 = D87 r n bJf x0 (K4 (bRj r n) 0 1 2 3) :=
 congrArg (fun k => D87 r n bJf x0 k) (cMm r n)
theorem dDn : D87 r n c87 x0 r87 = (K4 (s87 r n) 0 1 2 3) :=
 (dAr r n).trans
 ((by kernel_rfl))
theorem cYv : aF CF r n 87 args h = s87 r n (aT args 0) (aT args 1) (aT args 2) (aT args 3) h :=
 (by kernel_rfl : aF CF r n 87 args h = D87 r n c87 x0 r87 (aJ args) h).trans ((congrFun (congrFun (dDn r n) (aJ args)) h).trans (by kernel_rfl))
noncomputable def s91 (r : RT) (n : Nat) (x0 : DV) (h0 : Hp) : aG :=
 bnd (bJ gX h0) fun v1 h1 =>
 bnd (r 133 [x0, (.f 134 [] [])] h1) fun v2 h2 =>
 bnd (aC 0 v2 h2) fun v3 h3 =>
 bnd (aC 1 v2 h3) fun v4 h4 =>
 bnd (aC 2 v2 h4) fun v5 h5 =>
 bnd (aE 6 v1 v3 h5) fun _ h6 =>
 bnd (aK 6 v1 h6) fun v7 _ =>
 some (.t [v7, v4, v5], h6)
noncomputable abbrev c91 : Code := cf Tryz.f91
noncomputable abbrev r91 : K := aQ CF Tryz.f91
noncomputable def D91 (r : RT) (n : Nat) (c : Code) (X : Nat → K) (k : K) : K := aM CF r 10 n c X r91 k
theorem dDk : D91 r n c91 x0 r91 = (K1 (s91 r n) 0) :=
 (by kernel_rfl)
theorem cYe : aF CF r n 91 args h = s91 r n (aT args 0) h :=
 (by kernel_rfl : aF CF r n 91 args h = D91 r n c91 x0 r91 (aJ args) h).trans ((congrFun (congrFun (dDk r n) (aJ args)) h).trans (by kernel_rfl))
noncomputable def s92 (r : RT) (n : Nat) (x0 x1 : DV) (h0 : Hp) : aG :=
 bnd (bS x0 h0) fun v1 h1 =>
 bnd (bJ [(.s []), (aH 0), (aH 0), (aH 0), .l0, .l0] h1) fun v2 h2 =>
 bnd (aK 6 v1 h2) fun v3 h3 =>
 bnd (r 135 [v3, x1, (.b false)] h3) fun v4 h4 =>
 bnd (aC 0 v4 h4) fun v5 h5 =>
 bnd (aC 1 v4 h5) fun v6 h6 =>
 bnd (aC 2 v4 h6) fun v7 h7 =>
 bnd (aE 6 v2 v5 h7) fun _ h8 =>
 bnd (aK 6 v2 h8) fun v9 _ =>
 some (.t [v9, v6, v7], h8)
noncomputable abbrev c92 : Code := cf Tryz.f92
noncomputable abbrev r92 : K := aQ CF Tryz.f92
noncomputable def D92 (r : RT) (n : Nat) (c : Code) (X : Nat → K) (k : K) : K := aM CF r 13 n c X r92 k
theorem dHj : D92 r n c92 x0 r92 = (K2 (s92 r n) 0 1) :=
 (by kernel_rfl)
theorem cXx : aF CF r n 92 args h = s92 r n (aT args 0) (aT args 1) h :=
 (by kernel_rfl : aF CF r n 92 args h = D92 r n c92 x0 r92 (aJ args) h).trans ((congrFun (congrFun (dHj r n) (aJ args)) h).trans (by kernel_rfl))
noncomputable def s93 (r : RT) (n : Nat) (x0 x1 x2 : DV) (h0 : Hp) : aG :=
 bnd (bS x2 h0) fun v1 h1 =>
 bnd (aK 6 v1 h1) fun v2 h2 =>
 bnd (r 136 [x0, x1, v2] h2) fun v3 h3 =>
 bnd (aC 0 v3 h3) fun v4 h4 =>
 bnd (aC 1 v3 h4) fun v5 h5 =>
 bnd (aD .neq v5 (aH 0) h5) fun v6 h6 =>
 aU v6 (
 some (.t [(aH 0), v5], h6)) (
 bnd (r 111 [x0, v4, (aH 0)] h6) fun v7 h7 =>
 bnd (r 137 [x0, x1, v7, v4] h7) fun v8 h8 =>
 bnd (aD .neq v8 (aH 0) h8) fun v9 h9 =>
 aU v9 (
 some (.t [(aH 0), v8], h9)) (
 some (.t [v4, (aH 0)], h9)))
noncomputable abbrev c93 : Code := cf Tryz.f93
noncomputable abbrev r93 : K := aQ CF Tryz.f93
noncomputable def D93 (r : RT) (n : Nat) (c : Code) (X : Nat → K) (k : K) : K := aM CF r 32 n c X r93 k
theorem dFg : D93 r n c93 x0 r93 = (K3 (s93 r n) 0 1 2) :=
 (by kernel_rfl)
theorem cXg : aF CF r n 93 args h = s93 r n (aT args 0) (aT args 1) (aT args 2) h :=
 (by kernel_rfl : aF CF r n 93 args h = D93 r n c93 x0 r93 (aJ args) h).trans ((congrFun (congrFun (dFg r n) (aJ args)) h).trans (by kernel_rfl))
noncomputable def s96 (r : RT) (n : Nat) (x0 x1 : DV) (h0 : Hp) : aG :=
 bnd (r 110 [x0, x1] h0) fun v1 h1 =>
 bnd (fL .not v1 h1) fun v2 h2 =>
 aU v2 (
 some ((aH 0), h2)) (
 bnd (r 111 [x0, x1, (aH 1)] h2) fun v3 h3 =>
 some (v3, h3))
noncomputable abbrev c96 : Code := cf Tryz.f96
noncomputable abbrev r96 : K := aQ CF Tryz.f96
noncomputable def D96 (r : RT) (n : Nat) (c : Code) (X : Nat → K) (k : K) : K := aM CF r 12 n c X r96 k
theorem dEo : D96 r n c96 x0 r96 = (K2 (s96 r n) 0 1) :=
 (by kernel_rfl)
theorem dAz : aF CF r n 96 args h = s96 r n (aT args 0) (aT args 1) h :=
 (by kernel_rfl : aF CF r n 96 args h = D96 r n c96 x0 r96 (aJ args) h).trans ((congrFun (congrFun (dEo r n) (aJ args)) h).trans (by kernel_rfl))
end Go.Dd

namespace Go.Dd
open Go.Proofs
variable (r : RT) (n : Nat) (args : List DV) (h : Hp)
noncomputable def s110 (r : RT) (n : Nat) (x0 x1 : DV) (h0 : Hp) : aG :=
 bnd (aP x0 h0) fun v1 h1 =>
 bnd (aB 0 v1 h1) fun v2 h2 =>
 bnd (aA v2 h2) fun v3 h3 =>
 bnd (isF [v3, x1] h3) fun v4 h4 =>
 bnd (gD v4 true (some (x0, h4)) h4) fun v5 h5 =>
 bnd (gD v4 true (aP v5 h5) h5) fun v6 h6 =>
 bnd (gD v4 true (aB 0 v6 h6) h6) fun v7 h7 =>
 bnd (gD v4 true (aA v7 h7) h7) fun v8 h8 =>
 bnd (gD v4 true (some (x1, h8)) h8) fun v9 h9 =>
 bnd (gD v4 true (fH [v8, v9] h9) h9) fun v10 h10 =>
 bnd (gD v4 true (some (x0, h10)) h10) fun v11 h11 =>
 bnd (gD v4 true (r 34 [v11, (aH 1)] h11) h11) fun v12 h12 =>
 bnd (gD v4 true (aD .eql v10 v12 h12) h12) fun v13 h13 =>
 bnd (aO v4 v13 (.b false) h13) fun v14 h14 =>
 bnd (gD v14 true (some (x0, h14)) h14) fun v15 h15 =>
 bnd (gD v14 true (aP v15 h15) h15) fun v16 h16 =>
 bnd (gD v14 true (aB 0 v16 h16) h16) fun v17 h17 =>
 bnd (gD v14 true (aA v17 h17) h17) fun v18 h18 =>
 bnd (gD v14 true (some (x1, h18)) h18) fun v19 h19 =>
 bnd (gD v14 true (fO [v18, v19] h19) h19) fun v20 h20 =>
 bnd (gD v14 true (aD .eql v20 (aH 6) h20) h20) fun v21 h21 =>
 bnd (aO v14 v21 (.b false) h21) fun v22 h22 =>
 some (v22, h22)
noncomputable abbrev c110 : Code := cf Tryz.f110
noncomputable abbrev r110 : K := aQ CF Tryz.f110
noncomputable def D110 (r : RT) (n : Nat) (c : Code) (X : Nat → K) (k : K) : K := aM CF r 31 n c X r110 k
theorem cYg : D110 r n c110 x0 r110 = (K2 (s110 r n) 0 1) :=
 (by kernel_rfl)
theorem cNo : aF CF r n 110 args h = s110 r n (aT args 0) (aT args 1) h :=
 (by kernel_rfl : aF CF r n 110 args h = D110 r n c110 x0 r110 (aJ args) h).trans ((congrFun (congrFun (cYg r n) (aJ args)) h).trans (by kernel_rfl))
noncomputable def s111 (r : RT) (n : Nat) (x0 x1 x2 : DV) (h0 : Hp) : aG :=
 bnd (aP x0 h0) fun v1 h1 =>
 bnd (aB 0 v1 h1) fun v2 h2 =>
 bnd (aA v2 h2) fun v3 h3 =>
 bnd (aMt [v3, x1, x2] h3) fun v4 h4 =>
 bnd (aC 0 v4 h4) fun v5 h5 =>
 bnd (aC 1 v4 h5) fun v6 h6 =>
 some (v5, h6)
noncomputable abbrev c111 : Code := cf Tryz.f111
noncomputable abbrev r111 : K := aQ CF Tryz.f111
noncomputable def D111 (r : RT) (n : Nat) (c : Code) (X : Nat → K) (k : K) : K := aM CF r 20 n c X r111 k
theorem cWh : D111 r n c111 x0 r111 = (K3 (s111 r n) 0 1 2) :=
 (by kernel_rfl)
theorem bHi : aF CF r n 111 args h = s111 r n (aT args 0) (aT args 1) (aT args 2) h :=
 (by kernel_rfl : aF CF r n 111 args h = D111 r n c111 x0 r111 (aJ args) h).trans ((congrFun (congrFun (cWh r n) (aJ args)) h).trans (by kernel_rfl))
end Go.Dd

namespace Go.Dd
open Go.Proofs
variable (r : RT) (n : Nat) (args : List DV) (h : Hp)
noncomputable def dS (r : RT) (n : Nat) (x2 : DV) (h0 : Hp) : aG :=
 bnd (aB 5 x2 h0) fun v1 h1 =>
 bnd (aA v1 h1) fun v2 h2 =>
 bnd (r 147 [v2] h2) fun v3 h3 =>
 bnd (aB 5 x2 h3) fun v4 h4 =>
 bnd (aA v4 h4) fun v5 h5 =>
 bnd (r 148 [v5, v3] h5) fun v6 h6 =>
 bnd (fL .not v6 h6) fun v7 h7 =>
 aU v7 (
 some (.t [.l0, (aH 19)], h7)) (
 bnd (aB 5 x2 h7) fun v8 h8 =>
 bnd (aA v8 h8) fun v9 h9 =>
 bnd (r 149 [v9, v3] h9) fun v10 h10 =>
 bnd (aC 0 v10 h10) fun v11 h11 =>
 bnd (aC 1 v10 h11) fun v12 h12 =>
 bnd (fL .not v12 h12) fun v13 h13 =>
 aU v13 (
 some (.t [.l0, (aH 19)], h13)) (
 some (.t [v11, (aH 0)], h13)))
noncomputable def aFe (r : RT) (n : Nat) (kk7 : bX) (x1 x2 x60 x61 x62 : DV) (h0 : Hp) : aG :=
 bnd (aD .lss x62 x61 h0) fun v1 h1 =>
 aU v1 (
 bnd (aI 3 x60 x62 h1) fun v2 h2 =>
 bnd (aK 3 v2 h2) fun v3 h3 =>
 bnd (bJ [(aH 0), (aH 0), (aH 0)] h3) fun v4 h4 =>
 bnd (aE 3 v4 v3 h4) fun _ h5 =>
 bnd (aK 3 v4 h5) fun v6 h6 =>
 bnd (r 145 [v6] h6) fun v7 h7 =>
 bnd (fL .not v7 h7) fun v8 h8 =>
 bnd (gD v8 false (aK 6 x2 h8) h8) fun v9 h9 =>
 bnd (gD v8 false (aK 3 v4 h9) h9) fun v10 h10 =>
 bnd (gD v8 false (some (x1, h10)) h10) fun v11 h11 =>
 bnd (gD v8 false (r 146 [v9, v10, v11] h11) h11) fun v12 h12 =>
 bnd (gD v8 false (fL .not v12 h12) h12) fun v13 h13 =>
 bnd (aO v8 (.b true) v13 h13) fun v14 h14 =>
 aU v14 (
 some (.t [.l0, (aH 19)], h14)) (
 bnd (aD .add x62 (aH 1) h14) fun v15 h15 =>
    kk7 x1 x2 x60 x61 v15 h15)) (
      dS r n x2 h1)
noncomputable def sU (r : RT) (n : Nat) (m : Nat) : bX :=
 Nat.rec (motive := fun _ => bX) (fun _ _ _ _ _ _ => none) (fun _ ih => aFe r n ih) m
noncomputable def bIz (r : RT) (n : Nat) : bX := sU r n n
noncomputable def aNv (r : RT) (n : Nat) (x1 x2 x60 x61 x62 : DV) (h0 : Hp) : aG :=
 bIz r n x1 x2 x60 x61 x62 h0
noncomputable def aPk (r : RT) (n : Nat) (x1 x2 : DV) (h0 : Hp) : aG :=
 bnd (aB 5 x2 h0) fun v1 h1 =>
 bnd (aA v1 h1) fun v2 h2 =>
 bnd (bQ v2 h2) fun v3 h3 =>
  aNv r n x1 x2 v2 v3 (aH 0) h3
noncomputable def aKn (r : RT) (n : Nat) (x1 x2 x6 x7 : DV) (h0 : Hp) : aG :=
 bnd (fL .not x6 h0) fun v1 h1 =>
 bnd (gD v1 false (some (x7, h1)) h1) fun v2 h2 =>
 bnd (aO v1 (.b true) v2 h2) fun v3 h3 =>
 bnd (gD v3 false (aB 4 x2 h3) h3) fun v4 h4 =>
 bnd (gD v3 false (aA v4 h4) h4) fun v5 h5 =>
 bnd (gD v3 false (bQ v5 h5) h5) fun v6 h6 =>
 bnd (gD v3 false (aD .gtr v6 (aH 60) h6) h6) fun v7 h7 =>
 bnd (aO v3 (.b true) v7 h7) fun v8 h8 =>
 bnd (gD v8 false (aB 5 x2 h8) h8) fun v9 h9 =>
 bnd (gD v8 false (aA v9 h9) h9) fun v10 h10 =>
 bnd (gD v8 false (bQ v10 h10) h10) fun v11 h11 =>
 bnd (gD v8 false (r 141 [v11, (aH 1), (aH 400)] h11) h11) fun v12 h12 =>
 bnd (gD v8 false (fL .not v12 h12) h12) fun v13 h13 =>
 bnd (aO v8 (.b true) v13 h13) fun v14 h14 =>
 aU v14 (
 some (.t [.l0, (aH 19)], h14)) (
  aPk r n x1 x2 h14)
noncomputable def aMk (r : RT) (n : Nat) (x1 x2 x6 : DV) (h0 : Hp) : aG :=
 bnd (aB 4 x2 h0) fun v1 h1 =>
 bnd (aA v1 h1) fun v2 h2 =>
 bnd (r 142 [v2, (.f 143 [] [])] h2) fun v3 h3 =>
  aKn r n x1 x2 x6 v3 h3
noncomputable def wL (r : RT) (n : Nat) (x1 x2 : DV) (h0 : Hp) : aG :=
 bnd (r 141 [x1, (aH 0), (aH 8)] h0) fun v1 h1 =>
 bnd (gD v1 true (aB 0 x2 h1) h1) fun v2 h2 =>
 bnd (gD v1 true (aA v2 h2) h2) fun v3 h3 =>
 bnd (gD v1 true (eT v3 h3) h3) fun v4 h4 =>
 bnd (gD v1 true (r 141 [v4, (aH 1), (aH 60)] h4) h4) fun v5 h5 =>
 bnd (aO v1 v5 (.b false) h5) fun v6 h6 =>
 bnd (gD v6 true (aB 1 x2 h6) h6) fun v7 h7 =>
 bnd (gD v6 true (aA v7 h7) h7) fun v8 h8 =>
 bnd (gD v6 true (r 141 [v8, (aH 0), (aH 4)] h8) h8) fun v9 h9 =>
 bnd (aO v6 v9 (.b false) h9) fun v10 h10 =>
 bnd (gD v10 true (aB 2 x2 h10) h10) fun v11 h11 =>
 bnd (gD v10 true (aA v11 h11) h11) fun v12 h12 =>
 bnd (gD v10 true (aB 1 x2 h12) h12) fun v13 h13 =>
 bnd (gD v10 true (aA v13 h13) h13) fun v14 h14 =>
 bnd (gD v10 true (r 141 [v12, v14, (aH 24)] h14) h14) fun v15 h15 =>
 bnd (aO v10 v15 (.b false) h15) fun v16 h16 =>
 bnd (gD v16 true (aB 3 x2 h16) h16) fun v17 h17 =>
 bnd (gD v16 true (aA v17 h17) h17) fun v18 h18 =>
 bnd (gD v16 true (r 141 [v18, (aH 0), (aH 255)] h18) h18) fun v19 h19 =>
 bnd (aO v16 v19 (.b false) h19) fun v20 h20 =>
  aMk r n x1 x2 v20 h20
noncomputable def s116 (r : RT) (n : Nat) (x0 x1 : DV) (h0 : Hp) : aG :=
 bnd (bS x0 h0) fun v1 h1 =>
  wL r n x1 v1 h1
noncomputable abbrev c116 : Code := cf Tryz.f116
noncomputable abbrev zC : Code := cR c116
noncomputable abbrev aDi : Code := cR zC
noncomputable abbrev yK : Code := cR aDi
noncomputable abbrev zQ : Code := cR yK
noncomputable abbrev cLs : Code := cR zQ
noncomputable abbrev vG : Code := cL zQ
noncomputable abbrev aOa : Code := cR vG
noncomputable abbrev aGm : Code := cL aOa
noncomputable abbrev lW : Code := cL aGm
noncomputable abbrev aUr : Code := cL vG
noncomputable abbrev aRq : Code := cL yK
noncomputable abbrev aWy : Code := cL aDi
noncomputable abbrev aRy : Code := cL zC
noncomputable abbrev aDv : Code := cL c116
noncomputable abbrev r116 : K := aQ CF Tryz.f116
noncomputable def D116 (r : RT) (n : Nat) (c : Code) (X : Nat → K) (k : K) : K := aM CF r 95 n c X r116 k
theorem cCo : D116 r n cLs x0 r116 = (K1 (dS r n) 2) :=
 (by kernel_rfl)
theorem bFb (kk7 : bX) (q0 : TT1) : D116 r n lW (xs x0 0 (K1 q0 2)) (K5 kk7 1 2 60 61 62) = fun (env : aS) (h : Hp) =>
 bnd (aD .lss (env 62) (env 61) h) fun v1 h1 =>
 aU v1 (
 bnd (aI 3 (env 60) (env 62) h1) fun v2 h2 =>
 bnd (aK 3 v2 h2) fun v3 h3 =>
 bnd (bJ [(aH 0), (aH 0), (aH 0)] h3) fun v4 h4 =>
 bnd (aE 3 v4 v3 h4) fun _ h5 =>
 bnd (aK 3 v4 h5) fun v6 h6 =>
 bnd (r 145 [v6] h6) fun v7 h7 =>
 bnd (fL .not v7 h7) fun v8 h8 =>
 bnd (gD v8 false (aK 6 (env 2) h8) h8) fun v9 h9 =>
 bnd (gD v8 false (aK 3 v4 h9) h9) fun v10 h10 =>
 bnd (gD v8 false (some ((env 1), h10)) h10) fun v11 h11 =>
 bnd (gD v8 false (r 146 [v9, v10, v11] h11) h11) fun v12 h12 =>
 bnd (gD v8 false (fL .not v12 h12) h12) fun v13 h13 =>
 bnd (aO v8 (.b true) v13 h13) fun v14 h14 =>
 aU v14 (
 some (.t [.l0, (aH 19)], h14)) (
 bnd (aD .add (env 62) (aH 1) h14) fun v15 h15 =>
    kk7 (env 1) (env 2) (env 60) (env 61) v15 h15)) (
      q0 (env 2) h1) := by kernel_rfl
theorem bAe (kk7 : bX) : (fun (env : aS) (h : Hp) =>
 bnd (aD .lss (env 62) (env 61) h) fun v1 h1 =>
 aU v1 (
 bnd (aI 3 (env 60) (env 62) h1) fun v2 h2 =>
 bnd (aK 3 v2 h2) fun v3 h3 =>
 bnd (bJ [(aH 0), (aH 0), (aH 0)] h3) fun v4 h4 =>
 bnd (aE 3 v4 v3 h4) fun _ h5 =>
 bnd (aK 3 v4 h5) fun v6 h6 =>
 bnd (r 145 [v6] h6) fun v7 h7 =>
 bnd (fL .not v7 h7) fun v8 h8 =>
 bnd (gD v8 false (aK 6 (env 2) h8) h8) fun v9 h9 =>
 bnd (gD v8 false (aK 3 v4 h9) h9) fun v10 h10 =>
 bnd (gD v8 false (some ((env 1), h10)) h10) fun v11 h11 =>
 bnd (gD v8 false (r 146 [v9, v10, v11] h11) h11) fun v12 h12 =>
 bnd (gD v8 false (fL .not v12 h12) h12) fun v13 h13 =>
 bnd (aO v8 (.b true) v13 h13) fun v14 h14 =>
 aU v14 (
 some (.t [.l0, (aH 19)], h14)) (
 bnd (aD .add (env 62) (aH 1) h14) fun v15 h15 =>
    kk7 (env 1) (env 2) (env 60) (env 61) v15 h15)) (
      dS r n (env 2) h1)) = (K5 (aFe r n kk7) 1 2 60 61 62) := by kernel_rfl
theorem bDc (kk7 : bX) : D116 r n lW (xs x0 0 (K1 (dS r n) 2)) (K5 kk7 1 2 60 61 62) = (K5 (aFe r n kk7) 1 2 60 61 62) :=
 (bFb r n kk7 (dS r n)).trans (bAe r n kk7)
theorem bOu (m : Nat) : aL (fun kk => D116 r n lW (xs x0 0 (K1 (dS r n) 2)) kk) m = (K5 (sU r n m) 1 2 60 61 62) := by
 induction m with
 | zero => exact (by kernel_rfl : aL (fun kk => D116 r n lW (xs x0 0 (K1 (dS r n) 2)) kk) 0 = (K5 (sU r n 0) 1 2 60 61 62))
 | succ m ih =>
  refine (by kernel_rfl : aL (fun kk => D116 r n lW (xs x0 0 (K1 (dS r n) 2)) kk) (m + 1) = D116 r n lW (xs x0 0 (K1 (dS r n) 2)) (aL (fun kk => D116 r n lW (xs x0 0 (K1 (dS r n) 2)) kk) m)).trans ?_
  rw [ih]
  exact (bDc r n (sU r n m)).trans (by kernel_rfl)
theorem cHo : D116 r n aGm (xs x0 0 (K1 (dS r n) 2)) (K1 (dS r n) 2) = (K5 (bIz r n) 1 2 60 61 62) :=
 (by kernel_rfl : D116 r n aGm (xs x0 0 (K1 (dS r n) 2)) (K1 (dS r n) 2) = aL (fun kk => D116 r n lW (xs x0 0 (K1 (dS r n) 2)) kk) n).trans ((bOu r n n).trans (by kernel_rfl))
theorem cDi : D116 r n aOa x0 (K1 (dS r n) 2) = (K5 (aNv r n) 1 2 60 61 62) :=
 (by kernel_rfl : D116 r n aOa x0 (K1 (dS r n) 2) = D116 r n aGm (xs x0 0 (K1 (dS r n) 2)) (K1 (dS r n) 2)).trans
 ((cHo r n).trans (by kernel_rfl))
theorem bNz : D116 r n zQ x0 r116 = D116 r n vG x0 (K1 (dS r n) 2) :=
 congrArg (fun k => D116 r n vG x0 k) (cCo r n)
theorem bSk : D116 r n vG x0 (K1 (dS r n) 2) = D116 r n aUr x0 (K5 (aNv r n) 1 2 60 61 62) :=
 congrArg (fun k => D116 r n aUr x0 k) (cDi r n)
theorem cHh : D116 r n zQ x0 r116 = (K2 (aPk r n) 1 2) :=
 (bNz r n).trans
 ((bSk r n).trans
 ((by kernel_rfl)))
theorem bMe : D116 r n yK x0 r116 = D116 r n aRq x0 (K2 (aPk r n) 1 2) :=
 congrArg (fun k => D116 r n aRq x0 k) (cHh r n)
theorem cEn : D116 r n yK x0 r116 = (K4 (aKn r n) 1 2 6 7) :=
 (bMe r n).trans
 ((by kernel_rfl))
theorem bJy : D116 r n aDi x0 r116 = D116 r n aWy x0 (K4 (aKn r n) 1 2 6 7) :=
 congrArg (fun k => D116 r n aWy x0 k) (cEn r n)
theorem bUl : D116 r n aDi x0 r116 = (K3 (aMk r n) 1 2 6) :=
 (bJy r n).trans
 ((by kernel_rfl))
theorem bSu : D116 r n zC x0 r116 = D116 r n aRy x0 (K3 (aMk r n) 1 2 6) :=
 congrArg (fun k => D116 r n aRy x0 k) (bUl r n)
theorem cHk : D116 r n zC x0 r116 = (K2 (wL r n) 1 2) :=
 (bSu r n).trans
 ((by kernel_rfl))
theorem cKh : D116 r n c116 x0 r116 = D116 r n aDv x0 (K2 (wL r n) 1 2) :=
 congrArg (fun k => D116 r n aDv x0 k) (cHk r n)
theorem cNi (q0 : gP) : D116 r n aDv x0 (K2 q0 1 2) = fun (env : aS) (h : Hp) =>
 bnd (bS (env 0) h) fun v1 h1 =>
  q0 (env 1) v1 h1 := by kernel_rfl
theorem bWo : (fun (env : aS) (h : Hp) =>
 bnd (bS (env 0) h) fun v1 h1 =>
  wL r n (env 1) v1 h1) = (K2 (s116 r n) 0 1) := by kernel_rfl
theorem cZu : D116 r n c116 x0 r116 = (K2 (s116 r n) 0 1) :=
 (cKh r n).trans
 ((cNi r n (wL r n)).trans (bWo r n))
theorem cSt : aF CF r n 116 args h = s116 r n (aT args 0) (aT args 1) h :=
 (by kernel_rfl : aF CF r n 116 args h = D116 r n c116 x0 r116 (aJ args) h).trans ((congrFun (congrFun (cZu r n) (aJ args)) h).trans (by kernel_rfl))
noncomputable def eC (r : RT) (n : Nat) (h0 : Hp) : aG :=
 some ((.i .i64 (Int.negSucc 0)), h0)
noncomputable def mD (r : RT) (n : Nat) (kk4 : dD) (x0 x1 x7 x8 : DV) (h0 : Hp) : aG :=
 bnd (aD .lss x8 x7 h0) fun v1 h1 =>
 aU v1 (
 bnd (aI 1 x0 x8 h1) fun v2 h2 =>
 bnd (aA v2 h2) fun v3 h3 =>
 bnd (cY CF r x1 [v3] h3) fun v4 h4 =>
 aU v4 (
 some (x8, h4)) (
 bnd (aD .add x8 (.i .i64 (Int.ofNat 1)) h4) fun v5 h5 =>
    kk4 x0 x1 x7 v5 h5)) (
      eC r n h1)
noncomputable def kI (r : RT) (n : Nat) (m : Nat) : dD :=
 Nat.rec (motive := fun _ => dD) (fun _ _ _ _ _ => none) (fun _ ih => mD r n ih) m
noncomputable def bGu (r : RT) (n : Nat) : dD := kI r n n
noncomputable def aPd (r : RT) (n : Nat) (x0 x1 x7 x8 : DV) (h0 : Hp) : aG :=
 bGu r n x0 x1 x7 x8 h0
noncomputable def vT (r : RT) (n : Nat) (x0 x1 : DV) (h0 : Hp) : aG :=
 bnd (bQ x0 h0) fun v1 h1 =>
  aPd r n x0 x1 v1 (.i .i64 (Int.ofNat 0)) h1
noncomputable def s123 (r : RT) (n : Nat) (x0 x1 : DV) (h0 : Hp) : aG :=
 vT r n x0 x1 h0
noncomputable abbrev c123 : Code := cf Tryz.f123
noncomputable abbrev zW : Code := cR c123
noncomputable abbrev cSm : Code := cR zW
noncomputable abbrev vQ : Code := cL zW
noncomputable abbrev aOt : Code := cR vQ
noncomputable abbrev aFy : Code := cL aOt
noncomputable abbrev nG : Code := cL aFy
noncomputable abbrev bLr : Code := cL vQ
noncomputable abbrev bHd : Code := cL c123
noncomputable abbrev r123 : K := aQ CF Tryz.f123
noncomputable def D123 (r : RT) (n : Nat) (c : Code) (X : Nat → K) (k : K) : K := aM CF r 19 n c X r123 k
theorem bXe : D123 r n cSm x0 r123 = (K0 (eC r n)) :=
 (by kernel_rfl)
theorem bTh (kk4 : dD) : D123 r n nG (xs x0 0 (K0 (eC r n))) (K4 kk4 0 1 7 8) = (K4 (mD r n kk4) 0 1 7 8) :=
 (by kernel_rfl)
theorem bOk (m : Nat) : aL (fun kk => D123 r n nG (xs x0 0 (K0 (eC r n))) kk) m = (K4 (kI r n m) 0 1 7 8) := by
 induction m with
 | zero => exact (by kernel_rfl : aL (fun kk => D123 r n nG (xs x0 0 (K0 (eC r n))) kk) 0 = (K4 (kI r n 0) 0 1 7 8))
 | succ m ih =>
  refine (by kernel_rfl : aL (fun kk => D123 r n nG (xs x0 0 (K0 (eC r n))) kk) (m + 1) = D123 r n nG (xs x0 0 (K0 (eC r n))) (aL (fun kk => D123 r n nG (xs x0 0 (K0 (eC r n))) kk) m)).trans ?_
  rw [ih]
  exact (bTh r n (kI r n m)).trans (by kernel_rfl)
theorem bUm : D123 r n aFy (xs x0 0 (K0 (eC r n))) (K0 (eC r n)) = (K4 (bGu r n) 0 1 7 8) :=
 (by kernel_rfl : D123 r n aFy (xs x0 0 (K0 (eC r n))) (K0 (eC r n)) = aL (fun kk => D123 r n nG (xs x0 0 (K0 (eC r n))) kk) n).trans ((bOk r n n).trans (by kernel_rfl))
theorem bWp : D123 r n aOt x0 (K0 (eC r n)) = (K4 (aPd r n) 0 1 7 8) :=
 (by kernel_rfl : D123 r n aOt x0 (K0 (eC r n)) = D123 r n aFy (xs x0 0 (K0 (eC r n))) (K0 (eC r n))).trans
 ((bUm r n).trans (by kernel_rfl))
theorem bEn : D123 r n zW x0 r123 = D123 r n vQ x0 (K0 (eC r n)) :=
 congrArg (fun k => D123 r n vQ x0 k) (bXe r n)
theorem bHz : D123 r n vQ x0 (K0 (eC r n)) = D123 r n bLr x0 (K4 (aPd r n) 0 1 7 8) :=
 congrArg (fun k => D123 r n bLr x0 k) (bWp r n)
theorem cGt : D123 r n zW x0 r123 = (K2 (vT r n) 0 1) :=
 (bEn r n).trans
 ((bHz r n).trans
 ((by kernel_rfl)))
theorem cTx : D123 r n c123 x0 r123 = D123 r n bHd x0 (K2 (vT r n) 0 1) :=
 congrArg (fun k => D123 r n bHd x0 k) (cGt r n)
theorem cZw : D123 r n c123 x0 r123 = (K2 (s123 r n) 0 1) :=
 (cTx r n).trans
 ((by kernel_rfl))
theorem bKc : aF CF r n 123 args h = s123 r n (aT args 0) (aT args 1) h :=
 (by kernel_rfl : aF CF r n 123 args h = D123 r n c123 x0 r123 (aJ args) h).trans ((congrFun (congrFun (cZw r n) (aJ args)) h).trans (by kernel_rfl))
noncomputable def dP (r : RT) (n : Nat) (x6 : DV) (h0 : Hp) : aG :=
 some (.t [x6, (.b true)], h0)
noncomputable def kO (r : RT) (n : Nat) (kk5 : dD) (x0 x1 x6 x7 : DV) (h0 : Hp) : aG :=
 bnd (aD .neq x1 (.i .i64 (Int.ofNat 0)) h0) fun v1 h1 =>
 aU v1 (
 bnd (aP x0 h1) fun v2 h2 =>
 bnd (aB 0 v2 h2) fun v3 h3 =>
 bnd (aA v3 h3) fun v4 h4 =>
 bnd (aP v4 h4) fun v5 h5 =>
 bnd (aB 0 v5 h5) fun v6 h6 =>
 bnd (aA v6 h6) fun v7 h7 =>
 bnd (mA [v7] h7) fun v8 h8 =>
 bnd (aD .gtr x7 v8 h8) fun v9 h9 =>
 bnd (gD v9 false (some (v7, h9)) h9) fun v10 h10 =>
 bnd (gD v9 false (some (x1, h10)) h10) fun v11 h11 =>
 bnd (gD v9 false (isF [v10, v11] h11) h11) fun v12 h12 =>
 bnd (gD v9 false (fL .not v12 h12) h12) fun v13 h13 =>
 bnd (aO v9 (.b true) v13 h13) fun v14 h14 =>
 bnd (gD v14 false (some (v7, h14)) h14) fun v15 h15 =>
 bnd (gD v14 false (some (x1, h15)) h15) fun v16 h16 =>
 bnd (gD v14 false (fH [v15, v16] h16) h16) fun v17 h17 =>
 bnd (gD v14 false (some (x0, h17)) h17) fun v18 h18 =>
 bnd (gD v14 false (aP v18 h18) h18) fun v19 h19 =>
 bnd (gD v14 false (aB 0 v19 h19) h19) fun v20 h20 =>
 bnd (gD v14 false (aA v20 h20) h20) fun v21 h21 =>
 cnd (bD (gD v14 false (aA v20 h12) h12) v21 && true) (
 bnd (gD v14 false (r 34 [v21, (.i .i64 (Int.ofNat 9))] h21) h21) fun v22 h22 =>
 bnd (gD v14 false (aD .neq v17 v22 h22) h22) fun v23 h23 =>
 bnd (aO v14 (.b true) v23 h23) fun v24 h24 =>
 bnd (gD v24 false (some (v7, h24)) h24) fun v25 h25 =>
 bnd (gD v24 false (some (x1, h25)) h25) fun v26 h26 =>
 bnd (gD v24 false (fN [v25, v26] h26) h26) fun v27 h27 =>
 bnd (gD v24 false (aD .neq v27 (.i .i64 (Int.ofNat 0)) h27) h27) fun v28 h28 =>
 bnd (aO v24 (.b true) v28 h28) fun v29 h29 =>
 bnd (gD v29 false (some (v7, h29)) h29) fun v30 h30 =>
 bnd (gD v29 false (some (x1, h30)) h30) fun v31 h31 =>
 bnd (gD v29 false (fO [v30, v31] h31) h31) fun v32 h32 =>
 bnd (gD v29 false (aD .neq v32 (.i .i64 (Int.ofNat 2)) h32) h32) fun v33 h33 =>
 bnd (aO v29 (.b true) v33 h33) fun v34 h34 =>
 aU v34 (
 some (.t [.l0, (.b false)], h34)) (
 bnd (aP x0 h34) fun v35 h35 =>
 bnd (aB 0 v35 h35) fun v36 h36 =>
 bnd (aA v36 h36) fun v37 h37 =>
 bnd (r 111 [v37, x1, (.i .i64 (Int.ofNat 0))] h37) fun v38 h38 =>
 bnd (aN [(.i .i64 (Int.ofNat 0))] 1 [(0, 1, v38)] h38) fun v39 h39 =>
 bnd (aW 1 8 x6 v39 h39) fun v40 h40 =>
 bnd (aP x0 h40) fun v41 h41 =>
 bnd (aB 0 v41 h41) fun v42 h42 =>
 bnd (aA v42 h42) fun v43 h43 =>
 bnd (r 111 [v43, x1, (.i .i64 (Int.ofNat 1))] h43) fun v44 h44 =>
 bnd (aD .add x7 (.i .i64 (Int.ofNat 1)) h44) fun v45 h45 =>
    kk5 x0 v44 v40 v45 h45))) (
      dP r n x6 h1)
noncomputable def mL (r : RT) (n : Nat) (m : Nat) : dD :=
 Nat.rec (motive := fun _ => dD) (fun _ _ _ _ _ => none) (fun _ ih => kO r n ih) m
noncomputable def bPx (r : RT) (n : Nat) : dD := mL r n n
noncomputable def aKo (r : RT) (n : Nat) (x0 x1 x6 x7 : DV) (h0 : Hp) : aG :=
 bPx r n x0 x1 x6 x7 h0
noncomputable def aJx (r : RT) (n : Nat) (x0 x1 x6 : DV) (h0 : Hp) : aG :=
 aKo r n x0 x1 x6 (.i .i64 (Int.ofNat 0)) h0
noncomputable def aNc (r : RT) (n : Nat) (x0 x1 : DV) (h0 : Hp) : aG :=
 aJx r n x0 x1 .l0 h0
noncomputable def s124 (r : RT) (n : Nat) (x0 x1 : DV) (h0 : Hp) : aG :=
 aNc r n x0 x1 h0
noncomputable abbrev c124 : Code := cf Tryz.f124
noncomputable abbrev zD : Code := cR c124
noncomputable abbrev aBv : Code := cR zD
noncomputable abbrev cMe : Code := cR aBv
noncomputable abbrev xH : Code := cL aBv
noncomputable abbrev aPo : Code := cR xH
noncomputable abbrev aEd : Code := cL aPo
noncomputable abbrev lE : Code := cL aEd
noncomputable abbrev bMy : Code := cL xH
noncomputable abbrev bJa : Code := cL zD
noncomputable abbrev aUy : Code := cL c124
noncomputable abbrev r124 : K := aQ CF Tryz.f124
noncomputable def D124 (r : RT) (n : Nat) (c : Code) (X : Nat → K) (k : K) : K := aM CF r 69 n c X r124 k
theorem bXy : D124 r n cMe x0 r124 = (K1 (dP r n) 6) :=
 (by kernel_rfl)
theorem bDu (kk5 : dD) (q0 : TT1) : D124 r n lE (xs x0 0 (K1 q0 6)) (K4 kk5 0 1 6 7) = fun (env : aS) (h : Hp) =>
 bnd (aD .neq (env 1) (.i .i64 (Int.ofNat 0)) h) fun v1 h1 =>
 aU v1 (
 bnd (aP (env 0) h1) fun v2 h2 =>
 bnd (aB 0 v2 h2) fun v3 h3 =>
 bnd (aA v3 h3) fun v4 h4 =>
 bnd (aP v4 h4) fun v5 h5 =>
 bnd (aB 0 v5 h5) fun v6 h6 =>
 bnd (aA v6 h6) fun v7 h7 =>
 bnd (mA [v7] h7) fun v8 h8 =>
 bnd (aD .gtr (env 7) v8 h8) fun v9 h9 =>
 bnd (gD v9 false (some (v7, h9)) h9) fun v10 h10 =>
 bnd (gD v9 false (some ((env 1), h10)) h10) fun v11 h11 =>
 bnd (gD v9 false (isF [v10, v11] h11) h11) fun v12 h12 =>
 bnd (gD v9 false (fL .not v12 h12) h12) fun v13 h13 =>
 bnd (aO v9 (.b true) v13 h13) fun v14 h14 =>
 bnd (gD v14 false (some (v7, h14)) h14) fun v15 h15 =>
 bnd (gD v14 false (some ((env 1), h15)) h15) fun v16 h16 =>
 bnd (gD v14 false (fH [v15, v16] h16) h16) fun v17 h17 =>
 bnd (gD v14 false (some ((env 0), h17)) h17) fun v18 h18 =>
 bnd (gD v14 false (aP v18 h18) h18) fun v19 h19 =>
 bnd (gD v14 false (aB 0 v19 h19) h19) fun v20 h20 =>
 bnd (gD v14 false (aA v20 h20) h20) fun v21 h21 =>
 cnd (bD (gD v14 false (aA v20 h12) h12) v21 && true) (
 bnd (gD v14 false (r 34 [v21, (.i .i64 (Int.ofNat 9))] h21) h21) fun v22 h22 =>
 bnd (gD v14 false (aD .neq v17 v22 h22) h22) fun v23 h23 =>
 bnd (aO v14 (.b true) v23 h23) fun v24 h24 =>
 bnd (gD v24 false (some (v7, h24)) h24) fun v25 h25 =>
 bnd (gD v24 false (some ((env 1), h25)) h25) fun v26 h26 =>
 bnd (gD v24 false (fN [v25, v26] h26) h26) fun v27 h27 =>
 bnd (gD v24 false (aD .neq v27 (.i .i64 (Int.ofNat 0)) h27) h27) fun v28 h28 =>
 bnd (aO v24 (.b true) v28 h28) fun v29 h29 =>
 bnd (gD v29 false (some (v7, h29)) h29) fun v30 h30 =>
 bnd (gD v29 false (some ((env 1), h30)) h30) fun v31 h31 =>
 bnd (gD v29 false (fO [v30, v31] h31) h31) fun v32 h32 =>
 bnd (gD v29 false (aD .neq v32 (.i .i64 (Int.ofNat 2)) h32) h32) fun v33 h33 =>
 bnd (aO v29 (.b true) v33 h33) fun v34 h34 =>
 aU v34 (
 some (.t [.l0, (.b false)], h34)) (
 bnd (aP (env 0) h34) fun v35 h35 =>
 bnd (aB 0 v35 h35) fun v36 h36 =>
 bnd (aA v36 h36) fun v37 h37 =>
 bnd (r 111 [v37, (env 1), (.i .i64 (Int.ofNat 0))] h37) fun v38 h38 =>
 bnd (aN [(.i .i64 (Int.ofNat 0))] 1 [(0, 1, v38)] h38) fun v39 h39 =>
 bnd (aW 1 8 (env 6) v39 h39) fun v40 h40 =>
 bnd (aP (env 0) h40) fun v41 h41 =>
 bnd (aB 0 v41 h41) fun v42 h42 =>
 bnd (aA v42 h42) fun v43 h43 =>
 bnd (r 111 [v43, (env 1), (.i .i64 (Int.ofNat 1))] h43) fun v44 h44 =>
 bnd (aD .add (env 7) (.i .i64 (Int.ofNat 1)) h44) fun v45 h45 =>
    kk5 (env 0) v44 v40 v45 h45))) (
      q0 (env 6) h1) := by kernel_rfl
theorem bAz (kk5 : dD) : (fun (env : aS) (h : Hp) =>
 bnd (aD .neq (env 1) (.i .i64 (Int.ofNat 0)) h) fun v1 h1 =>
 aU v1 (
 bnd (aP (env 0) h1) fun v2 h2 =>
 bnd (aB 0 v2 h2) fun v3 h3 =>
 bnd (aA v3 h3) fun v4 h4 =>
 bnd (aP v4 h4) fun v5 h5 =>
 bnd (aB 0 v5 h5) fun v6 h6 =>
 bnd (aA v6 h6) fun v7 h7 =>
 bnd (mA [v7] h7) fun v8 h8 =>
 bnd (aD .gtr (env 7) v8 h8) fun v9 h9 =>
 bnd (gD v9 false (some (v7, h9)) h9) fun v10 h10 =>
 bnd (gD v9 false (some ((env 1), h10)) h10) fun v11 h11 =>
 bnd (gD v9 false (isF [v10, v11] h11) h11) fun v12 h12 =>
 bnd (gD v9 false (fL .not v12 h12) h12) fun v13 h13 =>
 bnd (aO v9 (.b true) v13 h13) fun v14 h14 =>
 bnd (gD v14 false (some (v7, h14)) h14) fun v15 h15 =>
 bnd (gD v14 false (some ((env 1), h15)) h15) fun v16 h16 =>
 bnd (gD v14 false (fH [v15, v16] h16) h16) fun v17 h17 =>
 bnd (gD v14 false (some ((env 0), h17)) h17) fun v18 h18 =>
 bnd (gD v14 false (aP v18 h18) h18) fun v19 h19 =>
 bnd (gD v14 false (aB 0 v19 h19) h19) fun v20 h20 =>
 bnd (gD v14 false (aA v20 h20) h20) fun v21 h21 =>
 cnd (bD (gD v14 false (aA v20 h12) h12) v21 && true) (
 bnd (gD v14 false (r 34 [v21, (.i .i64 (Int.ofNat 9))] h21) h21) fun v22 h22 =>
 bnd (gD v14 false (aD .neq v17 v22 h22) h22) fun v23 h23 =>
 bnd (aO v14 (.b true) v23 h23) fun v24 h24 =>
 bnd (gD v24 false (some (v7, h24)) h24) fun v25 h25 =>
 bnd (gD v24 false (some ((env 1), h25)) h25) fun v26 h26 =>
 bnd (gD v24 false (fN [v25, v26] h26) h26) fun v27 h27 =>
 bnd (gD v24 false (aD .neq v27 (.i .i64 (Int.ofNat 0)) h27) h27) fun v28 h28 =>
 bnd (aO v24 (.b true) v28 h28) fun v29 h29 =>
 bnd (gD v29 false (some (v7, h29)) h29) fun v30 h30 =>
 bnd (gD v29 false (some ((env 1), h30)) h30) fun v31 h31 =>
 bnd (gD v29 false (fO [v30, v31] h31) h31) fun v32 h32 =>
 bnd (gD v29 false (aD .neq v32 (.i .i64 (Int.ofNat 2)) h32) h32) fun v33 h33 =>
 bnd (aO v29 (.b true) v33 h33) fun v34 h34 =>
 aU v34 (
 some (.t [.l0, (.b false)], h34)) (
 bnd (aP (env 0) h34) fun v35 h35 =>
 bnd (aB 0 v35 h35) fun v36 h36 =>
 bnd (aA v36 h36) fun v37 h37 =>
 bnd (r 111 [v37, (env 1), (.i .i64 (Int.ofNat 0))] h37) fun v38 h38 =>
 bnd (aN [(.i .i64 (Int.ofNat 0))] 1 [(0, 1, v38)] h38) fun v39 h39 =>
 bnd (aW 1 8 (env 6) v39 h39) fun v40 h40 =>
 bnd (aP (env 0) h40) fun v41 h41 =>
 bnd (aB 0 v41 h41) fun v42 h42 =>
 bnd (aA v42 h42) fun v43 h43 =>
 bnd (r 111 [v43, (env 1), (.i .i64 (Int.ofNat 1))] h43) fun v44 h44 =>
 bnd (aD .add (env 7) (.i .i64 (Int.ofNat 1)) h44) fun v45 h45 =>
    kk5 (env 0) v44 v40 v45 h45))) (
      dP r n (env 6) h1)) = (K4 (kO r n kk5) 0 1 6 7) := by kernel_rfl
theorem bSl (kk5 : dD) : D124 r n lE (xs x0 0 (K1 (dP r n) 6)) (K4 kk5 0 1 6 7) = (K4 (kO r n kk5) 0 1 6 7) :=
 (bDu r n kk5 (dP r n)).trans (bAz r n kk5)
theorem bLc (m : Nat) : aL (fun kk => D124 r n lE (xs x0 0 (K1 (dP r n) 6)) kk) m = (K4 (mL r n m) 0 1 6 7) := by
 induction m with
 | zero => exact (by kernel_rfl : aL (fun kk => D124 r n lE (xs x0 0 (K1 (dP r n) 6)) kk) 0 = (K4 (mL r n 0) 0 1 6 7))
 | succ m ih =>
  refine (by kernel_rfl : aL (fun kk => D124 r n lE (xs x0 0 (K1 (dP r n) 6)) kk) (m + 1) = D124 r n lE (xs x0 0 (K1 (dP r n) 6)) (aL (fun kk => D124 r n lE (xs x0 0 (K1 (dP r n) 6)) kk) m)).trans ?_
  rw [ih]
  exact (bSl r n (mL r n m)).trans (by kernel_rfl)
theorem cCj : D124 r n aEd (xs x0 0 (K1 (dP r n) 6)) (K1 (dP r n) 6) = (K4 (bPx r n) 0 1 6 7) :=
 (by kernel_rfl : D124 r n aEd (xs x0 0 (K1 (dP r n) 6)) (K1 (dP r n) 6) = aL (fun kk => D124 r n lE (xs x0 0 (K1 (dP r n) 6)) kk) n).trans ((bLc r n n).trans (by kernel_rfl))
theorem bXo : D124 r n aPo x0 (K1 (dP r n) 6) = (K4 (aKo r n) 0 1 6 7) :=
 (by kernel_rfl : D124 r n aPo x0 (K1 (dP r n) 6) = D124 r n aEd (xs x0 0 (K1 (dP r n) 6)) (K1 (dP r n) 6)).trans
 ((cCj r n).trans (by kernel_rfl))
theorem bTk : D124 r n aBv x0 r124 = D124 r n xH x0 (K1 (dP r n) 6) :=
 congrArg (fun k => D124 r n xH x0 k) (bXy r n)
theorem bPp : D124 r n xH x0 (K1 (dP r n) 6) = D124 r n bMy x0 (K4 (aKo r n) 0 1 6 7) :=
 congrArg (fun k => D124 r n bMy x0 k) (bXo r n)
theorem cEt : D124 r n aBv x0 r124 = (K3 (aJx r n) 0 1 6) :=
 (bTk r n).trans
 ((bPp r n).trans
 ((by kernel_rfl)))
theorem bQb : D124 r n zD x0 r124 = D124 r n bJa x0 (K3 (aJx r n) 0 1 6) :=
 congrArg (fun k => D124 r n bJa x0 k) (cEt r n)
theorem bXg : D124 r n zD x0 r124 = (K2 (aNc r n) 0 1) :=
 (bQb r n).trans
 ((by kernel_rfl))
theorem cQd : D124 r n c124 x0 r124 = D124 r n aUy x0 (K2 (aNc r n) 0 1) :=
 congrArg (fun k => D124 r n aUy x0 k) (bXg r n)
theorem dCg : D124 r n c124 x0 r124 = (K2 (s124 r n) 0 1) :=
 (cQd r n).trans
 ((by kernel_rfl))
theorem bGv : aF CF r n 124 args h = s124 r n (aT args 0) (aT args 1) h :=
 (by kernel_rfl : aF CF r n 124 args h = D124 r n c124 x0 r124 (aJ args) h).trans ((congrFun (congrFun (dCg r n) (aJ args)) h).trans (by kernel_rfl))
noncomputable def s132 (r : RT) (n : Nat) (x0 x1 : DV) (h0 : Hp) : aG :=
 bnd (r 110 [x0, x1] h0) fun v1 h1 =>
 bnd (fL .not v1 h1) fun v2 h2 =>
 aU v2 (
 some ((aH 0), h2)) (
 bnd (r 111 [x0, x1, (aH 2)] h2) fun v3 h3 =>
 bnd (lI [v3] h3) fun v4 h4 =>
 some (v4, h4))
noncomputable abbrev c132 : Code := cf Tryz.f132
noncomputable abbrev r132 : K := aQ CF Tryz.f132
noncomputable def D132 (r : RT) (n : Nat) (c : Code) (X : Nat → K) (k : K) : K := aM CF r 13 n c X r132 k
theorem cZq : D132 r n c132 x0 r132 = (K2 (s132 r n) 0 1) :=
 (by kernel_rfl)
theorem cMx : aF CF r n 132 args h = s132 r n (aT args 0) (aT args 1) h :=
 (by kernel_rfl : aF CF r n 132 args h = D132 r n c132 x0 r132 (aJ args) h).trans ((congrFun (congrFun (cZq r n) (aJ args)) h).trans (by kernel_rfl))
noncomputable def s133 (r : RT) (n : Nat) (x0 x1 : DV) (h0 : Hp) : aG :=
 bnd (bJ gX h0) fun v1 h1 =>
 bnd (r 153 [x0] h1) fun v2 h2 =>
 bnd (aC 0 v2 h2) fun v3 h3 =>
 bnd (aC 1 v2 h3) fun v4 h4 =>
 bnd (aC 2 v2 h4) fun v5 h5 =>
 bnd (aD .neq v5 (aH 0) h5) fun v6 h6 =>
 aU v6 (
 bnd (aX gX [] h6) fun v7 h7 =>
 bnd (aE 6 v1 v7 h7) fun _ h8 =>
 bnd (aK 6 v1 h8) fun v9 _ =>
 some (.t [v9, v4, v5], h8)) (
 bnd (aX [.l0, (aH 0), (aH 0), (aH 0)] [(0, 1, v3)] h6) fun v10 h10 =>
 bnd (bS v10 h10) fun v11 h11 =>
 bnd (cY CF r x1 [v11] h11) fun v12 h12 =>
 bnd (bJ gX h12) fun v13 h13 =>
 bnd (aE 6 v13 v12 h13) fun _ h14 =>
 bnd (r 154 [v11] h14) fun v15 h15 =>
 bnd (aB 4 v13 h15) fun v16 h16 =>
 bnd (aE 1 v16 v15 h16) fun _ h17 =>
 bnd (r 155 [v11] h17) fun v18 h18 =>
 bnd (aB 5 v13 h18) fun v19 h19 =>
 bnd (aE 1 v19 v18 h19) fun _ h20 =>
 bnd (r 156 [v11, (aH 0), (.s [])] h20) fun v21 h21 =>
 bnd (aP v11 h21) fun v22 h22 =>
 bnd (aB 3 v22 h22) fun v23 h23 =>
 bnd (aA v23 h23) fun v24 h24 =>
 bnd (aD .neq v24 (aH 0) h24) fun v25 h25 =>
 aU v25 (
 bnd (aX gX [] h25) fun v26 h26 =>
 bnd (aP v11 h26) fun v27 h27 =>
 bnd (aB 2 v27 h27) fun v28 h28 =>
 bnd (aA v28 h28) fun v29 h29 =>
 bnd (aP v11 h29) fun v30 h30 =>
 bnd (aB 3 v30 h30) fun v31 h31 =>
 bnd (aA v31 h31) fun v32 h32 =>
 bnd (aE 6 v1 v26 h32) fun v33 h33 =>
 cnd (bD (aA v31 h33) v32 && (bD (aA v28 h33) v29 && true)) (
 bnd (aK 6 v1 h33) fun v34 _ =>
 some (.t [v34, v29, v32], h33))) (
 bnd (aK 6 v13 h25) fun v35 h35 =>
 bnd (aE 6 v1 v35 h35) fun _ h36 =>
 bnd (aK 6 v1 h36) fun v37 _ =>
 some (.t [v37, (aH 0), (aH 0)], h36)))
noncomputable abbrev c133 : Code := cf Tryz.f133
noncomputable abbrev r133 : K := aQ CF Tryz.f133
noncomputable def D133 (r : RT) (n : Nat) (c : Code) (X : Nat → K) (k : K) : K := aM CF r 52 n c X r133 k
theorem cWm : D133 r n c133 x0 r133 = (K2 (s133 r n) 0 1) :=
 (by kernel_rfl)
theorem cQu : aF CF r n 133 args h = s133 r n (aT args 0) (aT args 1) h :=
 (by kernel_rfl : aF CF r n 133 args h = D133 r n c133 x0 r133 (aJ args) h).trans ((congrFun (congrFun (cWm r n) (aJ args)) h).trans (by kernel_rfl))
noncomputable def s134 (r : RT) (n : Nat) (x0 : DV) (h0 : Hp) : aG :=
 bnd (bJ gX h0) fun v1 h1 =>
 bnd (aX gX [(0, 1, (aH 11))] h1) fun v2 h2 =>
 bnd (bJ gX h2) fun v3 h3 =>
 bnd (aE 6 v3 v2 h3) fun _ h4 =>
 bnd (r 157 [x0, v3] h4) fun v5 h5 =>
 bnd (r 158 [x0] h5) fun v6 h6 =>
 bnd (aB 2 v3 h6) fun v7 h7 =>
 bnd (aE 1 v7 v6 h7) fun _ h8 =>
 bnd (aK 6 v3 h8) fun v9 h9 =>
 bnd (aE 6 v1 v9 h9) fun _ h10 =>
 bnd (aK 6 v1 h10) fun v11 _ =>
 some (v11, h10)
noncomputable abbrev c134 : Code := cf Tryz.f134
noncomputable abbrev r134 : K := aQ CF Tryz.f134
noncomputable def D134 (r : RT) (n : Nat) (c : Code) (X : Nat → K) (k : K) : K := aM CF r 11 n c X r134 k
theorem dBv : D134 r n c134 x0 r134 = (K1 (s134 r n) 0) :=
 (by kernel_rfl)
theorem cKv : aF CF r n 134 args h = s134 r n (aT args 0) h :=
 (by kernel_rfl : aF CF r n 134 args h = D134 r n c134 x0 r134 (aJ args) h).trans ((congrFun (congrFun (dBv r n) (aJ args)) h).trans (by kernel_rfl))
end Go.Dd

namespace Go.Dd
open Go.Proofs
variable (r : RT) (n : Nat) (args : List DV) (h : Hp)
noncomputable def dU (r : RT) (n : Nat) (x6 x9 : DV) (h0 : Hp) : aG :=
 bnd (aP x9 h0) fun v1 h1 =>
 bnd (aB 0 v1 h1) fun v2 h2 =>
 bnd (aK 6 v2 h2) fun v3 h3 =>
 bnd (aE 6 x6 v3 h3) fun _ h4 =>
 bnd (aK 6 x6 h4) fun v5 _ =>
 some (.t [v5, (.s []), (aH 0)], h4)
noncomputable def aBn (r : RT) (n : Nat) (kk9 : bX) (x6 x9 x94 x95 x96 : DV) (h0 : Hp) : aG :=
 bnd (aD .lss x96 x95 h0) fun v1 h1 =>
 aU v1 (
 bnd (aI 3 x94 x96 h1) fun v2 h2 =>
 bnd (aK 3 v2 h2) fun v3 h3 =>
 bnd (bJ [(aH 0), (aH 0), (aH 0)] h3) fun v4 h4 =>
 bnd (aE 3 v4 v3 h4) fun _ h5 =>
 bnd (aK 3 v4 h5) fun v6 h6 =>
 bnd (r 145 [v6] h6) fun v7 h7 =>
 bnd (fL .not v7 h7) fun v8 h8 =>
 aU v8 (
 bnd (aX [(.s []), (aH 0), (aH 0), (aH 0), .l0, .l0] [] h8) fun v9 h9 =>
 bnd (aE 6 x6 v9 h9) fun _ h10 =>
 bnd (aK 6 x6 h10) fun v11 _ =>
 some (.t [v11, (.s []), (aH 12)], h10)) (
 bnd (aD .add x96 (aH 1) h8) fun v12 h12 =>
    kk9 x6 x9 x94 x95 v12 h12)) (
      dU r n x6 x9 h1)
noncomputable def rG (r : RT) (n : Nat) (m : Nat) : bX :=
 Nat.rec (motive := fun _ => bX) (fun _ _ _ _ _ _ => none) (fun _ ih => aBn r n ih) m
noncomputable def bQn (r : RT) (n : Nat) : bX := rG r n n
noncomputable def aMa (r : RT) (n : Nat) (x6 x9 x94 x95 x96 : DV) (h0 : Hp) : aG :=
 bQn r n x6 x9 x94 x95 x96 h0
noncomputable def vK (r : RT) (n : Nat) (x6 x9 : DV) (h0 : Hp) : aG :=
 bnd (aP x9 h0) fun v1 h1 =>
 bnd (aB 0 v1 h1) fun v2 h2 =>
 bnd (aB 5 v2 h2) fun v3 h3 =>
 bnd (aA v3 h3) fun v4 h4 =>
 bnd (bQ v4 h4) fun v5 h5 =>
  aMa r n x6 x9 v4 v5 (aH 0) h5
noncomputable def zR (r : RT) (n : Nat) (x6 x9 : DV) (h0 : Hp) : aG :=
 bnd (aP x9 h0) fun v1 h1 =>
 bnd (aB 8 v1 h1) fun v2 h2 =>
 bnd (aA v2 h2) fun v3 h3 =>
 bnd (aD .neq v3 (aH 0) h3) fun v4 h4 =>
 aU v4 (
 bnd (aX [(.s []), (aH 0), (aH 0), (aH 0), .l0, .l0] [] h4) fun v5 h5 =>
 bnd (aP x9 h5) fun v6 h6 =>
 bnd (aB 7 v6 h6) fun v7 h7 =>
 bnd (aA v7 h7) fun v8 h8 =>
 bnd (aP x9 h8) fun v9 h9 =>
 bnd (aB 8 v9 h9) fun v10 h10 =>
 bnd (aA v10 h10) fun v11 h11 =>
 bnd (aE 6 x6 v5 h11) fun v12 h12 =>
 cnd (bD (aA v10 h12) v11 && (bD (aA v7 h12) v8 && true)) (
 bnd (aK 6 x6 h12) fun v13 _ =>
 some (.t [v13, v8, v11], h12))) (
 bnd (aP x9 h4) fun v14 h14 =>
 bnd (aB 0 v14 h14) fun v15 h15 =>
 bnd (aB 4 v15 h15) fun v16 h16 =>
 bnd (aA v16 h16) fun v17 h17 =>
 bnd (bQ v17 h17) fun v18 h18 =>
 bnd (aD .gtr v18 (aH 60) h18) fun v19 h19 =>
 aU v19 (
 bnd (aX [(.s []), (aH 0), (aH 0), (aH 0), .l0, .l0] [] h19) fun v20 h20 =>
 bnd (aE 6 x6 v20 h20) fun _ h21 =>
 bnd (aK 6 x6 h21) fun v22 _ =>
 some (.t [v22, (.s []), (aH 18)], h21)) (
 bnd (aP x9 h19) fun v23 h23 =>
 bnd (aB 0 v23 h23) fun v24 h24 =>
 bnd (aB 5 v24 h24) fun v25 h25 =>
 bnd (aA v25 h25) fun v26 h26 =>
 bnd (bQ v26 h26) fun v27 h27 =>
 bnd (aD .gtr v27 (aH 400) h27) fun v28 h28 =>
 aU v28 (
 bnd (aX [(.s []), (aH 0), (aH 0), (aH 0), .l0, .l0] [] h28) fun v29 h29 =>
 bnd (aE 6 x6 v29 h29) fun _ h30 =>
 bnd (aK 6 x6 h30) fun v31 _ =>
 some (.t [v31, (.s []), (aH 12)], h30)) (
    vK r n x6 x9 h28)))
noncomputable def dQ (r : RT) (n : Nat) (x2 x3 x6 x9 : DV) (h0 : Hp) : aG :=
 bnd (aK 6 x3 h0) fun v1 h1 =>
 bnd (r 159 [x9, v1, x2] h1) fun v2 h2 =>
  zR r n x6 x9 h2
noncomputable def vX (r : RT) (n : Nat) (kk11 : TT7) (x2 x3 x6 x9 x33 x34 x35 : DV) (h0 : Hp) : aG :=
 bnd (aD .lss x35 x34 h0) fun v1 h1 =>
 aU v1 (
 bnd (aI 1 x33 x35 h1) fun v2 h2 =>
 bnd (aA v2 h2) fun v3 h3 =>
 bnd (aP x9 h3) fun v4 h4 =>
 bnd (aB 6 v4 h4) fun v5 h5 =>
 bnd (aA v5 h5) fun v6 h6 =>
 bnd (aX [(.s []), (.b false), (.b false), (aH 0)] [(0, 1, v3), (1, 1, (.b true)), (2, 1, (.b false)), (3, 1, x35)] h6) fun v7 h7 =>
 bnd (aN [(.s []), (.b false), (.b false), (aH 0)] 1 [(0, 4, v7)] h7) fun v8 h8 =>
 bnd (aW 4 32 v6 v8 h8) fun v9 h9 =>
 bnd (aP x9 h9) fun v10 h10 =>
 bnd (aB 6 v10 h10) fun v11 h11 =>
 bnd (aE 1 v11 v9 h11) fun _ h12 =>
 bnd (aD .add x35 (aH 1) h12) fun v13 h13 =>
      kk11 x2 x3 x6 x9 x33 x34 v13 h13) (
      dQ r n x2 x3 x6 x9 h1)
noncomputable def oK (r : RT) (n : Nat) (m : Nat) : TT7 :=
 Nat.rec (motive := fun _ => TT7) (fun _ _ _ _ _ _ _ _ => none) (fun _ ih => vX r n ih) m
noncomputable def aQx (r : RT) (n : Nat) : TT7 := oK r n n
noncomputable def yT (r : RT) (n : Nat) (x2 x3 x6 x9 x33 x34 x35 : DV) (h0 : Hp) : aG :=
 aQx r n x2 x3 x6 x9 x33 x34 x35 h0
noncomputable def xG (r : RT) (n : Nat) (x1 x2 x3 x6 x9 : DV) (h0 : Hp) : aG :=
 bnd (bQ x1 h0) fun v1 h1 =>
  yT r n x2 x3 x6 x9 x1 v1 (aH 0) h1
noncomputable def pV (r : RT) (n : Nat) (x1 x2 x3 x6 : DV) (h0 : Hp) : aG :=
 bnd (aB 1 x3 h0) fun v1 h1 =>
 bnd (aA v1 h1) fun v2 h2 =>
 bnd (aB 3 x3 h2) fun v3 h3 =>
 bnd (aA v3 h3) fun v4 h4 =>
 bnd (bQ v4 h4) fun v5 h5 =>
 bnd (aB 2 x3 h5) fun v6 h6 =>
 bnd (aA v6 h6) fun v7 h7 =>
 bnd (aX [(.s []), (aH 0), (aH 0), (aH 0), .l0, .l0] [(0, 1, v2), (1, 1, v5), (3, 1, v7)] h7) fun v8 h8 =>
 bnd (aX [(.s []), (aH 0), (aH 0), (aH 0), .l0, .l0, .l0, (.s []), (aH 0)] [(0, 6, v8)] h8) fun v9 h9 =>
 bnd (bS v9 h9) fun v10 h10 =>
  xG r n x1 x2 x3 x6 v10 h10
noncomputable def qL (r : RT) (n : Nat) (x1 x2 x3 x6 : DV) (h0 : Hp) : aG :=
 bnd (aB 0 x3 h0) fun v1 h1 =>
 bnd (aA v1 h1) fun v2 h2 =>
 bnd (aD .neq v2 (aH 11) h2) fun v3 h3 =>
 bnd (gD v3 false (some (x1, h3)) h3) fun v4 h4 =>
 bnd (gD v3 false (bQ v4 h4) h4) fun v5 h5 =>
 bnd (gD v3 false (aD .gtr v5 (aH 8) h5) h5) fun v6 h6 =>
 bnd (aO v3 (.b true) v6 h6) fun v7 h7 =>
 aU v7 (
 bnd (aX [(.s []), (aH 0), (aH 0), (aH 0), .l0, .l0] [] h7) fun v8 h8 =>
 bnd (aE 6 x6 v8 h8) fun _ h9 =>
 bnd (aK 6 x6 h9) fun v10 _ =>
 some (.t [v10, (.s []), (aH 1)], h9)) (
  pV r n x1 x2 x3 x6 h7)
noncomputable def s135 (r : RT) (n : Nat) (x0 x1 x2 : DV) (h0 : Hp) : aG :=
 bnd (bS x0 h0) fun v1 h1 =>
 bnd (bJ [(.s []), (aH 0), (aH 0), (aH 0), .l0, .l0] h1) fun v2 h2 =>
  qL r n x1 x2 v1 v2 h2
noncomputable abbrev c135 : Code := cf Tryz.f135
noncomputable abbrev aEy : Code := cR c135
noncomputable abbrev aEf : Code := cR aEy
noncomputable abbrev zP : Code := cR aEf
noncomputable abbrev aEo : Code := cR zP
noncomputable abbrev aFg : Code := cR aEo
noncomputable abbrev aFs : Code := cR aFg
noncomputable abbrev cPn : Code := cR aFs
noncomputable abbrev uT : Code := cL aFs
noncomputable abbrev aOo : Code := cR uT
noncomputable abbrev sJ : Code := cL aOo
noncomputable abbrev jH : Code := cL sJ
noncomputable abbrev aVz : Code := cL uT
noncomputable abbrev zM : Code := cL aFg
noncomputable abbrev aQk : Code := cL aEo
noncomputable abbrev oM : Code := cL zP
noncomputable abbrev aCh : Code := cR oM
noncomputable abbrev sD : Code := cL aCh
noncomputable abbrev jF : Code := cL sD
noncomputable abbrev aSh : Code := cL oM
noncomputable abbrev aFc : Code := cL aEf
noncomputable abbrev aDm : Code := cL aEy
noncomputable abbrev aAj : Code := cL c135
noncomputable abbrev r135 : K := aQ CF Tryz.f135
noncomputable def D135 (r : RT) (n : Nat) (c : Code) (X : Nat → K) (k : K) : K := aM CF r 109 n c X r135 k
theorem bWe : D135 r n cPn x0 r135 = (K2 (dU r n) 6 9) :=
 (by kernel_rfl)
theorem bGm (kk9 : bX) (q0 : gP) : D135 r n jH (xs x0 3 (K2 q0 6 9)) (K5 kk9 6 9 94 95 96) = fun (env : aS) (h : Hp) =>
 bnd (aD .lss (env 96) (env 95) h) fun v1 h1 =>
 aU v1 (
 bnd (aI 3 (env 94) (env 96) h1) fun v2 h2 =>
 bnd (aK 3 v2 h2) fun v3 h3 =>
 bnd (bJ [(aH 0), (aH 0), (aH 0)] h3) fun v4 h4 =>
 bnd (aE 3 v4 v3 h4) fun _ h5 =>
 bnd (aK 3 v4 h5) fun v6 h6 =>
 bnd (r 145 [v6] h6) fun v7 h7 =>
 bnd (fL .not v7 h7) fun v8 h8 =>
 aU v8 (
 bnd (aX [(.s []), (aH 0), (aH 0), (aH 0), .l0, .l0] [] h8) fun v9 h9 =>
 bnd (aE 6 (env 6) v9 h9) fun _ h10 =>
 bnd (aK 6 (env 6) h10) fun v11 _ =>
 some (.t [v11, (.s []), (aH 12)], h10)) (
 bnd (aD .add (env 96) (aH 1) h8) fun v12 h12 =>
    kk9 (env 6) (env 9) (env 94) (env 95) v12 h12)) (
      q0 (env 6) (env 9) h1) := by kernel_rfl
theorem aYk (kk9 : bX) : (fun (env : aS) (h : Hp) =>
 bnd (aD .lss (env 96) (env 95) h) fun v1 h1 =>
 aU v1 (
 bnd (aI 3 (env 94) (env 96) h1) fun v2 h2 =>
 bnd (aK 3 v2 h2) fun v3 h3 =>
 bnd (bJ [(aH 0), (aH 0), (aH 0)] h3) fun v4 h4 =>
 bnd (aE 3 v4 v3 h4) fun _ h5 =>
 bnd (aK 3 v4 h5) fun v6 h6 =>
 bnd (r 145 [v6] h6) fun v7 h7 =>
 bnd (fL .not v7 h7) fun v8 h8 =>
 aU v8 (
 bnd (aX [(.s []), (aH 0), (aH 0), (aH 0), .l0, .l0] [] h8) fun v9 h9 =>
 bnd (aE 6 (env 6) v9 h9) fun _ h10 =>
 bnd (aK 6 (env 6) h10) fun v11 _ =>
 some (.t [v11, (.s []), (aH 12)], h10)) (
 bnd (aD .add (env 96) (aH 1) h8) fun v12 h12 =>
    kk9 (env 6) (env 9) (env 94) (env 95) v12 h12)) (
      dU r n (env 6) (env 9) h1)) = (K5 (aBn r n kk9) 6 9 94 95 96) := by kernel_rfl
theorem bLy (kk9 : bX) : D135 r n jH (xs x0 3 (K2 (dU r n) 6 9)) (K5 kk9 6 9 94 95 96) = (K5 (aBn r n kk9) 6 9 94 95 96) :=
 (bGm r n kk9 (dU r n)).trans (aYk r n kk9)
theorem bCl (m : Nat) : aL (fun kk => D135 r n jH (xs x0 3 (K2 (dU r n) 6 9)) kk) m = (K5 (rG r n m) 6 9 94 95 96) := by
 induction m with
 | zero => exact (by kernel_rfl : aL (fun kk => D135 r n jH (xs x0 3 (K2 (dU r n) 6 9)) kk) 0 = (K5 (rG r n 0) 6 9 94 95 96))
 | succ m ih =>
  refine (by kernel_rfl : aL (fun kk => D135 r n jH (xs x0 3 (K2 (dU r n) 6 9)) kk) (m + 1) = D135 r n jH (xs x0 3 (K2 (dU r n) 6 9)) (aL (fun kk => D135 r n jH (xs x0 3 (K2 (dU r n) 6 9)) kk) m)).trans ?_
  rw [ih]
  exact (bLy r n (rG r n m)).trans (by kernel_rfl)
theorem cDg : D135 r n sJ (xs x0 3 (K2 (dU r n) 6 9)) (K2 (dU r n) 6 9) = (K5 (bQn r n) 6 9 94 95 96) :=
 (by kernel_rfl : D135 r n sJ (xs x0 3 (K2 (dU r n) 6 9)) (K2 (dU r n) 6 9) = aL (fun kk => D135 r n jH (xs x0 3 (K2 (dU r n) 6 9)) kk) n).trans ((bCl r n n).trans (by kernel_rfl))
theorem cHv : D135 r n aOo x0 (K2 (dU r n) 6 9) = (K5 (aMa r n) 6 9 94 95 96) :=
 (by kernel_rfl : D135 r n aOo x0 (K2 (dU r n) 6 9) = D135 r n sJ (xs x0 3 (K2 (dU r n) 6 9)) (K2 (dU r n) 6 9)).trans
 ((cDg r n).trans (by kernel_rfl))
theorem bJr : D135 r n aFs x0 r135 = D135 r n uT x0 (K2 (dU r n) 6 9) :=
 congrArg (fun k => D135 r n uT x0 k) (bWe r n)
theorem bRq : D135 r n uT x0 (K2 (dU r n) 6 9) = D135 r n aVz x0 (K5 (aMa r n) 6 9 94 95 96) :=
 congrArg (fun k => D135 r n aVz x0 k) (cHv r n)
theorem cAn : D135 r n aFs x0 r135 = (K2 (vK r n) 6 9) :=
 (bJr r n).trans
 ((bRq r n).trans
 ((by kernel_rfl)))
theorem bBu : D135 r n aFg x0 r135 = D135 r n zM x0 (K2 (vK r n) 6 9) :=
 congrArg (fun k => D135 r n zM x0 k) (cAn r n)
theorem bHr (q0 : gP) : D135 r n zM x0 (K2 q0 6 9) = fun (env : aS) (h : Hp) =>
 bnd (aP (env 9) h) fun v1 h1 =>
 bnd (aB 8 v1 h1) fun v2 h2 =>
 bnd (aA v2 h2) fun v3 h3 =>
 bnd (aD .neq v3 (aH 0) h3) fun v4 h4 =>
 aU v4 (
 bnd (aX [(.s []), (aH 0), (aH 0), (aH 0), .l0, .l0] [] h4) fun v5 h5 =>
 bnd (aP (env 9) h5) fun v6 h6 =>
 bnd (aB 7 v6 h6) fun v7 h7 =>
 bnd (aA v7 h7) fun v8 h8 =>
 bnd (aP (env 9) h8) fun v9 h9 =>
 bnd (aB 8 v9 h9) fun v10 h10 =>
 bnd (aA v10 h10) fun v11 h11 =>
 bnd (aE 6 (env 6) v5 h11) fun v12 h12 =>
 cnd (bD (aA v10 h12) v11 && (bD (aA v7 h12) v8 && true)) (
 bnd (aK 6 (env 6) h12) fun v13 _ =>
 some (.t [v13, v8, v11], h12))) (
 bnd (aP (env 9) h4) fun v14 h14 =>
 bnd (aB 0 v14 h14) fun v15 h15 =>
 bnd (aB 4 v15 h15) fun v16 h16 =>
 bnd (aA v16 h16) fun v17 h17 =>
 bnd (bQ v17 h17) fun v18 h18 =>
 bnd (aD .gtr v18 (aH 60) h18) fun v19 h19 =>
 aU v19 (
 bnd (aX [(.s []), (aH 0), (aH 0), (aH 0), .l0, .l0] [] h19) fun v20 h20 =>
 bnd (aE 6 (env 6) v20 h20) fun _ h21 =>
 bnd (aK 6 (env 6) h21) fun v22 _ =>
 some (.t [v22, (.s []), (aH 18)], h21)) (
 bnd (aP (env 9) h19) fun v23 h23 =>
 bnd (aB 0 v23 h23) fun v24 h24 =>
 bnd (aB 5 v24 h24) fun v25 h25 =>
 bnd (aA v25 h25) fun v26 h26 =>
 bnd (bQ v26 h26) fun v27 h27 =>
 bnd (aD .gtr v27 (aH 400) h27) fun v28 h28 =>
 aU v28 (
 bnd (aX [(.s []), (aH 0), (aH 0), (aH 0), .l0, .l0] [] h28) fun v29 h29 =>
 bnd (aE 6 (env 6) v29 h29) fun _ h30 =>
 bnd (aK 6 (env 6) h30) fun v31 _ =>
 some (.t [v31, (.s []), (aH 12)], h30)) (
     q0 (env 6) (env 9) h28))) := by kernel_rfl
theorem aXk : (fun (env : aS) (h : Hp) =>
 bnd (aP (env 9) h) fun v1 h1 =>
 bnd (aB 8 v1 h1) fun v2 h2 =>
 bnd (aA v2 h2) fun v3 h3 =>
 bnd (aD .neq v3 (aH 0) h3) fun v4 h4 =>
 aU v4 (
 bnd (aX [(.s []), (aH 0), (aH 0), (aH 0), .l0, .l0] [] h4) fun v5 h5 =>
 bnd (aP (env 9) h5) fun v6 h6 =>
 bnd (aB 7 v6 h6) fun v7 h7 =>
 bnd (aA v7 h7) fun v8 h8 =>
 bnd (aP (env 9) h8) fun v9 h9 =>
 bnd (aB 8 v9 h9) fun v10 h10 =>
 bnd (aA v10 h10) fun v11 h11 =>
 bnd (aE 6 (env 6) v5 h11) fun v12 h12 =>
 cnd (bD (aA v10 h12) v11 && (bD (aA v7 h12) v8 && true)) (
 bnd (aK 6 (env 6) h12) fun v13 _ =>
 some (.t [v13, v8, v11], h12))) (
 bnd (aP (env 9) h4) fun v14 h14 =>
 bnd (aB 0 v14 h14) fun v15 h15 =>
 bnd (aB 4 v15 h15) fun v16 h16 =>
 bnd (aA v16 h16) fun v17 h17 =>
 bnd (bQ v17 h17) fun v18 h18 =>
 bnd (aD .gtr v18 (aH 60) h18) fun v19 h19 =>
 aU v19 (
 bnd (aX [(.s []), (aH 0), (aH 0), (aH 0), .l0, .l0] [] h19) fun v20 h20 =>
 bnd (aE 6 (env 6) v20 h20) fun _ h21 =>
 bnd (aK 6 (env 6) h21) fun v22 _ =>
 some (.t [v22, (.s []), (aH 18)], h21)) (
 bnd (aP (env 9) h19) fun v23 h23 =>
 bnd (aB 0 v23 h23) fun v24 h24 =>
 bnd (aB 5 v24 h24) fun v25 h25 =>
 bnd (aA v25 h25) fun v26 h26 =>
 bnd (bQ v26 h26) fun v27 h27 =>
 bnd (aD .gtr v27 (aH 400) h27) fun v28 h28 =>
 aU v28 (
 bnd (aX [(.s []), (aH 0), (aH 0), (aH 0), .l0, .l0] [] h28) fun v29 h29 =>
 bnd (aE 6 (env 6) v29 h29) fun _ h30 =>
 bnd (aK 6 (env 6) h30) fun v31 _ =>
 some (.t [v31, (.s []), (aH 12)], h30)) (
     vK r n (env 6) (env 9) h28)))) = (K2 (zR r n) 6 9) := by kernel_rfl
theorem cGv : D135 r n aFg x0 r135 = (K2 (zR r n) 6 9) :=
 (bBu r n).trans
 ((bHr r n (vK r n)).trans (aXk r n))
theorem bBp : D135 r n aEo x0 r135 = D135 r n aQk x0 (K2 (zR r n) 6 9) :=
 congrArg (fun k => D135 r n aQk x0 k) (cGv r n)
theorem cBo : D135 r n aEo x0 r135 = (K4 (dQ r n) 2 3 6 9) :=
 (bBp r n).trans
 ((by kernel_rfl))
theorem aZl (kk11 : TT7) (q0 : dD) : D135 r n jF (xs x0 0 (K4 q0 2 3 6 9)) (K7 kk11 2 3 6 9 33 34 35) = fun (env : aS) (h : Hp) =>
 bnd (aD .lss (env 35) (env 34) h) fun v1 h1 =>
 aU v1 (
 bnd (aI 1 (env 33) (env 35) h1) fun v2 h2 =>
 bnd (aA v2 h2) fun v3 h3 =>
 bnd (aP (env 9) h3) fun v4 h4 =>
 bnd (aB 6 v4 h4) fun v5 h5 =>
 bnd (aA v5 h5) fun v6 h6 =>
 bnd (aX [(.s []), (.b false), (.b false), (aH 0)] [(0, 1, v3), (1, 1, (.b true)), (2, 1, (.b false)), (3, 1, (env 35))] h6) fun v7 h7 =>
 bnd (aN [(.s []), (.b false), (.b false), (aH 0)] 1 [(0, 4, v7)] h7) fun v8 h8 =>
 bnd (aW 4 32 v6 v8 h8) fun v9 h9 =>
 bnd (aP (env 9) h9) fun v10 h10 =>
 bnd (aB 6 v10 h10) fun v11 h11 =>
 bnd (aE 1 v11 v9 h11) fun _ h12 =>
 bnd (aD .add (env 35) (aH 1) h12) fun v13 h13 =>
      kk11 (env 2) (env 3) (env 6) (env 9) (env 33) (env 34) v13 h13) (
      q0 (env 2) (env 3) (env 6) (env 9) h1) := by kernel_rfl
theorem aKf (kk11 : TT7) : (fun (env : aS) (h : Hp) =>
 bnd (aD .lss (env 35) (env 34) h) fun v1 h1 =>
 aU v1 (
 bnd (aI 1 (env 33) (env 35) h1) fun v2 h2 =>
 bnd (aA v2 h2) fun v3 h3 =>
 bnd (aP (env 9) h3) fun v4 h4 =>
 bnd (aB 6 v4 h4) fun v5 h5 =>
 bnd (aA v5 h5) fun v6 h6 =>
 bnd (aX [(.s []), (.b false), (.b false), (aH 0)] [(0, 1, v3), (1, 1, (.b true)), (2, 1, (.b false)), (3, 1, (env 35))] h6) fun v7 h7 =>
 bnd (aN [(.s []), (.b false), (.b false), (aH 0)] 1 [(0, 4, v7)] h7) fun v8 h8 =>
 bnd (aW 4 32 v6 v8 h8) fun v9 h9 =>
 bnd (aP (env 9) h9) fun v10 h10 =>
 bnd (aB 6 v10 h10) fun v11 h11 =>
 bnd (aE 1 v11 v9 h11) fun _ h12 =>
 bnd (aD .add (env 35) (aH 1) h12) fun v13 h13 =>
      kk11 (env 2) (env 3) (env 6) (env 9) (env 33) (env 34) v13 h13) (
      dQ r n (env 2) (env 3) (env 6) (env 9) h1)) = (K7 (vX r n kk11) 2 3 6 9 33 34 35) := by kernel_rfl
theorem aYx (kk11 : TT7) : D135 r n jF (xs x0 0 (K4 (dQ r n) 2 3 6 9)) (K7 kk11 2 3 6 9 33 34 35) = (K7 (vX r n kk11) 2 3 6 9 33 34 35) :=
 (aZl r n kk11 (dQ r n)).trans (aKf r n kk11)
theorem aXj (m : Nat) : aL (fun kk => D135 r n jF (xs x0 0 (K4 (dQ r n) 2 3 6 9)) kk) m = (K7 (oK r n m) 2 3 6 9 33 34 35) := by
 induction m with
 | zero => exact (by kernel_rfl : aL (fun kk => D135 r n jF (xs x0 0 (K4 (dQ r n) 2 3 6 9)) kk) 0 = (K7 (oK r n 0) 2 3 6 9 33 34 35))
 | succ m ih =>
  refine (by kernel_rfl : aL (fun kk => D135 r n jF (xs x0 0 (K4 (dQ r n) 2 3 6 9)) kk) (m + 1) = D135 r n jF (xs x0 0 (K4 (dQ r n) 2 3 6 9)) (aL (fun kk => D135 r n jF (xs x0 0 (K4 (dQ r n) 2 3 6 9)) kk) m)).trans ?_
  rw [ih]
  exact (aYx r n (oK r n m)).trans (by kernel_rfl)
theorem bIn : D135 r n sD (xs x0 0 (K4 (dQ r n) 2 3 6 9)) (K4 (dQ r n) 2 3 6 9) = (K7 (aQx r n) 2 3 6 9 33 34 35) :=
 (by kernel_rfl : D135 r n sD (xs x0 0 (K4 (dQ r n) 2 3 6 9)) (K4 (dQ r n) 2 3 6 9) = aL (fun kk => D135 r n jF (xs x0 0 (K4 (dQ r n) 2 3 6 9)) kk) n).trans ((aXj r n n).trans (by kernel_rfl))
theorem bRu : D135 r n aCh x0 (K4 (dQ r n) 2 3 6 9) = (K7 (yT r n) 2 3 6 9 33 34 35) :=
 (by kernel_rfl : D135 r n aCh x0 (K4 (dQ r n) 2 3 6 9) = D135 r n sD (xs x0 0 (K4 (dQ r n) 2 3 6 9)) (K4 (dQ r n) 2 3 6 9)).trans
 ((bIn r n).trans (by kernel_rfl))
theorem bPm : D135 r n zP x0 r135 = D135 r n oM x0 (K4 (dQ r n) 2 3 6 9) :=
 congrArg (fun k => D135 r n oM x0 k) (cBo r n)
theorem bEu : D135 r n oM x0 (K4 (dQ r n) 2 3 6 9) = D135 r n aSh x0 (K7 (yT r n) 2 3 6 9 33 34 35) :=
 congrArg (fun k => D135 r n aSh x0 k) (bRu r n)
theorem cDa : D135 r n zP x0 r135 = (K5 (xG r n) 1 2 3 6 9) :=
 (bPm r n).trans
 ((bEu r n).trans
 ((by kernel_rfl)))
theorem aZm : D135 r n aEf x0 r135 = D135 r n aFc x0 (K5 (xG r n) 1 2 3 6 9) :=
 congrArg (fun k => D135 r n aFc x0 k) (cDa r n)
theorem bAk (q0 : bX) : D135 r n aFc x0 (K5 q0 1 2 3 6 9) = fun (env : aS) (h : Hp) =>
 bnd (aB 1 (env 3) h) fun v1 h1 =>
 bnd (aA v1 h1) fun v2 h2 =>
 bnd (aB 3 (env 3) h2) fun v3 h3 =>
 bnd (aA v3 h3) fun v4 h4 =>
 bnd (bQ v4 h4) fun v5 h5 =>
 bnd (aB 2 (env 3) h5) fun v6 h6 =>
 bnd (aA v6 h6) fun v7 h7 =>
 bnd (aX [(.s []), (aH 0), (aH 0), (aH 0), .l0, .l0] [(0, 1, v2), (1, 1, v5), (3, 1, v7)] h7) fun v8 h8 =>
 bnd (aX [(.s []), (aH 0), (aH 0), (aH 0), .l0, .l0, .l0, (.s []), (aH 0)] [(0, 6, v8)] h8) fun v9 h9 =>
 bnd (bS v9 h9) fun v10 h10 =>
  q0 (env 1) (env 2) (env 3) (env 6) v10 h10 := by kernel_rfl
theorem aOe : (fun (env : aS) (h : Hp) =>
 bnd (aB 1 (env 3) h) fun v1 h1 =>
 bnd (aA v1 h1) fun v2 h2 =>
 bnd (aB 3 (env 3) h2) fun v3 h3 =>
 bnd (aA v3 h3) fun v4 h4 =>
 bnd (bQ v4 h4) fun v5 h5 =>
 bnd (aB 2 (env 3) h5) fun v6 h6 =>
 bnd (aA v6 h6) fun v7 h7 =>
 bnd (aX [(.s []), (aH 0), (aH 0), (aH 0), .l0, .l0] [(0, 1, v2), (1, 1, v5), (3, 1, v7)] h7) fun v8 h8 =>
 bnd (aX [(.s []), (aH 0), (aH 0), (aH 0), .l0, .l0, .l0, (.s []), (aH 0)] [(0, 6, v8)] h8) fun v9 h9 =>
 bnd (bS v9 h9) fun v10 h10 =>
  xG r n (env 1) (env 2) (env 3) (env 6) v10 h10) = (K4 (pV r n) 1 2 3 6) := by kernel_rfl
theorem bZw : D135 r n aEf x0 r135 = (K4 (pV r n) 1 2 3 6) :=
 (aZm r n).trans
 ((bAk r n (xG r n)).trans (aOe r n))
theorem bBa : D135 r n aEy x0 r135 = D135 r n aDm x0 (K4 (pV r n) 1 2 3 6) :=
 congrArg (fun k => D135 r n aDm x0 k) (bZw r n)
theorem aYg (q0 : dD) : D135 r n aDm x0 (K4 q0 1 2 3 6) = fun (env : aS) (h : Hp) =>
 bnd (aB 0 (env 3) h) fun v1 h1 =>
 bnd (aA v1 h1) fun v2 h2 =>
 bnd (aD .neq v2 (aH 11) h2) fun v3 h3 =>
 bnd (gD v3 false (some ((env 1), h3)) h3) fun v4 h4 =>
 bnd (gD v3 false (bQ v4 h4) h4) fun v5 h5 =>
 bnd (gD v3 false (aD .gtr v5 (aH 8) h5) h5) fun v6 h6 =>
 bnd (aO v3 (.b true) v6 h6) fun v7 h7 =>
 aU v7 (
 bnd (aX [(.s []), (aH 0), (aH 0), (aH 0), .l0, .l0] [] h7) fun v8 h8 =>
 bnd (aE 6 (env 6) v8 h8) fun _ h9 =>
 bnd (aK 6 (env 6) h9) fun v10 _ =>
 some (.t [v10, (.s []), (aH 1)], h9)) (
   q0 (env 1) (env 2) (env 3) (env 6) h7) := by kernel_rfl
theorem aPf : (fun (env : aS) (h : Hp) =>
 bnd (aB 0 (env 3) h) fun v1 h1 =>
 bnd (aA v1 h1) fun v2 h2 =>
 bnd (aD .neq v2 (aH 11) h2) fun v3 h3 =>
 bnd (gD v3 false (some ((env 1), h3)) h3) fun v4 h4 =>
 bnd (gD v3 false (bQ v4 h4) h4) fun v5 h5 =>
 bnd (gD v3 false (aD .gtr v5 (aH 8) h5) h5) fun v6 h6 =>
 bnd (aO v3 (.b true) v6 h6) fun v7 h7 =>
 aU v7 (
 bnd (aX [(.s []), (aH 0), (aH 0), (aH 0), .l0, .l0] [] h7) fun v8 h8 =>
 bnd (aE 6 (env 6) v8 h8) fun _ h9 =>
 bnd (aK 6 (env 6) h9) fun v10 _ =>
 some (.t [v10, (.s []), (aH 1)], h9)) (
   pV r n (env 1) (env 2) (env 3) (env 6) h7)) = (K4 (qL r n) 1 2 3 6) := by kernel_rfl
theorem cHr : D135 r n aEy x0 r135 = (K4 (qL r n) 1 2 3 6) :=
 (bBa r n).trans
 ((aYg r n (pV r n)).trans (aPf r n))
theorem bZq : D135 r n c135 x0 r135 = D135 r n aAj x0 (K4 (qL r n) 1 2 3 6) :=
 congrArg (fun k => D135 r n aAj x0 k) (cHr r n)
theorem cCk (q0 : dD) : D135 r n aAj x0 (K4 q0 1 2 3 6) = fun (env : aS) (h : Hp) =>
 bnd (bS (env 0) h) fun v1 h1 =>
 bnd (bJ [(.s []), (aH 0), (aH 0), (aH 0), .l0, .l0] h1) fun v2 h2 =>
  q0 (env 1) (env 2) v1 v2 h2 := by kernel_rfl
theorem bPg : (fun (env : aS) (h : Hp) =>
 bnd (bS (env 0) h) fun v1 h1 =>
 bnd (bJ [(.s []), (aH 0), (aH 0), (aH 0), .l0, .l0] h1) fun v2 h2 =>
  qL r n (env 1) (env 2) v1 v2 h2) = (K3 (s135 r n) 0 1 2) := by kernel_rfl
theorem dBq : D135 r n c135 x0 r135 = (K3 (s135 r n) 0 1 2) :=
 (bZq r n).trans
 ((cCk r n (qL r n)).trans (bPg r n))
theorem cTi : aF CF r n 135 args h = s135 r n (aT args 0) (aT args 1) (aT args 2) h :=
 (by kernel_rfl : aF CF r n 135 args h = D135 r n c135 x0 r135 (aJ args) h).trans ((congrFun (congrFun (dBq r n) (aJ args)) h).trans (by kernel_rfl))
noncomputable def s136 (r : RT) (n : Nat) (x0 x1 x2 : DV) (h0 : Hp) : aG :=
 bnd (bS x2 h0) fun v1 h1 =>
 bnd (r 110 [x0, x1] h1) fun v2 h2 =>
 bnd (fL .not v2 h2) fun v3 h3 =>
 aU v3 (
 some (.t [(aH 0), (aH 24)], h3)) (
 bnd (aK 6 v1 h3) fun v4 h4 =>
 bnd (r 132 [x0, x1] h4) fun v5 h5 =>
 cnd (bD (aK 6 v1 h5) v4 && true) (
 bnd (r 63 [v4, v5] h5) fun v6 h6 =>
 bnd (aD .neq v6 (aH 0) h6) fun v7 h7 =>
 aU v7 (
 some (.t [(aH 0), v6], h7)) (
 bnd (aB 0 v1 h7) fun v8 h8 =>
 bnd (aA v8 h8) fun v9 h9 =>
 bnd (r 10 [x0, v9] h9) fun v10 h10 =>
 bnd (aC 0 v10 h10) fun v11 h11 =>
 bnd (aC 1 v10 h11) fun v12 h12 =>
 bnd (aD .neq v12 (aH 0) h12) fun v13 h13 =>
 aU v13 (
 some (.t [(aH 0), v12], h13)) (
 bnd (aB 4 v1 h13) fun v14 h14 =>
 bnd (aA v14 h14) fun v15 h15 =>
 bnd (aX [(aH 0), (.s []), (aH 0), .l0] [(0, 1, (aH 4)), (3, 1, v15)] h15) fun v16 h16 =>
 bnd (r 64 [x0, v16] h16) fun v17 h17 =>
 bnd (aC 0 v17 h17) fun v18 h18 =>
 bnd (aC 1 v17 h18) fun v19 h19 =>
 bnd (aD .neq v19 (aH 0) h19) fun v20 h20 =>
 aU v20 (
 some (.t [(aH 0), v19], h20)) (
 bnd (aB 5 v1 h20) fun v21 h21 =>
 bnd (aA v21 h21) fun v22 h22 =>
 bnd (r 160 [v22] h22) fun v23 h23 =>
 bnd (aC 0 v23 h23) fun v24 h24 =>
 bnd (aC 1 v23 h24) fun v25 h25 =>
 bnd (r 161 [x0, v24] h25) fun v26 h26 =>
 bnd (aC 0 v26 h26) fun v27 h27 =>
 bnd (aC 1 v26 h27) fun v28 h28 =>
 bnd (aD .neq v28 (aH 0) h28) fun v29 h29 =>
 aU v29 (
 some (.t [(aH 0), v28], h29)) (
 bnd (r 34 [x0, (aH 14)] (resv 1 h29)) fun v30 h30 =>
 bnd (aB 1 v1 h30) fun v31 h31 =>
 bnd (aA v31 h31) fun v32 h32 =>
 cnd (bD (aA v31 (resv 1 h29)) v32 && true) (
 bnd (r 37 [v32] h32) fun v33 h33 =>
 bnd (aB 2 v1 h33) fun v34 h34 =>
 bnd (aA v34 h34) fun v35 h35 =>
 cnd (bD (aA v34 h30) v35 && (bD (aA v34 (resv 1 h29)) v35 && true)) (
 bnd (r 37 [v35] h35) fun v36 h36 =>
 bnd (aB 3 v1 h36) fun v37 h37 =>
 bnd (aA v37 h37) fun v38 h38 =>
 cnd (bD (aA v37 h33) v38 && (bD (aA v37 h30) v38 && (bD (aA v37 (resv 1 h29)) v38 && true))) (
 bnd (r 37 [v38] h38) fun v39 h39 =>
 bnd (bH (aY 0 h29.next) [(aH 0), (aH 0), (aH 0), (aH 0), (aH 0), (aH 0), (aH 0)] 7 [(0, 1, v11), (1, 1, v33), (2, 1, v36), (3, 1, v39), (4, 1, v18), (5, 1, v27), (6, 1, x1)] h39) fun v40 h40 =>
 bnd (r 87 [x0, v30, (aH 0), v40] h40) fun v41 h41 =>
 bnd (aC 0 v41 h41) fun v42 h42 =>
 bnd (aC 1 v41 h42) fun v43 h43 =>
 some (.t [v42, v43], h43))))))))))
noncomputable abbrev c136 : Code := cf Tryz.f136
noncomputable abbrev r136 : K := aQ CF Tryz.f136
noncomputable def D136 (r : RT) (n : Nat) (c : Code) (X : Nat → K) (k : K) : K := aM CF r 83 n c X r136 k
theorem dBh : D136 r n c136 x0 r136 = (K3 (s136 r n) 0 1 2) :=
 (by kernel_rfl)
theorem cQn : aF CF r n 136 args h = s136 r n (aT args 0) (aT args 1) (aT args 2) h :=
 (by kernel_rfl : aF CF r n 136 args h = D136 r n c136 x0 r136 (aJ args) h).trans ((congrFun (congrFun (dBh r n) (aJ args)) h).trans (by kernel_rfl))
noncomputable def eG (r : RT) (n : Nat) (x0 x1 x3 : DV) (h0 : Hp) : aG :=
 bnd (r 111 [x0, x1, (aH 4)] h0) fun v1 h1 =>
 bnd (r 39 [x0, x3, v1] h1) fun v2 h2 =>
 bnd (aC 0 v2 h2) fun v3 h3 =>
 bnd (aC 1 v2 h3) fun v4 h4 =>
 bnd (aD .neq v4 (aH 0) h4) fun v5 h5 =>
 aU v5 (
 some (v4, h5)) (
 bnd (aP x0 h5) fun v6 h6 =>
 bnd (aB 0 v6 h6) fun v7 h7 =>
 bnd (aA v7 h7) fun v8 h8 =>
 bnd (aHp [v8, x1, (aH 4), v3] h8) fun v9 h9 =>
 some (v9, h9))
noncomputable def aUd (r : RT) (n : Nat) (kk5 : eR) (x0 x1 x2 x3 x9 x10 : DV) (h0 : Hp) : aG :=
 bnd (aD .gtr x10 (aH 0) h0) fun v1 h1 =>
 bnd (gD v1 true (some (x0, h1)) h1) fun v2 h2 =>
 bnd (gD v1 true (aP v2 h2) h2) fun v3 h3 =>
 bnd (gD v1 true (aB 0 v3 h3) h3) fun v4 h4 =>
 bnd (gD v1 true (aA v4 h4) h4) fun v5 h5 =>
 bnd (gD v1 true (some (x9, h5)) h5) fun v6 h6 =>
 bnd (gD v1 true (isF [v5, v6] h6) h6) fun v7 h7 =>
 bnd (aO v1 v7 (.b false) h7) fun v8 h8 =>
 aU v8 (
 bnd (r 111 [x0, x9, (aH 0)] h8) fun v9 h9 =>
 bnd (r 111 [x0, v9, (aH 0)] h9) fun v10 h10 =>
 bnd (aD .eql v10 x2 h10) fun v11 h11 =>
 aU v11 (
 bnd (aP x0 h11) fun v12 h12 =>
 bnd (aB 0 v12 h12) fun v13 h13 =>
 bnd (aA v13 h13) fun v14 h14 =>
 bnd (aHp [v14, x9, (aH 0), x3] h14) fun v15 h15 =>
 some (v15, h15)) (
 bnd (r 111 [x0, x9, (aH 1)] h11) fun v16 h16 =>
 bnd (aD .sub x10 (aH 1) h16) fun v17 h17 =>
    kk5 x0 x1 x2 x3 v16 v17 h17)) (
      eG r n x0 x1 x3 h8)
noncomputable def tD (r : RT) (n : Nat) (m : Nat) : eR :=
 Nat.rec (motive := fun _ => eR) (fun _ _ _ _ _ _ _ => none) (fun _ ih => aUd r n ih) m
noncomputable def bEl (r : RT) (n : Nat) : eR := tD r n n
noncomputable def aPl (r : RT) (n : Nat) (x0 x1 x2 x3 x9 x10 : DV) (h0 : Hp) : aG :=
 bEl r n x0 x1 x2 x3 x9 x10 h0
noncomputable def aOq (r : RT) (n : Nat) (x0 x1 x2 x3 x9 : DV) (h0 : Hp) : aG :=
 bnd (aP x0 h0) fun v1 h1 =>
 bnd (aB 0 v1 h1) fun v2 h2 =>
 bnd (aA v2 h2) fun v3 h3 =>
 bnd (mA [v3] h3) fun v4 h4 =>
  aPl r n x0 x1 x2 x3 x9 v4 h4
noncomputable def aMc (r : RT) (n : Nat) (x0 x1 x2 x3 : DV) (h0 : Hp) : aG :=
 bnd (r 111 [x0, x1, (aH 4)] h0) fun v1 h1 =>
  aOq r n x0 x1 x2 x3 v1 h1
noncomputable def s137 (r : RT) (n : Nat) (x0 x1 x2 x3 : DV) (h0 : Hp) : aG :=
 aMc r n x0 x1 x2 x3 h0
noncomputable abbrev c137 : Code := cf Tryz.f137
noncomputable abbrev aBo : Code := cR c137
noncomputable abbrev aCu : Code := cR aBo
noncomputable abbrev cKf : Code := cR aCu
noncomputable abbrev vV : Code := cL aCu
noncomputable abbrev aPj : Code := cR vV
noncomputable abbrev aDx : Code := cL aPj
noncomputable abbrev nK : Code := cL aDx
noncomputable abbrev bMg : Code := cL vV
noncomputable abbrev bHb : Code := cL aBo
noncomputable abbrev aRf : Code := cL c137
noncomputable abbrev r137 : K := aQ CF Tryz.f137
noncomputable def D137 (r : RT) (n : Nat) (c : Code) (X : Nat → K) (k : K) : K := aM CF r 69 n c X r137 k
theorem bZu : D137 r n cKf x0 r137 = (K3 (eG r n) 0 1 3) :=
 (by kernel_rfl)
theorem bQk (kk5 : eR) : D137 r n nK (xs x0 0 (K3 (eG r n) 0 1 3)) (K6 kk5 0 1 2 3 9 10) = (K6 (aUd r n kk5) 0 1 2 3 9 10) :=
 (by kernel_rfl)
theorem bEj (m : Nat) : aL (fun kk => D137 r n nK (xs x0 0 (K3 (eG r n) 0 1 3)) kk) m = (K6 (tD r n m) 0 1 2 3 9 10) := by
 induction m with
 | zero => exact (by kernel_rfl : aL (fun kk => D137 r n nK (xs x0 0 (K3 (eG r n) 0 1 3)) kk) 0 = (K6 (tD r n 0) 0 1 2 3 9 10))
 | succ m ih =>
  refine (by kernel_rfl : aL (fun kk => D137 r n nK (xs x0 0 (K3 (eG r n) 0 1 3)) kk) (m + 1) = D137 r n nK (xs x0 0 (K3 (eG r n) 0 1 3)) (aL (fun kk => D137 r n nK (xs x0 0 (K3 (eG r n) 0 1 3)) kk) m)).trans ?_
  rw [ih]
  exact (bQk r n (tD r n m)).trans (by kernel_rfl)
theorem bVz : D137 r n aDx (xs x0 0 (K3 (eG r n) 0 1 3)) (K3 (eG r n) 0 1 3) = (K6 (bEl r n) 0 1 2 3 9 10) :=
 (by kernel_rfl : D137 r n aDx (xs x0 0 (K3 (eG r n) 0 1 3)) (K3 (eG r n) 0 1 3) = aL (fun kk => D137 r n nK (xs x0 0 (K3 (eG r n) 0 1 3)) kk) n).trans ((bEj r n n).trans (by kernel_rfl))
theorem bWh : D137 r n aPj x0 (K3 (eG r n) 0 1 3) = (K6 (aPl r n) 0 1 2 3 9 10) :=
 (by kernel_rfl : D137 r n aPj x0 (K3 (eG r n) 0 1 3) = D137 r n aDx (xs x0 0 (K3 (eG r n) 0 1 3)) (K3 (eG r n) 0 1 3)).trans
 ((bVz r n).trans (by kernel_rfl))
theorem bFd : D137 r n aCu x0 r137 = D137 r n vV x0 (K3 (eG r n) 0 1 3) :=
 congrArg (fun k => D137 r n vV x0 k) (bZu r n)
theorem bIb : D137 r n vV x0 (K3 (eG r n) 0 1 3) = D137 r n bMg x0 (K6 (aPl r n) 0 1 2 3 9 10) :=
 congrArg (fun k => D137 r n bMg x0 k) (bWh r n)
theorem cEv : D137 r n aCu x0 r137 = (K5 (aOq r n) 0 1 2 3 9) :=
 (bFd r n).trans
 ((bIb r n).trans
 ((by kernel_rfl)))
theorem bGk : D137 r n aBo x0 r137 = D137 r n bHb x0 (K5 (aOq r n) 0 1 2 3 9) :=
 congrArg (fun k => D137 r n bHb x0 k) (cEv r n)
theorem cBc : D137 r n aBo x0 r137 = (K4 (aMc r n) 0 1 2 3) :=
 (bGk r n).trans
 ((by kernel_rfl))
theorem cTn : D137 r n c137 x0 r137 = D137 r n aRf x0 (K4 (aMc r n) 0 1 2 3) :=
 congrArg (fun k => D137 r n aRf x0 k) (cBc r n)
theorem cVw : D137 r n c137 x0 r137 = (K4 (s137 r n) 0 1 2 3) :=
 (cTn r n).trans
 ((by kernel_rfl))
theorem cUb : aF CF r n 137 args h = s137 r n (aT args 0) (aT args 1) (aT args 2) (aT args 3) h :=
 (by kernel_rfl : aF CF r n 137 args h = D137 r n c137 x0 r137 (aJ args) h).trans ((congrFun (congrFun (cVw r n) (aJ args)) h).trans (by kernel_rfl))
noncomputable def s141 (r : RT) (n : Nat) (x0 x1 x2 : DV) (h0 : Hp) : aG :=
 bnd (aD .geq x0 x1 h0) fun v1 h1 =>
 bnd (gD v1 true (some (x0, h1)) h1) fun v2 h2 =>
 bnd (gD v1 true (some (x2, h2)) h2) fun v3 h3 =>
 bnd (gD v1 true (aD .leq v2 v3 h3) h3) fun v4 h4 =>
 bnd (aO v1 v4 (.b false) h4) fun v5 h5 =>
 some (v5, h5)
noncomputable abbrev c141 : Code := cf Tryz.f141
noncomputable abbrev r141 : K := aQ CF Tryz.f141
noncomputable def D141 (r : RT) (n : Nat) (c : Code) (X : Nat → K) (k : K) : K := aM CF r 15 n c X r141 k
theorem dCn : D141 r n c141 x0 r141 = (K3 (s141 r n) 0 1 2) :=
 (by kernel_rfl)
theorem cNc : aF CF r n 141 args h = s141 r n (aT args 0) (aT args 1) (aT args 2) h :=
 (by kernel_rfl : aF CF r n 141 args h = D141 r n c141 x0 r141 (aJ args) h).trans ((congrFun (congrFun (dCn r n) (aJ args)) h).trans (by kernel_rfl))
noncomputable def s142 (r : RT) (n : Nat) (x0 x1 : DV) (h0 : Hp) : aG :=
 bnd (r 163 [x0, x1] h0) fun v1 h1 =>
 bnd (aD .geq v1 (aH 0) h1) fun v2 h2 =>
 some (v2, h2)
noncomputable abbrev c142 : Code := cf Tryz.f142
noncomputable abbrev r142 : K := aQ CF Tryz.f142
noncomputable def D142 (r : RT) (n : Nat) (c : Code) (X : Nat → K) (k : K) : K := aM CF r 9 n c X r142 k
theorem cZh : D142 r n c142 x0 r142 = (K2 (s142 r n) 0 1) :=
 (by kernel_rfl)
theorem cKu : aF CF r n 142 args h = s142 r n (aT args 0) (aT args 1) h :=
 (by kernel_rfl : aF CF r n 142 args h = D142 r n c142 x0 r142 (aJ args) h).trans ((congrFun (congrFun (cZh r n) (aJ args)) h).trans (by kernel_rfl))
noncomputable def s143 (r : RT) (n : Nat) (x0 : DV) (h0 : Hp) : aG :=
 bnd (bS x0 h0) fun v1 h1 =>
 bnd (aK 4 v1 h1) fun v2 h2 =>
 bnd (r 144 [v2, (aH 20)] h2) fun v3 h3 =>
 bnd (fL .not v3 h3) fun v4 h4 =>
 some (v4, h4)
noncomputable abbrev c143 : Code := cf Tryz.f143
noncomputable abbrev r143 : K := aQ CF Tryz.f143
noncomputable def D143 (r : RT) (n : Nat) (c : Code) (X : Nat → K) (k : K) : K := aM CF r 6 n c X r143 k
theorem dCd : D143 r n c143 x0 r143 = (K1 (s143 r n) 0) :=
 (by kernel_rfl)
theorem cTe : aF CF r n 143 args h = s143 r n (aT args 0) h :=
 (by kernel_rfl : aF CF r n 143 args h = D143 r n c143 x0 r143 (aJ args) h).trans ((congrFun (congrFun (dCd r n) (aJ args)) h).trans (by kernel_rfl))
noncomputable def s144 (r : RT) (n : Nat) (x0 x1 : DV) (h0 : Hp) : aG :=
 bnd (bS x0 h0) fun v1 h1 =>
 bnd (bS x1 h1) fun v2 h2 =>
 bnd (aB 0 v1 h2) fun v3 h3 =>
 bnd (aA v3 h3) fun v4 h4 =>
 bnd (aD .eql v4 (aH 1) h4) fun v5 h5 =>
 aU v5 (
 bnd (aB 1 v1 h5) fun v6 h6 =>
 bnd (aA v6 h6) fun v7 h7 =>
 bnd (fE .eql v7 (.s []) h7) fun v8 h8 =>
 bnd (gD v8 true (aB 3 v1 h8) h8) fun v9 h9 =>
 bnd (gD v8 true (aA v9 h9) h9) fun v10 h10 =>
 bnd (gD v8 true (bQ v10 h10) h10) fun v11 h11 =>
 bnd (gD v8 true (aD .eql v11 (aH 0) h11) h11) fun v12 h12 =>
 bnd (aO v8 v12 (.b false) h12) fun v13 h13 =>
 bnd (gD v13 true (aB 2 v1 h13) h13) fun v14 h14 =>
 bnd (gD v13 true (aA v14 h14) h14) fun v15 h15 =>
 bnd (gD v13 true (r 141 [v15, (.i .i64 (Int.negSucc 1152921504606846975)), (aH 1152921504606846976)] h15) h15) fun v16 h16 =>
 bnd (aO v13 v16 (.b false) h16) fun v17 h17 =>
 some (v17, h17)) (
 bnd (aD .eql v4 (aH 2) h5) fun v18 h18 =>
 aU v18 (
 bnd (aB 2 v1 h18) fun v19 h19 =>
 bnd (aA v19 h19) fun v20 h20 =>
 bnd (aD .eql v20 (aH 0) h20) fun v21 h21 =>
 bnd (gD v21 true (aB 3 v1 h21) h21) fun v22 h22 =>
 bnd (gD v21 true (aA v22 h22) h22) fun v23 h23 =>
 bnd (gD v21 true (bQ v23 h23) h23) fun v24 h24 =>
 bnd (gD v21 true (aD .eql v24 (aH 0) h24) h24) fun v25 h25 =>
 bnd (aO v21 v25 (.b false) h25) fun v26 h26 =>
 bnd (gD v26 true (aB 1 v1 h26) h26) fun v27 h27 =>
 bnd (gD v26 true (aA v27 h27) h27) fun v28 h28 =>
 bnd (gD v26 true (eT v28 h28) h28) fun v29 h29 =>
 bnd (gD v26 true (aD .leq v29 (aH 250) h29) h29) fun v30 h30 =>
 bnd (aO v26 v30 (.b false) h30) fun v31 h31 =>
 some (v31, h31)) (
 bnd (aD .eql v4 (aH 3) h18) fun v32 h32 =>
 aU v32 (
 bnd (aB 2 v1 h32) fun v33 h33 =>
 bnd (aA v33 h33) fun v34 h34 =>
 bnd (aD .eql v34 (aH 0) h34) fun v35 h35 =>
 bnd (gD v35 true (aB 3 v1 h35) h35) fun v36 h36 =>
 bnd (gD v35 true (aA v36 h36) h36) fun v37 h37 =>
 bnd (gD v35 true (bQ v37 h37) h37) fun v38 h38 =>
 bnd (gD v35 true (aD .eql v38 (aH 0) h38) h38) fun v39 h39 =>
 bnd (aO v35 v39 (.b false) h39) fun v40 h40 =>
 bnd (gD v40 true (aB 1 v1 h40) h40) fun v41 h41 =>
 bnd (gD v40 true (aA v41 h41) h41) fun v42 h42 =>
 bnd (gD v40 true (eT v42 h42) h42) fun v43 h43 =>
 bnd (gD v40 true (r 141 [v43, (aH 1), (aH 60)] h43) h43) fun v44 h44 =>
 bnd (aO v40 v44 (.b false) h44) fun v45 h45 =>
 some (v45, h45)) (
 bnd (aD .eql v4 (aH 4) h32) fun v46 h46 =>
 aU v46 (
 bnd (aB 3 v1 h46) fun v47 h47 =>
 bnd (aA v47 h47) fun v48 h48 =>
 bnd (r 142 [v48, (.f 164 [] [v2])] h48) fun v49 h49 =>
 bnd (aB 2 v1 h49) fun v50 h50 =>
 bnd (aA v50 h50) fun v51 h51 =>
 bnd (aD .eql v51 (aH 0) h51) fun v52 h52 =>
 bnd (gD v52 true (aB 1 v1 h52) h52) fun v53 h53 =>
 bnd (gD v52 true (aA v53 h53) h53) fun v54 h54 =>
 bnd (gD v52 true (fE .eql v54 (.s []) h54) h54) fun v55 h55 =>
 bnd (aO v52 v55 (.b false) h55) fun v56 h56 =>
 bnd (gD v56 true (aA v2 h56) h56) fun v57 h57 =>
 bnd (gD v56 true (aD .gtr v57 (aH 0) h57) h57) fun v58 h58 =>
 bnd (aO v56 v58 (.b false) h58) fun v59 h59 =>
 bnd (gD v59 true (aB 3 v1 h59) h59) fun v60 h60 =>
 bnd (gD v59 true (aA v60 h60) h60) fun v61 h61 =>
 bnd (gD v59 true (bQ v61 h61) h61) fun v62 h62 =>
 bnd (gD v59 true (aD .leq v62 (aH 250) h62) h62) fun v63 h63 =>
 bnd (aO v59 v63 (.b false) h63) fun v64 h64 =>
 bnd (gD v64 true (some (v49, h64)) h64) fun v65 h65 =>
 bnd (gD v64 true (fL .not v65 h65) h65) fun v66 h66 =>
 bnd (aO v64 v66 (.b false) h66) fun v67 h67 =>
 some (v67, h67)) (
 some ((.b false), h46)))))
noncomputable abbrev c144 : Code := cf Tryz.f144
noncomputable abbrev r144 : K := aQ CF Tryz.f144
noncomputable def D144 (r : RT) (n : Nat) (c : Code) (X : Nat → K) (k : K) : K := aM CF r 86 n c X r144 k
theorem cZr : D144 r n c144 x0 r144 = (K2 (s144 r n) 0 1) :=
 (by kernel_rfl)
theorem cNn : aF CF r n 144 args h = s144 r n (aT args 0) (aT args 1) h :=
 (by kernel_rfl : aF CF r n 144 args h = D144 r n c144 x0 r144 (aJ args) h).trans ((congrFun (congrFun (cZr r n) (aJ args)) h).trans (by kernel_rfl))
noncomputable def s145 (r : RT) (n : Nat) (x0 : DV) (h0 : Hp) : aG :=
 bnd (bS x0 h0) fun v1 h1 =>
 bnd (aB 0 v1 h1) fun v2 h2 =>
 bnd (aA v2 h2) fun v3 h3 =>
 bnd (r 165 [v3] h3) fun v4 h4 =>
 bnd (aC 0 v4 h4) fun v5 h5 =>
 bnd (aC 1 v4 h5) fun v6 h6 =>
 bnd (aB 0 v1 h6) fun v7 h7 =>
 bnd (aA v7 h7) fun v8 h8 =>
 bnd (aD .geq v8 (aH 1) h8) fun v9 h9 =>
 bnd (gD v9 true (aB 0 v1 h9) h9) fun v10 h10 =>
 bnd (gD v9 true (aA v10 h10) h10) fun v11 h11 =>
 bnd (gD v9 true (aD .leq v11 (aH 20) h11) h11) fun v12 h12 =>
 bnd (aO v9 v12 (.b false) h12) fun v13 h13 =>
 bnd (gD v13 true (aB 1 v1 h13) h13) fun v14 h14 =>
 bnd (gD v13 true (aA v14 h14) h14) fun v15 h15 =>
 bnd (gD v13 true (some (v5, h15)) h15) fun v16 h16 =>
 bnd (gD v13 true (r 166 [v15, v16] h16) h16) fun v17 h17 =>
 bnd (aO v13 v17 (.b false) h17) fun v18 h18 =>
 bnd (gD v18 true (aB 2 v1 h18) h18) fun v19 h19 =>
 bnd (gD v18 true (aA v19 h19) h19) fun v20 h20 =>
 bnd (gD v18 true (some (v6, h20)) h20) fun v21 h21 =>
 bnd (gD v18 true (r 166 [v20, v21] h21) h21) fun v22 h22 =>
 bnd (aO v18 v22 (.b false) h22) fun v23 h23 =>
 some (v23, h23)
noncomputable abbrev c145 : Code := cf Tryz.f145
noncomputable abbrev r145 : K := aQ CF Tryz.f145
noncomputable def D145 (r : RT) (n : Nat) (c : Code) (X : Nat → K) (k : K) : K := aM CF r 31 n c X r145 k
theorem cZt : D145 r n c145 x0 r145 = (K1 (s145 r n) 0) :=
 (by kernel_rfl)
theorem cUv : aF CF r n 145 args h = s145 r n (aT args 0) h :=
 (by kernel_rfl : aF CF r n 145 args h = D145 r n c145 x0 r145 (aJ args) h).trans ((congrFun (congrFun (cZt r n) (aJ args)) h).trans (by kernel_rfl))
noncomputable def bA (r : RT) (n : Nat) (h0 : Hp) : aG :=
 some ((.b true), h0)
noncomputable def tB (r : RT) (n : Nat) (x2 x3 x4 x27 x51 : DV) (h0 : Hp) : aG :=
 aU x51 (
 bnd (aB 1 x4 h0) fun v1 h1 =>
 bnd (aA v1 h1) fun v2 h2 =>
 bnd (aD .lss v2 x2 h2) fun v3 h3 =>
 some (v3, h3)) (
 bnd (aD .eql x27 (aH 18) h0) fun v4 h4 =>
 aU v4 (
 bnd (aB 2 x4 h4) fun v5 h5 =>
 bnd (aA v5 h5) fun v6 h6 =>
 bnd (aD .leq v6 (aH 4) h6) fun v7 h7 =>
 bnd (gD v7 true (aB 1 x4 h7) h7) fun v8 h8 =>
 bnd (gD v7 true (aA v8 h8) h8) fun v9 h9 =>
 bnd (gD v7 true (aB 2 x4 h9) h9) fun v10 h10 =>
 bnd (gD v7 true (aA v10 h10) h10) fun v11 h11 =>
 bnd (gD v7 true (aD .add v9 v11 h11) h11) fun v12 h12 =>
 bnd (gD v7 true (aB 2 x3 h12) h12) fun v13 h13 =>
 bnd (gD v7 true (aA v13 h13) h13) fun v14 h14 =>
 bnd (gD v7 true (aD .leq v12 v14 h14) h14) fun v15 h15 =>
 bnd (aO v7 v15 (.b false) h15) fun v16 h16 =>
 some (v16, h16)) (
   bA r n h4))
noncomputable def aXh (r : RT) (n : Nat) (x2 x3 x4 x27 : DV) (h0 : Hp) : aG :=
 bnd (aD .eql x27 (aH 8) h0) fun v1 h1 =>
 aU v1 (
  tB r n x2 x3 x4 x27 v1 h1) (
 bnd (aD .eql x27 (aH 11) h1) fun v2 h2 =>
  tB r n x2 x3 x4 x27 v2 h2)
noncomputable def tJ (r : RT) (n : Nat) (x2 x3 x4 x27 x43 : DV) (h0 : Hp) : aG :=
 aU x43 (
 bnd (aB 1 x4 h0) fun v1 h1 =>
 bnd (aA v1 h1) fun v2 h2 =>
 bnd (aB 2 x3 h2) fun v3 h3 =>
 bnd (aA v3 h3) fun v4 h4 =>
 bnd (aD .lss v2 v4 h4) fun v5 h5 =>
 some (v5, h5)) (
  aXh r n x2 x3 x4 x27 h0)
noncomputable def aTl (r : RT) (n : Nat) (x2 x3 x4 x27 : DV) (h0 : Hp) : aG :=
 bnd (aD .eql x27 (aH 7) h0) fun v1 h1 =>
 aU v1 (
  tJ r n x2 x3 x4 x27 v1 h1) (
 bnd (aD .eql x27 (aH 10) h1) fun v2 h2 =>
  tJ r n x2 x3 x4 x27 v2 h2)
noncomputable def rY (r : RT) (n : Nat) (x2 x3 x4 x8 x27 x34 : DV) (h0 : Hp) : aG :=
 aU x34 (
 bnd (gD x8 true (aB 2 x4 h0) h0) fun v1 h1 =>
 bnd (gD x8 true (aA v1 h1) h1) fun v2 h2 =>
 bnd (gD x8 true (aD .leq v2 (aH 4) h2) h2) fun v3 h3 =>
 bnd (aO x8 v3 (.b false) h3) fun v4 h4 =>
 some (v4, h4)) (
  aTl r n x2 x3 x4 x27 h0)
noncomputable def bNg (r : RT) (n : Nat) (x2 x3 x4 x8 x27 : DV) (h0 : Hp) : aG :=
 bnd (aD .eql x27 (aH 14) h0) fun v1 h1 =>
 aU v1 (
  rY r n x2 x3 x4 x8 x27 v1 h1) (
 bnd (aD .eql x27 (aH 15) h1) fun v2 h2 =>
  rY r n x2 x3 x4 x8 x27 v2 h2)
noncomputable def aMi (r : RT) (n : Nat) (x2 x3 x4 x8 x27 x31 : DV) (h0 : Hp) : aG :=
 aU x31 (
 some (x8, h0)) (
  bNg r n x2 x3 x4 x8 x27 h0)
noncomputable def bHc (r : RT) (n : Nat) (x2 x3 x4 x8 x27 : DV) (h0 : Hp) : aG :=
 bnd (aD .eql x27 (aH 9) h0) fun v1 h1 =>
  aMi r n x2 x3 x4 x8 x27 v1 h1
noncomputable def aJz (r : RT) (n : Nat) (x2 x3 x4 x7 x8 x27 x28 : DV) (h0 : Hp) : aG :=
 aU x28 (
 some (x7, h0)) (
  bHc r n x2 x3 x4 x8 x27 h0)
noncomputable def aKr (r : RT) (n : Nat) (x2 x3 x4 x7 x8 x27 : DV) (h0 : Hp) : aG :=
 bnd (aD .eql x27 (aH 6) h0) fun v1 h1 =>
  aJz r n x2 x3 x4 x7 x8 x27 v1 h1
noncomputable def aMo (r : RT) (n : Nat) (x2 x3 x4 x7 x8 : DV) (h0 : Hp) : aG :=
 bnd (aB 0 x4 h0) fun v1 h1 =>
 bnd (aA v1 h1) fun v2 h2 =>
  aKr r n x2 x3 x4 x7 x8 v2 h2
noncomputable def aPi (r : RT) (n : Nat) (x2 x3 x4 x7 : DV) (h0 : Hp) : aG :=
 bnd (gD x7 true (aB 4 x3 h0) h0) fun v1 h1 =>
 bnd (gD x7 true (aA v1 h1) h1) fun v2 h2 =>
 bnd (gD x7 true (aB 1 x4 h2) h2) fun v3 h3 =>
 bnd (gD x7 true (aA v3 h3) h3) fun v4 h4 =>
 bnd (gD x7 true (aI 4 v2 v4 h4) h4) fun v5 h5 =>
 bnd (gD x7 true (aB 0 v5 h5) h5) fun v6 h6 =>
 bnd (gD x7 true (aA v6 h6) h6) fun v7 h7 =>
 bnd (gD x7 true (aD .eql v7 (aH 3) h7) h7) fun v8 h8 =>
 bnd (aO x7 v8 (.b false) h8) fun v9 h9 =>
  aMo r n x2 x3 x4 x7 v9 h9
noncomputable def vI (r : RT) (n : Nat) (x2 x3 x4 : DV) (h0 : Hp) : aG :=
 bnd (aB 1 x4 h0) fun v1 h1 =>
 bnd (aA v1 h1) fun v2 h2 =>
 bnd (aB 4 x3 h2) fun v3 h3 =>
 bnd (aA v3 h3) fun v4 h4 =>
 bnd (bQ v4 h4) fun v5 h5 =>
 bnd (aD .lss v2 v5 h5) fun v6 h6 =>
  aPi r n x2 x3 x4 v6 h6
noncomputable def s146 (r : RT) (n : Nat) (x0 x1 x2 : DV) (h0 : Hp) : aG :=
 bnd (bS x0 h0) fun v1 h1 =>
 bnd (bS x1 h1) fun v2 h2 =>
  vI r n x2 v1 v2 h2
noncomputable abbrev c146 : Code := cf Tryz.f146
noncomputable abbrev aBc : Code := cR c146
noncomputable abbrev zV : Code := cR aBc
noncomputable abbrev yN : Code := cR zV
noncomputable abbrev cUd : Code := cR yN
noncomputable abbrev uX : Code := cL yN
noncomputable abbrev aNx : Code := cR uX
noncomputable abbrev zY : Code := cL aNx
noncomputable abbrev uQ : Code := cR zY
noncomputable abbrev wS : Code := cR uQ
noncomputable abbrev oA : Code := cR wS
noncomputable abbrev oB : Code := cR oA
noncomputable abbrev nX : Code := cR oB
noncomputable abbrev oH : Code := cR nX
noncomputable abbrev nY : Code := cR oH
noncomputable abbrev oC : Code := cR nY
noncomputable abbrev cEz : Code := cR oC
noncomputable abbrev aVf : Code := cL oC
noncomputable abbrev cCz : Code := cL nY
noncomputable abbrev aWp : Code := cL oH
noncomputable abbrev cGi : Code := cL nX
noncomputable abbrev aWz : Code := cL oB
noncomputable abbrev bUc : Code := cL oA
noncomputable abbrev aTu : Code := cL wS
noncomputable abbrev bYh : Code := cL uQ
noncomputable abbrev aUl : Code := cL zY
noncomputable abbrev aXc : Code := cL uX
noncomputable abbrev aVb : Code := cL zV
noncomputable abbrev aVx : Code := cL aBc
noncomputable abbrev aAr : Code := cL c146
noncomputable abbrev r146 : K := aQ CF Tryz.f146
noncomputable def D146 (r : RT) (n : Nat) (c : Code) (X : Nat → K) (k : K) : K := aM CF r 73 n c X r146 k
theorem bVu : D146 r n cUd x0 r146 = (K0 (bA r n)) :=
 (by kernel_rfl)
theorem bHl : D146 r n cEz (xs x0 0 (K0 (bA r n))) (K0 (bA r n)) = (K5 (tB r n) 2 3 4 27 51) :=
 (by kernel_rfl)
theorem aXp : D146 r n oC (xs x0 0 (K0 (bA r n))) (K0 (bA r n)) = D146 r n aVf (xs x0 0 (K0 (bA r n))) (K5 (tB r n) 2 3 4 27 51) :=
 congrArg (fun k => D146 r n aVf (xs x0 0 (K0 (bA r n))) k) (bHl r n)
theorem bCe : D146 r n oC (xs x0 0 (K0 (bA r n))) (K0 (bA r n)) = (K4 (aXh r n) 2 3 4 27) :=
 (aXp r n).trans
 ((by kernel_rfl))
theorem bLm : D146 r n nY (xs x0 0 (K0 (bA r n))) (K0 (bA r n)) = (K5 (tJ r n) 2 3 4 27 43) :=
 (by kernel_rfl : D146 r n nY (xs x0 0 (K0 (bA r n))) (K0 (bA r n)) = (fun (env : aS) (h : Hp) => aU (opr env (cC nY)) (D146 r n cCz (xs x0 0 (K0 (bA r n))) (K0 (bA r n)) env h) (D146 r n oC (xs x0 0 (K0 (bA r n))) (K0 (bA r n)) env h))).trans (by rw [bCe r n]; kernel_rfl)
theorem aYm : D146 r n oH (xs x0 0 (K0 (bA r n))) (K0 (bA r n)) = D146 r n aWp (xs x0 0 (K0 (bA r n))) (K5 (tJ r n) 2 3 4 27 43) :=
 congrArg (fun k => D146 r n aWp (xs x0 0 (K0 (bA r n))) k) (bLm r n)
theorem bQg : D146 r n oH (xs x0 0 (K0 (bA r n))) (K0 (bA r n)) = (K4 (aTl r n) 2 3 4 27) :=
 (aYm r n).trans
 ((by kernel_rfl))
theorem bFz : D146 r n nX (xs x0 0 (K0 (bA r n))) (K0 (bA r n)) = (K6 (rY r n) 2 3 4 8 27 34) :=
 (by kernel_rfl : D146 r n nX (xs x0 0 (K0 (bA r n))) (K0 (bA r n)) = (fun (env : aS) (h : Hp) => aU (opr env (cC nX)) (D146 r n cGi (xs x0 0 (K0 (bA r n))) (K0 (bA r n)) env h) (D146 r n oH (xs x0 0 (K0 (bA r n))) (K0 (bA r n)) env h))).trans (by rw [bQg r n]; kernel_rfl)
theorem bKb : D146 r n oB (xs x0 0 (K0 (bA r n))) (K0 (bA r n)) = D146 r n aWz (xs x0 0 (K0 (bA r n))) (K6 (rY r n) 2 3 4 8 27 34) :=
 congrArg (fun k => D146 r n aWz (xs x0 0 (K0 (bA r n))) k) (bFz r n)
theorem bTw : D146 r n oB (xs x0 0 (K0 (bA r n))) (K0 (bA r n)) = (K5 (bNg r n) 2 3 4 8 27) :=
 (bKb r n).trans
 ((by kernel_rfl))
theorem cFi : D146 r n oA (xs x0 0 (K0 (bA r n))) (K0 (bA r n)) = (K6 (aMi r n) 2 3 4 8 27 31) :=
 (by kernel_rfl : D146 r n oA (xs x0 0 (K0 (bA r n))) (K0 (bA r n)) = (fun (env : aS) (h : Hp) => aU (opr env (cC oA)) (D146 r n bUc (xs x0 0 (K0 (bA r n))) (K0 (bA r n)) env h) (D146 r n oB (xs x0 0 (K0 (bA r n))) (K0 (bA r n)) env h))).trans (by rw [bTw r n]; kernel_rfl)
theorem bJq : D146 r n wS (xs x0 0 (K0 (bA r n))) (K0 (bA r n)) = D146 r n aTu (xs x0 0 (K0 (bA r n))) (K6 (aMi r n) 2 3 4 8 27 31) :=
 congrArg (fun k => D146 r n aTu (xs x0 0 (K0 (bA r n))) k) (cFi r n)
theorem cBw : D146 r n wS (xs x0 0 (K0 (bA r n))) (K0 (bA r n)) = (K5 (bHc r n) 2 3 4 8 27) :=
 (bJq r n).trans
 ((by kernel_rfl))
theorem cDb : D146 r n uQ (xs x0 0 (K0 (bA r n))) (K0 (bA r n)) = (K7 (aJz r n) 2 3 4 7 8 27 28) :=
 (by kernel_rfl : D146 r n uQ (xs x0 0 (K0 (bA r n))) (K0 (bA r n)) = (fun (env : aS) (h : Hp) => aU (opr env (cC uQ)) (D146 r n bYh (xs x0 0 (K0 (bA r n))) (K0 (bA r n)) env h) (D146 r n wS (xs x0 0 (K0 (bA r n))) (K0 (bA r n)) env h))).trans (by rw [cBw r n]; kernel_rfl)
theorem bCu : D146 r n zY (xs x0 0 (K0 (bA r n))) (K0 (bA r n)) = D146 r n aUl (xs x0 0 (K0 (bA r n))) (K7 (aJz r n) 2 3 4 7 8 27 28) :=
 congrArg (fun k => D146 r n aUl (xs x0 0 (K0 (bA r n))) k) (cDb r n)
theorem bTn : D146 r n aNx x0 (K0 (bA r n)) = (K6 (aKr r n) 2 3 4 7 8 27) :=
 (by kernel_rfl : D146 r n aNx x0 (K0 (bA r n)) = D146 r n zY (xs x0 0 (K0 (bA r n))) (K0 (bA r n))).trans
 ((bCu r n).trans
 ((by kernel_rfl)))
theorem bQf : D146 r n yN x0 r146 = D146 r n uX x0 (K0 (bA r n)) :=
 congrArg (fun k => D146 r n uX x0 k) (bVu r n)
theorem bJc : D146 r n uX x0 (K0 (bA r n)) = D146 r n aXc x0 (K6 (aKr r n) 2 3 4 7 8 27) :=
 congrArg (fun k => D146 r n aXc x0 k) (bTn r n)
theorem bVh : D146 r n yN x0 r146 = (K5 (aMo r n) 2 3 4 7 8) :=
 (bQf r n).trans
 ((bJc r n).trans
 ((by kernel_rfl)))
theorem bBl : D146 r n zV x0 r146 = D146 r n aVb x0 (K5 (aMo r n) 2 3 4 7 8) :=
 congrArg (fun k => D146 r n aVb x0 k) (bVh r n)
theorem bWw : D146 r n zV x0 r146 = (K4 (aPi r n) 2 3 4 7) :=
 (bBl r n).trans
 ((by kernel_rfl))
theorem bIo : D146 r n aBc x0 r146 = D146 r n aVx x0 (K4 (aPi r n) 2 3 4 7) :=
 congrArg (fun k => D146 r n aVx x0 k) (bWw r n)
theorem bYe : D146 r n aBc x0 r146 = (K3 (vI r n) 2 3 4) :=
 (bIo r n).trans
 ((by kernel_rfl))
theorem bXt : D146 r n c146 x0 r146 = D146 r n aAr x0 (K3 (vI r n) 2 3 4) :=
 congrArg (fun k => D146 r n aAr x0 k) (bYe r n)
theorem bTo (q0 : mE) : D146 r n aAr x0 (K3 q0 2 3 4) = fun (env : aS) (h : Hp) =>
 bnd (bS (env 0) h) fun v1 h1 =>
 bnd (bS (env 1) h1) fun v2 h2 =>
  q0 (env 2) v1 v2 h2 := by kernel_rfl
theorem bNv : (fun (env : aS) (h : Hp) =>
 bnd (bS (env 0) h) fun v1 h1 =>
 bnd (bS (env 1) h1) fun v2 h2 =>
  vI r n (env 2) v1 v2 h2) = (K3 (s146 r n) 0 1 2) := by kernel_rfl
theorem dAi : D146 r n c146 x0 r146 = (K3 (s146 r n) 0 1 2) :=
 (bXt r n).trans
 ((bTo r n (vI r n)).trans (bNv r n))
theorem cQb : aF CF r n 146 args h = s146 r n (aT args 0) (aT args 1) (aT args 2) h :=
 (by kernel_rfl : aF CF r n 146 args h = D146 r n c146 x0 r146 (aJ args) h).trans ((congrFun (congrFun (dAi r n) (aJ args)) h).trans (by kernel_rfl))
noncomputable def eM (r : RT) (n : Nat) (x3 : DV) (h0 : Hp) : aG :=
 some (x3, h0)
noncomputable def aSj (r : RT) (n : Nat) (kk6 : dD) (x3 x4 x11 x12 : DV) (h0 : Hp) : aG :=
 bnd (aD .lss x12 x11 h0) fun v1 h1 =>
 aU v1 (
 bnd (cY CF r x4 [x12] h1) fun v2 h2 =>
 bnd (aI 1 x3 x12 h2) fun v3 h3 =>
 bnd (aE 1 v3 v2 h3) fun _ h4 =>
 bnd (aD .add x12 (aH 1) h4) fun v5 h5 =>
      kk6 x3 x4 x11 v5 h5) (
      eM r n x3 h1)
noncomputable def tO (r : RT) (n : Nat) (m : Nat) : dD :=
 Nat.rec (motive := fun _ => dD) (fun _ _ _ _ _ => none) (fun _ ih => aSj r n ih) m
noncomputable def bRt (r : RT) (n : Nat) : dD := tO r n n
noncomputable def aPa (r : RT) (n : Nat) (x3 x4 x11 x12 : DV) (h0 : Hp) : aG :=
 bRt r n x3 x4 x11 x12 h0
noncomputable def aLm (r : RT) (n : Nat) (x1 x3 x4 : DV) (h0 : Hp) : aG :=
 bnd (aA x1 h0) fun v1 h1 =>
 bnd (bQ v1 h1) fun v2 h2 =>
  aPa r n x3 x4 v2 (aH 0) h2
noncomputable def wO (r : RT) (n : Nat) (x1 x3 : DV) (h0 : Hp) : aG :=
 aLm r n x1 x3 (.f 167 [] [x1]) h0
noncomputable def pY (r : RT) (n : Nat) (x1 : DV) (h0 : Hp) : aG :=
 bnd (aA x1 h0) fun v1 h1 =>
 bnd (bQ v1 h1) fun v2 h2 =>
 bnd (cB 1 8 [(aH 0)] v2 v2 h2) fun v3 h3 =>
  wO r n x1 v3 h3
noncomputable def s147 (r : RT) (n : Nat) (x0 : DV) (h0 : Hp) : aG :=
 bnd (bS x0 h0) fun v1 h1 =>
  pY r n v1 h1
noncomputable abbrev c147 : Code := cf Tryz.f147
noncomputable abbrev aAv : Code := cR c147
noncomputable abbrev aFi : Code := cR aAv
noncomputable abbrev zG : Code := cR aFi
noncomputable abbrev cSe : Code := cR zG
noncomputable abbrev uF : Code := cL zG
noncomputable abbrev aLk : Code := cR uF
noncomputable abbrev zJ : Code := cL aLk
noncomputable abbrev nM : Code := cL zJ
noncomputable abbrev bLp : Code := cL uF
noncomputable abbrev aQq : Code := cL aFi
noncomputable abbrev aBy : Code := cL aAv
noncomputable abbrev aFp : Code := cL c147
noncomputable abbrev r147 : K := aQ CF Tryz.f147
noncomputable def D147 (r : RT) (n : Nat) (c : Code) (X : Nat → K) (k : K) : K := aM CF r 23 n c X r147 k
theorem cFv : D147 r n cSe x0 r147 = (K1 (eM r n) 3) :=
 (by kernel_rfl)
theorem bGh (kk6 : dD) : D147 r n nM (xs x0 0 (K1 (eM r n) 3)) (K4 kk6 3 4 11 12) = (K4 (aSj r n kk6) 3 4 11 12) :=
 (by kernel_rfl)
theorem bQd (m : Nat) : aL (fun kk => D147 r n nM (xs x0 0 (K1 (eM r n) 3)) kk) m = (K4 (tO r n m) 3 4 11 12) := by
 induction m with
 | zero => exact (by kernel_rfl : aL (fun kk => D147 r n nM (xs x0 0 (K1 (eM r n) 3)) kk) 0 = (K4 (tO r n 0) 3 4 11 12))
 | succ m ih =>
  refine (by kernel_rfl : aL (fun kk => D147 r n nM (xs x0 0 (K1 (eM r n) 3)) kk) (m + 1) = D147 r n nM (xs x0 0 (K1 (eM r n) 3)) (aL (fun kk => D147 r n nM (xs x0 0 (K1 (eM r n) 3)) kk) m)).trans ?_
  rw [ih]
  exact (bGh r n (tO r n m)).trans (by kernel_rfl)
theorem bYa : D147 r n zJ (xs x0 0 (K1 (eM r n) 3)) (K1 (eM r n) 3) = (K4 (bRt r n) 3 4 11 12) :=
 (by kernel_rfl : D147 r n zJ (xs x0 0 (K1 (eM r n) 3)) (K1 (eM r n) 3) = aL (fun kk => D147 r n nM (xs x0 0 (K1 (eM r n) 3)) kk) n).trans ((bQd r n n).trans (by kernel_rfl))
theorem cAx : D147 r n aLk x0 (K1 (eM r n) 3) = (K4 (aPa r n) 3 4 11 12) :=
 (by kernel_rfl : D147 r n aLk x0 (K1 (eM r n) 3) = D147 r n zJ (xs x0 0 (K1 (eM r n) 3)) (K1 (eM r n) 3)).trans
 ((bYa r n).trans (by kernel_rfl))
theorem bQa : D147 r n zG x0 r147 = D147 r n uF x0 (K1 (eM r n) 3) :=
 congrArg (fun k => D147 r n uF x0 k) (cFv r n)
theorem bBw : D147 r n uF x0 (K1 (eM r n) 3) = D147 r n bLp x0 (K4 (aPa r n) 3 4 11 12) :=
 congrArg (fun k => D147 r n bLp x0 k) (cAx r n)
theorem bUk : D147 r n zG x0 r147 = (K3 (aLm r n) 1 3 4) :=
 (bQa r n).trans
 ((bBw r n).trans
 ((by kernel_rfl)))
theorem bOo : D147 r n aFi x0 r147 = D147 r n aQq x0 (K3 (aLm r n) 1 3 4) :=
 congrArg (fun k => D147 r n aQq x0 k) (bUk r n)
theorem cCl : D147 r n aFi x0 r147 = (K2 (wO r n) 1 3) :=
 (bOo r n).trans
 ((by kernel_rfl))
theorem bQo : D147 r n aAv x0 r147 = D147 r n aBy x0 (K2 (wO r n) 1 3) :=
 congrArg (fun k => D147 r n aBy x0 k) (cCl r n)
theorem bOp (q0 : gP) : D147 r n aBy x0 (K2 q0 1 3) = fun (env : aS) (h : Hp) =>
 bnd (aA (env 1) h) fun v1 h1 =>
 bnd (bQ v1 h1) fun v2 h2 =>
 bnd (cB 1 8 [(aH 0)] v2 v2 h2) fun v3 h3 =>
  q0 (env 1) v3 h3 := by kernel_rfl
theorem aXy : (fun (env : aS) (h : Hp) =>
 bnd (aA (env 1) h) fun v1 h1 =>
 bnd (bQ v1 h1) fun v2 h2 =>
 bnd (cB 1 8 [(aH 0)] v2 v2 h2) fun v3 h3 =>
  wO r n (env 1) v3 h3) = (K1 (pY r n) 1) := by kernel_rfl
theorem bXk : D147 r n aAv x0 r147 = (K1 (pY r n) 1) :=
 (bQo r n).trans
 ((bOp r n (wO r n)).trans (aXy r n))
theorem cJx : D147 r n c147 x0 r147 = D147 r n aFp x0 (K1 (pY r n) 1) :=
 congrArg (fun k => D147 r n aFp x0 k) (bXk r n)
theorem cTp (q0 : TT1) : D147 r n aFp x0 (K1 q0 1) = fun (env : aS) (h : Hp) =>
 bnd (bS (env 0) h) fun v1 h1 =>
  q0 v1 h1 := by kernel_rfl
theorem cHj : (fun (env : aS) (h : Hp) =>
 bnd (bS (env 0) h) fun v1 h1 =>
  pY r n v1 h1) = (K1 (s147 r n) 0) := by kernel_rfl
theorem cWu : D147 r n c147 x0 r147 = (K1 (s147 r n) 0) :=
 (cJx r n).trans
 ((cTp r n (pY r n)).trans (cHj r n))
theorem cPd : aF CF r n 147 args h = s147 r n (aT args 0) h :=
 (by kernel_rfl : aF CF r n 147 args h = D147 r n c147 x0 r147 (aJ args) h).trans ((congrFun (congrFun (cWu r n) (aJ args)) h).trans (by kernel_rfl))
end Go.Dd

namespace Go.Dd
open Go.Proofs
variable (r : RT) (n : Nat) (args : List DV) (h : Hp)
noncomputable def bE (r : RT) (n : Nat) (h0 : Hp) : aG :=
 some ((.b true), h0)
noncomputable def cA (r : RT) (n : Nat) (kk4 : bX) (x0 x1 x11 x12 x13 : DV) (h0 : Hp) : aG :=
 bnd (aD .add x13 (aH 1) h0) fun v1 h1 =>
  kk4 x0 x1 x11 x12 v1 h1
noncomputable def fG (r : RT) (n : Nat) (kk4 : bX) (x0 x1 x5 x6 x11 x12 x13 : DV) (h0 : Hp) : aG :=
 bnd (aK 3 x6 h0) fun v1 h1 =>
 bnd (r 169 [v1] h1) fun v2 h2 =>
 bnd (aD .geq v2 (aH 0) h2) fun v3 h3 =>
 bnd (gD v3 true (some (v2, h3)) h3) fun v4 h4 =>
 bnd (gD v3 true (some (x0, h4)) h4) fun v5 h5 =>
 bnd (gD v3 true (bQ v5 h5) h5) fun v6 h6 =>
 bnd (gD v3 true (aD .geq v4 v6 h6) h6) fun v7 h7 =>
 bnd (gD v3 true (some (v7, h7)) h7) fun v8 h8 =>
 bnd (gD v8 false (some (x1, h8)) h8) fun v9 h9 =>
 bnd (gD v8 false (some (v2, h9)) h9) fun v10 h10 =>
 bnd (gD v8 false (aI 1 v9 v10 h10) h10) fun v11 h11 =>
 bnd (gD v8 false (aA v11 h11) h11) fun v12 h12 =>
 bnd (gD v8 false (some (x1, h12)) h12) fun v13 h13 =>
 bnd (gD v8 false (some (x5, h13)) h13) fun v14 h14 =>
 bnd (gD v8 false (aI 1 v13 v14 h14) h14) fun v15 h15 =>
 bnd (gD v8 false (aA v15 h15) h15) fun v16 h16 =>
 bnd (gD v8 false (aD .neq v12 v16 h16) h16) fun v17 h17 =>
 bnd (gD v3 true (aO v8 (.b true) v17 h17) h17) fun v18 h18 =>
 bnd (aO v3 v18 (.b false) h18) fun v19 h19 =>
 aU v19 (
 some ((.b false), h19)) (
  cA r n kk4 x0 x1 x11 x12 x13 h19)
noncomputable def rW (r : RT) (n : Nat) (kk4 : bX) (x0 x1 x5 x6 x7 x8 x9 x11 x12 x13 : DV) (h0 : Hp) : aG :=
 bnd (fL .not x8 h0) fun v1 h1 =>
 bnd (gD v1 false (some (x7, h1)) h1) fun v2 h2 =>
 bnd (gD v1 false (some (x9, h2)) h2) fun v3 h3 =>
 bnd (gD v1 false (aD .gtr v2 v3 h3) h3) fun v4 h4 =>
 bnd (aO v1 (.b true) v4 h4) fun v5 h5 =>
 aU v5 (
 some ((.b false), h5)) (
  fG r n kk4 x0 x1 x5 x6 x11 x12 x13 h5)
noncomputable def aGu (r : RT) (n : Nat) (kk4 : bX) (x0 x1 x5 x6 x7 x8 x9 x11 x12 x13 : DV) (h0 : Hp) : aG :=
 bnd (aI 1 x1 x5 h0) fun v1 h1 =>
 bnd (aA v1 h1) fun v2 h2 =>
 bnd (aD .geq v2 (aH 0) h2) fun v3 h3 =>
 aU v3 (
 bnd (aI 1 x1 x5 h3) fun v4 h4 =>
 bnd (aA v4 h4) fun v5 h5 =>
 bnd (r 168 [x0, v5] h5) fun v6 h6 =>
 bnd (aC 0 v6 h6) fun v7 h7 =>
 bnd (aC 1 v6 h7) fun v8 h8 =>
  rW r n kk4 x0 x1 x5 x6 x7 x8 v7 x11 x12 x13 h8) (
  rW r n kk4 x0 x1 x5 x6 x7 x8 x9 x11 x12 x13 h3)
noncomputable def aBt (r : RT) (n : Nat) (kk4 : bX) (x0 x1 x5 x6 x7 x8 x11 x12 x13 : DV) (h0 : Hp) : aG :=
 bnd (bQ x0 h0) fun v1 h1 =>
  aGu r n kk4 x0 x1 x5 x6 x7 x8 v1 x11 x12 x13 h1
noncomputable def aXb (r : RT) (n : Nat) (kk4 : bX) (x0 x1 x5 x6 x11 x12 x13 : DV) (h0 : Hp) : aG :=
 bnd (r 168 [x0, x5] h0) fun v1 h1 =>
 bnd (aC 0 v1 h1) fun v2 h2 =>
 bnd (aC 1 v1 h2) fun v3 h3 =>
  aBt r n kk4 x0 x1 x5 x6 v2 v3 x11 x12 x13 h3
noncomputable def zT (r : RT) (n : Nat) (kk4 : bX) (x0 x1 x5 x6 x11 x12 x13 x20 : DV) (h0 : Hp) : aG :=
 aU x20 (
  aXb r n kk4 x0 x1 x5 x6 x11 x12 x13 h0) (
  fG r n kk4 x0 x1 x5 x6 x11 x12 x13 h0)
noncomputable def vS (r : RT) (n : Nat) (kk4 : bX) (x0 x1 x5 x6 x11 x12 x13 : DV) (h0 : Hp) : aG :=
 bnd (aB 0 x6 h0) fun v1 h1 =>
 bnd (aA v1 h1) fun v2 h2 =>
 bnd (aD .eql v2 (aH 18) h2) fun v3 h3 =>
  zT r n kk4 x0 x1 x5 x6 x11 x12 x13 v3 h3
noncomputable def aGj (r : RT) (n : Nat) (kk4 : bX) (x0 x1 x11 x12 x13 : DV) (h0 : Hp) : aG :=
 bnd (aI 3 x11 x13 h0) fun v1 h1 =>
 bnd (aK 3 v1 h1) fun v2 h2 =>
 bnd (bJ [(aH 0), (aH 0), (aH 0)] h2) fun v3 h3 =>
 bnd (aE 3 v3 v2 h3) fun _ h4 =>
  vS r n kk4 x0 x1 x13 v3 x11 x12 x13 h4
noncomputable def aPw (r : RT) (n : Nat) (kk4 : bX) (x0 x1 x11 x12 x13 x14 : DV) (h0 : Hp) : aG :=
 aU x14 (
  aGj r n kk4 x0 x1 x11 x12 x13 h0) (
  bE r n h0)
noncomputable def aVe (r : RT) (n : Nat) (kk4 : bX) (x0 x1 x11 x12 x13 : DV) (h0 : Hp) : aG :=
 bnd (aD .lss x13 x12 h0) fun v1 h1 =>
  aPw r n kk4 x0 x1 x11 x12 x13 v1 h1
noncomputable def tS (r : RT) (n : Nat) (m : Nat) : bX :=
 Nat.rec (motive := fun _ => bX) (fun _ _ _ _ _ _ => none) (fun _ ih => aVe r n ih) m
noncomputable def bLz (r : RT) (n : Nat) : bX := tS r n n
noncomputable def aKb (r : RT) (n : Nat) (x0 x1 x11 x12 x13 : DV) (h0 : Hp) : aG :=
 bLz r n x0 x1 x11 x12 x13 h0
noncomputable def aOp (r : RT) (n : Nat) (x0 x1 : DV) (h0 : Hp) : aG :=
 bnd (bQ x0 h0) fun v1 h1 =>
  aKb r n x0 x1 x0 v1 (aH 0) h1
noncomputable def s148 (r : RT) (n : Nat) (x0 x1 : DV) (h0 : Hp) : aG :=
 aOp r n x0 x1 h0
noncomputable abbrev c148 : Code := cf Tryz.f148
noncomputable abbrev aGq : Code := cR c148
noncomputable abbrev cQf : Code := cR aGq
noncomputable abbrev uS : Code := cL aGq
noncomputable abbrev aMm : Code := cR uS
noncomputable abbrev yX : Code := cL aMm
noncomputable abbrev jM : Code := cL yX
noncomputable abbrev yS : Code := cR jM
noncomputable abbrev aCy : Code := cR yS
noncomputable abbrev cTv : Code := cR aCy
noncomputable abbrev rP : Code := cL aCy
noncomputable abbrev sO : Code := cL rP
noncomputable abbrev sN : Code := cR sO
noncomputable abbrev cBx : Code := cR sN
noncomputable abbrev oO : Code := cL sN
noncomputable abbrev oI : Code := cR oO
noncomputable abbrev oF : Code := cL oI
noncomputable abbrev tH : Code := cR oF
noncomputable abbrev sH : Code := cR tH
noncomputable abbrev cHs : Code := cR sH
noncomputable abbrev aQf : Code := cL sH
noncomputable abbrev aTs : Code := cL tH
noncomputable abbrev aRw : Code := cL oF
noncomputable abbrev bVj : Code := cR oI
noncomputable abbrev aSg : Code := cL oO
noncomputable abbrev yJ : Code := cL sO
noncomputable abbrev aVg : Code := cL yS
noncomputable abbrev aUi : Code := cL jM
noncomputable abbrev aSt : Code := cL uS
noncomputable abbrev aRh : Code := cL c148
noncomputable abbrev r148 : K := aQ CF Tryz.f148
noncomputable def D148 (r : RT) (n : Nat) (c : Code) (X : Nat → K) (k : K) : K := aM CF r 72 n c X r148 k
theorem cEe : D148 r n cQf x0 r148 = (K0 (bE r n)) :=
 (by kernel_rfl)
theorem bXu (kk4 : bX) : D148 r n cTv (xs x0 0 (K0 (bE r n))) (K5 kk4 0 1 11 12 13) = (K5 (cA r n kk4) 0 1 11 12 13) :=
 (by kernel_rfl)
theorem cHc (kk4 : bX) : D148 r n cBx (xs (xs x0 0 (K0 (bE r n))) 1 (K5 (cA r n kk4) 0 1 11 12 13)) (K5 (cA r n kk4) 0 1 11 12 13) = (K7 (fG r n kk4) 0 1 5 6 11 12 13) :=
 (by kernel_rfl)
theorem bOf (kk4 : bX) : D148 r n cHs (xs (xs x0 0 (K0 (bE r n))) 1 (K5 (cA r n kk4) 0 1 11 12 13)) (K7 (fG r n kk4) 0 1 5 6 11 12 13) = (K10 (rW r n kk4) 0 1 5 6 7 8 9 11 12 13) :=
 (by kernel_rfl)
theorem bAd (kk4 : bX) : D148 r n sH (xs (xs x0 0 (K0 (bE r n))) 1 (K5 (cA r n kk4) 0 1 11 12 13)) (K7 (fG r n kk4) 0 1 5 6 11 12 13) = D148 r n aQf (xs (xs x0 0 (K0 (bE r n))) 1 (K5 (cA r n kk4) 0 1 11 12 13)) (K10 (rW r n kk4) 0 1 5 6 7 8 9 11 12 13) :=
 congrArg (fun k => D148 r n aQf (xs (xs x0 0 (K0 (bE r n))) 1 (K5 (cA r n kk4) 0 1 11 12 13)) k) (bOf r n kk4)
theorem bHt (kk4 : bX) : D148 r n sH (xs (xs x0 0 (K0 (bE r n))) 1 (K5 (cA r n kk4) 0 1 11 12 13)) (K7 (fG r n kk4) 0 1 5 6 11 12 13) = (K10 (aGu r n kk4) 0 1 5 6 7 8 9 11 12 13) :=
 (bAd r n kk4).trans
 ((by kernel_rfl))
theorem aZb (kk4 : bX) : D148 r n tH (xs (xs x0 0 (K0 (bE r n))) 1 (K5 (cA r n kk4) 0 1 11 12 13)) (K7 (fG r n kk4) 0 1 5 6 11 12 13) = D148 r n aTs (xs (xs x0 0 (K0 (bE r n))) 1 (K5 (cA r n kk4) 0 1 11 12 13)) (K10 (aGu r n kk4) 0 1 5 6 7 8 9 11 12 13) :=
 congrArg (fun k => D148 r n aTs (xs (xs x0 0 (K0 (bE r n))) 1 (K5 (cA r n kk4) 0 1 11 12 13)) k) (bHt r n kk4)
theorem bPs (kk4 : bX) : D148 r n tH (xs (xs x0 0 (K0 (bE r n))) 1 (K5 (cA r n kk4) 0 1 11 12 13)) (K7 (fG r n kk4) 0 1 5 6 11 12 13) = (K9 (aBt r n kk4) 0 1 5 6 7 8 11 12 13) :=
 (aZb r n kk4).trans
 ((by kernel_rfl))
theorem bAg (kk4 : bX) : D148 r n oF (xs (xs x0 0 (K0 (bE r n))) 1 (K5 (cA r n kk4) 0 1 11 12 13)) (K7 (fG r n kk4) 0 1 5 6 11 12 13) = D148 r n aRw (xs (xs x0 0 (K0 (bE r n))) 1 (K5 (cA r n kk4) 0 1 11 12 13)) (K9 (aBt r n kk4) 0 1 5 6 7 8 11 12 13) :=
 congrArg (fun k => D148 r n aRw (xs (xs x0 0 (K0 (bE r n))) 1 (K5 (cA r n kk4) 0 1 11 12 13)) k) (bPs r n kk4)
theorem bIq (kk4 : bX) : D148 r n oF (xs (xs x0 0 (K0 (bE r n))) 1 (K5 (cA r n kk4) 0 1 11 12 13)) (K7 (fG r n kk4) 0 1 5 6 11 12 13) = (K7 (aXb r n kk4) 0 1 5 6 11 12 13) :=
 (bAg r n kk4).trans
 ((by kernel_rfl))
theorem bRe (kk4 : bX) : D148 r n oI (xs (xs x0 0 (K0 (bE r n))) 1 (K5 (cA r n kk4) 0 1 11 12 13)) (K7 (fG r n kk4) 0 1 5 6 11 12 13) = (K8 (zT r n kk4) 0 1 5 6 11 12 13 20) :=
 (by kernel_rfl : D148 r n oI (xs (xs x0 0 (K0 (bE r n))) 1 (K5 (cA r n kk4) 0 1 11 12 13)) (K7 (fG r n kk4) 0 1 5 6 11 12 13) = (fun (env : aS) (h : Hp) => aU (opr env (cC oI)) (D148 r n oF (xs (xs x0 0 (K0 (bE r n))) 1 (K5 (cA r n kk4) 0 1 11 12 13)) (K7 (fG r n kk4) 0 1 5 6 11 12 13) env h) (D148 r n bVj (xs (xs x0 0 (K0 (bE r n))) 1 (K5 (cA r n kk4) 0 1 11 12 13)) (K7 (fG r n kk4) 0 1 5 6 11 12 13) env h))).trans (by rw [bIq r n kk4]; kernel_rfl)
theorem bEs (kk4 : bX) : D148 r n sN (xs (xs x0 0 (K0 (bE r n))) 1 (K5 (cA r n kk4) 0 1 11 12 13)) (K5 (cA r n kk4) 0 1 11 12 13) = D148 r n oO (xs (xs x0 0 (K0 (bE r n))) 1 (K5 (cA r n kk4) 0 1 11 12 13)) (K7 (fG r n kk4) 0 1 5 6 11 12 13) :=
 congrArg (fun k => D148 r n oO (xs (xs x0 0 (K0 (bE r n))) 1 (K5 (cA r n kk4) 0 1 11 12 13)) k) (cHc r n kk4)
theorem bBq (kk4 : bX) : D148 r n oO (xs (xs x0 0 (K0 (bE r n))) 1 (K5 (cA r n kk4) 0 1 11 12 13)) (K7 (fG r n kk4) 0 1 5 6 11 12 13) = D148 r n aSg (xs (xs x0 0 (K0 (bE r n))) 1 (K5 (cA r n kk4) 0 1 11 12 13)) (K8 (zT r n kk4) 0 1 5 6 11 12 13 20) :=
 congrArg (fun k => D148 r n aSg (xs (xs x0 0 (K0 (bE r n))) 1 (K5 (cA r n kk4) 0 1 11 12 13)) k) (bRe r n kk4)
theorem bXc (kk4 : bX) : D148 r n sN (xs (xs x0 0 (K0 (bE r n))) 1 (K5 (cA r n kk4) 0 1 11 12 13)) (K5 (cA r n kk4) 0 1 11 12 13) = (K7 (vS r n kk4) 0 1 5 6 11 12 13) :=
 (bEs r n kk4).trans
 ((bBq r n kk4).trans
 ((by kernel_rfl)))
theorem bEc (kk4 : bX) : D148 r n aCy (xs x0 0 (K0 (bE r n))) (K5 kk4 0 1 11 12 13) = D148 r n rP (xs x0 0 (K0 (bE r n))) (K5 (cA r n kk4) 0 1 11 12 13) :=
 congrArg (fun k => D148 r n rP (xs x0 0 (K0 (bE r n))) k) (bXu r n kk4)
theorem bRw (kk4 : bX) : D148 r n sO (xs (xs x0 0 (K0 (bE r n))) 1 (K5 (cA r n kk4) 0 1 11 12 13)) (K5 (cA r n kk4) 0 1 11 12 13) = D148 r n yJ (xs (xs x0 0 (K0 (bE r n))) 1 (K5 (cA r n kk4) 0 1 11 12 13)) (K7 (vS r n kk4) 0 1 5 6 11 12 13) :=
 congrArg (fun k => D148 r n yJ (xs (xs x0 0 (K0 (bE r n))) 1 (K5 (cA r n kk4) 0 1 11 12 13)) k) (bXc r n kk4)
theorem bHw (kk4 : bX) (q0 : TT7) (q1 : Hp → aG) (q2 : bX) : D148 r n yJ (xs (xs x0 0 (K0 q1)) 1 (K5 q2 0 1 11 12 13)) (K7 q0 0 1 5 6 11 12 13) = fun (env : aS) (h : Hp) =>
 bnd (aI 3 (env 11) (env 13) h) fun v1 h1 =>
 bnd (aK 3 v1 h1) fun v2 h2 =>
 bnd (bJ [(aH 0), (aH 0), (aH 0)] h2) fun v3 h3 =>
 bnd (aE 3 v3 v2 h3) fun _ h4 =>
  q0 (env 0) (env 1) (env 13) v3 (env 11) (env 12) (env 13) h4 := by kernel_rfl
theorem aYj (kk4 : bX) : (fun (env : aS) (h : Hp) =>
 bnd (aI 3 (env 11) (env 13) h) fun v1 h1 =>
 bnd (aK 3 v1 h1) fun v2 h2 =>
 bnd (bJ [(aH 0), (aH 0), (aH 0)] h2) fun v3 h3 =>
 bnd (aE 3 v3 v2 h3) fun _ h4 =>
  vS r n kk4 (env 0) (env 1) (env 13) v3 (env 11) (env 12) (env 13) h4) = (K5 (aGj r n kk4) 0 1 11 12 13) := by kernel_rfl
theorem bYu (kk4 : bX) : D148 r n aCy (xs x0 0 (K0 (bE r n))) (K5 kk4 0 1 11 12 13) = (K5 (aGj r n kk4) 0 1 11 12 13) :=
 (bEc r n kk4).trans
 ((by kernel_rfl : D148 r n rP (xs x0 0 (K0 (bE r n))) (K5 (cA r n kk4) 0 1 11 12 13) = D148 r n sO (xs (xs x0 0 (K0 (bE r n))) 1 (K5 (cA r n kk4) 0 1 11 12 13)) (K5 (cA r n kk4) 0 1 11 12 13)).trans
 ((bRw r n kk4).trans
 ((bHw r n kk4 (vS r n kk4) (bE r n) (cA r n kk4)).trans (aYj r n kk4))))
theorem bRl (kk4 : bX) : D148 r n yS (xs x0 0 (K0 (bE r n))) (K5 kk4 0 1 11 12 13) = D148 r n aVg (xs x0 0 (K0 (bE r n))) (K5 (aGj r n kk4) 0 1 11 12 13) :=
 congrArg (fun k => D148 r n aVg (xs x0 0 (K0 (bE r n))) k) (bYu r n kk4)
theorem bUy (kk4 : bX) : D148 r n yS (xs x0 0 (K0 (bE r n))) (K5 kk4 0 1 11 12 13) = (K6 (aPw r n kk4) 0 1 11 12 13 14) :=
 (bRl r n kk4).trans
 ((by kernel_rfl))
theorem aYr (kk4 : bX) : D148 r n jM (xs x0 0 (K0 (bE r n))) (K5 kk4 0 1 11 12 13) = D148 r n aUi (xs x0 0 (K0 (bE r n))) (K6 (aPw r n kk4) 0 1 11 12 13 14) :=
 congrArg (fun k => D148 r n aUi (xs x0 0 (K0 (bE r n))) k) (bUy r n kk4)
theorem bLi (kk4 : bX) : D148 r n jM (xs x0 0 (K0 (bE r n))) (K5 kk4 0 1 11 12 13) = (K5 (aVe r n kk4) 0 1 11 12 13) :=
 (aYr r n kk4).trans
 ((by kernel_rfl))
theorem bMr (m : Nat) : aL (fun kk => D148 r n jM (xs x0 0 (K0 (bE r n))) kk) m = (K5 (tS r n m) 0 1 11 12 13) := by
 induction m with
 | zero => exact (by kernel_rfl : aL (fun kk => D148 r n jM (xs x0 0 (K0 (bE r n))) kk) 0 = (K5 (tS r n 0) 0 1 11 12 13))
 | succ m ih =>
  refine (by kernel_rfl : aL (fun kk => D148 r n jM (xs x0 0 (K0 (bE r n))) kk) (m + 1) = D148 r n jM (xs x0 0 (K0 (bE r n))) (aL (fun kk => D148 r n jM (xs x0 0 (K0 (bE r n))) kk) m)).trans ?_
  rw [ih]
  exact (bLi r n (tS r n m)).trans (by kernel_rfl)
theorem bUb : D148 r n yX (xs x0 0 (K0 (bE r n))) (K0 (bE r n)) = (K5 (bLz r n) 0 1 11 12 13) :=
 (by kernel_rfl : D148 r n yX (xs x0 0 (K0 (bE r n))) (K0 (bE r n)) = aL (fun kk => D148 r n jM (xs x0 0 (K0 (bE r n))) kk) n).trans ((bMr r n n).trans (by kernel_rfl))
theorem bZy : D148 r n aMm x0 (K0 (bE r n)) = (K5 (aKb r n) 0 1 11 12 13) :=
 (by kernel_rfl : D148 r n aMm x0 (K0 (bE r n)) = D148 r n yX (xs x0 0 (K0 (bE r n))) (K0 (bE r n))).trans
 ((bUb r n).trans (by kernel_rfl))
theorem aZt : D148 r n aGq x0 r148 = D148 r n uS x0 (K0 (bE r n)) :=
 congrArg (fun k => D148 r n uS x0 k) (cEe r n)
theorem aZf : D148 r n uS x0 (K0 (bE r n)) = D148 r n aSt x0 (K5 (aKb r n) 0 1 11 12 13) :=
 congrArg (fun k => D148 r n aSt x0 k) (bZy r n)
theorem cEs : D148 r n aGq x0 r148 = (K2 (aOp r n) 0 1) :=
 (aZt r n).trans
 ((aZf r n).trans
 ((by kernel_rfl)))
theorem bUf : D148 r n c148 x0 r148 = D148 r n aRh x0 (K2 (aOp r n) 0 1) :=
 congrArg (fun k => D148 r n aRh x0 k) (cEs r n)
theorem cZn : D148 r n c148 x0 r148 = (K2 (s148 r n) 0 1) :=
 (bUf r n).trans
 ((by kernel_rfl))
theorem cQs : aF CF r n 148 args h = s148 r n (aT args 0) (aT args 1) h :=
 (by kernel_rfl : aF CF r n 148 args h = D148 r n c148 x0 r148 (aJ args) h).trans ((congrFun (congrFun (cZn r n) (aJ args)) h).trans (by kernel_rfl))
noncomputable def bP (r : RT) (n : Nat) (x6 x9 : DV) (h0 : Hp) : aG :=
 bnd (aA x6 h0) fun v1 h1 =>
 bnd (aA x9 h1) fun v2 h2 =>
 some (.t [v1, v2], h2)
noncomputable def sA (r : RT) (n : Nat) (kk9 : eR) (x2 x3 x6 x7 x9 x10 x11 x14 : DV) (h0 : Hp) : aG :=
 bnd (aD .add x11 (aH 1) h0) fun v1 h1 =>
 bnd (aA x3 h1) fun v2 h2 =>
 bnd (aI 1 v2 x11 h2) fun v3 h3 =>
 bnd (aA v3 h3) fun v4 h4 =>
 bnd (cY CF r x10 [v1, v4, x14] h4) fun v5 h5 =>
  kk9 x2 x3 x6 x7 x9 x10 h5
noncomputable def aBb (r : RT) (n : Nat) (kk9 : eR) (x2 x3 x6 x7 x9 x10 x11 x12 x13 x14 : DV) (h0 : Hp) : aG :=
 bnd (aB 0 x12 h0) fun v1 h1 =>
 bnd (aA v1 h1) fun v2 h2 =>
 bnd (aD .eql v2 (aH 19) h2) fun v3 h3 =>
 aU v3 (
 bnd (aD .neq x13 (aH 1) h3) fun v4 h4 =>
 bnd (gD v4 false (aA x3 h4) h4) fun v5 h5 =>
 bnd (gD v4 false (some (x11, h5)) h5) fun v6 h6 =>
 bnd (gD v4 false (aI 1 v5 v6 h6) h6) fun v7 h7 =>
 bnd (gD v4 false (aA v7 h7) h7) fun v8 h8 =>
 bnd (gD v4 false (aD .lss v8 (aH 0) h8) h8) fun v9 h9 =>
 bnd (aO v4 (.b true) v9 h9) fun v10 h10 =>
 aU v10 (
 some (.t [.l0, (.b false)], h10)) (
   kk9 x2 x3 x6 x7 x9 x10 h10)) (
 bnd (aD .eql v2 (aH 20) h3) fun v11 h11 =>
 aU v11 (
   kk9 x2 x3 x6 x7 x9 x10 h11) (
 bnd (aD .eql v2 (aH 16) h11) fun v12 h12 =>
 aU v12 (
 bnd (aK 3 x12 h12) fun v13 h13 =>
 bnd (r 169 [v13] h13) fun v14 h14 =>
 bnd (aA x3 h14) fun v15 h15 =>
 cnd (bD (aA x3 h12) v15 && true) (
 bnd (aI 1 v15 x11 h15) fun v16 h16 =>
 bnd (aA v16 h16) fun v17 h17 =>
 cnd (bD (aA v16 h12) v17 && true) (
 bnd (cY CF r x10 [v14, v17, x14] h17) fun v18 h18 =>
    kk9 x2 x3 x6 x7 x9 x10 h18))) (
 bnd (aD .eql v2 (aH 17) h12) fun v19 h19 =>
 aU v19 (
 bnd (aK 3 x12 h19) fun v20 h20 =>
 bnd (r 169 [v20] h20) fun v21 h21 =>
 bnd (aA x3 h21) fun v22 h22 =>
 cnd (bD (aA x3 h19) v22 && true) (
 bnd (aI 1 v22 x11 h22) fun v23 h23 =>
 bnd (aA v23 h23) fun v24 h24 =>
 cnd (bD (aA v23 h19) v24 && true) (
 bnd (cY CF r x10 [v21, v24, x14] h24) fun v25 h25 =>
     sA r n kk9 x2 x3 x6 x7 x9 x10 x11 x14 h25))) (
     sA r n kk9 x2 x3 x6 x7 x9 x10 x11 x14 h19))))
noncomputable def zH (r : RT) (n : Nat) (kk9 : eR) (x2 x3 x6 x7 x9 x10 x11 x12 x13 x14 : DV) (h0 : Hp) : aG :=
 bnd (aK 3 x12 h0) fun v1 h1 =>
 bnd (r 172 [v1] h1) fun v2 h2 =>
 bnd (aD .lss x13 v2 h2) fun v3 h3 =>
 bnd (gD v3 false (some (x14, h3)) h3) fun v4 h4 =>
 bnd (gD v3 false (aD .gtr v4 (aH 24) h4) h4) fun v5 h5 =>
 bnd (aO v3 (.b true) v5 h5) fun v6 h6 =>
 aU v6 (
 some (.t [.l0, (.b false)], h6)) (
  aBb r n kk9 x2 x3 x6 x7 x9 x10 x11 x12 x13 x14 h6)
noncomputable def zA (r : RT) (n : Nat) (kk9 : eR) (x2 x3 x6 x7 x9 x10 x11 x12 x13 : DV) (h0 : Hp) : aG :=
 bnd (aK 3 x12 h0) fun v1 h1 =>
 bnd (r 171 [v1] h1) fun v2 h2 =>
 bnd (aD .add x13 v2 h2) fun v3 h3 =>
  zH r n kk9 x2 x3 x6 x7 x9 x10 x11 x12 x13 v3 h3
noncomputable def aGp (r : RT) (n : Nat) (kk9 : eR) (x2 x3 x6 x7 x9 x10 x11 : DV) (h0 : Hp) : aG :=
 bnd (aA x2 (resv 1 h0)) fun v1 h1 =>
 bnd (aI 3 v1 x11 h1) fun v2 h2 =>
 bnd (aK 3 v2 h2) fun v3 h3 =>
 bnd (aA x6 h3) fun v4 h4 =>
 bnd (aI 1 v4 x11 h4) fun v5 h5 =>
 bnd (aA v5 h5) fun v6 h6 =>
 bnd (kH (aY 0 h0.next) [(aH 0), (aH 0), (aH 0)] h6) fun v7 h7 =>
 bnd (aE 3 v7 v3 h7) fun v8 h8 =>
 cnd (bD (aA v5 h8) v6 && (bD (aA x6 h8) v4 && true)) (
  zA r n kk9 x2 x3 x6 x7 x9 x10 x11 v7 v6 h8)
noncomputable def aDp (r : RT) (n : Nat) (kk9 : eR) (x2 x3 x6 x7 x9 x10 x11 : DV) (h0 : Hp) : aG :=
 bnd (aA x7 h0) fun v1 h1 =>
 bnd (aA x7 h1) fun v2 h2 =>
 bnd (bQ v2 h2) fun v3 h3 =>
 bnd (aD .sub v3 (aH 1) h3) fun v4 h4 =>
 bnd (cG 1 v1 none (some v4) h4) fun v5 h5 =>
 bnd (aE 1 x7 v5 h5) fun _ h6 =>
  aGp r n kk9 x2 x3 x6 x7 x9 x10 x11 h6
noncomputable def aGt (r : RT) (n : Nat) (kk9 : eR) (x2 x3 x6 x7 x9 x10 : DV) (h0 : Hp) : aG :=
 bnd (aA x7 h0) fun v1 h1 =>
 bnd (aA x7 h1) fun v2 h2 =>
 bnd (bQ v2 h2) fun v3 h3 =>
 bnd (aD .sub v3 (aH 1) h3) fun v4 h4 =>
 bnd (aI 1 v1 v4 h4) fun v5 h5 =>
 bnd (aA v5 h5) fun v6 h6 =>
  aDp r n kk9 x2 x3 x6 x7 x9 x10 v6 h6
noncomputable def aVm (r : RT) (n : Nat) (kk9 : eR) (x2 x3 x6 x7 x9 x10 : DV) (h0 : Hp) : aG :=
 bnd (aA x7 h0) fun v1 h1 =>
 bnd (bQ v1 h1) fun v2 h2 =>
 bnd (aD .gtr v2 (aH 0) h2) fun v3 h3 =>
 bnd (gD v3 true (aA x9 h3) h3) fun v4 h4 =>
 bnd (aO v3 v4 (.b false) h4) fun v5 h5 =>
 aU v5 (
   aGt r n kk9 x2 x3 x6 x7 x9 x10 h5) (
   bP r n x6 x9 h5)
noncomputable def sL (r : RT) (n : Nat) (m : Nat) : eR :=
 Nat.rec (motive := fun _ => eR) (fun _ _ _ _ _ _ _ => none) (fun _ ih => aVm r n ih) m
noncomputable def bKr (r : RT) (n : Nat) : eR := sL r n n
noncomputable def aKq (r : RT) (n : Nat) (x2 x3 x6 x7 x9 x10 : DV) (h0 : Hp) : aG :=
 bKr r n x2 x3 x6 x7 x9 x10 h0
noncomputable def aPb (r : RT) (n : Nat) (x2 x3 x6 x7 x9 x10 : DV) (h0 : Hp) : aG :=
 aKq r n x2 x3 x6 x7 x9 x10 h0
noncomputable def uY (r : RT) (n : Nat) (x2 x3 x6 x7 x9 : DV) (h0 : Hp) : aG :=
 aPb r n x2 x3 x6 x7 x9 (.f 170 [] [x2, x3, x6, x9, x7]) h0
noncomputable def cF (r : RT) (n : Nat) (x2 x3 x6 x7 : DV) (h0 : Hp) : aG :=
 bnd (bJ [(.b false)] h0) fun v1 h1 =>
 bnd (aE 1 v1 (.b true) h1) fun _ h2 =>
  uY r n x2 x3 x6 x7 v1 h2
noncomputable def kY (r : RT) (n : Nat) (kk18 : eR) (x2 x3 x6 x7 x19 x20 : DV) (h0 : Hp) : aG :=
 bnd (aD .add x20 (aH 1) h0) fun v1 h1 =>
  kk18 x2 x3 x6 x7 x19 v1 h1
noncomputable def sG (r : RT) (n : Nat) (kk18 : eR) (x2 x3 x6 x7 x19 x20 : DV) (h0 : Hp) : aG :=
 bnd (aA x6 h0) fun v1 h1 =>
 bnd (aI 1 v1 x20 h1) fun v2 h2 =>
 bnd (aE 1 v2 (.i .i64 (Int.negSucc 0)) h2) fun _ h3 =>
 bnd (aD .eql x20 (aH 0) h3) fun v4 h4 =>
 bnd (gD v4 false (some (x20, h4)) h4) fun v5 h5 =>
 bnd (gD v4 false (aD .gtr v5 (aH 1) h5) h5) fun v6 h6 =>
 bnd (gD v4 false (some (v6, h6)) h6) fun v7 h7 =>
 bnd (gD v7 true (aA x2 h7) h7) fun v8 h8 =>
 bnd (gD v7 true (some (x20, h8)) h8) fun v9 h9 =>
 bnd (gD v7 true (aD .sub v9 (aH 2) h9) h9) fun v10 h10 =>
 bnd (gD v7 true (aI 3 v8 v10 h10) h10) fun v11 h11 =>
 bnd (gD v7 true (aB 0 v11 h11) h11) fun v12 h12 =>
 bnd (gD v7 true (aA v12 h12) h12) fun v13 h13 =>
 bnd (gD v7 true (aD .eql v13 (aH 18) h13) h13) fun v14 h14 =>
 bnd (gD v4 false (aO v7 v14 (.b false) h14) h14) fun v15 h15 =>
 bnd (gD v4 false (some (v15, h15)) h15) fun v16 h16 =>
 bnd (gD v16 true (aA x3 h16) h16) fun v17 h17 =>
 bnd (gD v16 true (some (x20, h17)) h17) fun v18 h18 =>
 bnd (gD v16 true (aI 1 v17 v18 h18) h18) fun v19 h19 =>
 bnd (gD v16 true (aA v19 h19) h19) fun v20 h20 =>
 bnd (gD v16 true (some (x20, h20)) h20) fun v21 h21 =>
 bnd (gD v16 true (aD .sub v21 (aH 2) h21) h21) fun v22 h22 =>
 bnd (gD v16 true (aD .eql v20 v22 h22) h22) fun v23 h23 =>
 bnd (gD v4 false (aO v16 v23 (.b false) h23) h23) fun v24 h24 =>
 bnd (aO v4 (.b true) v24 h24) fun v25 h25 =>
 aU v25 (
 bnd (aA x6 h25) fun v26 h26 =>
 bnd (aI 1 v26 x20 h26) fun v27 h27 =>
 bnd (aE 1 v27 (aH 0) h27) fun _ h28 =>
 bnd (aA x7 h28) fun v29 h29 =>
 bnd (aN [(aH 0)] 1 [(0, 1, x20)] h29) fun v30 h30 =>
 bnd (aW 1 8 v29 v30 h30) fun v31 h31 =>
 bnd (aE 1 x7 v31 h31) fun _ h32 =>
  kY r n kk18 x2 x3 x6 x7 x19 x20 h32) (
  kY r n kk18 x2 x3 x6 x7 x19 x20 h25)
noncomputable def aAh (r : RT) (n : Nat) (kk18 : eR) (x2 x3 x6 x7 x19 x20 x21 : DV) (h0 : Hp) : aG :=
 aU x21 (
  sG r n kk18 x2 x3 x6 x7 x19 x20 h0) (
  cF r n x2 x3 x6 x7 h0)
noncomputable def aIs (r : RT) (n : Nat) (kk18 : eR) (x2 x3 x6 x7 x19 x20 : DV) (h0 : Hp) : aG :=
 bnd (aD .lss x20 x19 h0) fun v1 h1 =>
  aAh r n kk18 x2 x3 x6 x7 x19 x20 v1 h1
noncomputable def oV (r : RT) (n : Nat) (m : Nat) : eR :=
 Nat.rec (motive := fun _ => eR) (fun _ _ _ _ _ _ _ => none) (fun _ ih => aIs r n ih) m
noncomputable def aRr (r : RT) (n : Nat) : eR := oV r n n
noncomputable def aDq (r : RT) (n : Nat) (x2 x3 x6 x7 x19 x20 : DV) (h0 : Hp) : aG :=
 aRr r n x2 x3 x6 x7 x19 x20 h0
noncomputable def xA (r : RT) (n : Nat) (x2 x3 x6 x7 : DV) (h0 : Hp) : aG :=
 bnd (aA x6 h0) fun v1 h1 =>
 bnd (bQ v1 h1) fun v2 h2 =>
  aDq r n x2 x3 x6 x7 v2 (aH 0) h2
noncomputable def pD (r : RT) (n : Nat) (x2 x3 x6 : DV) (h0 : Hp) : aG :=
 bnd (bJ [.l0] h0) fun v1 h1 =>
  xA r n x2 x3 x6 v1 h1
noncomputable def pP (r : RT) (n : Nat) (x2 x3 : DV) (h0 : Hp) : aG :=
 bnd (aA x2 h0) fun v1 h1 =>
 bnd (bQ v1 h1) fun v2 h2 =>
 bnd (cB 1 8 [(aH 0)] v2 v2 h2) fun v3 h3 =>
 bnd (bJ [.l0] h3) fun v4 h4 =>
 bnd (aE 1 v4 v3 h4) fun _ h5 =>
  pD r n x2 x3 v4 h5
noncomputable def s149 (r : RT) (n : Nat) (x0 x1 : DV) (h0 : Hp) : aG :=
 bnd (bS x0 h0) fun v1 h1 =>
 bnd (bS x1 h1) fun v2 h2 =>
  pP r n v1 v2 h2
noncomputable abbrev c149 : Code := cf Tryz.f149
noncomputable abbrev aKk : Code := cR c149
noncomputable abbrev aGv : Code := cL aKk
noncomputable abbrev aAe : Code := cR aGv
noncomputable abbrev aCn : Code := cR aAe
noncomputable abbrev aBu : Code := cR aCn
noncomputable abbrev aEu : Code := cR aBu
noncomputable abbrev aBd : Code := cR aEu
noncomputable abbrev aEs : Code := cR aBd
noncomputable abbrev cSo : Code := cR aEs
noncomputable abbrev tK : Code := cL aEs
noncomputable abbrev rJ : Code := cL tK
noncomputable abbrev hC : Code := cL rJ
noncomputable abbrev aCx : Code := cR hC
noncomputable abbrev sW : Code := cL aCx
noncomputable abbrev sX : Code := cR sW
noncomputable abbrev sF : Code := cR sX
noncomputable abbrev tG : Code := cR sF
noncomputable abbrev tU : Code := cR tG
noncomputable abbrev sM : Code := cR tU
noncomputable abbrev bWj : Code := cR sM
noncomputable abbrev aRk : Code := cL sM
noncomputable abbrev aTn : Code := cL tU
noncomputable abbrev aWg : Code := cL tG
noncomputable abbrev aTe : Code := cL sF
noncomputable abbrev aWw : Code := cL sX
noncomputable abbrev aRu : Code := cL sW
noncomputable abbrev aUm : Code := cL hC
noncomputable abbrev aRj : Code := cL aBd
noncomputable abbrev aXe : Code := cL aEu
noncomputable abbrev aDr : Code := cL aBu
noncomputable abbrev oL : Code := cL aCn
noncomputable abbrev aCa : Code := cR oL
noncomputable abbrev rN : Code := cL aCa
noncomputable abbrev gZ : Code := cL rN
noncomputable abbrev sE : Code := cR gZ
noncomputable abbrev tA : Code := cR sE
noncomputable abbrev cCh : Code := cR tA
noncomputable abbrev aGx : Code := cL tA
noncomputable abbrev aRp : Code := cL sE
noncomputable abbrev aWn : Code := cL gZ
noncomputable abbrev aTq : Code := cL oL
noncomputable abbrev aFz : Code := cL aAe
noncomputable abbrev aAc : Code := cL aGv
noncomputable abbrev zK : Code := cL c149
noncomputable abbrev r149 : K := aQ CF Tryz.f149
noncomputable def D149 (r : RT) (n : Nat) (c : Code) (X : Nat → K) (k : K) : K := aM CF r 144 n c X r149 k
theorem cFq : D149 r n cSo x0 r149 = (K2 (bP r n) 6 9) :=
 (by kernel_rfl)
theorem bSo (kk9 : eR) : D149 r n bWj (xs (xs x0 2 (K2 (bP r n) 6 9)) 3 (K6 kk9 2 3 6 7 9 10)) (K6 kk9 2 3 6 7 9 10) = (K8 (sA r n kk9) 2 3 6 7 9 10 11 14) :=
 (by kernel_rfl)
theorem bAj (kk9 : eR) : D149 r n sM (xs (xs x0 2 (K2 (bP r n) 6 9)) 3 (K6 kk9 2 3 6 7 9 10)) (K6 kk9 2 3 6 7 9 10) = D149 r n aRk (xs (xs x0 2 (K2 (bP r n) 6 9)) 3 (K6 kk9 2 3 6 7 9 10)) (K8 (sA r n kk9) 2 3 6 7 9 10 11 14) :=
 congrArg (fun k => D149 r n aRk (xs (xs x0 2 (K2 (bP r n) 6 9)) 3 (K6 kk9 2 3 6 7 9 10)) k) (bSo r n kk9)
theorem bEi (kk9 : eR) : D149 r n sM (xs (xs x0 2 (K2 (bP r n) 6 9)) 3 (K6 kk9 2 3 6 7 9 10)) (K6 kk9 2 3 6 7 9 10) = (K10 (aBb r n kk9) 2 3 6 7 9 10 11 12 13 14) :=
 (bAj r n kk9).trans
 ((by kernel_rfl))
theorem aYe (kk9 : eR) : D149 r n tU (xs (xs x0 2 (K2 (bP r n) 6 9)) 3 (K6 kk9 2 3 6 7 9 10)) (K6 kk9 2 3 6 7 9 10) = D149 r n aTn (xs (xs x0 2 (K2 (bP r n) 6 9)) 3 (K6 kk9 2 3 6 7 9 10)) (K10 (aBb r n kk9) 2 3 6 7 9 10 11 12 13 14) :=
 congrArg (fun k => D149 r n aTn (xs (xs x0 2 (K2 (bP r n) 6 9)) 3 (K6 kk9 2 3 6 7 9 10)) k) (bEi r n kk9)
theorem bDf (kk9 : eR) : D149 r n tU (xs (xs x0 2 (K2 (bP r n) 6 9)) 3 (K6 kk9 2 3 6 7 9 10)) (K6 kk9 2 3 6 7 9 10) = (K10 (zH r n kk9) 2 3 6 7 9 10 11 12 13 14) :=
 (aYe r n kk9).trans
 ((by kernel_rfl))
theorem aYn (kk9 : eR) : D149 r n tG (xs (xs x0 2 (K2 (bP r n) 6 9)) 3 (K6 kk9 2 3 6 7 9 10)) (K6 kk9 2 3 6 7 9 10) = D149 r n aWg (xs (xs x0 2 (K2 (bP r n) 6 9)) 3 (K6 kk9 2 3 6 7 9 10)) (K10 (zH r n kk9) 2 3 6 7 9 10 11 12 13 14) :=
 congrArg (fun k => D149 r n aWg (xs (xs x0 2 (K2 (bP r n) 6 9)) 3 (K6 kk9 2 3 6 7 9 10)) k) (bDf r n kk9)
theorem bDn (kk9 : eR) : D149 r n tG (xs (xs x0 2 (K2 (bP r n) 6 9)) 3 (K6 kk9 2 3 6 7 9 10)) (K6 kk9 2 3 6 7 9 10) = (K9 (zA r n kk9) 2 3 6 7 9 10 11 12 13) :=
 (aYn r n kk9).trans
 ((by kernel_rfl))
theorem bAm (kk9 : eR) : D149 r n sF (xs (xs x0 2 (K2 (bP r n) 6 9)) 3 (K6 kk9 2 3 6 7 9 10)) (K6 kk9 2 3 6 7 9 10) = D149 r n aTe (xs (xs x0 2 (K2 (bP r n) 6 9)) 3 (K6 kk9 2 3 6 7 9 10)) (K9 (zA r n kk9) 2 3 6 7 9 10 11 12 13) :=
 congrArg (fun k => D149 r n aTe (xs (xs x0 2 (K2 (bP r n) 6 9)) 3 (K6 kk9 2 3 6 7 9 10)) k) (bDn r n kk9)
theorem bJn (kk9 : eR) : D149 r n sF (xs (xs x0 2 (K2 (bP r n) 6 9)) 3 (K6 kk9 2 3 6 7 9 10)) (K6 kk9 2 3 6 7 9 10) = (K7 (aGp r n kk9) 2 3 6 7 9 10 11) :=
 (bAm r n kk9).trans
 ((by kernel_rfl))
theorem aXl (kk9 : eR) : D149 r n sX (xs (xs x0 2 (K2 (bP r n) 6 9)) 3 (K6 kk9 2 3 6 7 9 10)) (K6 kk9 2 3 6 7 9 10) = D149 r n aWw (xs (xs x0 2 (K2 (bP r n) 6 9)) 3 (K6 kk9 2 3 6 7 9 10)) (K7 (aGp r n kk9) 2 3 6 7 9 10 11) :=
 congrArg (fun k => D149 r n aWw (xs (xs x0 2 (K2 (bP r n) 6 9)) 3 (K6 kk9 2 3 6 7 9 10)) k) (bJn r n kk9)
theorem bBj (kk9 : eR) : D149 r n sX (xs (xs x0 2 (K2 (bP r n) 6 9)) 3 (K6 kk9 2 3 6 7 9 10)) (K6 kk9 2 3 6 7 9 10) = (K7 (aDp r n kk9) 2 3 6 7 9 10 11) :=
 (aXl r n kk9).trans
 ((by kernel_rfl))
theorem aYa (kk9 : eR) : D149 r n sW (xs (xs x0 2 (K2 (bP r n) 6 9)) 3 (K6 kk9 2 3 6 7 9 10)) (K6 kk9 2 3 6 7 9 10) = D149 r n aRu (xs (xs x0 2 (K2 (bP r n) 6 9)) 3 (K6 kk9 2 3 6 7 9 10)) (K7 (aDp r n kk9) 2 3 6 7 9 10 11) :=
 congrArg (fun k => D149 r n aRu (xs (xs x0 2 (K2 (bP r n) 6 9)) 3 (K6 kk9 2 3 6 7 9 10)) k) (bBj r n kk9)
theorem bSp (kk9 : eR) : D149 r n aCx (xs x0 2 (K2 (bP r n) 6 9)) (K6 kk9 2 3 6 7 9 10) = (K6 (aGt r n kk9) 2 3 6 7 9 10) :=
 (by kernel_rfl : D149 r n aCx (xs x0 2 (K2 (bP r n) 6 9)) (K6 kk9 2 3 6 7 9 10) = D149 r n sW (xs (xs x0 2 (K2 (bP r n) 6 9)) 3 (K6 kk9 2 3 6 7 9 10)) (K6 kk9 2 3 6 7 9 10)).trans
 ((aYa r n kk9).trans
 ((by kernel_rfl)))
theorem bFr (kk9 : eR) : D149 r n hC (xs x0 2 (K2 (bP r n) 6 9)) (K6 kk9 2 3 6 7 9 10) = D149 r n aUm (xs x0 2 (K2 (bP r n) 6 9)) (K6 (aGt r n kk9) 2 3 6 7 9 10) :=
 congrArg (fun k => D149 r n aUm (xs x0 2 (K2 (bP r n) 6 9)) k) (bSp r n kk9)
theorem bGt (kk9 : eR) : D149 r n hC (xs x0 2 (K2 (bP r n) 6 9)) (K6 kk9 2 3 6 7 9 10) = (K6 (aVm r n kk9) 2 3 6 7 9 10) :=
 (bFr r n kk9).trans
 ((by kernel_rfl))
theorem bPd (m : Nat) : aL (fun kk => D149 r n hC (xs x0 2 (K2 (bP r n) 6 9)) kk) m = (K6 (sL r n m) 2 3 6 7 9 10) := by
 induction m with
 | zero => exact (by kernel_rfl : aL (fun kk => D149 r n hC (xs x0 2 (K2 (bP r n) 6 9)) kk) 0 = (K6 (sL r n 0) 2 3 6 7 9 10))
 | succ m ih =>
  refine (by kernel_rfl : aL (fun kk => D149 r n hC (xs x0 2 (K2 (bP r n) 6 9)) kk) (m + 1) = D149 r n hC (xs x0 2 (K2 (bP r n) 6 9)) (aL (fun kk => D149 r n hC (xs x0 2 (K2 (bP r n) 6 9)) kk) m)).trans ?_
  rw [ih]
  exact (bGt r n (sL r n m)).trans (by kernel_rfl)
theorem cGj : D149 r n rJ (xs x0 2 (K2 (bP r n) 6 9)) (K2 (bP r n) 6 9) = (K6 (bKr r n) 2 3 6 7 9 10) :=
 (by kernel_rfl : D149 r n rJ (xs x0 2 (K2 (bP r n) 6 9)) (K2 (bP r n) 6 9) = aL (fun kk => D149 r n hC (xs x0 2 (K2 (bP r n) 6 9)) kk) n).trans ((bPd r n n).trans (by kernel_rfl))
theorem bNd : D149 r n aEs x0 r149 = D149 r n tK x0 (K2 (bP r n) 6 9) :=
 congrArg (fun k => D149 r n tK x0 k) (cFq r n)
theorem bXz : D149 r n aEs x0 r149 = (K6 (aKq r n) 2 3 6 7 9 10) :=
 (bNd r n).trans
 ((by kernel_rfl : D149 r n tK x0 (K2 (bP r n) 6 9) = D149 r n rJ (xs x0 2 (K2 (bP r n) 6 9)) (K2 (bP r n) 6 9)).trans
 ((cGj r n).trans (by kernel_rfl)))
theorem bQh : D149 r n aBd x0 r149 = D149 r n aRj x0 (K6 (aKq r n) 2 3 6 7 9 10) :=
 congrArg (fun k => D149 r n aRj x0 k) (bXz r n)
theorem cCu : D149 r n aBd x0 r149 = (K6 (aPb r n) 2 3 6 7 9 10) :=
 (bQh r n).trans
 ((by kernel_rfl))
theorem aXx : D149 r n aEu x0 r149 = D149 r n aXe x0 (K6 (aPb r n) 2 3 6 7 9 10) :=
 congrArg (fun k => D149 r n aXe x0 k) (cCu r n)
theorem bVw : D149 r n aEu x0 r149 = (K5 (uY r n) 2 3 6 7 9) :=
 (aXx r n).trans
 ((by kernel_rfl))
theorem aZs : D149 r n aBu x0 r149 = D149 r n aDr x0 (K5 (uY r n) 2 3 6 7 9) :=
 congrArg (fun k => D149 r n aDr x0 k) (bVw r n)
theorem aYl (q0 : bX) : D149 r n aDr x0 (K5 q0 2 3 6 7 9) = fun (env : aS) (h : Hp) =>
 bnd (bJ [(.b false)] h) fun v1 h1 =>
 bnd (aE 1 v1 (.b true) h1) fun _ h2 =>
  q0 (env 2) (env 3) (env 6) (env 7) v1 h2 := by kernel_rfl
theorem aPu : (fun (env : aS) (h : Hp) =>
 bnd (bJ [(.b false)] h) fun v1 h1 =>
 bnd (aE 1 v1 (.b true) h1) fun _ h2 =>
  uY r n (env 2) (env 3) (env 6) (env 7) v1 h2) = (K4 (cF r n) 2 3 6 7) := by kernel_rfl
theorem cHa : D149 r n aBu x0 r149 = (K4 (cF r n) 2 3 6 7) :=
 (aZs r n).trans
 ((aYl r n (uY r n)).trans (aPu r n))
theorem bNl (kk18 : eR) : D149 r n cCh (xs x0 0 (K4 (cF r n) 2 3 6 7)) (K6 kk18 2 3 6 7 19 20) = (K6 (kY r n kk18) 2 3 6 7 19 20) :=
 (by kernel_rfl)
theorem aLh (kk18 : eR) : D149 r n tA (xs x0 0 (K4 (cF r n) 2 3 6 7)) (K6 kk18 2 3 6 7 19 20) = D149 r n aGx (xs x0 0 (K4 (cF r n) 2 3 6 7)) (K6 (kY r n kk18) 2 3 6 7 19 20) :=
 congrArg (fun k => D149 r n aGx (xs x0 0 (K4 (cF r n) 2 3 6 7)) k) (bNl r n kk18)
theorem aMu (kk18 : eR) (q0 : eR) (q1 : dD) : D149 r n aGx (xs x0 0 (K4 q1 2 3 6 7)) (K6 q0 2 3 6 7 19 20) = fun (env : aS) (h : Hp) =>
 bnd (aA (env 6) h) fun v1 h1 =>
 bnd (aI 1 v1 (env 20) h1) fun v2 h2 =>
 bnd (aE 1 v2 (.i .i64 (Int.negSucc 0)) h2) fun _ h3 =>
 bnd (aD .eql (env 20) (aH 0) h3) fun v4 h4 =>
 bnd (gD v4 false (some ((env 20), h4)) h4) fun v5 h5 =>
 bnd (gD v4 false (aD .gtr v5 (aH 1) h5) h5) fun v6 h6 =>
 bnd (gD v4 false (some (v6, h6)) h6) fun v7 h7 =>
 bnd (gD v7 true (aA (env 2) h7) h7) fun v8 h8 =>
 bnd (gD v7 true (some ((env 20), h8)) h8) fun v9 h9 =>
 bnd (gD v7 true (aD .sub v9 (aH 2) h9) h9) fun v10 h10 =>
 bnd (gD v7 true (aI 3 v8 v10 h10) h10) fun v11 h11 =>
 bnd (gD v7 true (aB 0 v11 h11) h11) fun v12 h12 =>
 bnd (gD v7 true (aA v12 h12) h12) fun v13 h13 =>
 bnd (gD v7 true (aD .eql v13 (aH 18) h13) h13) fun v14 h14 =>
 bnd (gD v4 false (aO v7 v14 (.b false) h14) h14) fun v15 h15 =>
 bnd (gD v4 false (some (v15, h15)) h15) fun v16 h16 =>
 bnd (gD v16 true (aA (env 3) h16) h16) fun v17 h17 =>
 bnd (gD v16 true (some ((env 20), h17)) h17) fun v18 h18 =>
 bnd (gD v16 true (aI 1 v17 v18 h18) h18) fun v19 h19 =>
 bnd (gD v16 true (aA v19 h19) h19) fun v20 h20 =>
 bnd (gD v16 true (some ((env 20), h20)) h20) fun v21 h21 =>
 bnd (gD v16 true (aD .sub v21 (aH 2) h21) h21) fun v22 h22 =>
 bnd (gD v16 true (aD .eql v20 v22 h22) h22) fun v23 h23 =>
 bnd (gD v4 false (aO v16 v23 (.b false) h23) h23) fun v24 h24 =>
 bnd (aO v4 (.b true) v24 h24) fun v25 h25 =>
 aU v25 (
 bnd (aA (env 6) h25) fun v26 h26 =>
 bnd (aI 1 v26 (env 20) h26) fun v27 h27 =>
 bnd (aE 1 v27 (aH 0) h27) fun _ h28 =>
 bnd (aA (env 7) h28) fun v29 h29 =>
 bnd (aN [(aH 0)] 1 [(0, 1, (env 20))] h29) fun v30 h30 =>
 bnd (aW 1 8 v29 v30 h30) fun v31 h31 =>
 bnd (aE 1 (env 7) v31 h31) fun _ h32 =>
      q0 (env 2) (env 3) (env 6) (env 7) (env 19) (env 20) h32) (
      q0 (env 2) (env 3) (env 6) (env 7) (env 19) (env 20) h25) := by kernel_rfl
theorem aHc (kk18 : eR) : (fun (env : aS) (h : Hp) =>
 bnd (aA (env 6) h) fun v1 h1 =>
 bnd (aI 1 v1 (env 20) h1) fun v2 h2 =>
 bnd (aE 1 v2 (.i .i64 (Int.negSucc 0)) h2) fun _ h3 =>
 bnd (aD .eql (env 20) (aH 0) h3) fun v4 h4 =>
 bnd (gD v4 false (some ((env 20), h4)) h4) fun v5 h5 =>
 bnd (gD v4 false (aD .gtr v5 (aH 1) h5) h5) fun v6 h6 =>
 bnd (gD v4 false (some (v6, h6)) h6) fun v7 h7 =>
 bnd (gD v7 true (aA (env 2) h7) h7) fun v8 h8 =>
 bnd (gD v7 true (some ((env 20), h8)) h8) fun v9 h9 =>
 bnd (gD v7 true (aD .sub v9 (aH 2) h9) h9) fun v10 h10 =>
 bnd (gD v7 true (aI 3 v8 v10 h10) h10) fun v11 h11 =>
 bnd (gD v7 true (aB 0 v11 h11) h11) fun v12 h12 =>
 bnd (gD v7 true (aA v12 h12) h12) fun v13 h13 =>
 bnd (gD v7 true (aD .eql v13 (aH 18) h13) h13) fun v14 h14 =>
 bnd (gD v4 false (aO v7 v14 (.b false) h14) h14) fun v15 h15 =>
 bnd (gD v4 false (some (v15, h15)) h15) fun v16 h16 =>
 bnd (gD v16 true (aA (env 3) h16) h16) fun v17 h17 =>
 bnd (gD v16 true (some ((env 20), h17)) h17) fun v18 h18 =>
 bnd (gD v16 true (aI 1 v17 v18 h18) h18) fun v19 h19 =>
 bnd (gD v16 true (aA v19 h19) h19) fun v20 h20 =>
 bnd (gD v16 true (some ((env 20), h20)) h20) fun v21 h21 =>
 bnd (gD v16 true (aD .sub v21 (aH 2) h21) h21) fun v22 h22 =>
 bnd (gD v16 true (aD .eql v20 v22 h22) h22) fun v23 h23 =>
 bnd (gD v4 false (aO v16 v23 (.b false) h23) h23) fun v24 h24 =>
 bnd (aO v4 (.b true) v24 h24) fun v25 h25 =>
 aU v25 (
 bnd (aA (env 6) h25) fun v26 h26 =>
 bnd (aI 1 v26 (env 20) h26) fun v27 h27 =>
 bnd (aE 1 v27 (aH 0) h27) fun _ h28 =>
 bnd (aA (env 7) h28) fun v29 h29 =>
 bnd (aN [(aH 0)] 1 [(0, 1, (env 20))] h29) fun v30 h30 =>
 bnd (aW 1 8 v29 v30 h30) fun v31 h31 =>
 bnd (aE 1 (env 7) v31 h31) fun _ h32 =>
      kY r n kk18 (env 2) (env 3) (env 6) (env 7) (env 19) (env 20) h32) (
      kY r n kk18 (env 2) (env 3) (env 6) (env 7) (env 19) (env 20) h25)) = (K6 (sG r n kk18) 2 3 6 7 19 20) := by kernel_rfl
theorem bKd (kk18 : eR) : D149 r n tA (xs x0 0 (K4 (cF r n) 2 3 6 7)) (K6 kk18 2 3 6 7 19 20) = (K6 (sG r n kk18) 2 3 6 7 19 20) :=
 (aLh r n kk18).trans
 ((aMu r n kk18 (kY r n kk18) (cF r n)).trans (aHc r n kk18))
theorem aPs (kk18 : eR) : D149 r n sE (xs x0 0 (K4 (cF r n) 2 3 6 7)) (K6 kk18 2 3 6 7 19 20) = D149 r n aRp (xs x0 0 (K4 (cF r n) 2 3 6 7)) (K6 (sG r n kk18) 2 3 6 7 19 20) :=
 congrArg (fun k => D149 r n aRp (xs x0 0 (K4 (cF r n) 2 3 6 7)) k) (bKd r n kk18)
theorem bIe (kk18 : eR) : D149 r n sE (xs x0 0 (K4 (cF r n) 2 3 6 7)) (K6 kk18 2 3 6 7 19 20) = (K7 (aAh r n kk18) 2 3 6 7 19 20 21) :=
 (aPs r n kk18).trans
 ((by kernel_rfl))
theorem aOw (kk18 : eR) : D149 r n gZ (xs x0 0 (K4 (cF r n) 2 3 6 7)) (K6 kk18 2 3 6 7 19 20) = D149 r n aWn (xs x0 0 (K4 (cF r n) 2 3 6 7)) (K7 (aAh r n kk18) 2 3 6 7 19 20 21) :=
 congrArg (fun k => D149 r n aWn (xs x0 0 (K4 (cF r n) 2 3 6 7)) k) (bIe r n kk18)
theorem aXu (kk18 : eR) : D149 r n gZ (xs x0 0 (K4 (cF r n) 2 3 6 7)) (K6 kk18 2 3 6 7 19 20) = (K6 (aIs r n kk18) 2 3 6 7 19 20) :=
 (aOw r n kk18).trans
 ((by kernel_rfl))
theorem bAc (m : Nat) : aL (fun kk => D149 r n gZ (xs x0 0 (K4 (cF r n) 2 3 6 7)) kk) m = (K6 (oV r n m) 2 3 6 7 19 20) := by
 induction m with
 | zero => exact (by kernel_rfl : aL (fun kk => D149 r n gZ (xs x0 0 (K4 (cF r n) 2 3 6 7)) kk) 0 = (K6 (oV r n 0) 2 3 6 7 19 20))
 | succ m ih =>
  refine (by kernel_rfl : aL (fun kk => D149 r n gZ (xs x0 0 (K4 (cF r n) 2 3 6 7)) kk) (m + 1) = D149 r n gZ (xs x0 0 (K4 (cF r n) 2 3 6 7)) (aL (fun kk => D149 r n gZ (xs x0 0 (K4 (cF r n) 2 3 6 7)) kk) m)).trans ?_
  rw [ih]
  exact (aXu r n (oV r n m)).trans (by kernel_rfl)
theorem bIc : D149 r n rN (xs x0 0 (K4 (cF r n) 2 3 6 7)) (K4 (cF r n) 2 3 6 7) = (K6 (aRr r n) 2 3 6 7 19 20) :=
 (by kernel_rfl : D149 r n rN (xs x0 0 (K4 (cF r n) 2 3 6 7)) (K4 (cF r n) 2 3 6 7) = aL (fun kk => D149 r n gZ (xs x0 0 (K4 (cF r n) 2 3 6 7)) kk) n).trans ((bAc r n n).trans (by kernel_rfl))
theorem bPj : D149 r n aCa x0 (K4 (cF r n) 2 3 6 7) = (K6 (aDq r n) 2 3 6 7 19 20) :=
 (by kernel_rfl : D149 r n aCa x0 (K4 (cF r n) 2 3 6 7) = D149 r n rN (xs x0 0 (K4 (cF r n) 2 3 6 7)) (K4 (cF r n) 2 3 6 7)).trans
 ((bIc r n).trans (by kernel_rfl))
theorem aYz : D149 r n aCn x0 r149 = D149 r n oL x0 (K4 (cF r n) 2 3 6 7) :=
 congrArg (fun k => D149 r n oL x0 k) (cHa r n)
theorem aYh : D149 r n oL x0 (K4 (cF r n) 2 3 6 7) = D149 r n aTq x0 (K6 (aDq r n) 2 3 6 7 19 20) :=
 congrArg (fun k => D149 r n aTq x0 k) (bPj r n)
theorem cFw : D149 r n aCn x0 r149 = (K4 (xA r n) 2 3 6 7) :=
 (aYz r n).trans
 ((aYh r n).trans
 ((by kernel_rfl)))
theorem aZh : D149 r n aAe x0 r149 = D149 r n aFz x0 (K4 (xA r n) 2 3 6 7) :=
 congrArg (fun k => D149 r n aFz x0 k) (cFw r n)
theorem aXv (q0 : dD) : D149 r n aFz x0 (K4 q0 2 3 6 7) = fun (env : aS) (h : Hp) =>
 bnd (bJ [.l0] h) fun v1 h1 =>
  q0 (env 2) (env 3) (env 6) v1 h1 := by kernel_rfl
theorem aPh : (fun (env : aS) (h : Hp) =>
 bnd (bJ [.l0] h) fun v1 h1 =>
  xA r n (env 2) (env 3) (env 6) v1 h1) = (K3 (pD r n) 2 3 6) := by kernel_rfl
theorem cAh : D149 r n aAe x0 r149 = (K3 (pD r n) 2 3 6) :=
 (aZh r n).trans
 ((aXv r n (xA r n)).trans (aPh r n))
theorem bAr : D149 r n aGv x0 r149 = D149 r n aAc x0 (K3 (pD r n) 2 3 6) :=
 congrArg (fun k => D149 r n aAc x0 k) (cAh r n)
theorem aYb (q0 : mE) : D149 r n aAc x0 (K3 q0 2 3 6) = fun (env : aS) (h : Hp) =>
 bnd (aA (env 2) h) fun v1 h1 =>
 bnd (bQ v1 h1) fun v2 h2 =>
 bnd (cB 1 8 [(aH 0)] v2 v2 h2) fun v3 h3 =>
 bnd (bJ [.l0] h3) fun v4 h4 =>
 bnd (aE 1 v4 v3 h4) fun _ h5 =>
  q0 (env 2) (env 3) v4 h5 := by kernel_rfl
theorem aLu : (fun (env : aS) (h : Hp) =>
 bnd (aA (env 2) h) fun v1 h1 =>
 bnd (bQ v1 h1) fun v2 h2 =>
 bnd (cB 1 8 [(aH 0)] v2 v2 h2) fun v3 h3 =>
 bnd (bJ [.l0] h3) fun v4 h4 =>
 bnd (aE 1 v4 v3 h4) fun _ h5 =>
  pD r n (env 2) (env 3) v4 h5) = (K2 (pP r n) 2 3) := by kernel_rfl
theorem cGb : D149 r n aKk x0 r149 = (K2 (pP r n) 2 3) :=
 (by kernel_rfl : D149 r n aKk x0 r149 = D149 r n aGv x0 r149).trans
 ((bAr r n).trans
 ((aYb r n (pD r n)).trans (aLu r n)))
theorem bXf : D149 r n c149 x0 r149 = D149 r n zK x0 (K2 (pP r n) 2 3) :=
 congrArg (fun k => D149 r n zK x0 k) (cGb r n)
theorem bXq (q0 : gP) : D149 r n zK x0 (K2 q0 2 3) = fun (env : aS) (h : Hp) =>
 bnd (bS (env 0) h) fun v1 h1 =>
 bnd (bS (env 1) h1) fun v2 h2 =>
  q0 v1 v2 h2 := by kernel_rfl
theorem bKk : (fun (env : aS) (h : Hp) =>
 bnd (bS (env 0) h) fun v1 h1 =>
 bnd (bS (env 1) h1) fun v2 h2 =>
  pP r n v1 v2 h2) = (K2 (s149 r n) 0 1) := by kernel_rfl
theorem cXz : D149 r n c149 x0 r149 = (K2 (s149 r n) 0 1) :=
 (bXf r n).trans
 ((bXq r n (pP r n)).trans (bKk r n))
theorem cNz : aF CF r n 149 args h = s149 r n (aT args 0) (aT args 1) h :=
 (by kernel_rfl : aF CF r n 149 args h = D149 r n c149 x0 r149 (aJ args) h).trans ((congrFun (congrFun (cXz r n) (aJ args)) h).trans (by kernel_rfl))
end Go.Dd

namespace Go.Dd
open Go.Proofs
variable (r : RT) (n : Nat) (args : List DV) (h : Hp)
noncomputable def eF (r : RT) (n : Nat) (x0 x6 : DV) (h0 : Hp) : aG :=
 bnd (eT x0 h0) fun v1 h1 =>
 bnd (aX [(aH 0), (.s []), (aH 0), (aH 0)] [(3, 1, v1)] h1) fun v2 h2 =>
 bnd (aN [(aH 0), (.s []), (aH 0), (aH 0)] 1 [(0, 4, v2)] h2) fun v3 h3 =>
 bnd (aW 4 40 x6 v3 h3) fun v4 h4 =>
 some (.t [v4, (aH 0), (aH 0)], h4)
noncomputable def aFd (r : RT) (n : Nat) (kk7 : mE) (x0 x5 x6 : DV) (h0 : Hp) : aG :=
 bnd (r 176 [(.s [9, 10, 13, 32])] h0) fun v1 h1 =>
 bnd (eT x0 h1) fun v2 h2 =>
 bnd (r 175 [x5, v1, v2] h2) fun v3 h3 =>
 bnd (aP x5 h3) fun v4 h4 =>
 bnd (aB 1 v4 h4) fun v5 h5 =>
 bnd (aA v5 h5) fun v6 h6 =>
 bnd (eT x0 h6) fun v7 h7 =>
 bnd (aD .geq v6 v7 h7) fun v8 h8 =>
 aU v8 (
   eF r n x0 x6 h8) (
 bnd (aP x5 h8) fun v9 h9 =>
 bnd (aB 1 v9 h9) fun v10 h10 =>
 bnd (aA v10 h10) fun v11 h11 =>
 bnd (fB x0 v11 h11) fun v12 h12 =>
 bnd (aD .eql v12 (.i .u8 (Int.ofNat 34)) h12) fun v13 h13 =>
 aU v13 (
 bnd (aP x5 h13) fun v14 h14 =>
 bnd (aB 1 v14 h14) fun v15 h15 =>
 bnd (aA v15 h15) fun v16 h16 =>
 bnd (aD .add v16 (aH 1) h16) fun v17 h17 =>
 bnd (iK x0 (some v17) none h17) fun v18 h18 =>
 bnd (r 177 [v18, (.i .u8 (Int.ofNat 34))] h18) fun v19 h19 =>
 bnd (aD .lss v19 (aH 0) h19) fun v20 h20 =>
 aU v20 (
 bnd (aP x5 h20) fun v21 h21 =>
 bnd (aB 1 v21 h21) fun v22 h22 =>
 bnd (aA v22 h22) fun v23 h23 =>
 some (.t [.l0, v23, (aH 11)], h23)) (
 bnd (aP x5 h20) fun v24 h24 =>
 bnd (aB 1 v24 h24) fun v25 h25 =>
 bnd (aA v25 h25) fun v26 h26 =>
 bnd (aD .add v19 (aH 2) h26) fun v27 h27 =>
 bnd (aD .add v26 v27 h27) fun v28 h28 =>
 bnd (aP x5 h28) fun v29 h29 =>
 bnd (aB 1 v29 h29) fun v30 h30 =>
 bnd (aE 1 v30 v28 h30) fun _ h31 =>
     kk7 x0 x5 x6 h31)) (
 bnd (r 178 [x5] h13) fun v32 h32 =>
 bnd (aC 0 v32 h32) fun v33 h33 =>
 bnd (aC 1 v32 h33) fun v34 h34 =>
 bnd (bJ [(aH 0), (.s []), (aH 0), (aH 0)] h34) fun v35 h35 =>
 bnd (aE 4 v35 v33 h35) fun _ h36 =>
 bnd (aD .neq v34 (aH 0) h36) fun v37 h37 =>
 aU v37 (
 bnd (aB 3 v35 h37) fun v38 h38 =>
 bnd (aA v38 h38) fun v39 h39 =>
 some (.t [.l0, v39, v34], h39)) (
 bnd (aK 4 v35 h37) fun v40 h40 =>
 bnd (aN [(aH 0), (.s []), (aH 0), (aH 0)] 1 [(0, 4, v40)] h40) fun v41 h41 =>
 bnd (aW 4 40 x6 v41 h41) fun v42 h42 =>
     kk7 x0 x5 v42 h42)))
noncomputable def tL (r : RT) (n : Nat) (m : Nat) : mE :=
 Nat.rec (motive := fun _ => mE) (fun _ _ _ _ => none) (fun _ ih => aFd r n ih) m
noncomputable def bCw (r : RT) (n : Nat) : mE := tL r n n
noncomputable def aNl (r : RT) (n : Nat) (x0 x5 x6 : DV) (h0 : Hp) : aG :=
 bCw r n x0 x5 x6 h0
noncomputable def aLp (r : RT) (n : Nat) (x0 x5 x6 : DV) (h0 : Hp) : aG :=
 aNl r n x0 x5 x6 h0
noncomputable def vC (r : RT) (n : Nat) (x0 x5 : DV) (h0 : Hp) : aG :=
 aLp r n x0 x5 .l0 h0
noncomputable def aCl (r : RT) (n : Nat) (x0 : DV) (h0 : Hp) : aG :=
 bnd (aX [(.s []), (aH 0)] [(0, 1, x0)] h0) fun v1 h1 =>
 bnd (bS v1 h1) fun v2 h2 =>
  vC r n x0 v2 h2
noncomputable def aQe (r : RT) (n : Nat) (x0 : DV) (h0 : Hp) : aG :=
 bnd (eT x0 h0) fun v1 h1 =>
 bnd (aD .gtr v1 (aH 2000) h1) fun v2 h2 =>
 aU v2 (
 some (.t [.l0, (aH 0), (aH 12)], h2)) (
  aCl r n x0 h2)
noncomputable def s153 (r : RT) (n : Nat) (x0 : DV) (h0 : Hp) : aG :=
 aQe r n x0 h0
noncomputable abbrev c153 : Code := cf Tryz.f153
noncomputable abbrev aKy : Code := cR c153
noncomputable abbrev aBa : Code := cL aKy
noncomputable abbrev aFn : Code := cR aBa
noncomputable abbrev aAy : Code := cR aFn
noncomputable abbrev aFo : Code := cR aAy
noncomputable abbrev aDy : Code := cR aFo
noncomputable abbrev cUo : Code := cR aDy
noncomputable abbrev yY : Code := cL aDy
noncomputable abbrev aEq : Code := cL yY
noncomputable abbrev jD : Code := cL aEq
noncomputable abbrev aSz : Code := cL aFo
noncomputable abbrev aRc : Code := cL aAy
noncomputable abbrev aFq : Code := cL aFn
noncomputable abbrev aQj : Code := cL aBa
noncomputable abbrev aWt : Code := cL c153
noncomputable abbrev r153 : K := aQ CF Tryz.f153
noncomputable def D153 (r : RT) (n : Nat) (c : Code) (X : Nat → K) (k : K) : K := aM CF r 80 n c X r153 k
theorem bUw : D153 r n cUo x0 r153 = (K2 (eF r n) 0 6) :=
 (by kernel_rfl)
theorem bEg (kk7 : mE) (q0 : gP) : D153 r n jD (xs x0 0 (K2 q0 0 6)) (K3 kk7 0 5 6) = fun (env : aS) (h : Hp) =>
 bnd (r 176 [(.s [9, 10, 13, 32])] h) fun v1 h1 =>
 bnd (eT (env 0) h1) fun v2 h2 =>
 bnd (r 175 [(env 5), v1, v2] h2) fun v3 h3 =>
 bnd (aP (env 5) h3) fun v4 h4 =>
 bnd (aB 1 v4 h4) fun v5 h5 =>
 bnd (aA v5 h5) fun v6 h6 =>
 bnd (eT (env 0) h6) fun v7 h7 =>
 bnd (aD .geq v6 v7 h7) fun v8 h8 =>
 aU v8 (
   q0 (env 0) (env 6) h8) (
 bnd (aP (env 5) h8) fun v9 h9 =>
 bnd (aB 1 v9 h9) fun v10 h10 =>
 bnd (aA v10 h10) fun v11 h11 =>
 bnd (fB (env 0) v11 h11) fun v12 h12 =>
 bnd (aD .eql v12 (.i .u8 (Int.ofNat 34)) h12) fun v13 h13 =>
 aU v13 (
 bnd (aP (env 5) h13) fun v14 h14 =>
 bnd (aB 1 v14 h14) fun v15 h15 =>
 bnd (aA v15 h15) fun v16 h16 =>
 bnd (aD .add v16 (aH 1) h16) fun v17 h17 =>
 bnd (iK (env 0) (some v17) none h17) fun v18 h18 =>
 bnd (r 177 [v18, (.i .u8 (Int.ofNat 34))] h18) fun v19 h19 =>
 bnd (aD .lss v19 (aH 0) h19) fun v20 h20 =>
 aU v20 (
 bnd (aP (env 5) h20) fun v21 h21 =>
 bnd (aB 1 v21 h21) fun v22 h22 =>
 bnd (aA v22 h22) fun v23 h23 =>
 some (.t [.l0, v23, (aH 11)], h23)) (
 bnd (aP (env 5) h20) fun v24 h24 =>
 bnd (aB 1 v24 h24) fun v25 h25 =>
 bnd (aA v25 h25) fun v26 h26 =>
 bnd (aD .add v19 (aH 2) h26) fun v27 h27 =>
 bnd (aD .add v26 v27 h27) fun v28 h28 =>
 bnd (aP (env 5) h28) fun v29 h29 =>
 bnd (aB 1 v29 h29) fun v30 h30 =>
 bnd (aE 1 v30 v28 h30) fun _ h31 =>
     kk7 (env 0) (env 5) (env 6) h31)) (
 bnd (r 178 [(env 5)] h13) fun v32 h32 =>
 bnd (aC 0 v32 h32) fun v33 h33 =>
 bnd (aC 1 v32 h33) fun v34 h34 =>
 bnd (bJ [(aH 0), (.s []), (aH 0), (aH 0)] h34) fun v35 h35 =>
 bnd (aE 4 v35 v33 h35) fun _ h36 =>
 bnd (aD .neq v34 (aH 0) h36) fun v37 h37 =>
 aU v37 (
 bnd (aB 3 v35 h37) fun v38 h38 =>
 bnd (aA v38 h38) fun v39 h39 =>
 some (.t [.l0, v39, v34], h39)) (
 bnd (aK 4 v35 h37) fun v40 h40 =>
 bnd (aN [(aH 0), (.s []), (aH 0), (aH 0)] 1 [(0, 4, v40)] h40) fun v41 h41 =>
 bnd (aW 4 40 (env 6) v41 h41) fun v42 h42 =>
     kk7 (env 0) (env 5) v42 h42))) := by kernel_rfl
theorem aZe (kk7 : mE) : (fun (env : aS) (h : Hp) =>
 bnd (r 176 [(.s [9, 10, 13, 32])] h) fun v1 h1 =>
 bnd (eT (env 0) h1) fun v2 h2 =>
 bnd (r 175 [(env 5), v1, v2] h2) fun v3 h3 =>
 bnd (aP (env 5) h3) fun v4 h4 =>
 bnd (aB 1 v4 h4) fun v5 h5 =>
 bnd (aA v5 h5) fun v6 h6 =>
 bnd (eT (env 0) h6) fun v7 h7 =>
 bnd (aD .geq v6 v7 h7) fun v8 h8 =>
 aU v8 (
   eF r n (env 0) (env 6) h8) (
 bnd (aP (env 5) h8) fun v9 h9 =>
 bnd (aB 1 v9 h9) fun v10 h10 =>
 bnd (aA v10 h10) fun v11 h11 =>
 bnd (fB (env 0) v11 h11) fun v12 h12 =>
 bnd (aD .eql v12 (.i .u8 (Int.ofNat 34)) h12) fun v13 h13 =>
 aU v13 (
 bnd (aP (env 5) h13) fun v14 h14 =>
 bnd (aB 1 v14 h14) fun v15 h15 =>
 bnd (aA v15 h15) fun v16 h16 =>
 bnd (aD .add v16 (aH 1) h16) fun v17 h17 =>
 bnd (iK (env 0) (some v17) none h17) fun v18 h18 =>
 bnd (r 177 [v18, (.i .u8 (Int.ofNat 34))] h18) fun v19 h19 =>
 bnd (aD .lss v19 (aH 0) h19) fun v20 h20 =>
 aU v20 (
 bnd (aP (env 5) h20) fun v21 h21 =>
 bnd (aB 1 v21 h21) fun v22 h22 =>
 bnd (aA v22 h22) fun v23 h23 =>
 some (.t [.l0, v23, (aH 11)], h23)) (
 bnd (aP (env 5) h20) fun v24 h24 =>
 bnd (aB 1 v24 h24) fun v25 h25 =>
 bnd (aA v25 h25) fun v26 h26 =>
 bnd (aD .add v19 (aH 2) h26) fun v27 h27 =>
 bnd (aD .add v26 v27 h27) fun v28 h28 =>
 bnd (aP (env 5) h28) fun v29 h29 =>
 bnd (aB 1 v29 h29) fun v30 h30 =>
 bnd (aE 1 v30 v28 h30) fun _ h31 =>
     kk7 (env 0) (env 5) (env 6) h31)) (
 bnd (r 178 [(env 5)] h13) fun v32 h32 =>
 bnd (aC 0 v32 h32) fun v33 h33 =>
 bnd (aC 1 v32 h33) fun v34 h34 =>
 bnd (bJ [(aH 0), (.s []), (aH 0), (aH 0)] h34) fun v35 h35 =>
 bnd (aE 4 v35 v33 h35) fun _ h36 =>
 bnd (aD .neq v34 (aH 0) h36) fun v37 h37 =>
 aU v37 (
 bnd (aB 3 v35 h37) fun v38 h38 =>
 bnd (aA v38 h38) fun v39 h39 =>
 some (.t [.l0, v39, v34], h39)) (
 bnd (aK 4 v35 h37) fun v40 h40 =>
 bnd (aN [(aH 0), (.s []), (aH 0), (aH 0)] 1 [(0, 4, v40)] h40) fun v41 h41 =>
 bnd (aW 4 40 (env 6) v41 h41) fun v42 h42 =>
     kk7 (env 0) (env 5) v42 h42)))) = (K3 (aFd r n kk7) 0 5 6) := by kernel_rfl
theorem bLl (kk7 : mE) : D153 r n jD (xs x0 0 (K2 (eF r n) 0 6)) (K3 kk7 0 5 6) = (K3 (aFd r n kk7) 0 5 6) :=
 (bEg r n kk7 (eF r n)).trans (aZe r n kk7)
theorem bCj (m : Nat) : aL (fun kk => D153 r n jD (xs x0 0 (K2 (eF r n) 0 6)) kk) m = (K3 (tL r n m) 0 5 6) := by
 induction m with
 | zero => exact (by kernel_rfl : aL (fun kk => D153 r n jD (xs x0 0 (K2 (eF r n) 0 6)) kk) 0 = (K3 (tL r n 0) 0 5 6))
 | succ m ih =>
  refine (by kernel_rfl : aL (fun kk => D153 r n jD (xs x0 0 (K2 (eF r n) 0 6)) kk) (m + 1) = D153 r n jD (xs x0 0 (K2 (eF r n) 0 6)) (aL (fun kk => D153 r n jD (xs x0 0 (K2 (eF r n) 0 6)) kk) m)).trans ?_
  rw [ih]
  exact (bLl r n (tL r n m)).trans (by kernel_rfl)
theorem cEj : D153 r n aEq (xs x0 0 (K2 (eF r n) 0 6)) (K2 (eF r n) 0 6) = (K3 (bCw r n) 0 5 6) :=
 (by kernel_rfl : D153 r n aEq (xs x0 0 (K2 (eF r n) 0 6)) (K2 (eF r n) 0 6) = aL (fun kk => D153 r n jD (xs x0 0 (K2 (eF r n) 0 6)) kk) n).trans ((bCj r n n).trans (by kernel_rfl))
theorem bEb : D153 r n aDy x0 r153 = D153 r n yY x0 (K2 (eF r n) 0 6) :=
 congrArg (fun k => D153 r n yY x0 k) (bUw r n)
theorem cBq : D153 r n aDy x0 r153 = (K3 (aNl r n) 0 5 6) :=
 (bEb r n).trans
 ((by kernel_rfl : D153 r n yY x0 (K2 (eF r n) 0 6) = D153 r n aEq (xs x0 0 (K2 (eF r n) 0 6)) (K2 (eF r n) 0 6)).trans
 ((cEj r n).trans (by kernel_rfl)))
theorem bJz : D153 r n aFo x0 r153 = D153 r n aSz x0 (K3 (aNl r n) 0 5 6) :=
 congrArg (fun k => D153 r n aSz x0 k) (cBq r n)
theorem cBs : D153 r n aFo x0 r153 = (K3 (aLp r n) 0 5 6) :=
 (bJz r n).trans
 ((by kernel_rfl))
theorem bQp : D153 r n aAy x0 r153 = D153 r n aRc x0 (K3 (aLp r n) 0 5 6) :=
 congrArg (fun k => D153 r n aRc x0 k) (cBs r n)
theorem bVp : D153 r n aAy x0 r153 = (K2 (vC r n) 0 5) :=
 (bQp r n).trans
 ((by kernel_rfl))
theorem bMs : D153 r n aFn x0 r153 = D153 r n aFq x0 (K2 (vC r n) 0 5) :=
 congrArg (fun k => D153 r n aFq x0 k) (bVp r n)
theorem bHj (q0 : gP) : D153 r n aFq x0 (K2 q0 0 5) = fun (env : aS) (h : Hp) =>
 bnd (aX [(.s []), (aH 0)] [(0, 1, (env 0))] h) fun v1 h1 =>
 bnd (bS v1 h1) fun v2 h2 =>
  q0 (env 0) v2 h2 := by kernel_rfl
theorem aZx : (fun (env : aS) (h : Hp) =>
 bnd (aX [(.s []), (aH 0)] [(0, 1, (env 0))] h) fun v1 h1 =>
 bnd (bS v1 h1) fun v2 h2 =>
  vC r n (env 0) v2 h2) = (K1 (aCl r n) 0) := by kernel_rfl
theorem cEk : D153 r n aFn x0 r153 = (K1 (aCl r n) 0) :=
 (bMs r n).trans
 ((bHj r n (vC r n)).trans (aZx r n))
theorem bJo : D153 r n aBa x0 r153 = D153 r n aQj x0 (K1 (aCl r n) 0) :=
 congrArg (fun k => D153 r n aQj x0 k) (cEk r n)
theorem cAm : D153 r n aKy x0 r153 = (K1 (aQe r n) 0) :=
 (by kernel_rfl : D153 r n aKy x0 r153 = D153 r n aBa x0 r153).trans
 ((bJo r n).trans
 ((by kernel_rfl)))
theorem cQc : D153 r n c153 x0 r153 = D153 r n aWt x0 (K1 (aQe r n) 0) :=
 congrArg (fun k => D153 r n aWt x0 k) (cAm r n)
theorem cZj : D153 r n c153 x0 r153 = (K1 (s153 r n) 0) :=
 (cQc r n).trans
 ((by kernel_rfl))
theorem cKq : aF CF r n 153 args h = s153 r n (aT args 0) h :=
 (by kernel_rfl : aF CF r n 153 args h = D153 r n c153 x0 r153 (aJ args) h).trans ((congrFun (congrFun (cZj r n) (aJ args)) h).trans (by kernel_rfl))
noncomputable def bL (r : RT) (n : Nat) (x3 : DV) (h0 : Hp) : aG :=
 some (x3, h0)
noncomputable def fF (r : RT) (n : Nat) (kk4 : gP) (x0 x3 : DV) (h0 : Hp) : aG :=
 bnd (r 181 [x0] h0) fun v1 h1 =>
 bnd (aN gX 1 [(0, 6, v1)] h1) fun v2 h2 =>
 bnd (aW 6 104 x3 v2 h2) fun v3 h3 =>
 bnd (r 179 [x0, (aH 10), (.s [46])] h3) fun v4 h4 =>
 bnd (fL .not v4 h4) fun v5 h5 =>
 aU v5 (
 some (v3, h5)) (
 bnd (r 180 [x0] h5) fun v6 h6 =>
  kk4 x0 v3 h6)
noncomputable def rM (r : RT) (n : Nat) (kk4 : gP) (x3 : DV) (h0 : Hp) : aG :=
 some (x3, h0)
noncomputable def oU (r : RT) (n : Nat) (kk4 : gP) (x0 x3 : DV) (h0 : Hp) : aG :=
 bnd (r 179 [x0, (aH 10), (.s [46])] h0) fun v1 h1 =>
 aU v1 (
 bnd (r 180 [x0] h1) fun v2 h2 =>
  rM r n kk4 x3 h2) (
  rM r n kk4 x3 h1)
noncomputable def aFl (r : RT) (n : Nat) (kk4 : gP) (x0 x3 : DV) (h0 : Hp) : aG :=
 bnd (r 181 [x0] h0) fun v1 h1 =>
 bnd (aN gX 1 [(0, 6, v1)] h1) fun v2 h2 =>
 bnd (aX gX [(0, 1, (aH 10)), (5, 1, v2)] h2) fun v3 h3 =>
 bnd (aN gX 1 [(0, 6, v3)] h3) fun v4 h4 =>
 bnd (aW 6 104 x3 v4 h4) fun v5 h5 =>
  oU r n kk4 x0 v5 h5
noncomputable def bGg (r : RT) (n : Nat) (kk4 : gP) (x0 x3 : DV) (h0 : Hp) : aG :=
 bnd (r 180 [x0] h0) fun v1 h1 =>
  aFl r n kk4 x0 x3 h1
noncomputable def aPp (r : RT) (n : Nat) (kk4 : gP) (x0 x3 x20 : DV) (h0 : Hp) : aG :=
 aU x20 (
  bGg r n kk4 x0 x3 h0) (
  fF r n kk4 x0 x3 h0)
noncomputable def aOc (r : RT) (n : Nat) (kk4 : gP) (x0 x3 : DV) (h0 : Hp) : aG :=
 bnd (r 179 [x0, (aH 10), (.s [94])] h0) fun v1 h1 =>
  aPp r n kk4 x0 x3 v1 h1
noncomputable def aUg (r : RT) (n : Nat) (kk4 : gP) (x0 x3 : DV) (h0 : Hp) : aG :=
 bnd (aP x0 h0) fun v1 h1 =>
 bnd (aB 3 v1 h1) fun v2 h2 =>
 bnd (aA v2 h2) fun v3 h3 =>
 bnd (aD .eql v3 (aH 0) h3) fun v4 h4 =>
 bnd (gD v4 true (some (x0, h4)) h4) fun v5 h5 =>
 bnd (gD v4 true (r 179 [v5, (aH 0), (.s [])] h5) h5) fun v6 h6 =>
 bnd (gD v4 true (fL .not v6 h6) h6) fun v7 h7 =>
 bnd (aO v4 v7 (.b false) h7) fun v8 h8 =>
 bnd (gD v8 true (some (x0, h8)) h8) fun v9 h9 =>
 bnd (gD v8 true (r 179 [v9, (aH 10), (.s [93])] h9) h9) fun v10 h10 =>
 bnd (gD v8 true (fL .not v10 h10) h10) fun v11 h11 =>
 bnd (aO v8 v11 (.b false) h11) fun v12 h12 =>
 aU v12 (
   aOc r n kk4 x0 x3 h12) (
   bL r n x3 h12)
noncomputable def rH (r : RT) (n : Nat) (m : Nat) : gP :=
 Nat.rec (motive := fun _ => gP) (fun _ _ _ => none) (fun _ ih => aUg r n ih) m
noncomputable def bRm (r : RT) (n : Nat) : gP := rH r n n
noncomputable def aKu (r : RT) (n : Nat) (x0 x3 : DV) (h0 : Hp) : aG :=
 bRm r n x0 x3 h0
noncomputable def aOm (r : RT) (n : Nat) (x0 : DV) (h0 : Hp) : aG :=
 aKu r n x0 .l0 h0
noncomputable def s155 (r : RT) (n : Nat) (x0 : DV) (h0 : Hp) : aG :=
 aOm r n x0 h0
noncomputable abbrev c155 : Code := cf Tryz.f155
noncomputable abbrev aCt : Code := cR c155
noncomputable abbrev aDw : Code := cR aCt
noncomputable abbrev cPs : Code := cR aDw
noncomputable abbrev aFh : Code := cL aDw
noncomputable abbrev aAx : Code := cL aFh
noncomputable abbrev jK : Code := cL aAx
noncomputable abbrev aMe : Code := cR jK
noncomputable abbrev aCv : Code := cL aMe
noncomputable abbrev bBo : Code := cR aCv
noncomputable abbrev pA : Code := cL aCv
noncomputable abbrev pB : Code := cR pA
noncomputable abbrev oS : Code := cL pB
noncomputable abbrev sC : Code := cR oS
noncomputable abbrev tT : Code := cR sC
noncomputable abbrev bUs : Code := cR tT
noncomputable abbrev aUj : Code := cL tT
noncomputable abbrev aCj : Code := cL sC
noncomputable abbrev aWv : Code := cL oS
noncomputable abbrev bVg : Code := cR pB
noncomputable abbrev aUa : Code := cL pA
noncomputable abbrev aSw : Code := cL jK
noncomputable abbrev aSx : Code := cL aCt
noncomputable abbrev aWj : Code := cL c155
noncomputable abbrev r155 : K := aQ CF Tryz.f155
noncomputable def D155 (r : RT) (n : Nat) (c : Code) (X : Nat → K) (k : K) : K := aM CF r 47 n c X r155 k
theorem cEl : D155 r n cPs x0 r155 = (K1 (bL r n) 3) :=
 (by kernel_rfl)
theorem bBn (kk4 : gP) (q0 : TT1) : D155 r n bBo (xs (xs x0 0 (K1 q0 3)) 1 (K2 kk4 0 3)) (K2 kk4 0 3) = fun (env : aS) (h : Hp) =>
 bnd (r 181 [(env 0)] h) fun v1 h1 =>
 bnd (aN gX 1 [(0, 6, v1)] h1) fun v2 h2 =>
 bnd (aW 6 104 (env 3) v2 h2) fun v3 h3 =>
 bnd (r 179 [(env 0), (aH 10), (.s [46])] h3) fun v4 h4 =>
 bnd (fL .not v4 h4) fun v5 h5 =>
 aU v5 (
 some (v3, h5)) (
 bnd (r 180 [(env 0)] h5) fun v6 h6 =>
      kk4 (env 0) v3 h6) := by kernel_rfl
theorem bAy (kk4 : gP) : (fun (env : aS) (h : Hp) =>
 bnd (r 181 [(env 0)] h) fun v1 h1 =>
 bnd (aN gX 1 [(0, 6, v1)] h1) fun v2 h2 =>
 bnd (aW 6 104 (env 3) v2 h2) fun v3 h3 =>
 bnd (r 179 [(env 0), (aH 10), (.s [46])] h3) fun v4 h4 =>
 bnd (fL .not v4 h4) fun v5 h5 =>
 aU v5 (
 some (v3, h5)) (
 bnd (r 180 [(env 0)] h5) fun v6 h6 =>
      kk4 (env 0) v3 h6)) = (K2 (fF r n kk4) 0 3) := by kernel_rfl
theorem cCq (kk4 : gP) : D155 r n bBo (xs (xs x0 0 (K1 (bL r n) 3)) 1 (K2 kk4 0 3)) (K2 kk4 0 3) = (K2 (fF r n kk4) 0 3) :=
 (bBn r n kk4 (bL r n)).trans (bAy r n kk4)
theorem bEd (kk4 : gP) : D155 r n bUs (xs (xs x0 0 (K1 (bL r n) 3)) 1 (K2 kk4 0 3)) (K2 (fF r n kk4) 0 3) = (K1 (rM r n kk4) 3) :=
 (by kernel_rfl)
theorem aYv (kk4 : gP) : D155 r n tT (xs (xs x0 0 (K1 (bL r n) 3)) 1 (K2 kk4 0 3)) (K2 (fF r n kk4) 0 3) = D155 r n aUj (xs (xs x0 0 (K1 (bL r n) 3)) 1 (K2 kk4 0 3)) (K1 (rM r n kk4) 3) :=
 congrArg (fun k => D155 r n aUj (xs (xs x0 0 (K1 (bL r n) 3)) 1 (K2 kk4 0 3)) k) (bEd r n kk4)
theorem bEa (kk4 : gP) : D155 r n tT (xs (xs x0 0 (K1 (bL r n) 3)) 1 (K2 kk4 0 3)) (K2 (fF r n kk4) 0 3) = (K2 (oU r n kk4) 0 3) :=
 (aYv r n kk4).trans
 ((by kernel_rfl))
theorem bKo (kk4 : gP) : D155 r n sC (xs (xs x0 0 (K1 (bL r n) 3)) 1 (K2 kk4 0 3)) (K2 (fF r n kk4) 0 3) = D155 r n aCj (xs (xs x0 0 (K1 (bL r n) 3)) 1 (K2 kk4 0 3)) (K2 (oU r n kk4) 0 3) :=
 congrArg (fun k => D155 r n aCj (xs (xs x0 0 (K1 (bL r n) 3)) 1 (K2 kk4 0 3)) k) (bEa r n kk4)
theorem bNj (kk4 : gP) (q0 : gP) (q1 : TT1) : D155 r n aCj (xs (xs x0 0 (K1 q1 3)) 1 (K2 kk4 0 3)) (K2 q0 0 3) = fun (env : aS) (h : Hp) =>
 bnd (r 181 [(env 0)] h) fun v1 h1 =>
 bnd (aN gX 1 [(0, 6, v1)] h1) fun v2 h2 =>
 bnd (aX gX [(0, 1, (aH 10)), (5, 1, v2)] h2) fun v3 h3 =>
 bnd (aN gX 1 [(0, 6, v3)] h3) fun v4 h4 =>
 bnd (aW 6 104 (env 3) v4 h4) fun v5 h5 =>
  q0 (env 0) v5 h5 := by kernel_rfl
theorem bBb (kk4 : gP) : (fun (env : aS) (h : Hp) =>
 bnd (r 181 [(env 0)] h) fun v1 h1 =>
 bnd (aN gX 1 [(0, 6, v1)] h1) fun v2 h2 =>
 bnd (aX gX [(0, 1, (aH 10)), (5, 1, v2)] h2) fun v3 h3 =>
 bnd (aN gX 1 [(0, 6, v3)] h3) fun v4 h4 =>
 bnd (aW 6 104 (env 3) v4 h4) fun v5 h5 =>
  oU r n kk4 (env 0) v5 h5) = (K2 (aFl r n kk4) 0 3) := by kernel_rfl
theorem bTs (kk4 : gP) : D155 r n sC (xs (xs x0 0 (K1 (bL r n) 3)) 1 (K2 kk4 0 3)) (K2 (fF r n kk4) 0 3) = (K2 (aFl r n kk4) 0 3) :=
 (bKo r n kk4).trans
 ((bNj r n kk4 (oU r n kk4) (bL r n)).trans (bBb r n kk4))
theorem bEk (kk4 : gP) : D155 r n oS (xs (xs x0 0 (K1 (bL r n) 3)) 1 (K2 kk4 0 3)) (K2 (fF r n kk4) 0 3) = D155 r n aWv (xs (xs x0 0 (K1 (bL r n) 3)) 1 (K2 kk4 0 3)) (K2 (aFl r n kk4) 0 3) :=
 congrArg (fun k => D155 r n aWv (xs (xs x0 0 (K1 (bL r n) 3)) 1 (K2 kk4 0 3)) k) (bTs r n kk4)
theorem bYr (kk4 : gP) : D155 r n oS (xs (xs x0 0 (K1 (bL r n) 3)) 1 (K2 kk4 0 3)) (K2 (fF r n kk4) 0 3) = (K2 (bGg r n kk4) 0 3) :=
 (bEk r n kk4).trans
 ((by kernel_rfl))
theorem cEq (kk4 : gP) : D155 r n pB (xs (xs x0 0 (K1 (bL r n) 3)) 1 (K2 kk4 0 3)) (K2 (fF r n kk4) 0 3) = (K3 (aPp r n kk4) 0 3 20) :=
 (by kernel_rfl : D155 r n pB (xs (xs x0 0 (K1 (bL r n) 3)) 1 (K2 kk4 0 3)) (K2 (fF r n kk4) 0 3) = (fun (env : aS) (h : Hp) => aU (opr env (cC pB)) (D155 r n oS (xs (xs x0 0 (K1 (bL r n) 3)) 1 (K2 kk4 0 3)) (K2 (fF r n kk4) 0 3) env h) (D155 r n bVg (xs (xs x0 0 (K1 (bL r n) 3)) 1 (K2 kk4 0 3)) (K2 (fF r n kk4) 0 3) env h))).trans (by rw [bYr r n kk4]; kernel_rfl)
theorem bIt (kk4 : gP) : D155 r n aCv (xs (xs x0 0 (K1 (bL r n) 3)) 1 (K2 kk4 0 3)) (K2 kk4 0 3) = D155 r n pA (xs (xs x0 0 (K1 (bL r n) 3)) 1 (K2 kk4 0 3)) (K2 (fF r n kk4) 0 3) :=
 congrArg (fun k => D155 r n pA (xs (xs x0 0 (K1 (bL r n) 3)) 1 (K2 kk4 0 3)) k) (cCq r n kk4)
theorem bSz (kk4 : gP) : D155 r n pA (xs (xs x0 0 (K1 (bL r n) 3)) 1 (K2 kk4 0 3)) (K2 (fF r n kk4) 0 3) = D155 r n aUa (xs (xs x0 0 (K1 (bL r n) 3)) 1 (K2 kk4 0 3)) (K3 (aPp r n kk4) 0 3 20) :=
 congrArg (fun k => D155 r n aUa (xs (xs x0 0 (K1 (bL r n) 3)) 1 (K2 kk4 0 3)) k) (cEq r n kk4)
theorem cHw (kk4 : gP) : D155 r n aMe (xs x0 0 (K1 (bL r n) 3)) (K2 kk4 0 3) = (K2 (aOc r n kk4) 0 3) :=
 (by kernel_rfl : D155 r n aMe (xs x0 0 (K1 (bL r n) 3)) (K2 kk4 0 3) = D155 r n aCv (xs (xs x0 0 (K1 (bL r n) 3)) 1 (K2 kk4 0 3)) (K2 kk4 0 3)).trans
 ((bIt r n kk4).trans
 ((bSz r n kk4).trans
 ((by kernel_rfl))))
theorem bTg (kk4 : gP) : D155 r n jK (xs x0 0 (K1 (bL r n) 3)) (K2 kk4 0 3) = D155 r n aSw (xs x0 0 (K1 (bL r n) 3)) (K2 (aOc r n kk4) 0 3) :=
 congrArg (fun k => D155 r n aSw (xs x0 0 (K1 (bL r n) 3)) k) (cHw r n kk4)
theorem bSa (kk4 : gP) : D155 r n jK (xs x0 0 (K1 (bL r n) 3)) (K2 kk4 0 3) = (K2 (aUg r n kk4) 0 3) :=
 (bTg r n kk4).trans
 ((by kernel_rfl))
theorem bMw (m : Nat) : aL (fun kk => D155 r n jK (xs x0 0 (K1 (bL r n) 3)) kk) m = (K2 (rH r n m) 0 3) := by
 induction m with
 | zero => exact (by kernel_rfl : aL (fun kk => D155 r n jK (xs x0 0 (K1 (bL r n) 3)) kk) 0 = (K2 (rH r n 0) 0 3))
 | succ m ih =>
  refine (by kernel_rfl : aL (fun kk => D155 r n jK (xs x0 0 (K1 (bL r n) 3)) kk) (m + 1) = D155 r n jK (xs x0 0 (K1 (bL r n) 3)) (aL (fun kk => D155 r n jK (xs x0 0 (K1 (bL r n) 3)) kk) m)).trans ?_
  rw [ih]
  exact (bSa r n (rH r n m)).trans (by kernel_rfl)
theorem cFd : D155 r n aAx (xs x0 0 (K1 (bL r n) 3)) (K1 (bL r n) 3) = (K2 (bRm r n) 0 3) :=
 (by kernel_rfl : D155 r n aAx (xs x0 0 (K1 (bL r n) 3)) (K1 (bL r n) 3) = aL (fun kk => D155 r n jK (xs x0 0 (K1 (bL r n) 3)) kk) n).trans ((bMw r n n).trans (by kernel_rfl))
theorem bJl : D155 r n aDw x0 r155 = D155 r n aFh x0 (K1 (bL r n) 3) :=
 congrArg (fun k => D155 r n aFh x0 k) (cEl r n)
theorem bYb : D155 r n aDw x0 r155 = (K2 (aKu r n) 0 3) :=
 (bJl r n).trans
 ((by kernel_rfl : D155 r n aFh x0 (K1 (bL r n) 3) = D155 r n aAx (xs x0 0 (K1 (bL r n) 3)) (K1 (bL r n) 3)).trans
 ((cFd r n).trans (by kernel_rfl)))
theorem aXi : D155 r n aCt x0 r155 = D155 r n aSx x0 (K2 (aKu r n) 0 3) :=
 congrArg (fun k => D155 r n aSx x0 k) (bYb r n)
theorem cHf : D155 r n aCt x0 r155 = (K1 (aOm r n) 0) :=
 (aXi r n).trans
 ((by kernel_rfl))
theorem bVk : D155 r n c155 x0 r155 = D155 r n aWj x0 (K1 (aOm r n) 0) :=
 congrArg (fun k => D155 r n aWj x0 k) (cHf r n)
theorem cXw : D155 r n c155 x0 r155 = (K1 (s155 r n) 0) :=
 (bVk r n).trans
 ((by kernel_rfl))
theorem cMo : aF CF r n 155 args h = s155 r n (aT args 0) h :=
 (by kernel_rfl : aF CF r n 155 args h = D155 r n c155 x0 r155 (aJ args) h).trans ((congrFun (congrFun (cXw r n) (aJ args)) h).trans (by kernel_rfl))
noncomputable def s156 (r : RT) (n : Nat) (x0 x1 x2 : DV) (h0 : Hp) : aG :=
 bnd (bJ [(aH 0), (.s []), (aH 0), (aH 0)] h0) fun v1 h1 =>
 bnd (r 179 [x0, x1, x2] h1) fun v2 h2 =>
 bnd (fL .not v2 h2) fun v3 h3 =>
 aU v3 (
 bnd (r 183 [x0, (aH 0)] h3) fun v4 h4 =>
 bnd (r 182 [x0, v4, (aH 13)] h4) fun v5 h5 =>
 bnd (aX [(aH 0), (.s []), (aH 0), (aH 0)] [] h5) fun v6 h6 =>
 bnd (aE 4 v1 v6 h6) fun _ h7 =>
 bnd (aK 4 v1 h7) fun v8 _ =>
 some (v8, h7)) (
 bnd (r 180 [x0] h3) fun v9 h9 =>
 bnd (aE 4 v1 v9 h9) fun _ h10 =>
 bnd (aK 4 v1 h10) fun v11 _ =>
 some (v11, h10))
noncomputable abbrev c156 : Code := cf Tryz.f156
noncomputable abbrev r156 : K := aQ CF Tryz.f156
noncomputable def D156 (r : RT) (n : Nat) (c : Code) (X : Nat → K) (k : K) : K := aM CF r 19 n c X r156 k
theorem dCi : D156 r n c156 x0 r156 = (K3 (s156 r n) 0 1 2) :=
 (by kernel_rfl)
theorem cTh : aF CF r n 156 args h = s156 r n (aT args 0) (aT args 1) (aT args 2) h :=
 (by kernel_rfl : aF CF r n 156 args h = D156 r n c156 x0 r156 (aJ args) h).trans ((congrFun (congrFun (dCi r n) (aJ args)) h).trans (by kernel_rfl))
noncomputable def aTy (r : RT) (n : Nat) (kk6 : mE) (x0 x1 x4 : DV) (h0 : Hp) : aG :=
 bnd (gD x4 false (some (x0, h0)) h0) fun v1 h1 =>
 bnd (gD x4 false (r 179 [v1, (aH 2), (.s [])] h1) h1) fun v2 h2 =>
 bnd (aO x4 (.b true) v2 h2) fun v3 h3 =>
 aU v3 (
 bnd (aP x1 h3) fun v4 h4 =>
 bnd (aB 1 v4 h4) fun v5 h5 =>
 bnd (aA v5 h5) fun v6 h6 =>
 bnd (r 156 [x0, (aH 2), (.s [])] h6) fun v7 h7 =>
 cnd (bD (aA v5 h7) v6 && true) (
 bnd (eX 1 v7 h7) fun v8 h8 =>
 bnd (fE .add v6 v8 h8) fun v9 h9 =>
 bnd (aP x1 h9) fun v10 h10 =>
 bnd (aB 1 v10 h10) fun v11 h11 =>
 bnd (aE 1 v11 v9 h11) fun v12 h12 =>
 bnd (aP x1 (resv 1 h12)) fun v13 h13 =>
 bnd (aB 3 v13 h13) fun v14 h14 =>
 bnd (aA v14 h14) fun v15 h15 =>
 bnd (aP x1 h15) fun v16 h16 =>
 bnd (aB 3 v16 h16) fun v17 h17 =>
 bnd (aA v17 h17) fun v18 h18 =>
 bnd (r 184 [x0, (aH 1), v18] h18) fun v19 h19 =>
 cnd (bD (aA v14 h19) v15 && true) (
 bnd (bH (aY 0 h12.next) [(.s [])] 1 [(0, 1, v19)] h19) fun v20 h20 =>
 bnd (aW 1 16 v15 v20 h20) fun v21 h21 =>
 bnd (aP x1 h21) fun v22 h22 =>
 bnd (aB 3 v22 h22) fun v23 h23 =>
 bnd (aE 1 v23 v21 h23) fun v24 h24 =>
      kk6 x0 x1 (.b false) h24))) (
 some (.t [], h3))
noncomputable def rQ (r : RT) (n : Nat) (m : Nat) : mE :=
 Nat.rec (motive := fun _ => mE) (fun _ _ _ _ => none) (fun _ ih => aTy r n ih) m
noncomputable def bIx (r : RT) (n : Nat) : mE := rQ r n n
noncomputable def aPg (r : RT) (n : Nat) (x0 x1 x4 : DV) (h0 : Hp) : aG :=
 bIx r n x0 x1 x4 h0
noncomputable def bJp (r : RT) (n : Nat) (x0 x1 : DV) (h0 : Hp) : aG :=
 aPg r n x0 x1 (.b true) h0
noncomputable def aMp (r : RT) (n : Nat) (x0 x1 x44 : DV) (h0 : Hp) : aG :=
 aU x44 (
 bnd (r 180 [x0] h0) fun v1 h1 =>
 bnd (eX 1 v1 h1) fun v2 h2 =>
 bnd (aP x1 h2) fun v3 h3 =>
 bnd (aB 1 v3 h3) fun v4 h4 =>
 bnd (aE 1 v4 v2 h4) fun _ h5 =>
 bnd (aP x1 (resv 1 h5)) fun v6 h6 =>
 bnd (aB 3 v6 h6) fun v7 h7 =>
 bnd (aA v7 h7) fun v8 h8 =>
 bnd (aP x1 h8) fun v9 h9 =>
 bnd (aB 3 v9 h9) fun v10 h10 =>
 bnd (aA v10 h10) fun v11 h11 =>
 bnd (r 184 [x0, (aH 1), v11] h11) fun v12 h12 =>
 cnd (bD (aA v7 h12) v8 && true) (
 bnd (bH (aY 0 h5.next) [(.s [])] 1 [(0, 1, v12)] h12) fun v13 h13 =>
 bnd (aW 1 16 v8 v13 h13) fun v14 h14 =>
 bnd (aP x1 h14) fun v15 h15 =>
 bnd (aB 3 v15 h15) fun v16 h16 =>
 bnd (aE 1 v16 v14 h16) fun v17 h17 =>
 some (.t [], h17))) (
  bJp r n x0 x1 h0)
noncomputable def bRi (r : RT) (n : Nat) (x0 x1 : DV) (h0 : Hp) : aG :=
 bnd (r 179 [x0, (aH 3), (.s [])] h0) fun v1 h1 =>
  aMp r n x0 x1 v1 h1
noncomputable def aKd (r : RT) (n : Nat) (x0 x1 x35 : DV) (h0 : Hp) : aG :=
 aU x35 (
 bnd (r 180 [x0] h0) fun v1 h1 =>
 bnd (eX 1 v1 h1) fun v2 h2 =>
 bnd (aP x1 h2) fun v3 h3 =>
 bnd (aB 1 v3 h3) fun v4 h4 =>
 bnd (aE 1 v4 v2 h4) fun _ h5 =>
 some (.t [], h5)) (
  bRi r n x0 x1 h0)
noncomputable def s157 (r : RT) (n : Nat) (x0 x1 : DV) (h0 : Hp) : aG :=
 bnd (r 179 [x0, (aH 1), (.s [])] h0) fun v1 h1 =>
  aKd r n x0 x1 v1 h1
noncomputable abbrev c157 : Code := cf Tryz.f157
noncomputable abbrev aBr : Code := cL c157
noncomputable abbrev wU : Code := cR aBr
noncomputable abbrev uB : Code := cR wU
noncomputable abbrev vY : Code := cR uB
noncomputable abbrev uI : Code := cR vY
noncomputable abbrev aPr : Code := cR uI
noncomputable abbrev aBk : Code := cL aPr
noncomputable abbrev nO : Code := cL aBk
noncomputable abbrev bFl : Code := cL uI
noncomputable abbrev bYi : Code := cL vY
noncomputable abbrev aQn : Code := cL uB
noncomputable abbrev cFt : Code := cL wU
noncomputable abbrev aWl : Code := cL aBr
noncomputable abbrev r157 : K := aQ CF Tryz.f157
noncomputable def D157 (r : RT) (n : Nat) (c : Code) (X : Nat → K) (k : K) : K := aM CF r 68 n c X r157 k
theorem bLf (kk6 : mE) : D157 r n nO (xs (xs x0 0 r157) 1 r157) (K3 kk6 0 1 4) = (K3 (aTy r n kk6) 0 1 4) :=
 (by kernel_rfl)
theorem bPc (m : Nat) : aL (fun kk => D157 r n nO (xs (xs x0 0 r157) 1 r157) kk) m = (K3 (rQ r n m) 0 1 4) := by
 induction m with
 | zero => exact (by kernel_rfl : aL (fun kk => D157 r n nO (xs (xs x0 0 r157) 1 r157) kk) 0 = (K3 (rQ r n 0) 0 1 4))
 | succ m ih =>
  refine (by kernel_rfl : aL (fun kk => D157 r n nO (xs (xs x0 0 r157) 1 r157) kk) (m + 1) = D157 r n nO (xs (xs x0 0 r157) 1 r157) (aL (fun kk => D157 r n nO (xs (xs x0 0 r157) 1 r157) kk) m)).trans ?_
  rw [ih]
  exact (bLf r n (rQ r n m)).trans (by kernel_rfl)
theorem cAt : D157 r n aBk (xs (xs x0 0 r157) 1 r157) r157 = (K3 (bIx r n) 0 1 4) :=
 (by kernel_rfl : D157 r n aBk (xs (xs x0 0 r157) 1 r157) r157 = aL (fun kk => D157 r n nO (xs (xs x0 0 r157) 1 r157) kk) n).trans ((bPc r n n).trans (by kernel_rfl))
theorem cGw : D157 r n aPr (xs x0 0 r157) r157 = (K3 (aPg r n) 0 1 4) :=
 (by kernel_rfl : D157 r n aPr (xs x0 0 r157) r157 = D157 r n aBk (xs (xs x0 0 r157) 1 r157) r157).trans
 ((cAt r n).trans (by kernel_rfl))
theorem bCc : D157 r n uI (xs x0 0 r157) r157 = D157 r n bFl (xs x0 0 r157) (K3 (aPg r n) 0 1 4) :=
 congrArg (fun k => D157 r n bFl (xs x0 0 r157) k) (cGw r n)
theorem bVc : D157 r n uI (xs x0 0 r157) r157 = (K2 (bJp r n) 0 1) :=
 (bCc r n).trans
 ((by kernel_rfl))
theorem cBv : D157 r n vY (xs x0 0 r157) r157 = (K3 (aMp r n) 0 1 44) :=
 (by kernel_rfl : D157 r n vY (xs x0 0 r157) r157 = (fun (env : aS) (h : Hp) => aU (opr env (cC vY)) (D157 r n bYi (xs x0 0 r157) r157 env h) (D157 r n uI (xs x0 0 r157) r157 env h))).trans (by rw [bVc r n]; kernel_rfl)
theorem bLb : D157 r n uB (xs x0 0 r157) r157 = D157 r n aQn (xs x0 0 r157) (K3 (aMp r n) 0 1 44) :=
 congrArg (fun k => D157 r n aQn (xs x0 0 r157) k) (cBv r n)
theorem bWr : D157 r n uB (xs x0 0 r157) r157 = (K2 (bRi r n) 0 1) :=
 (bLb r n).trans
 ((by kernel_rfl))
theorem bXb : D157 r n wU (xs x0 0 r157) r157 = (K3 (aKd r n) 0 1 35) :=
 (by kernel_rfl : D157 r n wU (xs x0 0 r157) r157 = (fun (env : aS) (h : Hp) => aU (opr env (cC wU)) (D157 r n cFt (xs x0 0 r157) r157 env h) (D157 r n uB (xs x0 0 r157) r157 env h))).trans (by rw [bWr r n]; kernel_rfl)
theorem cSu : D157 r n aBr (xs x0 0 r157) r157 = D157 r n aWl (xs x0 0 r157) (K3 (aKd r n) 0 1 35) :=
 congrArg (fun k => D157 r n aWl (xs x0 0 r157) k) (bXb r n)
theorem cXt : D157 r n c157 x0 r157 = (K2 (s157 r n) 0 1) :=
 (by kernel_rfl : D157 r n c157 x0 r157 = D157 r n aBr (xs x0 0 r157) r157).trans
 ((cSu r n).trans
 ((by kernel_rfl)))
theorem cQr : aF CF r n 157 args h = s157 r n (aT args 0) (aT args 1) h :=
 (by kernel_rfl : aF CF r n 157 args h = D157 r n c157 x0 r157 (aJ args) h).trans ((congrFun (congrFun (cXt r n) (aJ args)) h).trans (by kernel_rfl))
noncomputable def aFm (r : RT) (n : Nat) (x0 : DV) (h0 : Hp) : aG :=
 bnd (r 187 [x0, (aH 20), (aH 0), (aH 0)] h0) fun v1 h1 =>
 some (.t [], h1)
noncomputable def cH (r : RT) (n : Nat) (x0 x2 : DV) (h0 : Hp) : aG :=
 aU x2 (
 bnd (r 187 [x0, (aH 2), (aH 0), (aH 0)] h0) fun v1 h1 =>
  aFm r n x0 h1) (
 bnd (r 187 [x0, (aH 1), (aH 0), (aH 0)] h0) fun v2 h2 =>
  aFm r n x0 h2)
noncomputable def kJ (r : RT) (n : Nat) (kk8 : eR) (x0 x2 x6 x22 x23 x24 : DV) (h0 : Hp) : aG :=
 bnd (aD .add x24 (aH 1) h0) fun v1 h1 =>
  kk8 x0 x2 x6 x22 x23 v1 h1
noncomputable def tP (r : RT) (n : Nat) (kk8 : eR) (x0 x2 x6 x22 x23 x24 : DV) (h0 : Hp) : aG :=
 bnd (aI 6 x22 x24 h0) fun v1 h1 =>
 bnd (aK 6 v1 h1) fun v2 h2 =>
 bnd (bJ gX h2) fun v3 h3 =>
 bnd (aE 6 v3 v2 h3) fun _ h4 =>
 bnd (aK 6 v3 h4) fun v5 h5 =>
 bnd (r 186 [x0, v5] h5) fun v6 h6 =>
 bnd (aD .eql x24 x6 h6) fun v7 h7 =>
 bnd (gD v7 true (aB 0 v3 h7) h7) fun v8 h8 =>
 bnd (gD v7 true (aA v8 h8) h8) fun v9 h9 =>
 bnd (gD v7 true (aD .eql v9 (aH 10) h9) h9) fun v10 h10 =>
 bnd (aO v7 v10 (.b false) h10) fun v11 h11 =>
 aU v11 (
 some (.t [], h11)) (
 bnd (aD .eql x24 x6 h11) fun v12 h12 =>
 bnd (gD v12 true (some (x2, h12)) h12) fun v13 h13 =>
 bnd (aO v12 v13 (.b false) h13) fun v14 h14 =>
 aU v14 (
 bnd (r 187 [x0, (aH 20), (aH 0), (aH 0)] h14) fun v15 h15 =>
 some (.t [], h15)) (
 bnd (aB 0 v3 h14) fun v16 h16 =>
 bnd (aA v16 h16) fun v17 h17 =>
 bnd (aD .eql v17 (aH 10) h17) fun v18 h18 =>
 aU v18 (
    kJ r n kk8 x0 x2 x6 x22 x23 x24 h18) (
 bnd (r 187 [x0, (aH 12), (aH 0), (aH 0)] h18) fun v19 h19 =>
    kJ r n kk8 x0 x2 x6 x22 x23 x24 h19)))
noncomputable def aLb (r : RT) (n : Nat) (kk8 : eR) (x0 x2 x6 x22 x23 x24 x25 : DV) (h0 : Hp) : aG :=
 aU x25 (
  tP r n kk8 x0 x2 x6 x22 x23 x24 h0) (
  cH r n x0 x2 h0)
noncomputable def aRa (r : RT) (n : Nat) (kk8 : eR) (x0 x2 x6 x22 x23 x24 : DV) (h0 : Hp) : aG :=
 bnd (aD .lss x24 x23 h0) fun v1 h1 =>
  aLb r n kk8 x0 x2 x6 x22 x23 x24 v1 h1
noncomputable def tE (r : RT) (n : Nat) (m : Nat) : eR :=
 Nat.rec (motive := fun _ => eR) (fun _ _ _ _ _ _ _ => none) (fun _ ih => aRa r n ih) m
noncomputable def bQu (r : RT) (n : Nat) : eR := tE r n n
noncomputable def aKz (r : RT) (n : Nat) (x0 x2 x6 x22 x23 x24 : DV) (h0 : Hp) : aG :=
 bQu r n x0 x2 x6 x22 x23 x24 h0
noncomputable def aLj (r : RT) (n : Nat) (x0 x2 x4 x6 : DV) (h0 : Hp) : aG :=
 bnd (aB 5 x4 h0) fun v1 h1 =>
 bnd (aA v1 h1) fun v2 h2 =>
 bnd (bQ v2 h2) fun v3 h3 =>
  aKz r n x0 x2 x6 v2 v3 (aH 0) h3
noncomputable def aKm (r : RT) (n : Nat) (x0 x2 x4 : DV) (h0 : Hp) : aG :=
 bnd (aB 5 x4 h0) fun v1 h1 =>
 bnd (aA v1 h1) fun v2 h2 =>
 bnd (bQ v2 h2) fun v3 h3 =>
 bnd (aD .sub v3 (aH 1) h3) fun v4 h4 =>
  aLj r n x0 x2 x4 v4 h4
noncomputable def aOd (r : RT) (n : Nat) (x0 x2 x4 : DV) (h0 : Hp) : aG :=
 bnd (aB 4 x4 h0) fun v1 h1 =>
 bnd (aA v1 h1) fun v2 h2 =>
 bnd (r 185 [x0, v2, (.b false)] h2) fun v3 h3 =>
  aKm r n x0 x2 x4 h3
noncomputable def tY (r : RT) (n : Nat) (x0 x2 x4 : DV) (h0 : Hp) : aG :=
 bnd (aB 3 x4 h0) fun v1 h1 =>
 bnd (aA v1 h1) fun v2 h2 =>
 bnd (r 185 [x0, v2, (.b true)] h2) fun v3 h3 =>
  aOd r n x0 x2 x4 h3
noncomputable def s159 (r : RT) (n : Nat) (x0 x1 x2 : DV) (h0 : Hp) : aG :=
 bnd (bS x1 h0) fun v1 h1 =>
  tY r n x0 x2 v1 h1
noncomputable abbrev c159 : Code := cf Tryz.f159
noncomputable abbrev aEa : Code := cR c159
noncomputable abbrev yP : Code := cR aEa
noncomputable abbrev aBm : Code := cR yP
noncomputable abbrev aCk : Code := cR aBm
noncomputable abbrev aEv : Code := cR aCk
noncomputable abbrev cQt : Code := cR aEv
noncomputable abbrev bHv : Code := cL aEv
noncomputable abbrev xB : Code := cL aCk
noncomputable abbrev aOf : Code := cR xB
noncomputable abbrev sQ : Code := cL aOf
noncomputable abbrev gY : Code := cL sQ
noncomputable abbrev tC : Code := cR gY
noncomputable abbrev sS : Code := cR tC
noncomputable abbrev cAk : Code := cR sS
noncomputable abbrev aGg : Code := cL sS
noncomputable abbrev aSy : Code := cL tC
noncomputable abbrev aVh : Code := cL gY
noncomputable abbrev aRi : Code := cL xB
noncomputable abbrev aVw : Code := cL aBm
noncomputable abbrev aRb : Code := cL yP
noncomputable abbrev aQg : Code := cL aEa
noncomputable abbrev aDa : Code := cL c159
noncomputable abbrev r159 : K := aQ CF Tryz.f159
noncomputable def D159 (r : RT) (n : Nat) (c : Code) (X : Nat → K) (k : K) : K := aM CF r 64 n c X r159 k
theorem cFx : D159 r n cQt x0 r159 = (K1 (aFm r n) 0) :=
 (by kernel_rfl)
theorem bFh : D159 r n aEv x0 r159 = D159 r n bHv x0 (K1 (aFm r n) 0) :=
 congrArg (fun k => D159 r n bHv x0 k) (cFx r n)
theorem bUq : D159 r n aEv x0 r159 = (K2 (cH r n) 0 2) :=
 (bFh r n).trans
 ((by kernel_rfl))
theorem bLg (kk8 : eR) : D159 r n cAk (xs x0 0 (K2 (cH r n) 0 2)) (K6 kk8 0 2 6 22 23 24) = (K6 (kJ r n kk8) 0 2 6 22 23 24) :=
 (by kernel_rfl)
theorem aYc (kk8 : eR) : D159 r n sS (xs x0 0 (K2 (cH r n) 0 2)) (K6 kk8 0 2 6 22 23 24) = D159 r n aGg (xs x0 0 (K2 (cH r n) 0 2)) (K6 (kJ r n kk8) 0 2 6 22 23 24) :=
 congrArg (fun k => D159 r n aGg (xs x0 0 (K2 (cH r n) 0 2)) k) (bLg r n kk8)
theorem aZc (kk8 : eR) (q0 : eR) (q1 : gP) : D159 r n aGg (xs x0 0 (K2 q1 0 2)) (K6 q0 0 2 6 22 23 24) = fun (env : aS) (h : Hp) =>
 bnd (aI 6 (env 22) (env 24) h) fun v1 h1 =>
 bnd (aK 6 v1 h1) fun v2 h2 =>
 bnd (bJ gX h2) fun v3 h3 =>
 bnd (aE 6 v3 v2 h3) fun _ h4 =>
 bnd (aK 6 v3 h4) fun v5 h5 =>
 bnd (r 186 [(env 0), v5] h5) fun v6 h6 =>
 bnd (aD .eql (env 24) (env 6) h6) fun v7 h7 =>
 bnd (gD v7 true (aB 0 v3 h7) h7) fun v8 h8 =>
 bnd (gD v7 true (aA v8 h8) h8) fun v9 h9 =>
 bnd (gD v7 true (aD .eql v9 (aH 10) h9) h9) fun v10 h10 =>
 bnd (aO v7 v10 (.b false) h10) fun v11 h11 =>
 aU v11 (
 some (.t [], h11)) (
 bnd (aD .eql (env 24) (env 6) h11) fun v12 h12 =>
 bnd (gD v12 true (some ((env 2), h12)) h12) fun v13 h13 =>
 bnd (aO v12 v13 (.b false) h13) fun v14 h14 =>
 aU v14 (
 bnd (r 187 [(env 0), (aH 20), (aH 0), (aH 0)] h14) fun v15 h15 =>
 some (.t [], h15)) (
 bnd (aB 0 v3 h14) fun v16 h16 =>
 bnd (aA v16 h16) fun v17 h17 =>
 bnd (aD .eql v17 (aH 10) h17) fun v18 h18 =>
 aU v18 (
     q0 (env 0) (env 2) (env 6) (env 22) (env 23) (env 24) h18) (
 bnd (r 187 [(env 0), (aH 12), (aH 0), (aH 0)] h18) fun v19 h19 =>
     q0 (env 0) (env 2) (env 6) (env 22) (env 23) (env 24) h19))) := by kernel_rfl
theorem aQb (kk8 : eR) : (fun (env : aS) (h : Hp) =>
 bnd (aI 6 (env 22) (env 24) h) fun v1 h1 =>
 bnd (aK 6 v1 h1) fun v2 h2 =>
 bnd (bJ gX h2) fun v3 h3 =>
 bnd (aE 6 v3 v2 h3) fun _ h4 =>
 bnd (aK 6 v3 h4) fun v5 h5 =>
 bnd (r 186 [(env 0), v5] h5) fun v6 h6 =>
 bnd (aD .eql (env 24) (env 6) h6) fun v7 h7 =>
 bnd (gD v7 true (aB 0 v3 h7) h7) fun v8 h8 =>
 bnd (gD v7 true (aA v8 h8) h8) fun v9 h9 =>
 bnd (gD v7 true (aD .eql v9 (aH 10) h9) h9) fun v10 h10 =>
 bnd (aO v7 v10 (.b false) h10) fun v11 h11 =>
 aU v11 (
 some (.t [], h11)) (
 bnd (aD .eql (env 24) (env 6) h11) fun v12 h12 =>
 bnd (gD v12 true (some ((env 2), h12)) h12) fun v13 h13 =>
 bnd (aO v12 v13 (.b false) h13) fun v14 h14 =>
 aU v14 (
 bnd (r 187 [(env 0), (aH 20), (aH 0), (aH 0)] h14) fun v15 h15 =>
 some (.t [], h15)) (
 bnd (aB 0 v3 h14) fun v16 h16 =>
 bnd (aA v16 h16) fun v17 h17 =>
 bnd (aD .eql v17 (aH 10) h17) fun v18 h18 =>
 aU v18 (
     kJ r n kk8 (env 0) (env 2) (env 6) (env 22) (env 23) (env 24) h18) (
 bnd (r 187 [(env 0), (aH 12), (aH 0), (aH 0)] h18) fun v19 h19 =>
     kJ r n kk8 (env 0) (env 2) (env 6) (env 22) (env 23) (env 24) h19)))) = (K6 (tP r n kk8) 0 2 6 22 23 24) := by kernel_rfl
theorem bId (kk8 : eR) : D159 r n sS (xs x0 0 (K2 (cH r n) 0 2)) (K6 kk8 0 2 6 22 23 24) = (K6 (tP r n kk8) 0 2 6 22 23 24) :=
 (aYc r n kk8).trans
 ((aZc r n kk8 (kJ r n kk8) (cH r n)).trans (aQb r n kk8))
theorem bPq (kk8 : eR) : D159 r n tC (xs x0 0 (K2 (cH r n) 0 2)) (K6 kk8 0 2 6 22 23 24) = D159 r n aSy (xs x0 0 (K2 (cH r n) 0 2)) (K6 (tP r n kk8) 0 2 6 22 23 24) :=
 congrArg (fun k => D159 r n aSy (xs x0 0 (K2 (cH r n) 0 2)) k) (bId r n kk8)
theorem cGo (kk8 : eR) : D159 r n tC (xs x0 0 (K2 (cH r n) 0 2)) (K6 kk8 0 2 6 22 23 24) = (K7 (aLb r n kk8) 0 2 6 22 23 24 25) :=
 (bPq r n kk8).trans
 ((by kernel_rfl))
theorem bJk (kk8 : eR) : D159 r n gY (xs x0 0 (K2 (cH r n) 0 2)) (K6 kk8 0 2 6 22 23 24) = D159 r n aVh (xs x0 0 (K2 (cH r n) 0 2)) (K7 (aLb r n kk8) 0 2 6 22 23 24 25) :=
 congrArg (fun k => D159 r n aVh (xs x0 0 (K2 (cH r n) 0 2)) k) (cGo r n kk8)
theorem bIf (kk8 : eR) : D159 r n gY (xs x0 0 (K2 (cH r n) 0 2)) (K6 kk8 0 2 6 22 23 24) = (K6 (aRa r n kk8) 0 2 6 22 23 24) :=
 (bJk r n kk8).trans
 ((by kernel_rfl))
theorem bFm (m : Nat) : aL (fun kk => D159 r n gY (xs x0 0 (K2 (cH r n) 0 2)) kk) m = (K6 (tE r n m) 0 2 6 22 23 24) := by
 induction m with
 | zero => exact (by kernel_rfl : aL (fun kk => D159 r n gY (xs x0 0 (K2 (cH r n) 0 2)) kk) 0 = (K6 (tE r n 0) 0 2 6 22 23 24))
 | succ m ih =>
  refine (by kernel_rfl : aL (fun kk => D159 r n gY (xs x0 0 (K2 (cH r n) 0 2)) kk) (m + 1) = D159 r n gY (xs x0 0 (K2 (cH r n) 0 2)) (aL (fun kk => D159 r n gY (xs x0 0 (K2 (cH r n) 0 2)) kk) m)).trans ?_
  rw [ih]
  exact (bIf r n (tE r n m)).trans (by kernel_rfl)
theorem cCm : D159 r n sQ (xs x0 0 (K2 (cH r n) 0 2)) (K2 (cH r n) 0 2) = (K6 (bQu r n) 0 2 6 22 23 24) :=
 (by kernel_rfl : D159 r n sQ (xs x0 0 (K2 (cH r n) 0 2)) (K2 (cH r n) 0 2) = aL (fun kk => D159 r n gY (xs x0 0 (K2 (cH r n) 0 2)) kk) n).trans ((bFm r n n).trans (by kernel_rfl))
theorem cDc : D159 r n aOf x0 (K2 (cH r n) 0 2) = (K6 (aKz r n) 0 2 6 22 23 24) :=
 (by kernel_rfl : D159 r n aOf x0 (K2 (cH r n) 0 2) = D159 r n sQ (xs x0 0 (K2 (cH r n) 0 2)) (K2 (cH r n) 0 2)).trans
 ((cCm r n).trans (by kernel_rfl))
theorem bNp : D159 r n aCk x0 r159 = D159 r n xB x0 (K2 (cH r n) 0 2) :=
 congrArg (fun k => D159 r n xB x0 k) (bUq r n)
theorem bSw : D159 r n xB x0 (K2 (cH r n) 0 2) = D159 r n aRi x0 (K6 (aKz r n) 0 2 6 22 23 24) :=
 congrArg (fun k => D159 r n aRi x0 k) (cDc r n)
theorem bUe : D159 r n aCk x0 r159 = (K4 (aLj r n) 0 2 4 6) :=
 (bNp r n).trans
 ((bSw r n).trans
 ((by kernel_rfl)))
theorem bFn : D159 r n aBm x0 r159 = D159 r n aVw x0 (K4 (aLj r n) 0 2 4 6) :=
 congrArg (fun k => D159 r n aVw x0 k) (bUe r n)
theorem bUr : D159 r n aBm x0 r159 = (K3 (aKm r n) 0 2 4) :=
 (bFn r n).trans
 ((by kernel_rfl))
theorem bHs : D159 r n yP x0 r159 = D159 r n aRb x0 (K3 (aKm r n) 0 2 4) :=
 congrArg (fun k => D159 r n aRb x0 k) (bUr r n)
theorem cBa : D159 r n yP x0 r159 = (K3 (aOd r n) 0 2 4) :=
 (bHs r n).trans
 ((by kernel_rfl))
theorem bAs : D159 r n aEa x0 r159 = D159 r n aQg x0 (K3 (aOd r n) 0 2 4) :=
 congrArg (fun k => D159 r n aQg x0 k) (cBa r n)
theorem cDj : D159 r n aEa x0 r159 = (K3 (tY r n) 0 2 4) :=
 (bAs r n).trans
 ((by kernel_rfl))
theorem cEu : D159 r n c159 x0 r159 = D159 r n aDa x0 (K3 (tY r n) 0 2 4) :=
 congrArg (fun k => D159 r n aDa x0 k) (cDj r n)
theorem cDu (q0 : mE) : D159 r n aDa x0 (K3 q0 0 2 4) = fun (env : aS) (h : Hp) =>
 bnd (bS (env 1) h) fun v1 h1 =>
  q0 (env 0) (env 2) v1 h1 := by kernel_rfl
theorem bGq : (fun (env : aS) (h : Hp) =>
 bnd (bS (env 1) h) fun v1 h1 =>
  tY r n (env 0) (env 2) v1 h1) = (K3 (s159 r n) 0 1 2) := by kernel_rfl
theorem dCv : D159 r n c159 x0 r159 = (K3 (s159 r n) 0 1 2) :=
 (cEu r n).trans
 ((cDu r n (tY r n)).trans (bGq r n))
theorem cRu : aF CF r n 159 args h = s159 r n (aT args 0) (aT args 1) (aT args 2) h :=
 (by kernel_rfl : aF CF r n 159 args h = D159 r n c159 x0 r159 (aJ args) h).trans ((congrFun (congrFun (dCv r n) (aJ args)) h).trans (by kernel_rfl))
noncomputable def dT (r : RT) (n : Nat) (x4 : DV) (h0 : Hp) : aG :=
 some (.t [x4, (aH 0)], h0)
noncomputable def aCw (r : RT) (n : Nat) (kk6 : dD) (x4 x10 x11 x12 : DV) (h0 : Hp) : aG :=
 bnd (aD .lss x12 x11 h0) fun v1 h1 =>
 aU v1 (
 bnd (aI 3 x10 x12 h1) fun v2 h2 =>
 bnd (aK 3 v2 h2) fun v3 h3 =>
 bnd (bJ [(aH 0), (aH 0), (aH 0)] h3) fun v4 h4 =>
 bnd (aE 3 v4 v3 h4) fun _ h5 =>
 bnd (aK 3 v4 h5) fun v6 h6 =>
 bnd (r 145 [v6] h6) fun v7 h7 =>
 bnd (fL .not v7 h7) fun v8 h8 =>
 aU v8 (
 some (.t [.l0, (aH 19)], h8)) (
 bnd (aB 0 v4 h8) fun v9 h9 =>
 bnd (aA v9 h9) fun v10 h10 =>
 bnd (eB .u8 v10 h10) fun v11 h11 =>
 bnd (aB 1 v4 h11) fun v12 h12 =>
 bnd (aA v12 h12) fun v13 h13 =>
 bnd (eB .u8 v13 h13) fun v14 h14 =>
 bnd (aB 2 v4 h14) fun v15 h15 =>
 bnd (aA v15 h15) fun v16 h16 =>
 bnd (eB .u8 v16 h16) fun v17 h17 =>
 bnd (aN [(.i .u8 (Int.ofNat 0)), (.i .u8 (Int.ofNat 0)), (.i .u8 (Int.ofNat 0))] 3 [(0, 1, v11), (1, 1, v14), (2, 1, v17)] h17) fun v18 h18 =>
 bnd (aW 1 1 x4 v18 h18) fun v19 h19 =>
 bnd (aD .add x12 (aH 1) h19) fun v20 h20 =>
    kk6 v19 x10 x11 v20 h20)) (
      dT r n x4 h1)
noncomputable def sR (r : RT) (n : Nat) (m : Nat) : dD :=
 Nat.rec (motive := fun _ => dD) (fun _ _ _ _ _ => none) (fun _ ih => aCw r n ih) m
noncomputable def bGy (r : RT) (n : Nat) : dD := sR r n n
noncomputable def aOj (r : RT) (n : Nat) (x4 x10 x11 x12 : DV) (h0 : Hp) : aG :=
 bGy r n x4 x10 x11 x12 h0
noncomputable def aNi (r : RT) (n : Nat) (x0 x4 : DV) (h0 : Hp) : aG :=
 bnd (bQ x0 h0) fun v1 h1 =>
  aOj r n x4 x0 v1 (aH 0) h1
noncomputable def aPt (r : RT) (n : Nat) (x0 : DV) (h0 : Hp) : aG :=
 aNi r n x0 .l0 h0
noncomputable def aLw (r : RT) (n : Nat) (x0 : DV) (h0 : Hp) : aG :=
 bnd (bQ x0 h0) fun v1 h1 =>
 bnd (aD .gtr v1 (aH 400) h1) fun v2 h2 =>
 aU v2 (
 some (.t [.l0, (aH 19)], h2)) (
  aPt r n x0 h2)
noncomputable def s160 (r : RT) (n : Nat) (x0 : DV) (h0 : Hp) : aG :=
 aLw r n x0 h0
noncomputable abbrev c160 : Code := cf Tryz.f160
noncomputable abbrev zZ : Code := cR c160
noncomputable abbrev zL : Code := cR zZ
noncomputable abbrev aEw : Code := cR zL
noncomputable abbrev cMn : Code := cR aEw
noncomputable abbrev uP : Code := cL aEw
noncomputable abbrev aNj : Code := cR uP
noncomputable abbrev aAm : Code := cL aNj
noncomputable abbrev lU : Code := cL aAm
noncomputable abbrev bGe : Code := cL uP
noncomputable abbrev aWx : Code := cL zL
noncomputable abbrev aVp : Code := cL zZ
noncomputable abbrev aVr : Code := cL c160
noncomputable abbrev r160 : K := aQ CF Tryz.f160
noncomputable def D160 (r : RT) (n : Nat) (c : Code) (X : Nat → K) (k : K) : K := aM CF r 33 n c X r160 k
theorem cHp : D160 r n cMn x0 r160 = (K1 (dT r n) 4) :=
 (by kernel_rfl)
theorem bIr (kk6 : dD) (q0 : TT1) : D160 r n lU (xs x0 0 (K1 q0 4)) (K4 kk6 4 10 11 12) = fun (env : aS) (h : Hp) =>
 bnd (aD .lss (env 12) (env 11) h) fun v1 h1 =>
 aU v1 (
 bnd (aI 3 (env 10) (env 12) h1) fun v2 h2 =>
 bnd (aK 3 v2 h2) fun v3 h3 =>
 bnd (bJ [(aH 0), (aH 0), (aH 0)] h3) fun v4 h4 =>
 bnd (aE 3 v4 v3 h4) fun _ h5 =>
 bnd (aK 3 v4 h5) fun v6 h6 =>
 bnd (r 145 [v6] h6) fun v7 h7 =>
 bnd (fL .not v7 h7) fun v8 h8 =>
 aU v8 (
 some (.t [.l0, (aH 19)], h8)) (
 bnd (aB 0 v4 h8) fun v9 h9 =>
 bnd (aA v9 h9) fun v10 h10 =>
 bnd (eB .u8 v10 h10) fun v11 h11 =>
 bnd (aB 1 v4 h11) fun v12 h12 =>
 bnd (aA v12 h12) fun v13 h13 =>
 bnd (eB .u8 v13 h13) fun v14 h14 =>
 bnd (aB 2 v4 h14) fun v15 h15 =>
 bnd (aA v15 h15) fun v16 h16 =>
 bnd (eB .u8 v16 h16) fun v17 h17 =>
 bnd (aN [(.i .u8 (Int.ofNat 0)), (.i .u8 (Int.ofNat 0)), (.i .u8 (Int.ofNat 0))] 3 [(0, 1, v11), (1, 1, v14), (2, 1, v17)] h17) fun v18 h18 =>
 bnd (aW 1 1 (env 4) v18 h18) fun v19 h19 =>
 bnd (aD .add (env 12) (aH 1) h19) fun v20 h20 =>
    kk6 v19 (env 10) (env 11) v20 h20)) (
      q0 (env 4) h1) := by kernel_rfl
theorem aXm (kk6 : dD) : (fun (env : aS) (h : Hp) =>
 bnd (aD .lss (env 12) (env 11) h) fun v1 h1 =>
 aU v1 (
 bnd (aI 3 (env 10) (env 12) h1) fun v2 h2 =>
 bnd (aK 3 v2 h2) fun v3 h3 =>
 bnd (bJ [(aH 0), (aH 0), (aH 0)] h3) fun v4 h4 =>
 bnd (aE 3 v4 v3 h4) fun _ h5 =>
 bnd (aK 3 v4 h5) fun v6 h6 =>
 bnd (r 145 [v6] h6) fun v7 h7 =>
 bnd (fL .not v7 h7) fun v8 h8 =>
 aU v8 (
 some (.t [.l0, (aH 19)], h8)) (
 bnd (aB 0 v4 h8) fun v9 h9 =>
 bnd (aA v9 h9) fun v10 h10 =>
 bnd (eB .u8 v10 h10) fun v11 h11 =>
 bnd (aB 1 v4 h11) fun v12 h12 =>
 bnd (aA v12 h12) fun v13 h13 =>
 bnd (eB .u8 v13 h13) fun v14 h14 =>
 bnd (aB 2 v4 h14) fun v15 h15 =>
 bnd (aA v15 h15) fun v16 h16 =>
 bnd (eB .u8 v16 h16) fun v17 h17 =>
 bnd (aN [(.i .u8 (Int.ofNat 0)), (.i .u8 (Int.ofNat 0)), (.i .u8 (Int.ofNat 0))] 3 [(0, 1, v11), (1, 1, v14), (2, 1, v17)] h17) fun v18 h18 =>
 bnd (aW 1 1 (env 4) v18 h18) fun v19 h19 =>
 bnd (aD .add (env 12) (aH 1) h19) fun v20 h20 =>
    kk6 v19 (env 10) (env 11) v20 h20)) (
      dT r n (env 4) h1)) = (K4 (aCw r n kk6) 4 10 11 12) := by kernel_rfl
theorem bIv (kk6 : dD) : D160 r n lU (xs x0 0 (K1 (dT r n) 4)) (K4 kk6 4 10 11 12) = (K4 (aCw r n kk6) 4 10 11 12) :=
 (bIr r n kk6 (dT r n)).trans (aXm r n kk6)
theorem bPn (m : Nat) : aL (fun kk => D160 r n lU (xs x0 0 (K1 (dT r n) 4)) kk) m = (K4 (sR r n m) 4 10 11 12) := by
 induction m with
 | zero => exact (by kernel_rfl : aL (fun kk => D160 r n lU (xs x0 0 (K1 (dT r n) 4)) kk) 0 = (K4 (sR r n 0) 4 10 11 12))
 | succ m ih =>
  refine (by kernel_rfl : aL (fun kk => D160 r n lU (xs x0 0 (K1 (dT r n) 4)) kk) (m + 1) = D160 r n lU (xs x0 0 (K1 (dT r n) 4)) (aL (fun kk => D160 r n lU (xs x0 0 (K1 (dT r n) 4)) kk) m)).trans ?_
  rw [ih]
  exact (bIv r n (sR r n m)).trans (by kernel_rfl)
theorem cHn : D160 r n aAm (xs x0 0 (K1 (dT r n) 4)) (K1 (dT r n) 4) = (K4 (bGy r n) 4 10 11 12) :=
 (by kernel_rfl : D160 r n aAm (xs x0 0 (K1 (dT r n) 4)) (K1 (dT r n) 4) = aL (fun kk => D160 r n lU (xs x0 0 (K1 (dT r n) 4)) kk) n).trans ((bPn r n n).trans (by kernel_rfl))
theorem bUz : D160 r n aNj x0 (K1 (dT r n) 4) = (K4 (aOj r n) 4 10 11 12) :=
 (by kernel_rfl : D160 r n aNj x0 (K1 (dT r n) 4) = D160 r n aAm (xs x0 0 (K1 (dT r n) 4)) (K1 (dT r n) 4)).trans
 ((cHn r n).trans (by kernel_rfl))
theorem bHu : D160 r n aEw x0 r160 = D160 r n uP x0 (K1 (dT r n) 4) :=
 congrArg (fun k => D160 r n uP x0 k) (cHp r n)
theorem bJt : D160 r n uP x0 (K1 (dT r n) 4) = D160 r n bGe x0 (K4 (aOj r n) 4 10 11 12) :=
 congrArg (fun k => D160 r n bGe x0 k) (bUz r n)
theorem bWx : D160 r n aEw x0 r160 = (K2 (aNi r n) 0 4) :=
 (bHu r n).trans
 ((bJt r n).trans
 ((by kernel_rfl)))
theorem bSt : D160 r n zL x0 r160 = D160 r n aWx x0 (K2 (aNi r n) 0 4) :=
 congrArg (fun k => D160 r n aWx x0 k) (bWx r n)
theorem bXn : D160 r n zL x0 r160 = (K1 (aPt r n) 0) :=
 (bSt r n).trans
 ((by kernel_rfl))
theorem bKq : D160 r n zZ x0 r160 = D160 r n aVp x0 (K1 (aPt r n) 0) :=
 congrArg (fun k => D160 r n aVp x0 k) (bXn r n)
theorem bYo : D160 r n zZ x0 r160 = (K1 (aLw r n) 0) :=
 (bKq r n).trans
 ((by kernel_rfl))
theorem cMl : D160 r n c160 x0 r160 = D160 r n aVr x0 (K1 (aLw r n) 0) :=
 congrArg (fun k => D160 r n aVr x0 k) (bYo r n)
theorem cXf : D160 r n c160 x0 r160 = (K1 (s160 r n) 0) :=
 (cMl r n).trans
 ((by kernel_rfl))
theorem cSl : aF CF r n 160 args h = s160 r n (aT args 0) h :=
 (by kernel_rfl : aF CF r n 160 args h = D160 r n c160 x0 r160 (aJ args) h).trans ((congrFun (congrFun (cXf r n) (aJ args)) h).trans (by kernel_rfl))
noncomputable def eE (r : RT) (n : Nat) (x0 x6 : DV) (h0 : Hp) : aG :=
 bnd (r 36 [x0, x6] h0) fun v1 h1 =>
 bnd (aC 0 v1 h1) fun v2 h2 =>
 bnd (aC 1 v1 h2) fun v3 h3 =>
 some (.t [v2, v3], h3)
noncomputable def aFu (r : RT) (n : Nat) (kk4 : mE) (x0 x1 x6 : DV) (h0 : Hp) : aG :=
 bnd (bQ x1 h0) fun v1 h1 =>
 bnd (aD .gtr v1 (aH 0) h1) fun v2 h2 =>
 aU v2 (
 bnd (bQ x1 h2) fun v3 h3 =>
 bnd (aLy v3 (aH 240) h3) fun v4 h4 =>
 bnd (r 34 [x0, (aH 10)] h4) fun v5 h5 =>
 bnd (cG 1 x1 none (some v4) h5) fun v6 h6 =>
 cnd (bD (cG 1 x1 none (some v4) h4) v6 && true) (
 bnd (gH v6 h6) fun v7 h7 =>
 cnd (bD (gH v6 h4) v7 && true) (
 bnd (r 43 [x0, v5, v7] h7) fun v8 h8 =>
 bnd (aC 0 v8 h8) fun v9 h9 =>
 bnd (aC 1 v8 h9) fun v10 h10 =>
 bnd (aD .neq v10 (aH 0) h10) fun v11 h11 =>
 aU v11 (
 some (.t [(aH 0), v10], h11)) (
 bnd (bH (aY 0 h11.next) [(aH 0)] 1 [(0, 1, v9)] (resv 1 h11)) fun v12 h12 =>
 bnd (aW 1 8 x6 v12 h12) fun v13 h13 =>
 bnd (cG 1 x1 (some v4) none h13) fun v14 h14 =>
 cnd (bD (cG 1 x1 (some v4) none (resv 1 h11)) v14 && true) (
    kk4 x0 v14 v13 h14))))) (
      eE r n x0 x6 h2)
noncomputable def sV (r : RT) (n : Nat) (m : Nat) : mE :=
 Nat.rec (motive := fun _ => mE) (fun _ _ _ _ => none) (fun _ ih => aFu r n ih) m
noncomputable def bMj (r : RT) (n : Nat) : mE := sV r n n
noncomputable def aKs (r : RT) (n : Nat) (x0 x1 x6 : DV) (h0 : Hp) : aG :=
 bMj r n x0 x1 x6 h0
noncomputable def aNu (r : RT) (n : Nat) (x0 x1 : DV) (h0 : Hp) : aG :=
 aKs r n x0 x1 .l0 h0
noncomputable def s161 (r : RT) (n : Nat) (x0 x1 : DV) (h0 : Hp) : aG :=
 aNu r n x0 x1 h0
noncomputable abbrev c161 : Code := cf Tryz.f161
noncomputable abbrev aAq : Code := cR c161
noncomputable abbrev aBs : Code := cR aAq
noncomputable abbrev cLi : Code := cR aBs
noncomputable abbrev aDo : Code := cL aBs
noncomputable abbrev aCc : Code := cL aDo
noncomputable abbrev lY : Code := cL aCc
noncomputable abbrev bQz : Code := cL aAq
noncomputable abbrev bBi : Code := cL c161
noncomputable abbrev r161 : K := aQ CF Tryz.f161
noncomputable def D161 (r : RT) (n : Nat) (c : Code) (X : Nat → K) (k : K) : K := aM CF r 42 n c X r161 k
theorem cAf : D161 r n cLi x0 r161 = (K2 (eE r n) 0 6) :=
 (by kernel_rfl)
theorem bSf (kk4 : mE) (q0 : gP) : D161 r n lY (xs x0 0 (K2 q0 0 6)) (K3 kk4 0 1 6) = fun (env : aS) (h : Hp) =>
 bnd (bQ (env 1) h) fun v1 h1 =>
 bnd (aD .gtr v1 (aH 0) h1) fun v2 h2 =>
 aU v2 (
 bnd (bQ (env 1) h2) fun v3 h3 =>
 bnd (aLy v3 (aH 240) h3) fun v4 h4 =>
 bnd (r 34 [(env 0), (aH 10)] h4) fun v5 h5 =>
 bnd (cG 1 (env 1) none (some v4) h5) fun v6 h6 =>
 cnd (bD (cG 1 (env 1) none (some v4) h4) v6 && true) (
 bnd (gH v6 h6) fun v7 h7 =>
 cnd (bD (gH v6 h4) v7 && true) (
 bnd (r 43 [(env 0), v5, v7] h7) fun v8 h8 =>
 bnd (aC 0 v8 h8) fun v9 h9 =>
 bnd (aC 1 v8 h9) fun v10 h10 =>
 bnd (aD .neq v10 (aH 0) h10) fun v11 h11 =>
 aU v11 (
 some (.t [(aH 0), v10], h11)) (
 bnd (bH (aY 0 h11.next) [(aH 0)] 1 [(0, 1, v9)] (resv 1 h11)) fun v12 h12 =>
 bnd (aW 1 8 (env 6) v12 h12) fun v13 h13 =>
 bnd (cG 1 (env 1) (some v4) none h13) fun v14 h14 =>
 cnd (bD (cG 1 (env 1) (some v4) none (resv 1 h11)) v14 && true) (
    kk4 (env 0) v14 v13 h14))))) (
      q0 (env 0) (env 6) h2) := by kernel_rfl
theorem bAi (kk4 : mE) : (fun (env : aS) (h : Hp) =>
 bnd (bQ (env 1) h) fun v1 h1 =>
 bnd (aD .gtr v1 (aH 0) h1) fun v2 h2 =>
 aU v2 (
 bnd (bQ (env 1) h2) fun v3 h3 =>
 bnd (aLy v3 (aH 240) h3) fun v4 h4 =>
 bnd (r 34 [(env 0), (aH 10)] h4) fun v5 h5 =>
 bnd (cG 1 (env 1) none (some v4) h5) fun v6 h6 =>
 cnd (bD (cG 1 (env 1) none (some v4) h4) v6 && true) (
 bnd (gH v6 h6) fun v7 h7 =>
 cnd (bD (gH v6 h4) v7 && true) (
 bnd (r 43 [(env 0), v5, v7] h7) fun v8 h8 =>
 bnd (aC 0 v8 h8) fun v9 h9 =>
 bnd (aC 1 v8 h9) fun v10 h10 =>
 bnd (aD .neq v10 (aH 0) h10) fun v11 h11 =>
 aU v11 (
 some (.t [(aH 0), v10], h11)) (
 bnd (bH (aY 0 h11.next) [(aH 0)] 1 [(0, 1, v9)] (resv 1 h11)) fun v12 h12 =>
 bnd (aW 1 8 (env 6) v12 h12) fun v13 h13 =>
 bnd (cG 1 (env 1) (some v4) none h13) fun v14 h14 =>
 cnd (bD (cG 1 (env 1) (some v4) none (resv 1 h11)) v14 && true) (
    kk4 (env 0) v14 v13 h14))))) (
      eE r n (env 0) (env 6) h2)) = (K3 (aFu r n kk4) 0 1 6) := by kernel_rfl
theorem bEz (kk4 : mE) : D161 r n lY (xs x0 0 (K2 (eE r n) 0 6)) (K3 kk4 0 1 6) = (K3 (aFu r n kk4) 0 1 6) :=
 (bSf r n kk4 (eE r n)).trans (bAi r n kk4)
theorem bCp (m : Nat) : aL (fun kk => D161 r n lY (xs x0 0 (K2 (eE r n) 0 6)) kk) m = (K3 (sV r n m) 0 1 6) := by
 induction m with
 | zero => exact (by kernel_rfl : aL (fun kk => D161 r n lY (xs x0 0 (K2 (eE r n) 0 6)) kk) 0 = (K3 (sV r n 0) 0 1 6))
 | succ m ih =>
  refine (by kernel_rfl : aL (fun kk => D161 r n lY (xs x0 0 (K2 (eE r n) 0 6)) kk) (m + 1) = D161 r n lY (xs x0 0 (K2 (eE r n) 0 6)) (aL (fun kk => D161 r n lY (xs x0 0 (K2 (eE r n) 0 6)) kk) m)).trans ?_
  rw [ih]
  exact (bEz r n (sV r n m)).trans (by kernel_rfl)
theorem cEa : D161 r n aCc (xs x0 0 (K2 (eE r n) 0 6)) (K2 (eE r n) 0 6) = (K3 (bMj r n) 0 1 6) :=
 (by kernel_rfl : D161 r n aCc (xs x0 0 (K2 (eE r n) 0 6)) (K2 (eE r n) 0 6) = aL (fun kk => D161 r n lY (xs x0 0 (K2 (eE r n) 0 6)) kk) n).trans ((bCp r n n).trans (by kernel_rfl))
theorem bBx : D161 r n aBs x0 r161 = D161 r n aDo x0 (K2 (eE r n) 0 6) :=
 congrArg (fun k => D161 r n aDo x0 k) (cAf r n)
theorem bWm : D161 r n aBs x0 r161 = (K3 (aKs r n) 0 1 6) :=
 (bBx r n).trans
 ((by kernel_rfl : D161 r n aDo x0 (K2 (eE r n) 0 6) = D161 r n aCc (xs x0 0 (K2 (eE r n) 0 6)) (K2 (eE r n) 0 6)).trans
 ((cEa r n).trans (by kernel_rfl)))
theorem bCy : D161 r n aAq x0 r161 = D161 r n bQz x0 (K3 (aKs r n) 0 1 6) :=
 congrArg (fun k => D161 r n bQz x0 k) (bWm r n)
theorem bYs : D161 r n aAq x0 r161 = (K2 (aNu r n) 0 1) :=
 (bCy r n).trans
 ((by kernel_rfl))
theorem cKj : D161 r n c161 x0 r161 = D161 r n bBi x0 (K2 (aNu r n) 0 1) :=
 congrArg (fun k => D161 r n bBi x0 k) (bYs r n)
theorem dCt : D161 r n c161 x0 r161 = (K2 (s161 r n) 0 1) :=
 (cKj r n).trans
 ((by kernel_rfl))
theorem cLn : aF CF r n 161 args h = s161 r n (aT args 0) (aT args 1) h :=
 (by kernel_rfl : aF CF r n 161 args h = D161 r n c161 x0 r161 (aJ args) h).trans ((congrFun (congrFun (dCt r n) (aJ args)) h).trans (by kernel_rfl))
end Go.Dd

namespace Go.Dd
open Go.Proofs
variable (r : RT) (n : Nat) (args : List DV) (h : Hp)
noncomputable def eH (r : RT) (n : Nat) (h0 : Hp) : aG :=
 some ((.i .i64 (Int.negSucc 0)), h0)
noncomputable def aUx (r : RT) (n : Nat) (kk4 : dD) (x0 x1 x7 x8 : DV) (h0 : Hp) : aG :=
 bnd (aD .lss x8 x7 h0) fun v1 h1 =>
 aU v1 (
 bnd (aI 4 x0 x8 h1) fun v2 h2 =>
 bnd (aK 4 v2 h2) fun v3 h3 =>
 bnd (cY CF r x1 [v3] h3) fun v4 h4 =>
 aU v4 (
 some (x8, h4)) (
 bnd (aD .add x8 (aH 1) h4) fun v5 h5 =>
    kk4 x0 x1 x7 v5 h5)) (
      eH r n h1)
noncomputable def rK (r : RT) (n : Nat) (m : Nat) : dD :=
 Nat.rec (motive := fun _ => dD) (fun _ _ _ _ _ => none) (fun _ ih => aUx r n ih) m
noncomputable def bFi (r : RT) (n : Nat) : dD := rK r n n
noncomputable def aMs (r : RT) (n : Nat) (x0 x1 x7 x8 : DV) (h0 : Hp) : aG :=
 bFi r n x0 x1 x7 x8 h0
noncomputable def aMq (r : RT) (n : Nat) (x0 x1 : DV) (h0 : Hp) : aG :=
 bnd (bQ x0 h0) fun v1 h1 =>
  aMs r n x0 x1 v1 (aH 0) h1
noncomputable def s163 (r : RT) (n : Nat) (x0 x1 : DV) (h0 : Hp) : aG :=
 aMq r n x0 x1 h0
noncomputable abbrev c163 : Code := cf Tryz.f163
noncomputable abbrev aAf : Code := cR c163
noncomputable abbrev cMt : Code := cR aAf
noncomputable abbrev wJ : Code := cL aAf
noncomputable abbrev aMh : Code := cR wJ
noncomputable abbrev aFt : Code := cL aMh
noncomputable abbrev nQ : Code := cL aFt
noncomputable abbrev bKz : Code := cL wJ
noncomputable abbrev bKe : Code := cL c163
noncomputable abbrev r163 : K := aQ CF Tryz.f163
noncomputable def D163 (r : RT) (n : Nat) (c : Code) (X : Nat → K) (k : K) : K := aM CF r 19 n c X r163 k
theorem bZv : D163 r n cMt x0 r163 = (K0 (eH r n)) :=
 (by kernel_rfl)
theorem bJh (kk4 : dD) : D163 r n nQ (xs x0 0 (K0 (eH r n))) (K4 kk4 0 1 7 8) = (K4 (aUx r n kk4) 0 1 7 8) :=
 (by kernel_rfl)
theorem bOe (m : Nat) : aL (fun kk => D163 r n nQ (xs x0 0 (K0 (eH r n))) kk) m = (K4 (rK r n m) 0 1 7 8) := by
 induction m with
 | zero => exact (by kernel_rfl : aL (fun kk => D163 r n nQ (xs x0 0 (K0 (eH r n))) kk) 0 = (K4 (rK r n 0) 0 1 7 8))
 | succ m ih =>
  refine (by kernel_rfl : aL (fun kk => D163 r n nQ (xs x0 0 (K0 (eH r n))) kk) (m + 1) = D163 r n nQ (xs x0 0 (K0 (eH r n))) (aL (fun kk => D163 r n nQ (xs x0 0 (K0 (eH r n))) kk) m)).trans ?_
  rw [ih]
  exact (bJh r n (rK r n m)).trans (by kernel_rfl)
theorem bZl : D163 r n aFt (xs x0 0 (K0 (eH r n))) (K0 (eH r n)) = (K4 (bFi r n) 0 1 7 8) :=
 (by kernel_rfl : D163 r n aFt (xs x0 0 (K0 (eH r n))) (K0 (eH r n)) = aL (fun kk => D163 r n nQ (xs x0 0 (K0 (eH r n))) kk) n).trans ((bOe r n n).trans (by kernel_rfl))
theorem cFb : D163 r n aMh x0 (K0 (eH r n)) = (K4 (aMs r n) 0 1 7 8) :=
 (by kernel_rfl : D163 r n aMh x0 (K0 (eH r n)) = D163 r n aFt (xs x0 0 (K0 (eH r n))) (K0 (eH r n))).trans
 ((bZl r n).trans (by kernel_rfl))
theorem bMn : D163 r n aAf x0 r163 = D163 r n wJ x0 (K0 (eH r n)) :=
 congrArg (fun k => D163 r n wJ x0 k) (bZv r n)
theorem bOz : D163 r n wJ x0 (K0 (eH r n)) = D163 r n bKz x0 (K4 (aMs r n) 0 1 7 8) :=
 congrArg (fun k => D163 r n bKz x0 k) (cFb r n)
theorem cGx : D163 r n aAf x0 r163 = (K2 (aMq r n) 0 1) :=
 (bMn r n).trans
 ((bOz r n).trans
 ((by kernel_rfl)))
theorem cKx : D163 r n c163 x0 r163 = D163 r n bKe x0 (K2 (aMq r n) 0 1) :=
 congrArg (fun k => D163 r n bKe x0 k) (cGx r n)
theorem cVv : D163 r n c163 x0 r163 = (K2 (s163 r n) 0 1) :=
 (cKx r n).trans
 ((by kernel_rfl))
theorem cKp : aF CF r n 163 args h = s163 r n (aT args 0) (aT args 1) h :=
 (by kernel_rfl : aF CF r n 163 args h = D163 r n c163 x0 r163 (aJ args) h).trans ((congrFun (congrFun (cVv r n) (aJ args)) h).trans (by kernel_rfl))
noncomputable def bZ (r : RT) (n : Nat) (x2 x3 : DV) (h0 : Hp) : aG :=
 some (.t [x2, x3], h0)
noncomputable def cJ (r : RT) (n : Nat) (x3 : DV) (h0 : Hp) : aG :=
 bZ r n (.b true) x3 h0
noncomputable def dA (r : RT) (n : Nat) (h0 : Hp) : aG :=
 cJ r n (.b true) h0
noncomputable def nR (r : RT) (n : Nat) (x2 x3 : DV) (h0 : Hp) : aG :=
 bZ r n x2 x3 h0
noncomputable def lP (r : RT) (n : Nat) (x2 x3 x11 : DV) (h0 : Hp) : aG :=
 aU x11 (
  cJ r n x3 h0) (
  nR r n x2 x3 h0)
noncomputable def uM (r : RT) (n : Nat) (x2 x3 x4 : DV) (h0 : Hp) : aG :=
 bnd (aD .eql x4 (aH 6) h0) fun v1 h1 =>
 aU v1 (
  lP r n x2 x3 v1 h1) (
 bnd (aD .eql x4 (aH 7) h1) fun v2 h2 =>
 aU v2 (
   lP r n x2 x3 v2 h2) (
 bnd (aD .eql x4 (aH 8) h2) fun v3 h3 =>
 aU v3 (
    lP r n x2 x3 v3 h3) (
 bnd (aD .eql x4 (aH 9) h3) fun v4 h4 =>
 aU v4 (
     lP r n x2 x3 v4 h4) (
 bnd (aD .eql x4 (aH 10) h4) fun v5 h5 =>
 aU v5 (
      lP r n x2 x3 v5 h5) (
 bnd (aD .eql x4 (aH 11) h5) fun v6 h6 =>
      lP r n x2 x3 v6 h6)))))
noncomputable def nH (r : RT) (n : Nat) (x2 x3 x4 x5 : DV) (h0 : Hp) : aG :=
 aU x5 (
  dA r n h0) (
  uM r n x2 x3 x4 h0)
noncomputable def aNs (r : RT) (n : Nat) (x2 x3 x4 : DV) (h0 : Hp) : aG :=
 bnd (aD .eql x4 (aH 14) h0) fun v1 h1 =>
 aU v1 (
  nH r n x2 x3 x4 v1 h1) (
 bnd (aD .eql x4 (aH 15) h1) fun v2 h2 =>
 aU v2 (
   nH r n x2 x3 x4 v2 h2) (
 bnd (aD .eql x4 (aH 16) h2) fun v3 h3 =>
 aU v3 (
    nH r n x2 x3 x4 v3 h3) (
 bnd (aD .eql x4 (aH 17) h3) fun v4 h4 =>
 aU v4 (
     nH r n x2 x3 x4 v4 h4) (
 bnd (aD .eql x4 (aH 18) h4) fun v5 h5 =>
     nH r n x2 x3 x4 v5 h5))))
noncomputable def aOb (r : RT) (n : Nat) (x0 x2 x3 : DV) (h0 : Hp) : aG :=
 aNs r n x2 x3 x0 h0
noncomputable def s165 (r : RT) (n : Nat) (x0 : DV) (h0 : Hp) : aG :=
 aOb r n x0 (.b false) (.b false) h0
noncomputable abbrev c165 : Code := cf Tryz.f165
noncomputable abbrev aGl : Code := cR c165
noncomputable abbrev cLb : Code := cR aGl
noncomputable abbrev wD : Code := cL aGl
noncomputable abbrev aNo : Code := cR wD
noncomputable abbrev aGe : Code := cL aNo
noncomputable abbrev cNu : Code := cR aGe
noncomputable abbrev aCo : Code := cL aGe
noncomputable abbrev aBz : Code := cL aCo
noncomputable abbrev cKo : Code := cR aBz
noncomputable abbrev rT : Code := cL aBz
noncomputable abbrev sT : Code := cL rT
noncomputable abbrev cDe : Code := cR sT
noncomputable abbrev oJ : Code := cL sT
noncomputable abbrev sY : Code := cR oJ
noncomputable abbrev bTx : Code := cR sY
noncomputable abbrev aTb : Code := cL sY
noncomputable abbrev pC : Code := cL oJ
noncomputable abbrev cEm : Code := cR pC
noncomputable abbrev aRv : Code := cL pC
noncomputable abbrev aQi : Code := cL wD
noncomputable abbrev aRn : Code := cL c165
noncomputable abbrev r165 : K := aQ CF Tryz.f165
noncomputable def D165 (r : RT) (n : Nat) (c : Code) (X : Nat → K) (k : K) : K := aM CF r 20 n c X r165 k
theorem cGa : D165 r n cLb x0 r165 = (K2 (bZ r n) 2 3) :=
 (by kernel_rfl)
theorem cAj : D165 r n cNu (xs x0 0 (K2 (bZ r n) 2 3)) (K2 (bZ r n) 2 3) = (K1 (cJ r n) 3) :=
 (by kernel_rfl)
theorem bZe : D165 r n cKo (xs (xs x0 0 (K2 (bZ r n) 2 3)) 2 (K1 (cJ r n) 3)) (K1 (cJ r n) 3) = (K0 (dA r n)) :=
 (by kernel_rfl)
theorem bWk : D165 r n cDe (xs (xs (xs x0 0 (K2 (bZ r n) 2 3)) 2 (K1 (cJ r n) 3)) 1 (K0 (dA r n))) (K0 (dA r n)) = (K2 (nR r n) 2 3) :=
 (by kernel_rfl)
theorem cFr : D165 r n bTx (xs (xs (xs x0 0 (K2 (bZ r n) 2 3)) 2 (K1 (cJ r n) 3)) 1 (K0 (dA r n))) (K2 (nR r n) 2 3) = (K3 (lP r n) 2 3 11) :=
 (by kernel_rfl)
theorem bPf : D165 r n sY (xs (xs (xs x0 0 (K2 (bZ r n) 2 3)) 2 (K1 (cJ r n) 3)) 1 (K0 (dA r n))) (K2 (nR r n) 2 3) = D165 r n aTb (xs (xs (xs x0 0 (K2 (bZ r n) 2 3)) 2 (K1 (cJ r n) 3)) 1 (K0 (dA r n))) (K3 (lP r n) 2 3 11) :=
 congrArg (fun k => D165 r n aTb (xs (xs (xs x0 0 (K2 (bZ r n) 2 3)) 2 (K1 (cJ r n) 3)) 1 (K0 (dA r n))) k) (cFr r n)
theorem cFg : D165 r n sY (xs (xs (xs x0 0 (K2 (bZ r n) 2 3)) 2 (K1 (cJ r n) 3)) 1 (K0 (dA r n))) (K2 (nR r n) 2 3) = (K3 (uM r n) 2 3 4) :=
 (bPf r n).trans
 ((by kernel_rfl))
theorem cAs : D165 r n cEm (xs (xs (xs x0 0 (K2 (bZ r n) 2 3)) 2 (K1 (cJ r n) 3)) 1 (K0 (dA r n))) (K3 (uM r n) 2 3 4) = (K4 (nH r n) 2 3 4 5) :=
 (by kernel_rfl)
theorem bHm : D165 r n aGe (xs x0 0 (K2 (bZ r n) 2 3)) (K2 (bZ r n) 2 3) = D165 r n aCo (xs x0 0 (K2 (bZ r n) 2 3)) (K1 (cJ r n) 3) :=
 congrArg (fun k => D165 r n aCo (xs x0 0 (K2 (bZ r n) 2 3)) k) (cAj r n)
theorem bNt : D165 r n aBz (xs (xs x0 0 (K2 (bZ r n) 2 3)) 2 (K1 (cJ r n) 3)) (K1 (cJ r n) 3) = D165 r n rT (xs (xs x0 0 (K2 (bZ r n) 2 3)) 2 (K1 (cJ r n) 3)) (K0 (dA r n)) :=
 congrArg (fun k => D165 r n rT (xs (xs x0 0 (K2 (bZ r n) 2 3)) 2 (K1 (cJ r n) 3)) k) (bZe r n)
theorem bLw : D165 r n sT (xs (xs (xs x0 0 (K2 (bZ r n) 2 3)) 2 (K1 (cJ r n) 3)) 1 (K0 (dA r n))) (K0 (dA r n)) = D165 r n oJ (xs (xs (xs x0 0 (K2 (bZ r n) 2 3)) 2 (K1 (cJ r n) 3)) 1 (K0 (dA r n))) (K2 (nR r n) 2 3) :=
 congrArg (fun k => D165 r n oJ (xs (xs (xs x0 0 (K2 (bZ r n) 2 3)) 2 (K1 (cJ r n) 3)) 1 (K0 (dA r n))) k) (bWk r n)
theorem bPr : D165 r n oJ (xs (xs (xs x0 0 (K2 (bZ r n) 2 3)) 2 (K1 (cJ r n) 3)) 1 (K0 (dA r n))) (K2 (nR r n) 2 3) = D165 r n pC (xs (xs (xs x0 0 (K2 (bZ r n) 2 3)) 2 (K1 (cJ r n) 3)) 1 (K0 (dA r n))) (K3 (uM r n) 2 3 4) :=
 congrArg (fun k => D165 r n pC (xs (xs (xs x0 0 (K2 (bZ r n) 2 3)) 2 (K1 (cJ r n) 3)) 1 (K0 (dA r n))) k) (cFg r n)
theorem bCg : D165 r n pC (xs (xs (xs x0 0 (K2 (bZ r n) 2 3)) 2 (K1 (cJ r n) 3)) 1 (K0 (dA r n))) (K3 (uM r n) 2 3 4) = D165 r n aRv (xs (xs (xs x0 0 (K2 (bZ r n) 2 3)) 2 (K1 (cJ r n) 3)) 1 (K0 (dA r n))) (K4 (nH r n) 2 3 4 5) :=
 congrArg (fun k => D165 r n aRv (xs (xs (xs x0 0 (K2 (bZ r n) 2 3)) 2 (K1 (cJ r n) 3)) 1 (K0 (dA r n))) k) (cAs r n)
theorem cAu : D165 r n aNo x0 (K2 (bZ r n) 2 3) = (K3 (aNs r n) 2 3 4) :=
 (by kernel_rfl : D165 r n aNo x0 (K2 (bZ r n) 2 3) = D165 r n aGe (xs x0 0 (K2 (bZ r n) 2 3)) (K2 (bZ r n) 2 3)).trans
 ((bHm r n).trans
 ((by kernel_rfl : D165 r n aCo (xs x0 0 (K2 (bZ r n) 2 3)) (K1 (cJ r n) 3) = D165 r n aBz (xs (xs x0 0 (K2 (bZ r n) 2 3)) 2 (K1 (cJ r n) 3)) (K1 (cJ r n) 3)).trans
 ((bNt r n).trans
 ((by kernel_rfl : D165 r n rT (xs (xs x0 0 (K2 (bZ r n) 2 3)) 2 (K1 (cJ r n) 3)) (K0 (dA r n)) = D165 r n sT (xs (xs (xs x0 0 (K2 (bZ r n) 2 3)) 2 (K1 (cJ r n) 3)) 1 (K0 (dA r n))) (K0 (dA r n))).trans
 ((bLw r n).trans
 ((bPr r n).trans
 ((bCg r n).trans
 ((by kernel_rfl)))))))))
theorem bJb : D165 r n aGl x0 r165 = D165 r n wD x0 (K2 (bZ r n) 2 3) :=
 congrArg (fun k => D165 r n wD x0 k) (cGa r n)
theorem bFe : D165 r n wD x0 (K2 (bZ r n) 2 3) = D165 r n aQi x0 (K3 (aNs r n) 2 3 4) :=
 congrArg (fun k => D165 r n aQi x0 k) (cAu r n)
theorem cFl : D165 r n aGl x0 r165 = (K3 (aOb r n) 0 2 3) :=
 (bJb r n).trans
 ((bFe r n).trans
 ((by kernel_rfl)))
theorem cKr : D165 r n c165 x0 r165 = D165 r n aRn x0 (K3 (aOb r n) 0 2 3) :=
 congrArg (fun k => D165 r n aRn x0 k) (cFl r n)
theorem cVt : D165 r n c165 x0 r165 = (K1 (s165 r n) 0) :=
 (cKr r n).trans
 ((by kernel_rfl))
theorem cRt : aF CF r n 165 args h = s165 r n (aT args 0) h :=
 (by kernel_rfl : aF CF r n 165 args h = D165 r n c165 x0 r165 (aJ args) h).trans ((congrFun (congrFun (cVt r n) (aJ args)) h).trans (by kernel_rfl))
noncomputable def s166 (r : RT) (n : Nat) (x0 x1 : DV) (h0 : Hp) : aG :=
 bnd (aD .eql x0 (aH 0) h0) fun v1 h1 =>
 bnd (gD v1 false (some (x1, h1)) h1) fun v2 h2 =>
 bnd (gD v1 false (some (v2, h2)) h2) fun v3 h3 =>
 bnd (gD v3 true (some (x0, h3)) h3) fun v4 h4 =>
 bnd (gD v3 true (aD .gtr v4 (aH 0) h4) h4) fun v5 h5 =>
 bnd (gD v1 false (aO v3 v5 (.b false) h5) h5) fun v6 h6 =>
 bnd (gD v1 false (some (v6, h6)) h6) fun v7 h7 =>
 bnd (gD v7 true (some (x0, h7)) h7) fun v8 h8 =>
 bnd (gD v7 true (aD .leq v8 (aH 255) h8) h8) fun v9 h9 =>
 bnd (gD v1 false (aO v7 v9 (.b false) h9) h9) fun v10 h10 =>
 bnd (aO v1 (.b true) v10 h10) fun v11 h11 =>
 some (v11, h11)
noncomputable abbrev c166 : Code := cf Tryz.f166
noncomputable abbrev r166 : K := aQ CF Tryz.f166
noncomputable def D166 (r : RT) (n : Nat) (c : Code) (X : Nat → K) (k : K) : K := aM CF r 18 n c X r166 k
theorem dAg : D166 r n c166 x0 r166 = (K2 (s166 r n) 0 1) :=
 (by kernel_rfl)
theorem cRs : aF CF r n 166 args h = s166 r n (aT args 0) (aT args 1) h :=
 (by kernel_rfl : aF CF r n 166 args h = D166 r n c166 x0 r166 (aJ args) h).trans ((congrFun (congrFun (dAg r n) (aJ args)) h).trans (by kernel_rfl))
noncomputable def cS (r : RT) (n : Nat) (x4 : DV) (h0 : Hp) : aG :=
 some (x4, h0)
noncomputable def aHa (r : RT) (n : Nat) (kk5 : dD) (x0 x1 x4 x5 : DV) (h0 : Hp) : aG :=
 bnd (aD .add x5 (aH 1) h0) fun v1 h1 =>
  kk5 x0 x1 x4 v1 h1
noncomputable def aNt (r : RT) (n : Nat) (kk5 : dD) (x0 x1 x4 x5 : DV) (h0 : Hp) : aG :=
 bnd (aA x1 h0) fun v1 h1 =>
 bnd (r 168 [v1, x5] h1) fun v2 h2 =>
 bnd (aC 0 v2 h2) fun v3 h3 =>
 bnd (aC 1 v2 h3) fun v4 h4 =>
 bnd (gD v4 true (some (x0, h4)) h4) fun v5 h5 =>
 bnd (gD v4 true (some (v3, h5)) h5) fun v6 h6 =>
 bnd (gD v4 true (aD .lss v5 v6 h6) h6) fun v7 h7 =>
 bnd (aO v4 v7 (.b false) h7) fun v8 h8 =>
 aU v8 (
  aHa r n kk5 x0 x1 x5 x5 h8) (
  aHa r n kk5 x0 x1 x4 x5 h8)
noncomputable def aQw (r : RT) (n : Nat) (kk5 : dD) (x0 x1 x4 x5 : DV) (h0 : Hp) : aG :=
 bnd (aD .add x5 (aH 2) h0) fun v1 h1 =>
 bnd (aD .leq v1 x0 h1) fun v2 h2 =>
 aU v2 (
   aNt r n kk5 x0 x1 x4 x5 h2) (
   cS r n x4 h2)
noncomputable def tQ (r : RT) (n : Nat) (m : Nat) : dD :=
 Nat.rec (motive := fun _ => dD) (fun _ _ _ _ _ => none) (fun _ ih => aQw r n ih) m
noncomputable def bMa (r : RT) (n : Nat) : dD := tQ r n n
noncomputable def aOu (r : RT) (n : Nat) (x0 x1 x4 x5 : DV) (h0 : Hp) : aG :=
 bMa r n x0 x1 x4 x5 h0
noncomputable def aKc (r : RT) (n : Nat) (x0 x1 x4 : DV) (h0 : Hp) : aG :=
 aOu r n x0 x1 x4 (aH 0) h0
noncomputable def aKl (r : RT) (n : Nat) (x0 x1 : DV) (h0 : Hp) : aG :=
 aKc r n x0 x1 (.i .i64 (Int.negSucc 0)) h0
noncomputable def s167 (r : RT) (n : Nat) (x0 x1 : DV) (h0 : Hp) : aG :=
 aKl r n x0 x1 h0
noncomputable abbrev c167 : Code := cf Tryz.f167
noncomputable abbrev aFk : Code := cR c167
noncomputable abbrev zE : Code := cR aFk
noncomputable abbrev cNr : Code := cR zE
noncomputable abbrev uH : Code := cL zE
noncomputable abbrev aMr : Code := cR uH
noncomputable abbrev aCr : Code := cL aMr
noncomputable abbrev jP : Code := cL aCr
noncomputable abbrev aEj : Code := cR jP
noncomputable abbrev cOo : Code := cR aEj
noncomputable abbrev aQs : Code := cL aEj
noncomputable abbrev aUt : Code := cL jP
noncomputable abbrev aTk : Code := cL uH
noncomputable abbrev aSa : Code := cL aFk
noncomputable abbrev aUf : Code := cL c167
noncomputable abbrev r167 : K := aQ CF Tryz.f167
noncomputable def D167 (r : RT) (n : Nat) (c : Code) (X : Nat → K) (k : K) : K := aM CF r 28 n c X r167 k
theorem bYn : D167 r n cNr x0 r167 = (K1 (cS r n) 4) :=
 (by kernel_rfl)
theorem cEw (kk5 : dD) : D167 r n cOo (xs x0 0 (K1 (cS r n) 4)) (K4 kk5 0 1 4 5) = (K4 (aHa r n kk5) 0 1 4 5) :=
 (by kernel_rfl)
theorem bOr (kk5 : dD) : D167 r n aEj (xs x0 0 (K1 (cS r n) 4)) (K4 kk5 0 1 4 5) = D167 r n aQs (xs x0 0 (K1 (cS r n) 4)) (K4 (aHa r n kk5) 0 1 4 5) :=
 congrArg (fun k => D167 r n aQs (xs x0 0 (K1 (cS r n) 4)) k) (cEw r n kk5)
theorem bVd (kk5 : dD) : D167 r n aEj (xs x0 0 (K1 (cS r n) 4)) (K4 kk5 0 1 4 5) = (K4 (aNt r n kk5) 0 1 4 5) :=
 (bOr r n kk5).trans
 ((by kernel_rfl))
theorem bJe (kk5 : dD) : D167 r n jP (xs x0 0 (K1 (cS r n) 4)) (K4 kk5 0 1 4 5) = D167 r n aUt (xs x0 0 (K1 (cS r n) 4)) (K4 (aNt r n kk5) 0 1 4 5) :=
 congrArg (fun k => D167 r n aUt (xs x0 0 (K1 (cS r n) 4)) k) (bVd r n kk5)
theorem bIy (kk5 : dD) : D167 r n jP (xs x0 0 (K1 (cS r n) 4)) (K4 kk5 0 1 4 5) = (K4 (aQw r n kk5) 0 1 4 5) :=
 (bJe r n kk5).trans
 ((by kernel_rfl))
theorem bEq (m : Nat) : aL (fun kk => D167 r n jP (xs x0 0 (K1 (cS r n) 4)) kk) m = (K4 (tQ r n m) 0 1 4 5) := by
 induction m with
 | zero => exact (by kernel_rfl : aL (fun kk => D167 r n jP (xs x0 0 (K1 (cS r n) 4)) kk) 0 = (K4 (tQ r n 0) 0 1 4 5))
 | succ m ih =>
  refine (by kernel_rfl : aL (fun kk => D167 r n jP (xs x0 0 (K1 (cS r n) 4)) kk) (m + 1) = D167 r n jP (xs x0 0 (K1 (cS r n) 4)) (aL (fun kk => D167 r n jP (xs x0 0 (K1 (cS r n) 4)) kk) m)).trans ?_
  rw [ih]
  exact (bIy r n (tQ r n m)).trans (by kernel_rfl)
theorem bVm : D167 r n aCr (xs x0 0 (K1 (cS r n) 4)) (K1 (cS r n) 4) = (K4 (bMa r n) 0 1 4 5) :=
 (by kernel_rfl : D167 r n aCr (xs x0 0 (K1 (cS r n) 4)) (K1 (cS r n) 4) = aL (fun kk => D167 r n jP (xs x0 0 (K1 (cS r n) 4)) kk) n).trans ((bEq r n n).trans (by kernel_rfl))
theorem cBg : D167 r n aMr x0 (K1 (cS r n) 4) = (K4 (aOu r n) 0 1 4 5) :=
 (by kernel_rfl : D167 r n aMr x0 (K1 (cS r n) 4) = D167 r n aCr (xs x0 0 (K1 (cS r n) 4)) (K1 (cS r n) 4)).trans
 ((bVm r n).trans (by kernel_rfl))
theorem bIu : D167 r n zE x0 r167 = D167 r n uH x0 (K1 (cS r n) 4) :=
 congrArg (fun k => D167 r n uH x0 k) (bYn r n)
theorem bKh : D167 r n uH x0 (K1 (cS r n) 4) = D167 r n aTk x0 (K4 (aOu r n) 0 1 4 5) :=
 congrArg (fun k => D167 r n aTk x0 k) (cBg r n)
theorem cDs : D167 r n zE x0 r167 = (K3 (aKc r n) 0 1 4) :=
 (bIu r n).trans
 ((bKh r n).trans
 ((by kernel_rfl)))
theorem bNe : D167 r n aFk x0 r167 = D167 r n aSa x0 (K3 (aKc r n) 0 1 4) :=
 congrArg (fun k => D167 r n aSa x0 k) (cDs r n)
theorem cFu : D167 r n aFk x0 r167 = (K2 (aKl r n) 0 1) :=
 (bNe r n).trans
 ((by kernel_rfl))
theorem cNv : D167 r n c167 x0 r167 = D167 r n aUf x0 (K2 (aKl r n) 0 1) :=
 congrArg (fun k => D167 r n aUf x0 k) (cFu r n)
theorem cZi : D167 r n c167 x0 r167 = (K2 (s167 r n) 0 1) :=
 (cNv r n).trans
 ((by kernel_rfl))
theorem cNh : aF CF r n 167 args h = s167 r n (aT args 0) (aT args 1) h :=
 (by kernel_rfl : aF CF r n 167 args h = D167 r n c167 x0 r167 (aJ args) h).trans ((congrFun (congrFun (cZi r n) (aJ args)) h).trans (by kernel_rfl))
noncomputable def s168 (r : RT) (n : Nat) (x0 x1 : DV) (h0 : Hp) : aG :=
 bnd (aI 3 x0 x1 h0) fun v1 h1 =>
 bnd (aB 0 v1 h1) fun v2 h2 =>
 bnd (aA v2 h2) fun v3 h3 =>
 bnd (aD .neq v3 (aH 18) h3) fun v4 h4 =>
 bnd (gD v4 false (some (x1, h4)) h4) fun v5 h5 =>
 bnd (gD v4 false (aD .add v5 (aH 1) h5) h5) fun v6 h6 =>
 bnd (gD v4 false (some (x0, h6)) h6) fun v7 h7 =>
 bnd (gD v4 false (bQ v7 h7) h7) fun v8 h8 =>
 bnd (gD v4 false (aD .geq v6 v8 h8) h8) fun v9 h9 =>
 bnd (aO v4 (.b true) v9 h9) fun v10 h10 =>
 bnd (gD v10 false (some (x0, h10)) h10) fun v11 h11 =>
 bnd (gD v10 false (some (x1, h11)) h11) fun v12 h12 =>
 bnd (gD v10 false (aD .add v12 (aH 1) h12) h12) fun v13 h13 =>
 bnd (gD v10 false (aI 3 v11 v13 h13) h13) fun v14 h14 =>
 bnd (gD v10 false (aB 0 v14 h14) h14) fun v15 h15 =>
 bnd (gD v10 false (aA v15 h15) h15) fun v16 h16 =>
 bnd (gD v10 false (aD .neq v16 (aH 16) h16) h16) fun v17 h17 =>
 bnd (aO v10 (.b true) v17 h17) fun v18 h18 =>
 aU v18 (
 some (.t [(aH 0), (.b false)], h18)) (
 bnd (aD .add x1 (aH 1) h18) fun v19 h19 =>
 bnd (aI 3 x0 v19 h19) fun v20 h20 =>
 bnd (aK 3 v20 h20) fun v21 h21 =>
 bnd (r 169 [v21] h21) fun v22 h22 =>
 bnd (aD .add x1 (aH 2) h22) fun v23 h23 =>
 bnd (aD .gtr v22 v23 h23) fun v24 h24 =>
 some (.t [v22, v24], h24))
noncomputable abbrev c168 : Code := cf Tryz.f168
noncomputable abbrev r168 : K := aQ CF Tryz.f168
noncomputable def D168 (r : RT) (n : Nat) (c : Code) (X : Nat → K) (k : K) : K := aM CF r 40 n c X r168 k
theorem cXd : D168 r n c168 x0 r168 = (K2 (s168 r n) 0 1) :=
 (by kernel_rfl)
theorem cNw : aF CF r n 168 args h = s168 r n (aT args 0) (aT args 1) h :=
 (by kernel_rfl : aF CF r n 168 args h = D168 r n c168 x0 r168 (aJ args) h).trans ((congrFun (congrFun (cXd r n) (aJ args)) h).trans (by kernel_rfl))
noncomputable def s169 (r : RT) (n : Nat) (x0 : DV) (h0 : Hp) : aG :=
 bnd (bS x0 h0) fun v1 h1 =>
 bnd (aB 0 v1 h1) fun v2 h2 =>
 bnd (aA v2 h2) fun v3 h3 =>
 bnd (r 188 [v3] h3) fun v4 h4 =>
 bnd (fL .not v4 h4) fun v5 h5 =>
 aU v5 (
 some ((.i .i64 (Int.negSucc 0)), h5)) (
 bnd (aB 1 v1 h5) fun v6 h6 =>
 bnd (aA v6 h6) fun v7 h7 =>
 bnd (aB 2 v1 h7) fun v8 h8 =>
 bnd (aA v8 h8) fun v9 h9 =>
 bnd (dB .shl v9 (.i .u64 (Int.ofNat 8)) h9) fun v10 h10 =>
 bnd (aD .add v7 v10 h10) fun v11 h11 =>
 some (v11, h11))
noncomputable abbrev c169 : Code := cf Tryz.f169
noncomputable abbrev r169 : K := aQ CF Tryz.f169
noncomputable def D169 (r : RT) (n : Nat) (c : Code) (X : Nat → K) (k : K) : K := aM CF r 13 n c X r169 k
theorem cWa : D169 r n c169 x0 r169 = (K1 (s169 r n) 0) :=
 (by kernel_rfl)
theorem cUq : aF CF r n 169 args h = s169 r n (aT args 0) h :=
 (by kernel_rfl : aF CF r n 169 args h = D169 r n c169 x0 r169 (aJ args) h).trans ((congrFun (congrFun (cWa r n) (aJ args)) h).trans (by kernel_rfl))
noncomputable def s170 (r : RT) (n : Nat) (x0 x1 x2 x3 x4 x5 x6 x7 : DV) (h0 : Hp) : aG :=
 bnd (aA x3 h0) fun v1 h1 =>
 bnd (bQ v1 h1) fun v2 h2 =>
 bnd (aD .geq x0 v2 h2) fun v3 h3 =>
 bnd (gD v3 false (aA x4 h3) h3) fun v4 h4 =>
 bnd (gD v3 false (some (x0, h4)) h4) fun v5 h5 =>
 bnd (gD v3 false (aI 1 v4 v5 h5) h5) fun v6 h6 =>
 bnd (gD v3 false (aA v6 h6) h6) fun v7 h7 =>
 bnd (gD v3 false (some (x1, h7)) h7) fun v8 h8 =>
 bnd (gD v3 false (aD .neq v7 v8 h8) h8) fun v9 h9 =>
 bnd (aO v3 (.b true) v9 h9) fun v10 h10 =>
 bnd (gD v10 false (aA x5 h10) h10) fun v11 h11 =>
 bnd (gD v10 false (some (x0, h11)) h11) fun v12 h12 =>
 bnd (gD v10 false (aI 1 v11 v12 h12) h12) fun v13 h13 =>
 bnd (gD v10 false (aA v13 h13) h13) fun v14 h14 =>
 bnd (gD v10 false (aD .geq v14 (aH 0) h14) h14) fun v15 h15 =>
 bnd (gD v10 false (some (v15, h15)) h15) fun v16 h16 =>
 bnd (gD v16 true (aA x5 h16) h16) fun v17 h17 =>
 bnd (gD v16 true (some (x0, h17)) h17) fun v18 h18 =>
 bnd (gD v16 true (aI 1 v17 v18 h18) h18) fun v19 h19 =>
 bnd (gD v16 true (aA v19 h19) h19) fun v20 h20 =>
 bnd (gD v16 true (some (x2, h20)) h20) fun v21 h21 =>
 bnd (gD v16 true (aD .neq v20 v21 h21) h21) fun v22 h22 =>
 bnd (gD v10 false (aO v16 v22 (.b false) h22) h22) fun v23 h23 =>
 bnd (aO v10 (.b true) v23 h23) fun v24 h24 =>
 aU v24 (
 bnd (aE 1 x6 (.b false) h24) fun _ h25 =>
 some (.t [], h25)) (
 bnd (aA x5 h24) fun v26 h26 =>
 bnd (aI 1 v26 x0 h26) fun v27 h27 =>
 bnd (aA v27 h27) fun v28 h28 =>
 bnd (aD .lss v28 (aH 0) h28) fun v29 h29 =>
 aU v29 (
 bnd (aA x5 h29) fun v30 h30 =>
 bnd (aI 1 v30 x0 h30) fun v31 h31 =>
 bnd (aE 1 v31 x2 h31) fun _ h32 =>
 bnd (aA x7 h32) fun v33 h33 =>
 bnd (aN [(aH 0)] 1 [(0, 1, x0)] h33) fun v34 h34 =>
 bnd (aW 1 8 v33 v34 h34) fun v35 h35 =>
 bnd (aE 1 x7 v35 h35) fun _ h36 =>
 some (.t [], h36)) (
 some (.t [], h29)))
noncomputable abbrev c170 : Code := cf Tryz.f170
noncomputable abbrev r170 : K := aQ CF Tryz.f170
noncomputable def D170 (r : RT) (n : Nat) (c : Code) (X : Nat → K) (k : K) : K := aM CF r 53 n c X r170 k
theorem dBt : D170 r n c170 x0 r170 = (K8 (s170 r n) 0 1 2 3 4 5 6 7) :=
 (by kernel_rfl)
theorem cMi : aF CF r n 170 args h = s170 r n (aT args 0) (aT args 1) (aT args 2) (aT args 3) (aT args 4) (aT args 5) (aT args 6) (aT args 7) h :=
 (by kernel_rfl : aF CF r n 170 args h = D170 r n c170 x0 r170 (aJ args) h).trans ((congrFun (congrFun (dBt r n) (aJ args)) h).trans (by kernel_rfl))
noncomputable def bV (r : RT) (n : Nat) (h0 : Hp) : aG :=
 some ((aH 0), h0)
noncomputable def aFv (r : RT) (n : Nat) (x1 x22 : DV) (h0 : Hp) : aG :=
 aU x22 (
 bnd (aB 2 x1 h0) fun v1 h1 =>
 bnd (aA v1 h1) fun v2 h2 =>
 bnd (fL .neg v2 h2) fun v3 h3 =>
 some (v3, h3)) (
  bV r n h0)
noncomputable def bDi (r : RT) (n : Nat) (x1 x4 : DV) (h0 : Hp) : aG :=
 bnd (aD .eql x4 (aH 14) h0) fun v1 h1 =>
 aU v1 (
  aFv r n x1 v1 h1) (
 bnd (aD .eql x4 (aH 15) h1) fun v2 h2 =>
  aFv r n x1 v2 h2)
noncomputable def pQ (r : RT) (n : Nat) (x1 x4 x17 : DV) (h0 : Hp) : aG :=
 aU x17 (
 some ((.i .i64 (Int.negSucc 0)), h0)) (
  bDi r n x1 x4 h0)
noncomputable def bDs (r : RT) (n : Nat) (x1 x4 : DV) (h0 : Hp) : aG :=
 bnd (aD .eql x4 (aH 12) h0) fun v1 h1 =>
 aU v1 (
  pQ r n x1 x4 v1 h1) (
 bnd (aD .eql x4 (aH 17) h1) fun v2 h2 =>
 aU v2 (
   pQ r n x1 x4 v2 h2) (
 bnd (aD .eql x4 (aH 19) h2) fun v3 h3 =>
 aU v3 (
    pQ r n x1 x4 v3 h3) (
 bnd (aD .eql x4 (aH 20) h3) fun v4 h4 =>
    pQ r n x1 x4 v4 h4)))
noncomputable def gW (r : RT) (n : Nat) (x1 x4 x5 : DV) (h0 : Hp) : aG :=
 aU x5 (
 some ((aH 1), h0)) (
  bDs r n x1 x4 h0)
noncomputable def aKv (r : RT) (n : Nat) (x1 x4 : DV) (h0 : Hp) : aG :=
 bnd (aD .eql x4 (aH 1) h0) fun v1 h1 =>
 aU v1 (
  gW r n x1 x4 v1 h1) (
 bnd (aD .eql x4 (aH 2) h1) fun v2 h2 =>
 aU v2 (
   gW r n x1 x4 v2 h2) (
 bnd (aD .eql x4 (aH 3) h2) fun v3 h3 =>
 aU v3 (
    gW r n x1 x4 v3 h3) (
 bnd (aD .eql x4 (aH 4) h3) fun v4 h4 =>
 aU v4 (
     gW r n x1 x4 v4 h4) (
 bnd (aD .eql x4 (aH 5) h4) fun v5 h5 =>
 aU v5 (
      gW r n x1 x4 v5 h5) (
 bnd (aD .eql x4 (aH 6) h5) fun v6 h6 =>
 aU v6 (
       gW r n x1 x4 v6 h6) (
 bnd (aD .eql x4 (aH 7) h6) fun v7 h7 =>
 aU v7 (
        gW r n x1 x4 v7 h7) (
 bnd (aD .eql x4 (aH 8) h7) fun v8 h8 =>
 aU v8 (
         gW r n x1 x4 v8 h8) (
 bnd (aD .eql x4 (aH 9) h8) fun v9 h9 =>
 aU v9 (
          gW r n x1 x4 v9 h9) (
 bnd (aD .eql x4 (aH 13) h9) fun v10 h10 =>
 aU v10 (
           gW r n x1 x4 v10 h10) (
 bnd (aD .eql x4 (aH 18) h10) fun v11 h11 =>
           gW r n x1 x4 v11 h11))))))))))
noncomputable def vZ (r : RT) (n : Nat) (x1 : DV) (h0 : Hp) : aG :=
 bnd (aB 0 x1 h0) fun v1 h1 =>
 bnd (aA v1 h1) fun v2 h2 =>
  aKv r n x1 v2 h2
noncomputable def s171 (r : RT) (n : Nat) (x0 : DV) (h0 : Hp) : aG :=
 bnd (bS x0 h0) fun v1 h1 =>
  vZ r n v1 h1
noncomputable abbrev c171 : Code := cf Tryz.f171
noncomputable abbrev yR : Code := cR c171
noncomputable abbrev cNs : Code := cR yR
noncomputable abbrev uV : Code := cL yR
noncomputable abbrev aNn : Code := cR uV
noncomputable abbrev aEp : Code := cL aNn
noncomputable abbrev vW : Code := cR aEp
noncomputable abbrev wE : Code := cR vW
noncomputable abbrev wA : Code := cR wE
noncomputable abbrev wX : Code := cR wA
noncomputable abbrev bYm : Code := cR wX
noncomputable abbrev aVa : Code := cL wX
noncomputable abbrev bVn : Code := cL wA
noncomputable abbrev aVk : Code := cL wE
noncomputable abbrev cGz : Code := cL vW
noncomputable abbrev aVi : Code := cL aEp
noncomputable abbrev aXa : Code := cL uV
noncomputable abbrev zI : Code := cL c171
noncomputable abbrev r171 : K := aQ CF Tryz.f171
noncomputable def D171 (r : RT) (n : Nat) (c : Code) (X : Nat → K) (k : K) : K := aM CF r 28 n c X r171 k
theorem bZs : D171 r n cNs x0 r171 = (K0 (bV r n)) :=
 (by kernel_rfl)
theorem cBl : D171 r n bYm (xs x0 0 (K0 (bV r n))) (K0 (bV r n)) = (K2 (aFv r n) 1 22) :=
 (by kernel_rfl)
theorem bNw : D171 r n wX (xs x0 0 (K0 (bV r n))) (K0 (bV r n)) = D171 r n aVa (xs x0 0 (K0 (bV r n))) (K2 (aFv r n) 1 22) :=
 congrArg (fun k => D171 r n aVa (xs x0 0 (K0 (bV r n))) k) (cBl r n)
theorem cGd : D171 r n wX (xs x0 0 (K0 (bV r n))) (K0 (bV r n)) = (K2 (bDi r n) 1 4) :=
 (bNw r n).trans
 ((by kernel_rfl))
theorem cFh : D171 r n wA (xs x0 0 (K0 (bV r n))) (K0 (bV r n)) = (K3 (pQ r n) 1 4 17) :=
 (by kernel_rfl : D171 r n wA (xs x0 0 (K0 (bV r n))) (K0 (bV r n)) = (fun (env : aS) (h : Hp) => aU (opr env (cC wA)) (D171 r n bVn (xs x0 0 (K0 (bV r n))) (K0 (bV r n)) env h) (D171 r n wX (xs x0 0 (K0 (bV r n))) (K0 (bV r n)) env h))).trans (by rw [cGd r n]; kernel_rfl)
theorem bDw : D171 r n wE (xs x0 0 (K0 (bV r n))) (K0 (bV r n)) = D171 r n aVk (xs x0 0 (K0 (bV r n))) (K3 (pQ r n) 1 4 17) :=
 congrArg (fun k => D171 r n aVk (xs x0 0 (K0 (bV r n))) k) (cFh r n)
theorem bVe : D171 r n wE (xs x0 0 (K0 (bV r n))) (K0 (bV r n)) = (K2 (bDs r n) 1 4) :=
 (bDw r n).trans
 ((by kernel_rfl))
theorem bTv : D171 r n vW (xs x0 0 (K0 (bV r n))) (K0 (bV r n)) = (K3 (gW r n) 1 4 5) :=
 (by kernel_rfl : D171 r n vW (xs x0 0 (K0 (bV r n))) (K0 (bV r n)) = (fun (env : aS) (h : Hp) => aU (opr env (cC vW)) (D171 r n cGz (xs x0 0 (K0 (bV r n))) (K0 (bV r n)) env h) (D171 r n wE (xs x0 0 (K0 (bV r n))) (K0 (bV r n)) env h))).trans (by rw [bVe r n]; kernel_rfl)
theorem bSy : D171 r n aEp (xs x0 0 (K0 (bV r n))) (K0 (bV r n)) = D171 r n aVi (xs x0 0 (K0 (bV r n))) (K3 (gW r n) 1 4 5) :=
 congrArg (fun k => D171 r n aVi (xs x0 0 (K0 (bV r n))) k) (bTv r n)
theorem cEr : D171 r n aNn x0 (K0 (bV r n)) = (K2 (aKv r n) 1 4) :=
 (by kernel_rfl : D171 r n aNn x0 (K0 (bV r n)) = D171 r n aEp (xs x0 0 (K0 (bV r n))) (K0 (bV r n))).trans
 ((bSy r n).trans
 ((by kernel_rfl)))
theorem bJu : D171 r n yR x0 r171 = D171 r n uV x0 (K0 (bV r n)) :=
 congrArg (fun k => D171 r n uV x0 k) (bZs r n)
theorem bGj : D171 r n uV x0 (K0 (bV r n)) = D171 r n aXa x0 (K2 (aKv r n) 1 4) :=
 congrArg (fun k => D171 r n aXa x0 k) (cEr r n)
theorem bVs : D171 r n yR x0 r171 = (K1 (vZ r n) 1) :=
 (bJu r n).trans
 ((bGj r n).trans
 ((by kernel_rfl)))
theorem cTu : D171 r n c171 x0 r171 = D171 r n zI x0 (K1 (vZ r n) 1) :=
 congrArg (fun k => D171 r n zI x0 k) (bVs r n)
theorem cLf (q0 : TT1) : D171 r n zI x0 (K1 q0 1) = fun (env : aS) (h : Hp) =>
 bnd (bS (env 0) h) fun v1 h1 =>
  q0 v1 h1 := by kernel_rfl
theorem cCv : (fun (env : aS) (h : Hp) =>
 bnd (bS (env 0) h) fun v1 h1 =>
  vZ r n v1 h1) = (K1 (s171 r n) 0) := by kernel_rfl
theorem cXn : D171 r n c171 x0 r171 = (K1 (s171 r n) 0) :=
 (cTu r n).trans
 ((cLf r n (vZ r n)).trans (cCv r n))
theorem cRm : aF CF r n 171 args h = s171 r n (aT args 0) h :=
 (by kernel_rfl : aF CF r n 171 args h = D171 r n c171 x0 r171 (aJ args) h).trans ((congrFun (congrFun (cXn r n) (aJ args)) h).trans (by kernel_rfl))
noncomputable def cO (r : RT) (n : Nat) (h0 : Hp) : aG :=
 some ((aH 0), h0)
noncomputable def aEb (r : RT) (n : Nat) (x1 x13 : DV) (h0 : Hp) : aG :=
 aU x13 (
 bnd (aB 2 x1 h0) fun v1 h1 =>
 bnd (aA v1 h1) fun v2 h2 =>
 bnd (aD .add v2 (aH 1) h2) fun v3 h3 =>
 some (v3, h3)) (
  cO r n h0)
noncomputable def bDq (r : RT) (n : Nat) (x1 x4 : DV) (h0 : Hp) : aG :=
 bnd (aD .eql x4 (aH 14) h0) fun v1 h1 =>
 aU v1 (
  aEb r n x1 v1 h1) (
 bnd (aD .eql x4 (aH 15) h1) fun v2 h2 =>
  aEb r n x1 v2 h2)
noncomputable def kR (r : RT) (n : Nat) (x1 x4 x5 : DV) (h0 : Hp) : aG :=
 aU x5 (
 some ((aH 1), h0)) (
  bDq r n x1 x4 h0)
noncomputable def aPc (r : RT) (n : Nat) (x1 x4 : DV) (h0 : Hp) : aG :=
 bnd (aD .eql x4 (aH 12) h0) fun v1 h1 =>
 aU v1 (
  kR r n x1 x4 v1 h1) (
 bnd (aD .eql x4 (aH 13) h1) fun v2 h2 =>
 aU v2 (
   kR r n x1 x4 v2 h2) (
 bnd (aD .eql x4 (aH 10) h2) fun v3 h3 =>
 aU v3 (
    kR r n x1 x4 v3 h3) (
 bnd (aD .eql x4 (aH 11) h3) fun v4 h4 =>
 aU v4 (
     kR r n x1 x4 v4 h4) (
 bnd (aD .eql x4 (aH 17) h4) fun v5 h5 =>
 aU v5 (
      kR r n x1 x4 v5 h5) (
 bnd (aD .eql x4 (aH 20) h5) fun v6 h6 =>
 aU v6 (
       kR r n x1 x4 v6 h6) (
 bnd (aD .eql x4 (aH 19) h6) fun v7 h7 =>
       kR r n x1 x4 v7 h7))))))
noncomputable def vA (r : RT) (n : Nat) (x1 : DV) (h0 : Hp) : aG :=
 bnd (aB 0 x1 h0) fun v1 h1 =>
 bnd (aA v1 h1) fun v2 h2 =>
  aPc r n x1 v2 h2
noncomputable def s172 (r : RT) (n : Nat) (x0 : DV) (h0 : Hp) : aG :=
 bnd (bS x0 h0) fun v1 h1 =>
  vA r n v1 h1
noncomputable abbrev c172 : Code := cf Tryz.f172
noncomputable abbrev yM : Code := cR c172
noncomputable abbrev cNa : Code := cR yM
noncomputable abbrev tZ : Code := cL yM
noncomputable abbrev aNf : Code := cR tZ
noncomputable abbrev zU : Code := cL aNf
noncomputable abbrev vF : Code := cR zU
noncomputable abbrev uJ : Code := cR vF
noncomputable abbrev cPx : Code := cR uJ
noncomputable abbrev bBz : Code := cL uJ
noncomputable abbrev cDf : Code := cL vF
noncomputable abbrev aTd : Code := cL zU
noncomputable abbrev aSq : Code := cL tZ
noncomputable abbrev aAz : Code := cL c172
noncomputable abbrev r172 : K := aQ CF Tryz.f172
noncomputable def D172 (r : RT) (n : Nat) (c : Code) (X : Nat → K) (k : K) : K := aM CF r 19 n c X r172 k
theorem cAy : D172 r n cNa x0 r172 = (K0 (cO r n)) :=
 (by kernel_rfl)
theorem cAq : D172 r n cPx (xs x0 0 (K0 (cO r n))) (K0 (cO r n)) = (K2 (aEb r n) 1 13) :=
 (by kernel_rfl)
theorem bDo : D172 r n uJ (xs x0 0 (K0 (cO r n))) (K0 (cO r n)) = D172 r n bBz (xs x0 0 (K0 (cO r n))) (K2 (aEb r n) 1 13) :=
 congrArg (fun k => D172 r n bBz (xs x0 0 (K0 (cO r n))) k) (cAq r n)
theorem bXr : D172 r n uJ (xs x0 0 (K0 (cO r n))) (K0 (cO r n)) = (K2 (bDq r n) 1 4) :=
 (bDo r n).trans
 ((by kernel_rfl))
theorem bVl : D172 r n vF (xs x0 0 (K0 (cO r n))) (K0 (cO r n)) = (K3 (kR r n) 1 4 5) :=
 (by kernel_rfl : D172 r n vF (xs x0 0 (K0 (cO r n))) (K0 (cO r n)) = (fun (env : aS) (h : Hp) => aU (opr env (cC vF)) (D172 r n cDf (xs x0 0 (K0 (cO r n))) (K0 (cO r n)) env h) (D172 r n uJ (xs x0 0 (K0 (cO r n))) (K0 (cO r n)) env h))).trans (by rw [bXr r n]; kernel_rfl)
theorem bHx : D172 r n zU (xs x0 0 (K0 (cO r n))) (K0 (cO r n)) = D172 r n aTd (xs x0 0 (K0 (cO r n))) (K3 (kR r n) 1 4 5) :=
 congrArg (fun k => D172 r n aTd (xs x0 0 (K0 (cO r n))) k) (bVl r n)
theorem cCr : D172 r n aNf x0 (K0 (cO r n)) = (K2 (aPc r n) 1 4) :=
 (by kernel_rfl : D172 r n aNf x0 (K0 (cO r n)) = D172 r n zU (xs x0 0 (K0 (cO r n))) (K0 (cO r n))).trans
 ((bHx r n).trans
 ((by kernel_rfl)))
theorem bMm : D172 r n yM x0 r172 = D172 r n tZ x0 (K0 (cO r n)) :=
 congrArg (fun k => D172 r n tZ x0 k) (cAy r n)
theorem bNf : D172 r n tZ x0 (K0 (cO r n)) = D172 r n aSq x0 (K2 (aPc r n) 1 4) :=
 congrArg (fun k => D172 r n aSq x0 k) (cCr r n)
theorem cHb : D172 r n yM x0 r172 = (K1 (vA r n) 1) :=
 (bMm r n).trans
 ((bNf r n).trans
 ((by kernel_rfl)))
theorem cRy : D172 r n c172 x0 r172 = D172 r n aAz x0 (K1 (vA r n) 1) :=
 congrArg (fun k => D172 r n aAz x0 k) (cHb r n)
theorem cRn (q0 : TT1) : D172 r n aAz x0 (K1 q0 1) = fun (env : aS) (h : Hp) =>
 bnd (bS (env 0) h) fun v1 h1 =>
  q0 v1 h1 := by kernel_rfl
theorem cGs : (fun (env : aS) (h : Hp) =>
 bnd (bS (env 0) h) fun v1 h1 =>
  vA r n v1 h1) = (K1 (s172 r n) 0) := by kernel_rfl
theorem cYh : D172 r n c172 x0 r172 = (K1 (s172 r n) 0) :=
 (cRy r n).trans
 ((cRn r n (vA r n)).trans (cGs r n))
theorem cNl : aF CF r n 172 args h = s172 r n (aT args 0) h :=
 (by kernel_rfl : aF CF r n 172 args h = D172 r n c172 x0 r172 (aJ args) h).trans ((congrFun (congrFun (cYh r n) (aJ args)) h).trans (by kernel_rfl))
noncomputable def eW (r : RT) (n : Nat) (x0 x7 : DV) (h0 : Hp) : aG :=
 bnd (aP x0 h0) fun v1 h1 =>
 bnd (aB 0 v1 h1) fun v2 h2 =>
 bnd (aA v2 h2) fun v3 h3 =>
 bnd (aP x0 h3) fun v4 h4 =>
 bnd (aB 1 v4 h4) fun v5 h5 =>
 bnd (aA v5 h5) fun v6 h6 =>
 bnd (iK v3 (some x7) (some v6) h6) fun v7 h7 =>
 some (v7, h7)
noncomputable def aWc (r : RT) (n : Nat) (kk4 : dD) (x0 x1 x2 x7 : DV) (h0 : Hp) : aG :=
 bnd (aP x0 h0) fun v1 h1 =>
 bnd (aB 1 v1 h1) fun v2 h2 =>
 bnd (aA v2 h2) fun v3 h3 =>
 bnd (aP x0 h3) fun v4 h4 =>
 bnd (aB 0 v4 h4) fun v5 h5 =>
 bnd (aA v5 h5) fun v6 h6 =>
 bnd (eT v6 h6) fun v7 h7 =>
 bnd (aD .lss v3 v7 h7) fun v8 h8 =>
 bnd (gD v8 true (some (x0, h8)) h8) fun v9 h9 =>
 bnd (gD v8 true (aP v9 h9) h9) fun v10 h10 =>
 bnd (gD v8 true (aB 1 v10 h10) h10) fun v11 h11 =>
 bnd (gD v8 true (aA v11 h11) h11) fun v12 h12 =>
 bnd (gD v8 true (some (x7, h12)) h12) fun v13 h13 =>
 bnd (gD v8 true (aD .sub v12 v13 h13) h13) fun v14 h14 =>
 bnd (gD v8 true (some (x2, h14)) h14) fun v15 h15 =>
 bnd (gD v8 true (aD .lss v14 v15 h15) h15) fun v16 h16 =>
 bnd (aO v8 v16 (.b false) h16) fun v17 h17 =>
 bnd (gD v17 true (some (x1, h17)) h17) fun v18 h18 =>
 bnd (gD v17 true (some (x0, h18)) h18) fun v19 h19 =>
 bnd (gD v17 true (aP v19 h19) h19) fun v20 h20 =>
 bnd (gD v17 true (aB 0 v20 h20) h20) fun v21 h21 =>
 bnd (gD v17 true (aA v21 h21) h21) fun v22 h22 =>
 bnd (gD v17 true (some (x0, h22)) h22) fun v23 h23 =>
 bnd (gD v17 true (aP v23 h23) h23) fun v24 h24 =>
 bnd (gD v17 true (aB 1 v24 h24) h24) fun v25 h25 =>
 bnd (gD v17 true (aA v25 h25) h25) fun v26 h26 =>
 bnd (gD v17 true (fB v22 v26 h26) h26) fun v27 h27 =>
 bnd (gD v17 true (cY CF r v18 [v27] h27) h27) fun v28 h28 =>
 bnd (aO v17 v28 (.b false) h28) fun v29 h29 =>
 aU v29 (
 bnd (aP x0 h29) fun v30 h30 =>
 bnd (aB 1 v30 h30) fun v31 h31 =>
 bnd (aA v31 h31) fun v32 h32 =>
 bnd (aD .add v32 (aH 1) h32) fun v33 h33 =>
 bnd (aP x0 h33) fun v34 h34 =>
 bnd (aB 1 v34 h34) fun v35 h35 =>
 bnd (aE 1 v35 v33 h35) fun _ h36 =>
      kk4 x0 x1 x2 x7 h36) (
      eW r n x0 x7 h29)
noncomputable def rX (r : RT) (n : Nat) (m : Nat) : dD :=
 Nat.rec (motive := fun _ => dD) (fun _ _ _ _ _ => none) (fun _ ih => aWc r n ih) m
noncomputable def bHg (r : RT) (n : Nat) : dD := rX r n n
noncomputable def aLi (r : RT) (n : Nat) (x0 x1 x2 x7 : DV) (h0 : Hp) : aG :=
 bHg r n x0 x1 x2 x7 h0
noncomputable def aNe (r : RT) (n : Nat) (x0 x1 x2 : DV) (h0 : Hp) : aG :=
 bnd (aP x0 h0) fun v1 h1 =>
 bnd (aB 1 v1 h1) fun v2 h2 =>
 bnd (aA v2 h2) fun v3 h3 =>
  aLi r n x0 x1 x2 v3 h3
noncomputable def s175 (r : RT) (n : Nat) (x0 x1 x2 : DV) (h0 : Hp) : aG :=
 aNe r n x0 x1 x2 h0
noncomputable abbrev c175 : Code := cf Tryz.f175
noncomputable abbrev yV : Code := cR c175
noncomputable abbrev aDl : Code := cR yV
noncomputable abbrev cPj : Code := cR aDl
noncomputable abbrev aAg : Code := cL aDl
noncomputable abbrev yI : Code := cL aAg
noncomputable abbrev nI : Code := cL yI
noncomputable abbrev bLn : Code := cL yV
noncomputable abbrev bOm : Code := cL c175
noncomputable abbrev r175 : K := aQ CF Tryz.f175
noncomputable def D175 (r : RT) (n : Nat) (c : Code) (X : Nat → K) (k : K) : K := aM CF r 62 n c X r175 k
theorem cDq : D175 r n cPj x0 r175 = (K2 (eW r n) 0 7) :=
 (by kernel_rfl)
theorem bTi (kk4 : dD) : D175 r n nI (xs x0 0 (K2 (eW r n) 0 7)) (K4 kk4 0 1 2 7) = (K4 (aWc r n kk4) 0 1 2 7) :=
 (by kernel_rfl)
theorem bIl (m : Nat) : aL (fun kk => D175 r n nI (xs x0 0 (K2 (eW r n) 0 7)) kk) m = (K4 (rX r n m) 0 1 2 7) := by
 induction m with
 | zero => exact (by kernel_rfl : aL (fun kk => D175 r n nI (xs x0 0 (K2 (eW r n) 0 7)) kk) 0 = (K4 (rX r n 0) 0 1 2 7))
 | succ m ih =>
  refine (by kernel_rfl : aL (fun kk => D175 r n nI (xs x0 0 (K2 (eW r n) 0 7)) kk) (m + 1) = D175 r n nI (xs x0 0 (K2 (eW r n) 0 7)) (aL (fun kk => D175 r n nI (xs x0 0 (K2 (eW r n) 0 7)) kk) m)).trans ?_
  rw [ih]
  exact (bTi r n (rX r n m)).trans (by kernel_rfl)
theorem bYj : D175 r n yI (xs x0 0 (K2 (eW r n) 0 7)) (K2 (eW r n) 0 7) = (K4 (bHg r n) 0 1 2 7) :=
 (by kernel_rfl : D175 r n yI (xs x0 0 (K2 (eW r n) 0 7)) (K2 (eW r n) 0 7) = aL (fun kk => D175 r n nI (xs x0 0 (K2 (eW r n) 0 7)) kk) n).trans ((bIl r n n).trans (by kernel_rfl))
theorem bIi : D175 r n aDl x0 r175 = D175 r n aAg x0 (K2 (eW r n) 0 7) :=
 congrArg (fun k => D175 r n aAg x0 k) (cDq r n)
theorem bWt : D175 r n aDl x0 r175 = (K4 (aLi r n) 0 1 2 7) :=
 (bIi r n).trans
 ((by kernel_rfl : D175 r n aAg x0 (K2 (eW r n) 0 7) = D175 r n yI (xs x0 0 (K2 (eW r n) 0 7)) (K2 (eW r n) 0 7)).trans
 ((bYj r n).trans (by kernel_rfl)))
theorem bCk : D175 r n yV x0 r175 = D175 r n bLn x0 (K4 (aLi r n) 0 1 2 7) :=
 congrArg (fun k => D175 r n bLn x0 k) (bWt r n)
theorem bXi : D175 r n yV x0 r175 = (K3 (aNe r n) 0 1 2) :=
 (bCk r n).trans
 ((by kernel_rfl))
theorem cLj : D175 r n c175 x0 r175 = D175 r n bOm x0 (K3 (aNe r n) 0 1 2) :=
 congrArg (fun k => D175 r n bOm x0 k) (bXi r n)
theorem cWf : D175 r n c175 x0 r175 = (K3 (s175 r n) 0 1 2) :=
 (cLj r n).trans
 ((by kernel_rfl))
theorem cMf : aF CF r n 175 args h = s175 r n (aT args 0) (aT args 1) (aT args 2) h :=
 (by kernel_rfl : aF CF r n 175 args h = D175 r n c175 x0 r175 (aJ args) h).trans ((congrFun (congrFun (cWf r n) (aJ args)) h).trans (by kernel_rfl))
noncomputable def s176 (r : RT) (n : Nat) (x0 : DV) (h0 : Hp) : aG :=
 bnd (bS x0 h0) fun v1 h1 =>
 some ((.f 200 [] [v1]), h1)
noncomputable abbrev c176 : Code := cf Tryz.f176
noncomputable abbrev r176 : K := aQ CF Tryz.f176
noncomputable def D176 (r : RT) (n : Nat) (c : Code) (X : Nat → K) (k : K) : K := aM CF r 4 n c X r176 k
theorem dAy : D176 r n c176 x0 r176 = (K1 (s176 r n) 0) :=
 (by kernel_rfl)
theorem cUw : aF CF r n 176 args h = s176 r n (aT args 0) h :=
 (by kernel_rfl : aF CF r n 176 args h = D176 r n c176 x0 r176 (aJ args) h).trans ((congrFun (congrFun (dAy r n) (aJ args)) h).trans (by kernel_rfl))
noncomputable def s177 (r : RT) (n : Nat) (x0 x1 : DV) (h0 : Hp) : aG :=
 bnd (r 201 [x0, x1] h0) fun v1 h1 =>
 some (v1, h1)
noncomputable abbrev c177 : Code := cf Tryz.f177
noncomputable abbrev r177 : K := aQ CF Tryz.f177
noncomputable def D177 (r : RT) (n : Nat) (c : Code) (X : Nat → K) (k : K) : K := aM CF r 8 n c X r177 k
theorem cVs : D177 r n c177 x0 r177 = (K2 (s177 r n) 0 1) :=
 (by kernel_rfl)
theorem cQk : aF CF r n 177 args h = s177 r n (aT args 0) (aT args 1) h :=
 (by kernel_rfl : aF CF r n 177 args h = D177 r n c177 x0 r177 (aJ args) h).trans ((congrFun (congrFun (cVs r n) (aJ args)) h).trans (by kernel_rfl))
noncomputable def gT (r : RT) (n : Nat) (x2 x4 x5 : DV) (h0 : Hp) : aG :=
 bnd (aK 4 x4 h0) fun v1 h1 =>
 bnd (aE 4 x2 v1 h1) fun _ h2 =>
 bnd (aK 4 x2 h2) fun v3 _ =>
 some (.t [v3, x5], h2)
noncomputable def aNh (r : RT) (n : Nat) (x0 x2 x4 x5 x6 : DV) (h0 : Hp) : aG :=
 bnd (r 203 [x6] h0) fun v1 h1 =>
 aU v1 (
 bnd (aB 0 x4 h1) fun v2 h2 =>
 bnd (aE 1 v2 (aH 1) h2) fun _ h3 =>
 bnd (r 204 [x0] h3) fun v4 h4 =>
 bnd (aC 0 v4 h4) fun v5 h5 =>
 bnd (aC 1 v4 h5) fun v6 h6 =>
 bnd (aB 1 x4 h6) fun v7 h7 =>
 bnd (aE 1 v7 v5 h7) fun _ h8 =>
 bnd (aD .eql v6 (aH 0) h8) fun v9 h9 =>
 bnd (gD v9 true (some (x0, h9)) h9) fun v10 h10 =>
 bnd (gD v9 true (r 205 [v10] h10) h10) fun v11 h11 =>
 bnd (aO v9 v11 (.b false) h11) fun v12 h12 =>
 aU v12 (
 bnd (aB 1 x4 h12) fun v13 h13 =>
 bnd (aA v13 h13) fun v14 h14 =>
 bnd (fE .add v14 (.s [58]) h14) fun v15 h15 =>
 bnd (aB 0 x4 h15) fun v16 h16 =>
 bnd (aE 1 v16 (aH 2) h16) fun _ h17 =>
 bnd (aB 1 x4 h17) fun v18 h18 =>
 bnd (aE 1 v18 v15 h18) fun _ h19 =>
      gT r n x2 x4 v6 h19) (
      gT r n x2 x4 v6 h12)) (
 bnd (r 206 [x6] h1) fun v20 h20 =>
 aU v20 (
 bnd (aB 0 x4 h20) fun v21 h21 =>
 bnd (aE 1 v21 (aH 4) h21) fun _ h22 =>
 bnd (r 207 [x0] h22) fun v23 h23 =>
 bnd (aC 0 v23 h23) fun v24 h24 =>
 bnd (aC 1 v23 h24) fun v25 h25 =>
 bnd (aB 2 x4 h25) fun v26 h26 =>
 bnd (aE 1 v26 v24 h26) fun _ h27 =>
      gT r n x2 x4 v25 h27) (
 bnd (aD .eql x6 (.i .u8 (Int.ofNat 39)) h20) fun v28 h28 =>
 aU v28 (
 bnd (aP x0 h28) fun v29 h29 =>
 bnd (aB 1 v29 h29) fun v30 h30 =>
 bnd (aA v30 h30) fun v31 h31 =>
 bnd (aD .add v31 (aH 1) h31) fun v32 h32 =>
 bnd (aP x0 h32) fun v33 h33 =>
 bnd (aB 1 v33 h33) fun v34 h34 =>
 bnd (aE 1 v34 v32 h34) fun _ h35 =>
 bnd (aB 0 x4 h35) fun v36 h36 =>
 bnd (aE 1 v36 (aH 5) h36) fun _ h37 =>
 bnd (r 208 [x0] h37) fun v38 h38 =>
 bnd (aC 0 v38 h38) fun v39 h39 =>
 bnd (aC 1 v38 h39) fun v40 h40 =>
 bnd (aB 1 x4 h40) fun v41 h41 =>
 bnd (aE 1 v41 v39 h41) fun _ h42 =>
    gT r n x2 x4 v40 h42) (
 bnd (aD .eql x6 (.i .u8 (Int.ofNat 35)) h28) fun v43 h43 =>
 bnd (gD v43 true (some (x0, h43)) h43) fun v44 h44 =>
 bnd (gD v43 true (r 202 [v44, (aH 1)] h44) h44) fun v45 h45 =>
 bnd (gD v43 true (aD .eql v45 (.i .u8 (Int.ofNat 40)) h45) h45) fun v46 h46 =>
 bnd (aO v43 v46 (.b false) h46) fun v47 h47 =>
 aU v47 (
 bnd (aP x0 h47) fun v48 h48 =>
 bnd (aB 1 v48 h48) fun v49 h49 =>
 bnd (aA v49 h49) fun v50 h50 =>
 bnd (aD .add v50 (aH 2) h50) fun v51 h51 =>
 bnd (aP x0 h51) fun v52 h52 =>
 bnd (aB 1 v52 h52) fun v53 h53 =>
 bnd (aE 1 v53 v51 h53) fun _ h54 =>
 bnd (aB 0 x4 h54) fun v55 h55 =>
 bnd (aE 1 v55 (aH 7) h55) fun _ h56 =>
     gT r n x2 x4 x5 h56) (
 bnd (aD .eql x6 (.i .u8 (Int.ofNat 35)) h47) fun v57 h57 =>
 aU v57 (
 bnd (aP x0 h57) fun v58 h58 =>
 bnd (aB 1 v58 h58) fun v59 h59 =>
 bnd (aA v59 h59) fun v60 h60 =>
 bnd (aD .add v60 (aH 1) h60) fun v61 h61 =>
 bnd (aP x0 h61) fun v62 h62 =>
 bnd (aB 1 v62 h62) fun v63 h63 =>
 bnd (aE 1 v63 v61 h63) fun _ h64 =>
 bnd (aB 0 x4 h64) fun v65 h65 =>
 bnd (aE 1 v65 (aH 6) h65) fun _ h66 =>
 bnd (r 209 [x0] h66) fun v67 h67 =>
 bnd (aC 0 v67 h67) fun v68 h68 =>
 bnd (aC 1 v67 h68) fun v69 h69 =>
 bnd (aB 1 x4 h69) fun v70 h70 =>
 bnd (aE 1 v70 v68 h70) fun _ h71 =>
      gT r n x2 x4 v69 h71) (
 bnd (aD .eql x6 (.i .u8 (Int.ofNat 58)) h57) fun v72 h72 =>
 bnd (gD v72 true (some (x0, h72)) h72) fun v73 h73 =>
 bnd (gD v72 true (r 202 [v73, (aH 1)] h73) h73) fun v74 h74 =>
 bnd (gD v72 true (aD .eql v74 (.i .u8 (Int.ofNat 61)) h74) h74) fun v75 h75 =>
 bnd (aO v72 v75 (.b false) h75) fun v76 h76 =>
 aU v76 (
 bnd (aP x0 h76) fun v77 h77 =>
 bnd (aB 1 v77 h77) fun v78 h78 =>
 bnd (aA v78 h78) fun v79 h79 =>
 bnd (aD .add v79 (aH 2) h79) fun v80 h80 =>
 bnd (aP x0 h80) fun v81 h81 =>
 bnd (aB 1 v81 h81) fun v82 h82 =>
 bnd (aE 1 v82 v80 h82) fun _ h83 =>
 bnd (aB 0 x4 h83) fun v84 h84 =>
 bnd (aE 1 v84 (aH 9) h84) fun _ h85 =>
       gT r n x2 x4 x5 h85) (
 bnd (aD .eql x6 (.i .u8 (Int.ofNat 58)) h76) fun v86 h86 =>
 bnd (gD v86 true (some (x0, h86)) h86) fun v87 h87 =>
 bnd (gD v86 true (r 202 [v87, (aH 1)] h87) h87) fun v88 h88 =>
 bnd (gD v86 true (r 203 [v88] h88) h88) fun v89 h89 =>
 bnd (aO v86 v89 (.b false) h89) fun v90 h90 =>
 aU v90 (
 bnd (aP x0 h90) fun v91 h91 =>
 bnd (aB 1 v91 h91) fun v92 h92 =>
 bnd (aA v92 h92) fun v93 h93 =>
 bnd (aD .add v93 (aH 1) h93) fun v94 h94 =>
 bnd (aP x0 h94) fun v95 h95 =>
 bnd (aB 1 v95 h95) fun v96 h96 =>
 bnd (aE 1 v96 v94 h96) fun _ h97 =>
 bnd (aB 0 x4 h97) fun v98 h98 =>
 bnd (aE 1 v98 (aH 8) h98) fun _ h99 =>
 bnd (r 204 [x0] h99) fun v100 h100 =>
 bnd (aC 0 v100 h100) fun v101 h101 =>
 bnd (aC 1 v100 h101) fun v102 h102 =>
 bnd (aB 1 x4 h102) fun v103 h103 =>
 bnd (aE 1 v103 v101 h103) fun _ h104 =>
        gT r n x2 x4 v102 h104) (
 bnd (r 176 [(.s [43, 45, 42, 47, 60, 62, 61, 126, 44, 64, 38, 37])] h90) fun v105 h105 =>
 bnd (cY CF r v105 [x6] h105) fun v106 h106 =>
 aU v106 (
 bnd (r 176 [(.s [43, 45, 42, 47, 60, 62, 61, 126, 44, 64, 38, 37])] h106) fun v107 h107 =>
 bnd (r 175 [x0, v107, (aH 2)] h107) fun v108 h108 =>
 bnd (aB 0 x4 h108) fun v109 h109 =>
 bnd (aE 1 v109 (aH 3) h109) fun _ h110 =>
 bnd (aB 1 x4 h110) fun v111 h111 =>
 bnd (aE 1 v111 v108 h111) fun _ h112 =>
         gT r n x2 x4 x5 h112) (
 bnd (r 176 [(.s [94, 46, 59, 40, 41, 91, 93, 124])] h106) fun v113 h113 =>
 bnd (cY CF r v113 [x6] h113) fun v114 h114 =>
 aU v114 (
 bnd (r 176 [(.s [94, 46, 59, 40, 41, 91, 93, 124])] h114) fun v115 h115 =>
 bnd (r 175 [x0, v115, (aH 1)] h115) fun v116 h116 =>
 bnd (aB 0 x4 h116) fun v117 h117 =>
 bnd (aE 1 v117 (aH 10) h117) fun _ h118 =>
 bnd (aB 1 x4 h118) fun v119 h119 =>
 bnd (aE 1 v119 v116 h119) fun _ h120 =>
          gT r n x2 x4 x5 h120) (
          gT r n x2 x4 (aH 10) h114)))))))))
noncomputable def aOh (r : RT) (n : Nat) (x0 x2 x4 x5 : DV) (h0 : Hp) : aG :=
 bnd (r 202 [x0, (aH 0)] h0) fun v1 h1 =>
  aNh r n x0 x2 x4 x5 v1 h1
noncomputable def uL (r : RT) (n : Nat) (x0 x2 x4 : DV) (h0 : Hp) : aG :=
 aOh r n x0 x2 x4 (aH 0) h0
noncomputable def pN (r : RT) (n : Nat) (x0 x2 : DV) (h0 : Hp) : aG :=
 bnd (aP x0 h0) fun v1 h1 =>
 bnd (aB 1 v1 h1) fun v2 h2 =>
 bnd (aA v2 h2) fun v3 h3 =>
 bnd (aX [(aH 0), (.s []), (aH 0), (aH 0)] [(3, 1, v3)] h3) fun v4 h4 =>
 bnd (bJ [(aH 0), (.s []), (aH 0), (aH 0)] h4) fun v5 h5 =>
 bnd (aE 4 v5 v4 h5) fun _ h6 =>
  uL r n x0 x2 v5 h6
noncomputable def s178 (r : RT) (n : Nat) (x0 : DV) (h0 : Hp) : aG :=
 bnd (bJ [(aH 0), (.s []), (aH 0), (aH 0)] h0) fun v1 h1 =>
  pN r n x0 v1 h1
noncomputable abbrev c178 : Code := cf Tryz.f178
noncomputable abbrev aDz : Code := cR c178
noncomputable abbrev aAt : Code := cR aDz
noncomputable abbrev aGd : Code := cR aAt
noncomputable abbrev aCs : Code := cR aGd
noncomputable abbrev cOk : Code := cR aCs
noncomputable abbrev bCa : Code := cL aCs
noncomputable abbrev bLd : Code := cL aGd
noncomputable abbrev bGp : Code := cL aAt
noncomputable abbrev aOl : Code := cL aDz
noncomputable abbrev aCz : Code := cL c178
noncomputable abbrev r178 : K := aQ CF Tryz.f178
noncomputable def D178 (r : RT) (n : Nat) (c : Code) (X : Nat → K) (k : K) : K := aM CF r 153 n c X r178 k
theorem bZh : D178 r n cOk x0 r178 = (K3 (gT r n) 2 4 5) :=
 (by kernel_rfl)
theorem bMz : D178 r n aCs x0 r178 = D178 r n bCa x0 (K3 (gT r n) 2 4 5) :=
 congrArg (fun k => D178 r n bCa x0 k) (bZh r n)
theorem bVv : D178 r n aCs x0 r178 = (K5 (aNh r n) 0 2 4 5 6) :=
 (bMz r n).trans
 ((by kernel_rfl))
theorem bHk : D178 r n aGd x0 r178 = D178 r n bLd x0 (K5 (aNh r n) 0 2 4 5 6) :=
 congrArg (fun k => D178 r n bLd x0 k) (bVv r n)
theorem cDz : D178 r n aGd x0 r178 = (K4 (aOh r n) 0 2 4 5) :=
 (bHk r n).trans
 ((by kernel_rfl))
theorem bSs : D178 r n aAt x0 r178 = D178 r n bGp x0 (K4 (aOh r n) 0 2 4 5) :=
 congrArg (fun k => D178 r n bGp x0 k) (cDz r n)
theorem bWg : D178 r n aAt x0 r178 = (K3 (uL r n) 0 2 4) :=
 (bSs r n).trans
 ((by kernel_rfl))
theorem bLu : D178 r n aDz x0 r178 = D178 r n aOl x0 (K3 (uL r n) 0 2 4) :=
 congrArg (fun k => D178 r n aOl x0 k) (bWg r n)
theorem bKy (q0 : mE) : D178 r n aOl x0 (K3 q0 0 2 4) = fun (env : aS) (h : Hp) =>
 bnd (aP (env 0) h) fun v1 h1 =>
 bnd (aB 1 v1 h1) fun v2 h2 =>
 bnd (aA v2 h2) fun v3 h3 =>
 bnd (aX [(aH 0), (.s []), (aH 0), (aH 0)] [(3, 1, v3)] h3) fun v4 h4 =>
 bnd (bJ [(aH 0), (.s []), (aH 0), (aH 0)] h4) fun v5 h5 =>
 bnd (aE 4 v5 v4 h5) fun _ h6 =>
  q0 (env 0) (env 2) v5 h6 := by kernel_rfl
theorem aZn : (fun (env : aS) (h : Hp) =>
 bnd (aP (env 0) h) fun v1 h1 =>
 bnd (aB 1 v1 h1) fun v2 h2 =>
 bnd (aA v2 h2) fun v3 h3 =>
 bnd (aX [(aH 0), (.s []), (aH 0), (aH 0)] [(3, 1, v3)] h3) fun v4 h4 =>
 bnd (bJ [(aH 0), (.s []), (aH 0), (aH 0)] h4) fun v5 h5 =>
 bnd (aE 4 v5 v4 h5) fun _ h6 =>
  uL r n (env 0) (env 2) v5 h6) = (K2 (pN r n) 0 2) := by kernel_rfl
theorem cAa : D178 r n aDz x0 r178 = (K2 (pN r n) 0 2) :=
 (bLu r n).trans
 ((bKy r n (uL r n)).trans (aZn r n))
theorem cRh : D178 r n c178 x0 r178 = D178 r n aCz x0 (K2 (pN r n) 0 2) :=
 congrArg (fun k => D178 r n aCz x0 k) (cAa r n)
theorem cRb (q0 : gP) : D178 r n aCz x0 (K2 q0 0 2) = fun (env : aS) (h : Hp) =>
 bnd (bJ [(aH 0), (.s []), (aH 0), (aH 0)] h) fun v1 h1 =>
  q0 (env 0) v1 h1 := by kernel_rfl
theorem cFe : (fun (env : aS) (h : Hp) =>
 bnd (bJ [(aH 0), (.s []), (aH 0), (aH 0)] h) fun v1 h1 =>
  pN r n (env 0) v1 h1) = (K1 (s178 r n) 0) := by kernel_rfl
theorem dBk : D178 r n c178 x0 r178 = (K1 (s178 r n) 0) :=
 (cRh r n).trans
 ((cRb r n (pN r n)).trans (cFe r n))
theorem cLd : aF CF r n 178 args h = s178 r n (aT args 0) h :=
 (by kernel_rfl : aF CF r n 178 args h = D178 r n c178 x0 r178 (aJ args) h).trans ((congrFun (congrFun (dBk r n) (aJ args)) h).trans (by kernel_rfl))
noncomputable def s179 (r : RT) (n : Nat) (x0 x1 x2 : DV) (h0 : Hp) : aG :=
 bnd (r 183 [x0, (aH 0)] h0) fun v1 h1 =>
 bnd (bJ [(aH 0), (.s []), (aH 0), (aH 0)] h1) fun v2 h2 =>
 bnd (aE 4 v2 v1 h2) fun _ h3 =>
 bnd (aP x0 h3) fun v4 h4 =>
 bnd (aB 3 v4 h4) fun v5 h5 =>
 bnd (aA v5 h5) fun v6 h6 =>
 bnd (aD .eql v6 (aH 0) h6) fun v7 h7 =>
 bnd (gD v7 true (aB 0 v2 h7) h7) fun v8 h8 =>
 bnd (gD v7 true (aA v8 h8) h8) fun v9 h9 =>
 bnd (gD v7 true (some (x1, h9)) h9) fun v10 h10 =>
 bnd (gD v7 true (aD .eql v9 v10 h10) h10) fun v11 h11 =>
 bnd (aO v7 v11 (.b false) h11) fun v12 h12 =>
 bnd (gD v12 true (some (x2, h12)) h12) fun v13 h13 =>
 bnd (gD v12 true (fE .eql v13 (.s []) h13) h13) fun v14 h14 =>
 bnd (gD v12 true (some (v14, h14)) h14) fun v15 h15 =>
 bnd (gD v15 false (aB 1 v2 h15) h15) fun v16 h16 =>
 bnd (gD v15 false (aA v16 h16) h16) fun v17 h17 =>
 bnd (gD v15 false (some (x2, h17)) h17) fun v18 h18 =>
 bnd (gD v15 false (fE .eql v17 v18 h18) h18) fun v19 h19 =>
 bnd (gD v12 true (aO v15 (.b true) v19 h19) h19) fun v20 h20 =>
 bnd (aO v12 v20 (.b false) h20) fun v21 h21 =>
 some (v21, h21)
noncomputable abbrev c179 : Code := cf Tryz.f179
noncomputable abbrev r179 : K := aQ CF Tryz.f179
noncomputable def D179 (r : RT) (n : Nat) (c : Code) (X : Nat → K) (k : K) : K := aM CF r 31 n c X r179 k
theorem cXp : D179 r n c179 x0 r179 = (K3 (s179 r n) 0 1 2) :=
 (by kernel_rfl)
theorem cNk : aF CF r n 179 args h = s179 r n (aT args 0) (aT args 1) (aT args 2) h :=
 (by kernel_rfl : aF CF r n 179 args h = D179 r n c179 x0 r179 (aJ args) h).trans ((congrFun (congrFun (cXp r n) (aJ args)) h).trans (by kernel_rfl))
noncomputable def aAl (r : RT) (n : Nat) (x2 x3 : DV) (h0 : Hp) : aG :=
 bnd (aK 4 x3 h0) fun v1 h1 =>
 bnd (aE 4 x2 v1 h1) fun _ h2 =>
 bnd (aK 4 x2 h2) fun v3 _ =>
 some (v3, h2)
noncomputable def vP (r : RT) (n : Nat) (x0 x2 x3 : DV) (h0 : Hp) : aG :=
 bnd (aB 0 x3 h0) fun v1 h1 =>
 bnd (aA v1 h1) fun v2 h2 =>
 bnd (aD .neq v2 (aH 0) h2) fun v3 h3 =>
 aU v3 (
 bnd (aP x0 h3) fun v4 h4 =>
 bnd (aB 0 v4 h4) fun v5 h5 =>
 bnd (aA v5 h5) fun v6 h6 =>
 bnd (cG 4 v6 (some (aH 1)) none h6) fun v7 h7 =>
 bnd (aP x0 h7) fun v8 h8 =>
 bnd (aB 0 v8 h8) fun v9 h9 =>
 bnd (aE 1 v9 v7 h9) fun _ h10 =>
  aAl r n x2 x3 h10) (
  aAl r n x2 x3 h3)
noncomputable def qI (r : RT) (n : Nat) (x0 x2 : DV) (h0 : Hp) : aG :=
 bnd (r 183 [x0, (aH 0)] h0) fun v1 h1 =>
 bnd (bJ [(aH 0), (.s []), (aH 0), (aH 0)] h1) fun v2 h2 =>
 bnd (aE 4 v2 v1 h2) fun _ h3 =>
  vP r n x0 x2 v2 h3
noncomputable def s180 (r : RT) (n : Nat) (x0 : DV) (h0 : Hp) : aG :=
 bnd (bJ [(aH 0), (.s []), (aH 0), (aH 0)] h0) fun v1 h1 =>
  qI r n x0 v1 h1
noncomputable abbrev c180 : Code := cf Tryz.f180
noncomputable abbrev aGa : Code := cR c180
noncomputable abbrev aCm : Code := cR aGa
noncomputable abbrev cOx : Code := cR aCm
noncomputable abbrev bKi : Code := cL aCm
noncomputable abbrev aNb : Code := cL aGa
noncomputable abbrev aPz : Code := cL c180
noncomputable abbrev r180 : K := aQ CF Tryz.f180
noncomputable def D180 (r : RT) (n : Nat) (c : Code) (X : Nat → K) (k : K) : K := aM CF r 18 n c X r180 k
theorem bUn : D180 r n cOx x0 r180 = (K2 (aAl r n) 2 3) :=
 (by kernel_rfl)
theorem bFp : D180 r n aCm x0 r180 = D180 r n bKi x0 (K2 (aAl r n) 2 3) :=
 congrArg (fun k => D180 r n bKi x0 k) (bUn r n)
theorem bVi : D180 r n aCm x0 r180 = (K3 (vP r n) 0 2 3) :=
 (bFp r n).trans
 ((by kernel_rfl))
theorem bDr : D180 r n aGa x0 r180 = D180 r n aNb x0 (K3 (vP r n) 0 2 3) :=
 congrArg (fun k => D180 r n aNb x0 k) (bVi r n)
theorem bNn (q0 : mE) : D180 r n aNb x0 (K3 q0 0 2 3) = fun (env : aS) (h : Hp) =>
 bnd (r 183 [(env 0), (aH 0)] h) fun v1 h1 =>
 bnd (bJ [(aH 0), (.s []), (aH 0), (aH 0)] h1) fun v2 h2 =>
 bnd (aE 4 v2 v1 h2) fun _ h3 =>
  q0 (env 0) (env 2) v2 h3 := by kernel_rfl
theorem bAf : (fun (env : aS) (h : Hp) =>
 bnd (r 183 [(env 0), (aH 0)] h) fun v1 h1 =>
 bnd (bJ [(aH 0), (.s []), (aH 0), (aH 0)] h1) fun v2 h2 =>
 bnd (aE 4 v2 v1 h2) fun _ h3 =>
  vP r n (env 0) (env 2) v2 h3) = (K2 (qI r n) 0 2) := by kernel_rfl
theorem cDl : D180 r n aGa x0 r180 = (K2 (qI r n) 0 2) :=
 (bDr r n).trans
 ((bNn r n (vP r n)).trans (bAf r n))
theorem cKd : D180 r n c180 x0 r180 = D180 r n aPz x0 (K2 (qI r n) 0 2) :=
 congrArg (fun k => D180 r n aPz x0 k) (cDl r n)
theorem cSp (q0 : gP) : D180 r n aPz x0 (K2 q0 0 2) = fun (env : aS) (h : Hp) =>
 bnd (bJ [(aH 0), (.s []), (aH 0), (aH 0)] h) fun v1 h1 =>
  q0 (env 0) v1 h1 := by kernel_rfl
theorem cDn : (fun (env : aS) (h : Hp) =>
 bnd (bJ [(aH 0), (.s []), (aH 0), (aH 0)] h) fun v1 h1 =>
  qI r n (env 0) v1 h1) = (K1 (s180 r n) 0) := by kernel_rfl
theorem dAk : D180 r n c180 x0 r180 = (K1 (s180 r n) 0) :=
 (cKd r n).trans
 ((cSp r n (qI r n)).trans (cDn r n))
theorem cSs : aF CF r n 180 args h = s180 r n (aT args 0) h :=
 (by kernel_rfl : aF CF r n 180 args h = D180 r n c180 x0 r180 (aJ args) h).trans ((congrFun (congrFun (dAk r n) (aJ args)) h).trans (by kernel_rfl))
noncomputable def s181 (r : RT) (n : Nat) (x0 : DV) (h0 : Hp) : aG :=
 bnd (bJ gX h0) fun v1 h1 =>
 bnd (r 179 [x0, (aH 1), (.s [])] h1) fun v2 h2 =>
 bnd (gD v2 true (some (x0, h2)) h2) fun v3 h3 =>
 bnd (gD v2 true (r 183 [v3, (aH 1)] h3) h3) fun v4 h4 =>
 bnd (gD v2 true (eX 0 v4 h4) h4) fun v5 h5 =>
 bnd (gD v2 true (aD .eql v5 (aH 9) h5) h5) fun v6 h6 =>
 bnd (aO v2 v6 (.b false) h6) fun v7 h7 =>
 aU v7 (
 bnd (r 180 [x0] h7) fun v8 h8 =>
 bnd (eX 1 v8 h8) fun v9 h9 =>
 bnd (aX gX [(0, 1, (aH 6)), (1, 1, v9)] h9) fun v10 h10 =>
 bnd (bJ gX h10) fun v11 h11 =>
 bnd (aE 6 v11 v10 h11) fun _ h12 =>
 bnd (r 180 [x0] h12) fun v13 h13 =>
 bnd (r 181 [x0] h13) fun v14 h14 =>
 bnd (aN gX 1 [(0, 6, v14)] h14) fun v15 h15 =>
 bnd (aB 5 v11 h15) fun v16 h16 =>
 bnd (aE 1 v16 v15 h16) fun _ h17 =>
 bnd (aK 6 v11 h17) fun v18 h18 =>
 bnd (aE 6 v1 v18 h18) fun _ h19 =>
 bnd (aK 6 v1 h19) fun v20 _ =>
 some (v20, h19)) (
 bnd (r 210 [x0] h7) fun v21 h21 =>
 bnd (aE 6 v1 v21 h21) fun _ h22 =>
 bnd (aK 6 v1 h22) fun v23 _ =>
 some (v23, h22))
noncomputable abbrev c181 : Code := cf Tryz.f181
noncomputable abbrev r181 : K := aQ CF Tryz.f181
noncomputable def D181 (r : RT) (n : Nat) (c : Code) (X : Nat → K) (k : K) : K := aM CF r 25 n c X r181 k
theorem cWx : D181 r n c181 x0 r181 = (K1 (s181 r n) 0) :=
 (by kernel_rfl)
theorem cTk : aF CF r n 181 args h = s181 r n (aT args 0) h :=
 (by kernel_rfl : aF CF r n 181 args h = D181 r n c181 x0 r181 (aJ args) h).trans ((congrFun (congrFun (cWx r n) (aJ args)) h).trans (by kernel_rfl))
noncomputable def s183 (r : RT) (n : Nat) (x0 x1 : DV) (h0 : Hp) : aG :=
 bnd (bJ [(aH 0), (.s []), (aH 0), (aH 0)] h0) fun v1 h1 =>
 bnd (aP x0 h1) fun v2 h2 =>
 bnd (aB 0 v2 h2) fun v3 h3 =>
 bnd (aA v3 h3) fun v4 h4 =>
 bnd (aP x0 h4) fun v5 h5 =>
 bnd (aB 0 v5 h5) fun v6 h6 =>
 bnd (aA v6 h6) fun v7 h7 =>
 bnd (bQ v7 h7) fun v8 h8 =>
 bnd (aD .sub v8 (aH 1) h8) fun v9 h9 =>
 bnd (aLy x1 v9 h9) fun v10 h10 =>
 bnd (aI 4 v4 v10 h10) fun v11 h11 =>
 bnd (aK 4 v11 h11) fun v12 h12 =>
 bnd (aE 4 v1 v12 h12) fun v13 h13 =>
 bnd (aK 4 v1 h13) fun v14 _ =>
 some (v14, h13)
noncomputable abbrev c183 : Code := cf Tryz.f183
noncomputable abbrev r183 : K := aQ CF Tryz.f183
noncomputable def D183 (r : RT) (n : Nat) (c : Code) (X : Nat → K) (k : K) : K := aM CF r 19 n c X r183 k
theorem cXl : D183 r n c183 x0 r183 = (K2 (s183 r n) 0 1) :=
 (by kernel_rfl)
theorem cNe : aF CF r n 183 args h = s183 r n (aT args 0) (aT args 1) h :=
 (by kernel_rfl : aF CF r n 183 args h = D183 r n c183 x0 r183 (aJ args) h).trans ((congrFun (congrFun (cXl r n) (aJ args)) h).trans (by kernel_rfl))
end Go.Dd

