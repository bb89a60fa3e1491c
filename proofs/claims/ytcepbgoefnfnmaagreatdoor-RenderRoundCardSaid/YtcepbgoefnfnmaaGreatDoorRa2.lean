/- A part of the proof: Q3 Q4 Q5 Q6 Q7 Q8 Q9 Q10 Qt: each text has a comment of its own. -/
import Derived.Test.YtcepbgoefnfnmaaGreatDoorRa1
set_option linter.unusedVariables false
set_option linter.unusedSimpArgs false
set_option linter.constructorNameAsVariable false
set_option maxRecDepth 100000
namespace Go.Dd
open Go.Proofs
variable (r : RT) (n : Nat) (args : List DV) (h : Hp)
noncomputable def s52 (r : RT) (n : Nat) (x0 x1 : DV) (h0 : Hp) : aG :=
 bnd (bD x0 h0) fun v1 h1 =>
 bnd (aB 0 v1 h1) fun v2 h2 =>
 bnd (aA v2 h2) fun v3 h3 =>
 bnd (isF [v3, x1] h3) fun v4 h4 =>
 aX v4 (
 bnd (bD x0 h4) fun v5 h5 =>
 bnd (aB 0 v5 h5) fun v6 h6 =>
 bnd (aA v6 h6) fun v7 h7 =>
 bnd (jL [v7, x1] h7) fun v8 h8 =>
 some (v8, h8)) (
 bnd (eW [x1] h4) fun v9 h9 =>
 aX v9 (
 bnd (r 27 [x0, (.i .i64 (Int.ofNat 7))] h9) fun v10 h10 =>
 some (v10, h10)) (
 bnd (aD .eql x1 (.i .i64 (Int.ofNat 0)) h9) fun v11 h11 =>
 aX v11 (
 bnd (r 27 [x0, (.i .i64 (Int.ofNat 2))] h11) fun v12 h12 =>
 some (v12, h12)) (
 bnd (aD .eql x1 (.i .i64 (Int.ofNat 2)) h11) fun v13 h13 =>
 aX v13 (
 bnd (r 27 [x0, (.i .i64 (Int.ofNat 4))] h13) fun v14 h14 =>
 some (v14, h14)) (
 bnd (aD .eql x1 (.i .i64 (Int.ofNat 4)) h13) fun v15 h15 =>
 aX v15 (
 bnd (r 27 [x0, (.i .i64 (Int.ofNat 5))] h15) fun v16 h16 =>
 some (v16, h16)) (
 some ((.i .i64 (Int.ofNat 0)), h15))))))
noncomputable abbrev c52 : Code := cf Tryz.f52
noncomputable abbrev r52 : K := aS CF Tryz.f52
noncomputable def D52 (r : RT) (n : Nat) (c : Code) (X : Nat → K) (k : K) : K := aP CF r 38 n c X r52 k
theorem dFq : D52 r n c52 x0 r52 = (K2 (s52 r n) 0 1) :=
 (by kernel_rfl)
theorem cJv : aE CF r n 52 args h = s52 r n (aT args 0) (aT args 1) h :=
 (by kernel_rfl : aE CF r n 52 args h = D52 r n c52 x0 r52 (aH args) h).trans ((congrFun (congrFun (dFq r n) (aH args)) h).trans (by kernel_rfl))
noncomputable def gI (r : RT) (n : Nat) (x7 : DV) (h0 : Hp) : aG :=
 bnd (dR x7 h0) fun v1 h1 =>
 some (.t [v1, (.b true)], h1)
noncomputable def pD (r : RT) (n : Nat) (kk7 : cZ) (x0 x1 x7 x48 x49 : DV) (h0 : Hp) : aG :=
 bnd (aD .lss x49 x48 h0) fun v1 h1 =>
 aX v1 (
 bnd (r 75 [x0, x1, x49] h1) fun v2 h2 =>
 bnd (dE .u8 v2 h2) fun v3 h3 =>
 bnd (aJ [(.i .u8 (Int.ofNat 0))] 1 [(0, 1, v3)] h3) fun v4 h4 =>
 bnd (bB 1 1 x7 v4 h4) fun v5 h5 =>
 bnd (aD .add x49 (.i .i64 (Int.ofNat 1)) h5) fun v6 h6 =>
      kk7 x0 x1 v5 x48 v6 h6) (
      gI r n x7 h1)
noncomputable def pF (r : RT) (n : Nat) (m : Nat) : cZ :=
 Nat.rec (motive := fun _ => cZ) (fun _ _ _ _ _ _ => none) (fun _ ih => pD r n ih) m
noncomputable def bEo (r : RT) (n : Nat) : cZ := pF r n n
noncomputable def aUa (r : RT) (n : Nat) (x0 x1 x7 x48 x49 : DV) (h0 : Hp) : aG :=
 bEo r n x0 x1 x7 x48 x49 h0
noncomputable def aVg (r : RT) (n : Nat) (x0 x1 x7 : DV) (h0 : Hp) : aG :=
 bnd (bD x0 h0) fun v1 h1 =>
 bnd (aB 0 v1 h1) fun v2 h2 =>
 bnd (aA v2 h2) fun v3 h3 =>
 bnd (hZ [v3, x1] h3) fun v4 h4 =>
  aUa r n x0 x1 x7 v4 (.i .i64 (Int.ofNat 0)) h4
noncomputable def aJr (r : RT) (n : Nat) (x0 x1 : DV) (h0 : Hp) : aG :=
 aVg r n x0 x1 .l0 h0
noncomputable def aJw (r : RT) (n : Nat) (x0 x1 x6 : DV) (h0 : Hp) : aG :=
 bnd (bD x0 h0) fun v1 h1 =>
 bnd (aB 0 v1 h1) fun v2 h2 =>
 bnd (aA v2 h2) fun v3 h3 =>
 bnd (isF [v3, x1] h3) fun v4 h4 =>
 bnd (jW .not v4 h4) fun v5 h5 =>
 bnd (gD v5 false (some (x6, h5)) h5) fun v6 h6 =>
 bnd (gD v5 false (some (x0, h6)) h6) fun v7 h7 =>
 bnd (gD v5 false (r 27 [v7, (.i .i64 (Int.ofNat 10))] h7) h7) fun v8 h8 =>
 bnd (gD v5 false (aD .neq v6 v8 h8) h8) fun v9 h9 =>
 bnd (gD v5 false (some (v9, h9)) h9) fun v10 h10 =>
 bnd (gD v10 true (some (x6, h10)) h10) fun v11 h11 =>
 bnd (gD v10 true (some (x0, h11)) h11) fun v12 h12 =>
 bnd (gD v10 true (r 27 [v12, (.i .i64 (Int.ofNat 11))] h12) h12) fun v13 h13 =>
 bnd (gD v10 true (aD .neq v11 v13 h13) h13) fun v14 h14 =>
 bnd (gD v5 false (aQ v10 v14 (.b false) h14) h14) fun v15 h15 =>
 bnd (aQ v5 (.b true) v15 h15) fun v16 h16 =>
 bnd (gD v16 false (some (x0, h16)) h16) fun v17 h17 =>
 bnd (gD v16 false (bD v17 h17) h17) fun v18 h18 =>
 bnd (gD v16 false (aB 0 v18 h18) h18) fun v19 h19 =>
 bnd (gD v16 false (aA v19 h19) h19) fun v20 h20 =>
 bnd (gD v16 false (some (x1, h20)) h20) fun v21 h21 =>
 bnd (gD v16 false (iW [v20, v21] h21) h21) fun v22 h22 =>
 bnd (gD v16 false (aD .neq v22 (.i .i64 (Int.ofNat 2)) h22) h22) fun v23 h23 =>
 bnd (aQ v16 (.b true) v23 h23) fun v24 h24 =>
 aX v24 (
 some (.t [(.s []), (.b false)], h24)) (
  aJr r n x0 x1 h24)
noncomputable def aMi (r : RT) (n : Nat) (x0 x1 : DV) (h0 : Hp) : aG :=
 bnd (bD x0 h0) fun v1 h1 =>
 bnd (aB 0 v1 h1) fun v2 h2 =>
 bnd (aA v2 h2) fun v3 h3 =>
 bnd (jL [v3, x1] h3) fun v4 h4 =>
  aJw r n x0 x1 v4 h4
noncomputable def s53 (r : RT) (n : Nat) (x0 x1 : DV) (h0 : Hp) : aG :=
 aMi r n x0 x1 h0
noncomputable abbrev c53 : Code := cf Tryz.f53
noncomputable abbrev aYa : Code := cR c53
noncomputable abbrev aRr : Code := cR aYa
noncomputable abbrev aXv : Code := cR aRr
noncomputable abbrev aTn : Code := cR aXv
noncomputable abbrev dAb : Code := cR aTn
noncomputable abbrev aLn : Code := cL aTn
noncomputable abbrev bSg : Code := cR aLn
noncomputable abbrev aSb : Code := cL bSg
noncomputable abbrev uB : Code := cL aSb
noncomputable abbrev bSw : Code := cL aLn
noncomputable abbrev bHx : Code := cL aXv
noncomputable abbrev bRt : Code := cL aRr
noncomputable abbrev bIa : Code := cL aYa
noncomputable abbrev bHb : Code := cL c53
noncomputable abbrev r53 : K := aS CF Tryz.f53
noncomputable def D53 (r : RT) (n : Nat) (c : Code) (X : Nat → K) (k : K) : K := aP CF r 63 n c X r53 k
theorem cSm : D53 r n dAb x0 r53 = (K1 (gI r n) 7) :=
 (by kernel_rfl)
theorem bUl (kk7 : cZ) (q0 : TT1) : D53 r n uB (xs x0 0 (K1 q0 7)) (K5 kk7 0 1 7 48 49) = fun (env : bF) (h : Hp) =>
 bnd (aD .lss (env 49) (env 48) h) fun v1 h1 =>
 aX v1 (
 bnd (r 75 [(env 0), (env 1), (env 49)] h1) fun v2 h2 =>
 bnd (dE .u8 v2 h2) fun v3 h3 =>
 bnd (aJ [(.i .u8 (Int.ofNat 0))] 1 [(0, 1, v3)] h3) fun v4 h4 =>
 bnd (bB 1 1 (env 7) v4 h4) fun v5 h5 =>
 bnd (aD .add (env 49) (.i .i64 (Int.ofNat 1)) h5) fun v6 h6 =>
      kk7 (env 0) (env 1) v5 (env 48) v6 h6) (
      q0 (env 7) h1) := by kernel_rfl
theorem bTl (kk7 : cZ) : (fun (env : bF) (h : Hp) =>
 bnd (aD .lss (env 49) (env 48) h) fun v1 h1 =>
 aX v1 (
 bnd (r 75 [(env 0), (env 1), (env 49)] h1) fun v2 h2 =>
 bnd (dE .u8 v2 h2) fun v3 h3 =>
 bnd (aJ [(.i .u8 (Int.ofNat 0))] 1 [(0, 1, v3)] h3) fun v4 h4 =>
 bnd (bB 1 1 (env 7) v4 h4) fun v5 h5 =>
 bnd (aD .add (env 49) (.i .i64 (Int.ofNat 1)) h5) fun v6 h6 =>
      kk7 (env 0) (env 1) v5 (env 48) v6 h6) (
      gI r n (env 7) h1)) = (K5 (pD r n kk7) 0 1 7 48 49) := by kernel_rfl
theorem bTq (kk7 : cZ) : D53 r n uB (xs x0 0 (K1 (gI r n) 7)) (K5 kk7 0 1 7 48 49) = (K5 (pD r n kk7) 0 1 7 48 49) :=
 (bUl r n kk7 (gI r n)).trans (bTl r n kk7)
theorem bVr (m : Nat) : aO (fun kk => D53 r n uB (xs x0 0 (K1 (gI r n) 7)) kk) m = (K5 (pF r n m) 0 1 7 48 49) := by
 induction m with
 | zero => exact (by kernel_rfl : aO (fun kk => D53 r n uB (xs x0 0 (K1 (gI r n) 7)) kk) 0 = (K5 (pF r n 0) 0 1 7 48 49))
 | succ m ih =>
  refine (by kernel_rfl : aO (fun kk => D53 r n uB (xs x0 0 (K1 (gI r n) 7)) kk) (m + 1) = D53 r n uB (xs x0 0 (K1 (gI r n) 7)) (aO (fun kk => D53 r n uB (xs x0 0 (K1 (gI r n) 7)) kk) m)).trans ?_
  rw [ih]
  exact (bTq r n (pF r n m)).trans (by kernel_rfl)
theorem cWc : D53 r n aSb (xs x0 0 (K1 (gI r n) 7)) (K1 (gI r n) 7) = (K5 (bEo r n) 0 1 7 48 49) :=
 (by kernel_rfl : D53 r n aSb (xs x0 0 (K1 (gI r n) 7)) (K1 (gI r n) 7) = aO (fun kk => D53 r n uB (xs x0 0 (K1 (gI r n) 7)) kk) n).trans ((bVr r n n).trans (by kernel_rfl))
theorem cRs : D53 r n bSg x0 (K1 (gI r n) 7) = (K5 (aUa r n) 0 1 7 48 49) :=
 (by kernel_rfl : D53 r n bSg x0 (K1 (gI r n) 7) = D53 r n aSb (xs x0 0 (K1 (gI r n) 7)) (K1 (gI r n) 7)).trans
 ((cWc r n).trans (by kernel_rfl))
theorem bZn : D53 r n aTn x0 r53 = D53 r n aLn x0 (K1 (gI r n) 7) :=
 congrArg (fun k => D53 r n aLn x0 k) (cSm r n)
theorem cFj : D53 r n aLn x0 (K1 (gI r n) 7) = D53 r n bSw x0 (K5 (aUa r n) 0 1 7 48 49) :=
 congrArg (fun k => D53 r n bSw x0 k) (cRs r n)
theorem cLw : D53 r n aTn x0 r53 = (K3 (aVg r n) 0 1 7) :=
 (bZn r n).trans
 ((cFj r n).trans
 ((by kernel_rfl)))
theorem bYe : D53 r n aXv x0 r53 = D53 r n bHx x0 (K3 (aVg r n) 0 1 7) :=
 congrArg (fun k => D53 r n bHx x0 k) (cLw r n)
theorem cUb : D53 r n aXv x0 r53 = (K2 (aJr r n) 0 1) :=
 (bYe r n).trans
 ((by kernel_rfl))
theorem cAp : D53 r n aRr x0 r53 = D53 r n bRt x0 (K2 (aJr r n) 0 1) :=
 congrArg (fun k => D53 r n bRt x0 k) (cUb r n)
theorem cLl : D53 r n aRr x0 r53 = (K3 (aJw r n) 0 1 6) :=
 (cAp r n).trans
 ((by kernel_rfl))
theorem cBs : D53 r n aYa x0 r53 = D53 r n bIa x0 (K3 (aJw r n) 0 1 6) :=
 congrArg (fun k => D53 r n bIa x0 k) (cLl r n)
theorem cRf : D53 r n aYa x0 r53 = (K2 (aMi r n) 0 1) :=
 (cBs r n).trans
 ((by kernel_rfl))
theorem dCg : D53 r n c53 x0 r53 = D53 r n bHb x0 (K2 (aMi r n) 0 1) :=
 congrArg (fun k => D53 r n bHb x0 k) (cRf r n)
theorem dEr : D53 r n c53 x0 r53 = (K2 (s53 r n) 0 1) :=
 (dCg r n).trans
 ((by kernel_rfl))
theorem bIl : aE CF r n 53 args h = s53 r n (aT args 0) (aT args 1) h :=
 (by kernel_rfl : aE CF r n 53 args h = D53 r n c53 x0 r53 (aH args) h).trans ((congrFun (congrFun (dEr r n) (aH args)) h).trans (by kernel_rfl))
noncomputable def cP (r : RT) (n : Nat) (x7 : DV) (h0 : Hp) : aG :=
 bnd (dA .add x7 (.s [41]) h0) fun v1 h1 =>
 some (v1, h1)
noncomputable def eV (r : RT) (n : Nat) (kk7 : eU) (x0 x1 x2 x7 x16 x17 : DV) (h0 : Hp) : aG :=
 bnd (aD .add x17 (.i .i64 (Int.ofNat 1)) h0) fun v1 h1 =>
  kk7 x0 x1 x2 x7 x16 v1 h1
noncomputable def sX (r : RT) (n : Nat) (kk7 : eU) (x0 x1 x2 x7 x8 x16 x17 : DV) (h0 : Hp) : aG :=
 bnd (aD .eql x8 (.i .i64 (Int.ofNat 20)) h0) fun v1 h1 =>
 bnd (gD v1 false (some (x7, h1)) h1) fun v2 h2 =>
 bnd (gD v1 false (dI v2 h2) h2) fun v3 h3 =>
 bnd (gD v1 false (aD .gtr v3 (.i .i64 (Int.ofNat 1000)) h3) h3) fun v4 h4 =>
 bnd (aQ v1 (.b true) v4 h4) fun v5 h5 =>
 aX v5 (
 bnd (dA .add x7 (.s [46, 46]) h5) fun v6 h6 =>
  cP r n v6 h6) (
 bnd (r 14 [x0] h5) fun v7 h7 =>
 bnd (sZ [v7, x1, x8] h7) fun v8 h8 =>
 bnd (aC 0 v8 h8) fun v9 h9 =>
 bnd (aC 1 v8 h9) fun v10 h10 =>
 bnd (aD .add x2 (.i .i64 (Int.ofNat 1)) h10) fun v11 h11 =>
 bnd (r 21 [x0, v9, v11] h11) fun v12 h12 =>
 bnd (dA .add x7 v12 h12) fun v13 h13 =>
  eV r n kk7 x0 x1 x2 v13 x16 x17 h13)
noncomputable def aFk (r : RT) (n : Nat) (kk7 : eU) (x0 x1 x2 x7 x8 x16 x17 : DV) (h0 : Hp) : aG :=
 bnd (aD .gtr x8 (.i .i64 (Int.ofNat 0)) h0) fun v1 h1 =>
 aX v1 (
 bnd (dA .add x7 (.s [32]) h1) fun v2 h2 =>
  sX r n kk7 x0 x1 x2 v2 x8 x16 x17 h2) (
  sX r n kk7 x0 x1 x2 x7 x8 x16 x17 h1)
noncomputable def aTq (r : RT) (n : Nat) (kk7 : eU) (x0 x1 x2 x7 x16 x17 : DV) (h0 : Hp) : aG :=
 aFk r n kk7 x0 x1 x2 x7 x17 x16 x17 h0
noncomputable def aLe (r : RT) (n : Nat) (kk7 : eU) (x0 x1 x2 x7 x16 x17 x18 : DV) (h0 : Hp) : aG :=
 aX x18 (
  aTq r n kk7 x0 x1 x2 x7 x16 x17 h0) (
  cP r n x7 h0)
noncomputable def sQ (r : RT) (n : Nat) (kk7 : eU) (x0 x1 x2 x7 x16 x17 : DV) (h0 : Hp) : aG :=
 bnd (aD .lss x17 x16 h0) fun v1 h1 =>
  aLe r n kk7 x0 x1 x2 x7 x16 x17 v1 h1
noncomputable def mW (r : RT) (n : Nat) (m : Nat) : eU :=
 Nat.rec (motive := fun _ => eU) (fun _ _ _ _ _ _ _ => none) (fun _ ih => sQ r n ih) m
noncomputable def bHr (r : RT) (n : Nat) : eU := mW r n n
noncomputable def aTy (r : RT) (n : Nat) (x0 x1 x2 x7 x16 x17 : DV) (h0 : Hp) : aG :=
 bHr r n x0 x1 x2 x7 x16 x17 h0
noncomputable def aYl (r : RT) (n : Nat) (x0 x1 x2 x7 : DV) (h0 : Hp) : aG :=
 bnd (r 14 [x0] h0) fun v1 h1 =>
 bnd (hZ [v1, x1] h1) fun v2 h2 =>
  aTy r n x0 x1 x2 x7 v2 (.i .i64 (Int.ofNat 0)) h2
noncomputable def aVd (r : RT) (n : Nat) (x0 x1 x2 x7 : DV) (h0 : Hp) : aG :=
 aYl r n x0 x1 x2 x7 h0
noncomputable def aRu (r : RT) (n : Nat) (x0 x1 x2 : DV) (h0 : Hp) : aG :=
 aVd r n x0 x1 x2 (.s [40]) h0
noncomputable def aJd (r : RT) (n : Nat) (x0 x1 x2 : DV) (h0 : Hp) : aG :=
 bnd (aD .eql x2 (.i .i64 (Int.ofNat 3)) h0) fun v1 h1 =>
 aX v1 (
 some ((.s [40, 46, 46, 41]), h1)) (
  aRu r n x0 x1 x2 h1)
noncomputable def s55 (r : RT) (n : Nat) (x0 x1 x2 : DV) (h0 : Hp) : aG :=
 aJd r n x0 x1 x2 h0
noncomputable abbrev c55 : Code := cf Tryz.f55
noncomputable abbrev bOm : Code := cR c55
noncomputable abbrev aVo : Code := cL bOm
noncomputable abbrev aUm : Code := cR aVo
noncomputable abbrev aRy : Code := cR aUm
noncomputable abbrev aRz : Code := cR aRy
noncomputable abbrev cWz : Code := cR aRz
noncomputable abbrev aKc : Code := cL aRz
noncomputable abbrev bIx : Code := cR aKc
noncomputable abbrev aVi : Code := cL bIx
noncomputable abbrev lG : Code := cL aVi
noncomputable abbrev aGu : Code := cR lG
noncomputable abbrev aGx : Code := cR aGu
noncomputable abbrev cTl : Code := cR aGx
noncomputable abbrev aEs : Code := cL aGx
noncomputable abbrev aCx : Code := cL aEs
noncomputable abbrev aIf : Code := cR aCx
noncomputable abbrev cSp : Code := cR aIf
noncomputable abbrev bPy : Code := cL aIf
noncomputable abbrev bQb : Code := cL aCx
noncomputable abbrev bMg : Code := cL aGu
noncomputable abbrev bGg : Code := cL lG
noncomputable abbrev bHf : Code := cL aKc
noncomputable abbrev bGs : Code := cL aRy
noncomputable abbrev bQl : Code := cL aUm
noncomputable abbrev bFh : Code := cL aVo
noncomputable abbrev bLs : Code := cL c55
noncomputable abbrev r55 : K := aS CF Tryz.f55
noncomputable def D55 (r : RT) (n : Nat) (c : Code) (X : Nat → K) (k : K) : K := aP CF r 51 n c X r55 k
theorem cRl : D55 r n cWz x0 r55 = (K1 (cP r n) 7) :=
 (by kernel_rfl)
theorem bXl (kk7 : eU) : D55 r n cTl (xs x0 0 (K1 (cP r n) 7)) (K6 kk7 0 1 2 7 16 17) = (K6 (eV r n kk7) 0 1 2 7 16 17) :=
 (by kernel_rfl)
theorem cGw (kk7 : eU) : D55 r n cSp (xs (xs x0 0 (K1 (cP r n) 7)) 1 (K6 (eV r n kk7) 0 1 2 7 16 17)) (K6 (eV r n kk7) 0 1 2 7 16 17) = (K7 (sX r n kk7) 0 1 2 7 8 16 17) :=
 (by kernel_rfl)
theorem bSz (kk7 : eU) : D55 r n aIf (xs (xs x0 0 (K1 (cP r n) 7)) 1 (K6 (eV r n kk7) 0 1 2 7 16 17)) (K6 (eV r n kk7) 0 1 2 7 16 17) = D55 r n bPy (xs (xs x0 0 (K1 (cP r n) 7)) 1 (K6 (eV r n kk7) 0 1 2 7 16 17)) (K7 (sX r n kk7) 0 1 2 7 8 16 17) :=
 congrArg (fun k => D55 r n bPy (xs (xs x0 0 (K1 (cP r n) 7)) 1 (K6 (eV r n kk7) 0 1 2 7 16 17)) k) (cGw r n kk7)
theorem cDb (kk7 : eU) : D55 r n aIf (xs (xs x0 0 (K1 (cP r n) 7)) 1 (K6 (eV r n kk7) 0 1 2 7 16 17)) (K6 (eV r n kk7) 0 1 2 7 16 17) = (K7 (aFk r n kk7) 0 1 2 7 8 16 17) :=
 (bSz r n kk7).trans
 ((by kernel_rfl))
theorem cGi (kk7 : eU) : D55 r n aGx (xs x0 0 (K1 (cP r n) 7)) (K6 kk7 0 1 2 7 16 17) = D55 r n aEs (xs x0 0 (K1 (cP r n) 7)) (K6 (eV r n kk7) 0 1 2 7 16 17) :=
 congrArg (fun k => D55 r n aEs (xs x0 0 (K1 (cP r n) 7)) k) (bXl r n kk7)
theorem bXk (kk7 : eU) : D55 r n aCx (xs (xs x0 0 (K1 (cP r n) 7)) 1 (K6 (eV r n kk7) 0 1 2 7 16 17)) (K6 (eV r n kk7) 0 1 2 7 16 17) = D55 r n bQb (xs (xs x0 0 (K1 (cP r n) 7)) 1 (K6 (eV r n kk7) 0 1 2 7 16 17)) (K7 (aFk r n kk7) 0 1 2 7 8 16 17) :=
 congrArg (fun k => D55 r n bQb (xs (xs x0 0 (K1 (cP r n) 7)) 1 (K6 (eV r n kk7) 0 1 2 7 16 17)) k) (cDb r n kk7)
theorem cMh (kk7 : eU) : D55 r n aGx (xs x0 0 (K1 (cP r n) 7)) (K6 kk7 0 1 2 7 16 17) = (K6 (aTq r n kk7) 0 1 2 7 16 17) :=
 (cGi r n kk7).trans
 ((by kernel_rfl : D55 r n aEs (xs x0 0 (K1 (cP r n) 7)) (K6 (eV r n kk7) 0 1 2 7 16 17) = D55 r n aCx (xs (xs x0 0 (K1 (cP r n) 7)) 1 (K6 (eV r n kk7) 0 1 2 7 16 17)) (K6 (eV r n kk7) 0 1 2 7 16 17)).trans
 ((bXk r n kk7).trans
 ((by kernel_rfl))))
theorem bVo (kk7 : eU) : D55 r n aGu (xs x0 0 (K1 (cP r n) 7)) (K6 kk7 0 1 2 7 16 17) = D55 r n bMg (xs x0 0 (K1 (cP r n) 7)) (K6 (aTq r n kk7) 0 1 2 7 16 17) :=
 congrArg (fun k => D55 r n bMg (xs x0 0 (K1 (cP r n) 7)) k) (cMh r n kk7)
theorem cVx (kk7 : eU) : D55 r n aGu (xs x0 0 (K1 (cP r n) 7)) (K6 kk7 0 1 2 7 16 17) = (K7 (aLe r n kk7) 0 1 2 7 16 17 18) :=
 (bVo r n kk7).trans
 ((by kernel_rfl))
theorem cCh (kk7 : eU) : D55 r n lG (xs x0 0 (K1 (cP r n) 7)) (K6 kk7 0 1 2 7 16 17) = D55 r n bGg (xs x0 0 (K1 (cP r n) 7)) (K7 (aLe r n kk7) 0 1 2 7 16 17 18) :=
 congrArg (fun k => D55 r n bGg (xs x0 0 (K1 (cP r n) 7)) k) (cVx r n kk7)
theorem cDh (kk7 : eU) : D55 r n lG (xs x0 0 (K1 (cP r n) 7)) (K6 kk7 0 1 2 7 16 17) = (K6 (sQ r n kk7) 0 1 2 7 16 17) :=
 (cCh r n kk7).trans
 ((by kernel_rfl))
theorem cCd (m : Nat) : aO (fun kk => D55 r n lG (xs x0 0 (K1 (cP r n) 7)) kk) m = (K6 (mW r n m) 0 1 2 7 16 17) := by
 induction m with
 | zero => exact (by kernel_rfl : aO (fun kk => D55 r n lG (xs x0 0 (K1 (cP r n) 7)) kk) 0 = (K6 (mW r n 0) 0 1 2 7 16 17))
 | succ m ih =>
  refine (by kernel_rfl : aO (fun kk => D55 r n lG (xs x0 0 (K1 (cP r n) 7)) kk) (m + 1) = D55 r n lG (xs x0 0 (K1 (cP r n) 7)) (aO (fun kk => D55 r n lG (xs x0 0 (K1 (cP r n) 7)) kk) m)).trans ?_
  rw [ih]
  exact (cDh r n (mW r n m)).trans (by kernel_rfl)
theorem cSb : D55 r n aVi (xs x0 0 (K1 (cP r n) 7)) (K1 (cP r n) 7) = (K6 (bHr r n) 0 1 2 7 16 17) :=
 (by kernel_rfl : D55 r n aVi (xs x0 0 (K1 (cP r n) 7)) (K1 (cP r n) 7) = aO (fun kk => D55 r n lG (xs x0 0 (K1 (cP r n) 7)) kk) n).trans ((cCd r n n).trans (by kernel_rfl))
theorem cQf : D55 r n bIx x0 (K1 (cP r n) 7) = (K6 (aTy r n) 0 1 2 7 16 17) :=
 (by kernel_rfl : D55 r n bIx x0 (K1 (cP r n) 7) = D55 r n aVi (xs x0 0 (K1 (cP r n) 7)) (K1 (cP r n) 7)).trans
 ((cSb r n).trans (by kernel_rfl))
theorem cFp : D55 r n aRz x0 r55 = D55 r n aKc x0 (K1 (cP r n) 7) :=
 congrArg (fun k => D55 r n aKc x0 k) (cRl r n)
theorem bVy : D55 r n aKc x0 (K1 (cP r n) 7) = D55 r n bHf x0 (K6 (aTy r n) 0 1 2 7 16 17) :=
 congrArg (fun k => D55 r n bHf x0 k) (cQf r n)
theorem cSg : D55 r n aRz x0 r55 = (K4 (aYl r n) 0 1 2 7) :=
 (cFp r n).trans
 ((bVy r n).trans
 ((by kernel_rfl)))
theorem cCb : D55 r n aRy x0 r55 = D55 r n bGs x0 (K4 (aYl r n) 0 1 2 7) :=
 congrArg (fun k => D55 r n bGs x0 k) (cSg r n)
theorem cNk : D55 r n aRy x0 r55 = (K4 (aVd r n) 0 1 2 7) :=
 (cCb r n).trans
 ((by kernel_rfl))
theorem cBz : D55 r n aUm x0 r55 = D55 r n bQl x0 (K4 (aVd r n) 0 1 2 7) :=
 congrArg (fun k => D55 r n bQl x0 k) (cNk r n)
theorem cTf : D55 r n aUm x0 r55 = (K3 (aRu r n) 0 1 2) :=
 (cBz r n).trans
 ((by kernel_rfl))
theorem bQe : D55 r n aVo x0 r55 = D55 r n bFh x0 (K3 (aRu r n) 0 1 2) :=
 congrArg (fun k => D55 r n bFh x0 k) (cTf r n)
theorem cOe : D55 r n bOm x0 r55 = (K3 (aJd r n) 0 1 2) :=
 (by kernel_rfl : D55 r n bOm x0 r55 = D55 r n aVo x0 r55).trans
 ((bQe r n).trans
 ((by kernel_rfl)))
theorem cSy : D55 r n c55 x0 r55 = D55 r n bLs x0 (K3 (aJd r n) 0 1 2) :=
 congrArg (fun k => D55 r n bLs x0 k) (cOe r n)
theorem dHh : D55 r n c55 x0 r55 = (K3 (s55 r n) 0 1 2) :=
 (cSy r n).trans
 ((by kernel_rfl))
theorem bGn : aE CF r n 55 args h = s55 r n (aT args 0) (aT args 1) (aT args 2) h :=
 (by kernel_rfl : aE CF r n 55 args h = D55 r n c55 x0 r55 (aH args) h).trans ((congrFun (congrFun (dHh r n) (aH args)) h).trans (by kernel_rfl))
noncomputable def s56 (r : RT) (n : Nat) (x0 x1 : DV) (h0 : Hp) : aG :=
 bnd (r 73 [x0, x1] h0) fun v1 h1 =>
 bnd (jW .not v1 h1) fun v2 h2 =>
 aX v2 (
 some ((.s []), h2)) (
 bnd (r 75 [x0, x1, (.i .i64 (Int.ofNat 0))] h2) fun v3 h3 =>
 bnd (r 53 [x0, v3] h3) fun v4 h4 =>
 bnd (aC 0 v4 h4) fun v5 h5 =>
 bnd (aC 1 v4 h5) fun v6 h6 =>
 some (v5, h6))
noncomputable abbrev c56 : Code := cf Tryz.f56
noncomputable abbrev r56 : K := aS CF Tryz.f56
noncomputable def D56 (r : RT) (n : Nat) (c : Code) (X : Nat → K) (k : K) : K := aP CF r 20 n c X r56 k
theorem dIs : D56 r n c56 x0 r56 = (K2 (s56 r n) 0 1) :=
 (by kernel_rfl)
theorem cHz : aE CF r n 56 args h = s56 r n (aT args 0) (aT args 1) h :=
 (by kernel_rfl : aE CF r n 56 args h = D56 r n c56 x0 r56 (aH args) h).trans ((congrFun (congrFun (dIs r n) (aH args)) h).trans (by kernel_rfl))
noncomputable def s57 (r : RT) (n : Nat) (x0 x1 : DV) (h0 : Hp) : aG :=
 bnd (r 84 [x0, x1] h0) fun v1 h1 =>
 some (v1, h1)
noncomputable abbrev c57 : Code := cf Tryz.f57
noncomputable abbrev r57 : K := aS CF Tryz.f57
noncomputable def D57 (r : RT) (n : Nat) (c : Code) (X : Nat → K) (k : K) : K := aP CF r 8 n c X r57 k
theorem dFi : D57 r n c57 x0 r57 = (K2 (s57 r n) 0 1) :=
 (by kernel_rfl)
theorem cJm : aE CF r n 57 args h = s57 r n (aT args 0) (aT args 1) h :=
 (by kernel_rfl : aE CF r n 57 args h = D57 r n c57 x0 r57 (aH args) h).trans ((congrFun (congrFun (dFi r n) (aH args)) h).trans (by kernel_rfl))
noncomputable def fZ (r : RT) (n : Nat) (x0 x1 x8 : DV) (h0 : Hp) : aG :=
 bnd (r 33 [x0, x1, (aK 2), x8] h0) fun v1 h1 =>
 bnd (aC 0 v1 h1) fun v2 h2 =>
 bnd (aC 1 v1 h2) fun v3 h3 =>
 some (.t [v2, v3], h3)
noncomputable def pC (r : RT) (n : Nat) (kk5 : eU) (x0 x1 x2 x8 x11 x12 : DV) (h0 : Hp) : aG :=
 bnd (aD .lss x12 x11 h0) fun v1 h1 =>
 aX v1 (
 bnd (dP x2 x12 h1) fun v2 h2 =>
 bnd (dE .i64 v2 h2) fun v3 h3 =>
 bnd (aJ [(aK 0)] 1 [(0, 1, v3)] h3) fun v4 h4 =>
 bnd (bB 1 8 x8 v4 h4) fun v5 h5 =>
 bnd (aD .add x12 (aK 1) h5) fun v6 h6 =>
      kk5 x0 x1 x2 v5 x11 v6 h6) (
      fZ r n x0 x1 x8 h1)
noncomputable def pR (r : RT) (n : Nat) (m : Nat) : eU :=
 Nat.rec (motive := fun _ => eU) (fun _ _ _ _ _ _ _ => none) (fun _ ih => pC r n ih) m
noncomputable def bRv (r : RT) (n : Nat) : eU := pR r n n
noncomputable def aWt (r : RT) (n : Nat) (x0 x1 x2 x8 x11 x12 : DV) (h0 : Hp) : aG :=
 bRv r n x0 x1 x2 x8 x11 x12 h0
noncomputable def aYg (r : RT) (n : Nat) (x0 x1 x2 x8 : DV) (h0 : Hp) : aG :=
 bnd (dI x2 h0) fun v1 h1 =>
  aWt r n x0 x1 x2 x8 v1 (aK 0) h1
noncomputable def aTp (r : RT) (n : Nat) (x0 x1 x2 : DV) (h0 : Hp) : aG :=
 aYg r n x0 x1 x2 .l0 h0
noncomputable def s59 (r : RT) (n : Nat) (x0 x1 x2 : DV) (h0 : Hp) : aG :=
 aTp r n x0 x1 x2 h0
noncomputable abbrev c59 : Code := cf Tryz.f59
noncomputable abbrev aWi : Code := cR c59
noncomputable abbrev aWo : Code := cR aWi
noncomputable abbrev dCx : Code := cR aWo
noncomputable abbrev aJk : Code := cL aWo
noncomputable abbrev bOz : Code := cR aJk
noncomputable abbrev aSq : Code := cL bOz
noncomputable abbrev tP : Code := cL aSq
noncomputable abbrev cKm : Code := cL aJk
noncomputable abbrev cJr : Code := cL aWi
noncomputable abbrev bPf : Code := cL c59
noncomputable abbrev r59 : K := aS CF Tryz.f59
noncomputable def D59 (r : RT) (n : Nat) (c : Code) (X : Nat → K) (k : K) : K := aP CF r 29 n c X r59 k
theorem cPh : D59 r n dCx x0 r59 = (K3 (fZ r n) 0 1 8) :=
 (by kernel_rfl)
theorem bXj (kk5 : eU) (q0 : mE) : D59 r n tP (xs x0 0 (K3 q0 0 1 8)) (K6 kk5 0 1 2 8 11 12) = fun (env : bF) (h : Hp) =>
 bnd (aD .lss (env 12) (env 11) h) fun v1 h1 =>
 aX v1 (
 bnd (dP (env 2) (env 12) h1) fun v2 h2 =>
 bnd (dE .i64 v2 h2) fun v3 h3 =>
 bnd (aJ [(aK 0)] 1 [(0, 1, v3)] h3) fun v4 h4 =>
 bnd (bB 1 8 (env 8) v4 h4) fun v5 h5 =>
 bnd (aD .add (env 12) (aK 1) h5) fun v6 h6 =>
      kk5 (env 0) (env 1) (env 2) v5 (env 11) v6 h6) (
      q0 (env 0) (env 1) (env 8) h1) := by kernel_rfl
theorem bFf (kk5 : eU) : (fun (env : bF) (h : Hp) =>
 bnd (aD .lss (env 12) (env 11) h) fun v1 h1 =>
 aX v1 (
 bnd (dP (env 2) (env 12) h1) fun v2 h2 =>
 bnd (dE .i64 v2 h2) fun v3 h3 =>
 bnd (aJ [(aK 0)] 1 [(0, 1, v3)] h3) fun v4 h4 =>
 bnd (bB 1 8 (env 8) v4 h4) fun v5 h5 =>
 bnd (aD .add (env 12) (aK 1) h5) fun v6 h6 =>
      kk5 (env 0) (env 1) (env 2) v5 (env 11) v6 h6) (
      fZ r n (env 0) (env 1) (env 8) h1)) = (K6 (pC r n kk5) 0 1 2 8 11 12) := by kernel_rfl
theorem bWa (kk5 : eU) : D59 r n tP (xs x0 0 (K3 (fZ r n) 0 1 8)) (K6 kk5 0 1 2 8 11 12) = (K6 (pC r n kk5) 0 1 2 8 11 12) :=
 (bXj r n kk5 (fZ r n)).trans (bFf r n kk5)
theorem cEj (m : Nat) : aO (fun kk => D59 r n tP (xs x0 0 (K3 (fZ r n) 0 1 8)) kk) m = (K6 (pR r n m) 0 1 2 8 11 12) := by
 induction m with
 | zero => exact (by kernel_rfl : aO (fun kk => D59 r n tP (xs x0 0 (K3 (fZ r n) 0 1 8)) kk) 0 = (K6 (pR r n 0) 0 1 2 8 11 12))
 | succ m ih =>
  refine (by kernel_rfl : aO (fun kk => D59 r n tP (xs x0 0 (K3 (fZ r n) 0 1 8)) kk) (m + 1) = D59 r n tP (xs x0 0 (K3 (fZ r n) 0 1 8)) (aO (fun kk => D59 r n tP (xs x0 0 (K3 (fZ r n) 0 1 8)) kk) m)).trans ?_
  rw [ih]
  exact (bWa r n (pR r n m)).trans (by kernel_rfl)
theorem cUo : D59 r n aSq (xs x0 0 (K3 (fZ r n) 0 1 8)) (K3 (fZ r n) 0 1 8) = (K6 (bRv r n) 0 1 2 8 11 12) :=
 (by kernel_rfl : D59 r n aSq (xs x0 0 (K3 (fZ r n) 0 1 8)) (K3 (fZ r n) 0 1 8) = aO (fun kk => D59 r n tP (xs x0 0 (K3 (fZ r n) 0 1 8)) kk) n).trans ((cEj r n n).trans (by kernel_rfl))
theorem cRc : D59 r n bOz x0 (K3 (fZ r n) 0 1 8) = (K6 (aWt r n) 0 1 2 8 11 12) :=
 (by kernel_rfl : D59 r n bOz x0 (K3 (fZ r n) 0 1 8) = D59 r n aSq (xs x0 0 (K3 (fZ r n) 0 1 8)) (K3 (fZ r n) 0 1 8)).trans
 ((cUo r n).trans (by kernel_rfl))
theorem bUb : D59 r n aWo x0 r59 = D59 r n aJk x0 (K3 (fZ r n) 0 1 8) :=
 congrArg (fun k => D59 r n aJk x0 k) (cPh r n)
theorem bWz : D59 r n aJk x0 (K3 (fZ r n) 0 1 8) = D59 r n cKm x0 (K6 (aWt r n) 0 1 2 8 11 12) :=
 congrArg (fun k => D59 r n cKm x0 k) (cRc r n)
theorem cNz : D59 r n aWo x0 r59 = (K4 (aYg r n) 0 1 2 8) :=
 (bUb r n).trans
 ((bWz r n).trans
 ((by kernel_rfl)))
theorem bVc : D59 r n aWi x0 r59 = D59 r n cJr x0 (K4 (aYg r n) 0 1 2 8) :=
 congrArg (fun k => D59 r n cJr x0 k) (cNz r n)
theorem cQd : D59 r n aWi x0 r59 = (K3 (aTp r n) 0 1 2) :=
 (bVc r n).trans
 ((by kernel_rfl))
theorem cYj : D59 r n c59 x0 r59 = D59 r n bPf x0 (K3 (aTp r n) 0 1 2) :=
 congrArg (fun k => D59 r n bPf x0 k) (cQd r n)
theorem dHm : D59 r n c59 x0 r59 = (K3 (s59 r n) 0 1 2) :=
 (cYj r n).trans
 ((by kernel_rfl))
theorem cHs : aE CF r n 59 args h = s59 r n (aT args 0) (aT args 1) (aT args 2) h :=
 (by kernel_rfl : aE CF r n 59 args h = D59 r n c59 x0 r59 (aH args) h).trans ((congrFun (congrFun (dHm r n) (aH args)) h).trans (by kernel_rfl))
noncomputable def gS (r : RT) (n : Nat) (x3 : DV) (h0 : Hp) : aG :=
 bnd (dA .add (.s [45]) x3 h0) fun v1 h1 =>
 some (v1, h1)
noncomputable def pL (r : RT) (n : Nat) (kk6 : uL) (x0 x3 : DV) (h0 : Hp) : aG :=
 bnd (aD .lss x0 (.i .i64 (Int.ofNat 0)) h0) fun v1 h1 =>
 aX v1 (
 bnd (aD .rem x0 (.i .i64 (Int.ofNat 10)) h1) fun v2 h2 =>
 bnd (aD .sub (.i .i64 (Int.ofNat 48)) v2 h2) fun v3 h3 =>
 bnd (dE .u8 v3 h3) fun v4 h4 =>
 bnd (aJ [(.i .u8 (Int.ofNat 0))] 1 [(0, 1, v4)] h4) fun v5 h5 =>
 bnd (dR v5 h5) fun v6 h6 =>
 bnd (dA .add v6 x3 h6) fun v7 h7 =>
 bnd (aD .quo x0 (.i .i64 (Int.ofNat 10)) h7) fun v8 h8 =>
      kk6 v8 v7 h8) (
      gS r n x3 h1)
noncomputable def nD (r : RT) (n : Nat) (m : Nat) : uL :=
 Nat.rec (motive := fun _ => uL) (fun _ _ _ => none) (fun _ ih => pL r n ih) m
noncomputable def bGt (r : RT) (n : Nat) : uL := nD r n n
noncomputable def aYs (r : RT) (n : Nat) (x0 x3 : DV) (h0 : Hp) : aG :=
 bGt r n x0 x3 h0
noncomputable def aXf (r : RT) (n : Nat) (x0 : DV) (h0 : Hp) : aG :=
 aYs r n x0 (.s []) h0
noncomputable def xT (r : RT) (n : Nat) (x0 : DV) (h0 : Hp) : aG :=
 bnd (aD .gtr x0 (.i .i64 (Int.ofNat 0)) h0) fun v1 h1 =>
 aX v1 (
 bnd (aD .quo x0 (.i .i64 (Int.ofNat 10)) h1) fun v2 h2 =>
 bnd (r 62 [v2] h2) fun v3 h3 =>
 bnd (aD .rem x0 (.i .i64 (Int.ofNat 10)) h3) fun v4 h4 =>
 bnd (r 62 [v4] h4) fun v5 h5 =>
 bnd (dA .add v3 v5 h5) fun v6 h6 =>
 some (v6, h6)) (
  aXf r n x0 h1)
noncomputable def yV (r : RT) (n : Nat) (x0 : DV) (h0 : Hp) : aG :=
 bnd (aD .geq x0 (.i .i64 (Int.ofNat 0)) h0) fun v1 h1 =>
 bnd (gD v1 true (some (x0, h1)) h1) fun v2 h2 =>
 bnd (gD v1 true (aD .lss v2 (.i .i64 (Int.ofNat 10)) h2) h2) fun v3 h3 =>
 bnd (aQ v1 v3 (.b false) h3) fun v4 h4 =>
 aX v4 (
 bnd (aD .add (.i .i64 (Int.ofNat 48)) x0 h4) fun v5 h5 =>
 bnd (dE .u8 v5 h5) fun v6 h6 =>
 bnd (aJ [(.i .u8 (Int.ofNat 0))] 1 [(0, 1, v6)] h6) fun v7 h7 =>
 bnd (dR v7 h7) fun v8 h8 =>
 some (v8, h8)) (
  xT r n x0 h4)
noncomputable def s62 (r : RT) (n : Nat) (x0 : DV) (h0 : Hp) : aG :=
 yV r n x0 h0
noncomputable abbrev c62 : Code := cf Tryz.f62
noncomputable abbrev aTu : Code := cR c62
noncomputable abbrev aSx : Code := cR aTu
noncomputable abbrev aSl : Code := cR aSx
noncomputable abbrev aVz : Code := cR aSl
noncomputable abbrev dAf : Code := cR aVz
noncomputable abbrev aXt : Code := cL aVz
noncomputable abbrev aVq : Code := cL aXt
noncomputable abbrev tY : Code := cL aVq
noncomputable abbrev cJn : Code := cL aSl
noncomputable abbrev bLd : Code := cL aSx
noncomputable abbrev aQj : Code := cL aTu
noncomputable abbrev bJs : Code := cL c62
noncomputable abbrev r62 : K := aS CF Tryz.f62
noncomputable def D62 (r : RT) (n : Nat) (c : Code) (X : Nat → K) (k : K) : K := aP CF r 38 n c X r62 k
theorem cRb : D62 r n dAf x0 r62 = (K1 (gS r n) 3) :=
 (by kernel_rfl)
theorem bXm (kk6 : uL) (q0 : TT1) : D62 r n tY (xs x0 0 (K1 q0 3)) (K2 kk6 0 3) = fun (env : bF) (h : Hp) =>
 bnd (aD .lss (env 0) (.i .i64 (Int.ofNat 0)) h) fun v1 h1 =>
 aX v1 (
 bnd (aD .rem (env 0) (.i .i64 (Int.ofNat 10)) h1) fun v2 h2 =>
 bnd (aD .sub (.i .i64 (Int.ofNat 48)) v2 h2) fun v3 h3 =>
 bnd (dE .u8 v3 h3) fun v4 h4 =>
 bnd (aJ [(.i .u8 (Int.ofNat 0))] 1 [(0, 1, v4)] h4) fun v5 h5 =>
 bnd (dR v5 h5) fun v6 h6 =>
 bnd (dA .add v6 (env 3) h6) fun v7 h7 =>
 bnd (aD .quo (env 0) (.i .i64 (Int.ofNat 10)) h7) fun v8 h8 =>
      kk6 v8 v7 h8) (
      q0 (env 3) h1) := by kernel_rfl
theorem bEk (kk6 : uL) : (fun (env : bF) (h : Hp) =>
 bnd (aD .lss (env 0) (.i .i64 (Int.ofNat 0)) h) fun v1 h1 =>
 aX v1 (
 bnd (aD .rem (env 0) (.i .i64 (Int.ofNat 10)) h1) fun v2 h2 =>
 bnd (aD .sub (.i .i64 (Int.ofNat 48)) v2 h2) fun v3 h3 =>
 bnd (dE .u8 v3 h3) fun v4 h4 =>
 bnd (aJ [(.i .u8 (Int.ofNat 0))] 1 [(0, 1, v4)] h4) fun v5 h5 =>
 bnd (dR v5 h5) fun v6 h6 =>
 bnd (dA .add v6 (env 3) h6) fun v7 h7 =>
 bnd (aD .quo (env 0) (.i .i64 (Int.ofNat 10)) h7) fun v8 h8 =>
      kk6 v8 v7 h8) (
      gS r n (env 3) h1)) = (K2 (pL r n kk6) 0 3) := by kernel_rfl
theorem bWs (kk6 : uL) : D62 r n tY (xs x0 0 (K1 (gS r n) 3)) (K2 kk6 0 3) = (K2 (pL r n kk6) 0 3) :=
 (bXm r n kk6 (gS r n)).trans (bEk r n kk6)
theorem bVq (m : Nat) : aO (fun kk => D62 r n tY (xs x0 0 (K1 (gS r n) 3)) kk) m = (K2 (nD r n m) 0 3) := by
 induction m with
 | zero => exact (by kernel_rfl : aO (fun kk => D62 r n tY (xs x0 0 (K1 (gS r n) 3)) kk) 0 = (K2 (nD r n 0) 0 3))
 | succ m ih =>
  refine (by kernel_rfl : aO (fun kk => D62 r n tY (xs x0 0 (K1 (gS r n) 3)) kk) (m + 1) = D62 r n tY (xs x0 0 (K1 (gS r n) 3)) (aO (fun kk => D62 r n tY (xs x0 0 (K1 (gS r n) 3)) kk) m)).trans ?_
  rw [ih]
  exact (bWs r n (nD r n m)).trans (by kernel_rfl)
theorem cQl : D62 r n aVq (xs x0 0 (K1 (gS r n) 3)) (K1 (gS r n) 3) = (K2 (bGt r n) 0 3) :=
 (by kernel_rfl : D62 r n aVq (xs x0 0 (K1 (gS r n) 3)) (K1 (gS r n) 3) = aO (fun kk => D62 r n tY (xs x0 0 (K1 (gS r n) 3)) kk) n).trans ((bVq r n n).trans (by kernel_rfl))
theorem cFu : D62 r n aVz x0 r62 = D62 r n aXt x0 (K1 (gS r n) 3) :=
 congrArg (fun k => D62 r n aXt x0 k) (cRb r n)
theorem cLd : D62 r n aVz x0 r62 = (K2 (aYs r n) 0 3) :=
 (cFu r n).trans
 ((by kernel_rfl : D62 r n aXt x0 (K1 (gS r n) 3) = D62 r n aVq (xs x0 0 (K1 (gS r n) 3)) (K1 (gS r n) 3)).trans
 ((cQl r n).trans (by kernel_rfl)))
theorem bWv : D62 r n aSl x0 r62 = D62 r n cJn x0 (K2 (aYs r n) 0 3) :=
 congrArg (fun k => D62 r n cJn x0 k) (cLd r n)
theorem cOf : D62 r n aSl x0 r62 = (K1 (aXf r n) 0) :=
 (bWv r n).trans
 ((by kernel_rfl))
theorem cDz : D62 r n aSx x0 r62 = D62 r n bLd x0 (K1 (aXf r n) 0) :=
 congrArg (fun k => D62 r n bLd x0 k) (cOf r n)
theorem cKt : D62 r n aSx x0 r62 = (K1 (xT r n) 0) :=
 (cDz r n).trans
 ((by kernel_rfl))
theorem bZp : D62 r n aTu x0 r62 = D62 r n aQj x0 (K1 (xT r n) 0) :=
 congrArg (fun k => D62 r n aQj x0 k) (cKt r n)
theorem cGe (q0 : TT1) : D62 r n aQj x0 (K1 q0 0) = fun (env : bF) (h : Hp) =>
 bnd (aD .geq (env 0) (.i .i64 (Int.ofNat 0)) h) fun v1 h1 =>
 bnd (gD v1 true (some ((env 0), h1)) h1) fun v2 h2 =>
 bnd (gD v1 true (aD .lss v2 (.i .i64 (Int.ofNat 10)) h2) h2) fun v3 h3 =>
 bnd (aQ v1 v3 (.b false) h3) fun v4 h4 =>
 aX v4 (
 bnd (aD .add (.i .i64 (Int.ofNat 48)) (env 0) h4) fun v5 h5 =>
 bnd (dE .u8 v5 h5) fun v6 h6 =>
 bnd (aJ [(.i .u8 (Int.ofNat 0))] 1 [(0, 1, v6)] h6) fun v7 h7 =>
 bnd (dR v7 h7) fun v8 h8 =>
 some (v8, h8)) (
   q0 (env 0) h4) := by kernel_rfl
theorem bFe : (fun (env : bF) (h : Hp) =>
 bnd (aD .geq (env 0) (.i .i64 (Int.ofNat 0)) h) fun v1 h1 =>
 bnd (gD v1 true (some ((env 0), h1)) h1) fun v2 h2 =>
 bnd (gD v1 true (aD .lss v2 (.i .i64 (Int.ofNat 10)) h2) h2) fun v3 h3 =>
 bnd (aQ v1 v3 (.b false) h3) fun v4 h4 =>
 aX v4 (
 bnd (aD .add (.i .i64 (Int.ofNat 48)) (env 0) h4) fun v5 h5 =>
 bnd (dE .u8 v5 h5) fun v6 h6 =>
 bnd (aJ [(.i .u8 (Int.ofNat 0))] 1 [(0, 1, v6)] h6) fun v7 h7 =>
 bnd (dR v7 h7) fun v8 h8 =>
 some (v8, h8)) (
   xT r n (env 0) h4)) = (K1 (yV r n) 0) := by kernel_rfl
theorem cQg : D62 r n aTu x0 r62 = (K1 (yV r n) 0) :=
 (bZp r n).trans
 ((cGe r n (xT r n)).trans (bFe r n))
theorem dBt : D62 r n c62 x0 r62 = D62 r n bJs x0 (K1 (yV r n) 0) :=
 congrArg (fun k => D62 r n bJs x0 k) (cQg r n)
theorem dEs : D62 r n c62 x0 r62 = (K1 (s62 r n) 0) :=
 (dBt r n).trans
 ((by kernel_rfl))
theorem aWf : aE CF r n 62 args h = s62 r n (aT args 0) h :=
 (by kernel_rfl : aE CF r n 62 args h = D62 r n c62 x0 r62 (aH args) h).trans ((congrFun (congrFun (dEs r n) (aH args)) h).trans (by kernel_rfl))
noncomputable def eP (r : RT) (n : Nat) (x3 : DV) (h0 : Hp) : aG :=
 bnd (dA .add x3 (.s [39]) h0) fun v1 h1 =>
 some (v1, h1)
noncomputable def aKh (r : RT) (n : Nat) (kk5 : mE) (x0 x3 x4 : DV) (h0 : Hp) : aG :=
 bnd (aD .add x4 (.i .i64 (Int.ofNat 1)) h0) fun v1 h1 =>
  kk5 x0 x3 v1 h1
noncomputable def aWp (r : RT) (n : Nat) (kk5 : mE) (x0 x3 x4 : DV) (h0 : Hp) : aG :=
 bnd (aD .add x4 (.i .i64 (Int.ofNat 1)) h0) fun v1 h1 =>
 bnd (dY x0 (some x4) (some v1) h1) fun v2 h2 =>
 bnd (dA .add x3 v2 h2) fun v3 h3 =>
 bnd (dP x0 x4 h3) fun v4 h4 =>
 bnd (aD .eql v4 (.i .u8 (Int.ofNat 39)) h4) fun v5 h5 =>
 aX v5 (
 bnd (dA .add v3 (.s [39]) h5) fun v6 h6 =>
  aKh r n kk5 x0 v6 x4 h6) (
  aKh r n kk5 x0 v3 x4 h5)
noncomputable def rX (r : RT) (n : Nat) (kk5 : mE) (x0 x3 x4 : DV) (h0 : Hp) : aG :=
 bnd (dI x0 h0) fun v1 h1 =>
 bnd (aD .lss x4 v1 h1) fun v2 h2 =>
 aX v2 (
   aWp r n kk5 x0 x3 x4 h2) (
   eP r n x3 h2)
noncomputable def pP (r : RT) (n : Nat) (m : Nat) : mE :=
 Nat.rec (motive := fun _ => mE) (fun _ _ _ _ => none) (fun _ ih => rX r n ih) m
noncomputable def bSl (r : RT) (n : Nat) : mE := pP r n n
noncomputable def aVn (r : RT) (n : Nat) (x0 x3 x4 : DV) (h0 : Hp) : aG :=
 bSl r n x0 x3 x4 h0
noncomputable def aWv (r : RT) (n : Nat) (x0 x3 : DV) (h0 : Hp) : aG :=
 aVn r n x0 x3 (.i .i64 (Int.ofNat 0)) h0
noncomputable def aTl (r : RT) (n : Nat) (x0 : DV) (h0 : Hp) : aG :=
 aWv r n x0 (.s [39]) h0
noncomputable def s63 (r : RT) (n : Nat) (x0 : DV) (h0 : Hp) : aG :=
 aTl r n x0 h0
noncomputable abbrev c63 : Code := cf Tryz.f63
noncomputable abbrev aXu : Code := cR c63
noncomputable abbrev aUj : Code := cR aXu
noncomputable abbrev cZt : Code := cR aUj
noncomputable abbrev aKj : Code := cL aUj
noncomputable abbrev bHo : Code := cR aKj
noncomputable abbrev aSe : Code := cL bHo
noncomputable abbrev oS : Code := cL aSe
noncomputable abbrev aWm : Code := cR oS
noncomputable abbrev cYf : Code := cR aWm
noncomputable abbrev bDg : Code := cL aWm
noncomputable abbrev bTi : Code := cL oS
noncomputable abbrev bHd : Code := cL aKj
noncomputable abbrev bEg : Code := cL aXu
noncomputable abbrev bPd : Code := cL c63
noncomputable abbrev r63 : K := aS CF Tryz.f63
noncomputable def D63 (r : RT) (n : Nat) (c : Code) (X : Nat → K) (k : K) : K := aP CF r 26 n c X r63 k
theorem cRq : D63 r n cZt x0 r63 = (K1 (eP r n) 3) :=
 (by kernel_rfl)
theorem cLr (kk5 : mE) : D63 r n cYf (xs x0 0 (K1 (eP r n) 3)) (K3 kk5 0 3 4) = (K3 (aKh r n kk5) 0 3 4) :=
 (by kernel_rfl)
theorem bYm (kk5 : mE) : D63 r n aWm (xs x0 0 (K1 (eP r n) 3)) (K3 kk5 0 3 4) = D63 r n bDg (xs x0 0 (K1 (eP r n) 3)) (K3 (aKh r n kk5) 0 3 4) :=
 congrArg (fun k => D63 r n bDg (xs x0 0 (K1 (eP r n) 3)) k) (cLr r n kk5)
theorem cLc (kk5 : mE) : D63 r n aWm (xs x0 0 (K1 (eP r n) 3)) (K3 kk5 0 3 4) = (K3 (aWp r n kk5) 0 3 4) :=
 (bYm r n kk5).trans
 ((by kernel_rfl))
theorem bUg (kk5 : mE) : D63 r n oS (xs x0 0 (K1 (eP r n) 3)) (K3 kk5 0 3 4) = D63 r n bTi (xs x0 0 (K1 (eP r n) 3)) (K3 (aWp r n kk5) 0 3 4) :=
 congrArg (fun k => D63 r n bTi (xs x0 0 (K1 (eP r n) 3)) k) (cLc r n kk5)
theorem bUq (kk5 : mE) : D63 r n oS (xs x0 0 (K1 (eP r n) 3)) (K3 kk5 0 3 4) = (K3 (rX r n kk5) 0 3 4) :=
 (bUg r n kk5).trans
 ((by kernel_rfl))
theorem cAb (m : Nat) : aO (fun kk => D63 r n oS (xs x0 0 (K1 (eP r n) 3)) kk) m = (K3 (pP r n m) 0 3 4) := by
 induction m with
 | zero => exact (by kernel_rfl : aO (fun kk => D63 r n oS (xs x0 0 (K1 (eP r n) 3)) kk) 0 = (K3 (pP r n 0) 0 3 4))
 | succ m ih =>
  refine (by kernel_rfl : aO (fun kk => D63 r n oS (xs x0 0 (K1 (eP r n) 3)) kk) (m + 1) = D63 r n oS (xs x0 0 (K1 (eP r n) 3)) (aO (fun kk => D63 r n oS (xs x0 0 (K1 (eP r n) 3)) kk) m)).trans ?_
  rw [ih]
  exact (bUq r n (pP r n m)).trans (by kernel_rfl)
theorem cVm : D63 r n aSe (xs x0 0 (K1 (eP r n) 3)) (K1 (eP r n) 3) = (K3 (bSl r n) 0 3 4) :=
 (by kernel_rfl : D63 r n aSe (xs x0 0 (K1 (eP r n) 3)) (K1 (eP r n) 3) = aO (fun kk => D63 r n oS (xs x0 0 (K1 (eP r n) 3)) kk) n).trans ((cAb r n n).trans (by kernel_rfl))
theorem cLi : D63 r n bHo x0 (K1 (eP r n) 3) = (K3 (aVn r n) 0 3 4) :=
 (by kernel_rfl : D63 r n bHo x0 (K1 (eP r n) 3) = D63 r n aSe (xs x0 0 (K1 (eP r n) 3)) (K1 (eP r n) 3)).trans
 ((cVm r n).trans (by kernel_rfl))
theorem cBd : D63 r n aUj x0 r63 = D63 r n aKj x0 (K1 (eP r n) 3) :=
 congrArg (fun k => D63 r n aKj x0 k) (cRq r n)
theorem cFh : D63 r n aKj x0 (K1 (eP r n) 3) = D63 r n bHd x0 (K3 (aVn r n) 0 3 4) :=
 congrArg (fun k => D63 r n bHd x0 k) (cLi r n)
theorem cTc : D63 r n aUj x0 r63 = (K2 (aWv r n) 0 3) :=
 (cBd r n).trans
 ((cFh r n).trans
 ((by kernel_rfl)))
theorem cBo : D63 r n aXu x0 r63 = D63 r n bEg x0 (K2 (aWv r n) 0 3) :=
 congrArg (fun k => D63 r n bEg x0 k) (cTc r n)
theorem cLz : D63 r n aXu x0 r63 = (K1 (aTl r n) 0) :=
 (cBo r n).trans
 ((by kernel_rfl))
theorem cXd : D63 r n c63 x0 r63 = D63 r n bPd x0 (K1 (aTl r n) 0) :=
 congrArg (fun k => D63 r n bPd x0 k) (cLz r n)
theorem dGp : D63 r n c63 x0 r63 = (K1 (s63 r n) 0) :=
 (cXd r n).trans
 ((by kernel_rfl))
theorem cIr : aE CF r n 63 args h = s63 r n (aT args 0) h :=
 (by kernel_rfl : aE CF r n 63 args h = D63 r n c63 x0 r63 (aH args) h).trans ((congrFun (congrFun (dGp r n) (aH args)) h).trans (by kernel_rfl))
noncomputable def iA (r : RT) (n : Nat) (h0 : Hp) : aG :=
 some ((.i .i64 (Int.negSucc 0)), h0)
noncomputable def oA (r : RT) (n : Nat) (kk4 : eY) (x0 x1 x7 x8 : DV) (h0 : Hp) : aG :=
 bnd (aD .lss x8 x7 h0) fun v1 h1 =>
 aX v1 (
 bnd (aF 1 x0 x8 h1) fun v2 h2 =>
 bnd (aA v2 h2) fun v3 h3 =>
 bnd (jS CF r x1 [v3] h3) fun v4 h4 =>
 aX v4 (
 some (x8, h4)) (
 bnd (aD .add x8 (.i .i64 (Int.ofNat 1)) h4) fun v5 h5 =>
    kk4 x0 x1 x7 v5 h5)) (
      iA r n h1)
noncomputable def nW (r : RT) (n : Nat) (m : Nat) : eY :=
 Nat.rec (motive := fun _ => eY) (fun _ _ _ _ _ => none) (fun _ ih => oA r n ih) m
noncomputable def bNu (r : RT) (n : Nat) : eY := nW r n n
noncomputable def aWg (r : RT) (n : Nat) (x0 x1 x7 x8 : DV) (h0 : Hp) : aG :=
 bNu r n x0 x1 x7 x8 h0
noncomputable def aUu (r : RT) (n : Nat) (x0 x1 : DV) (h0 : Hp) : aG :=
 bnd (cO x0 h0) fun v1 h1 =>
  aWg r n x0 x1 v1 (.i .i64 (Int.ofNat 0)) h1
noncomputable def s67 (r : RT) (n : Nat) (x0 x1 : DV) (h0 : Hp) : aG :=
 aUu r n x0 x1 h0
noncomputable abbrev c67 : Code := cf Tryz.f67
noncomputable abbrev aXg : Code := cR c67
noncomputable abbrev cWu : Code := cR aXg
noncomputable abbrev aJy : Code := cL aXg
noncomputable abbrev bIo : Code := cR aJy
noncomputable abbrev aXy : Code := cL bIo
noncomputable abbrev yO : Code := cL aXy
noncomputable abbrev cHu : Code := cL aJy
noncomputable abbrev cIa : Code := cL c67
noncomputable abbrev r67 : K := aS CF Tryz.f67
noncomputable def D67 (r : RT) (n : Nat) (c : Code) (X : Nat → K) (k : K) : K := aP CF r 19 n c X r67 k
theorem cRd : D67 r n cWu x0 r67 = (K0 (iA r n)) :=
 (by kernel_rfl)
theorem bYq (kk4 : eY) : D67 r n yO (xs x0 0 (K0 (iA r n))) (K4 kk4 0 1 7 8) = (K4 (oA r n kk4) 0 1 7 8) :=
 (by kernel_rfl)
theorem cAj (m : Nat) : aO (fun kk => D67 r n yO (xs x0 0 (K0 (iA r n))) kk) m = (K4 (nW r n m) 0 1 7 8) := by
 induction m with
 | zero => exact (by kernel_rfl : aO (fun kk => D67 r n yO (xs x0 0 (K0 (iA r n))) kk) 0 = (K4 (nW r n 0) 0 1 7 8))
 | succ m ih =>
  refine (by kernel_rfl : aO (fun kk => D67 r n yO (xs x0 0 (K0 (iA r n))) kk) (m + 1) = D67 r n yO (xs x0 0 (K0 (iA r n))) (aO (fun kk => D67 r n yO (xs x0 0 (K0 (iA r n))) kk) m)).trans ?_
  rw [ih]
  exact (bYq r n (nW r n m)).trans (by kernel_rfl)
theorem cNj : D67 r n aXy (xs x0 0 (K0 (iA r n))) (K0 (iA r n)) = (K4 (bNu r n) 0 1 7 8) :=
 (by kernel_rfl : D67 r n aXy (xs x0 0 (K0 (iA r n))) (K0 (iA r n)) = aO (fun kk => D67 r n yO (xs x0 0 (K0 (iA r n))) kk) n).trans ((cAj r n n).trans (by kernel_rfl))
theorem cUg : D67 r n bIo x0 (K0 (iA r n)) = (K4 (aWg r n) 0 1 7 8) :=
 (by kernel_rfl : D67 r n bIo x0 (K0 (iA r n)) = D67 r n aXy (xs x0 0 (K0 (iA r n))) (K0 (iA r n))).trans
 ((cNj r n).trans (by kernel_rfl))
theorem cGg : D67 r n aXg x0 r67 = D67 r n aJy x0 (K0 (iA r n)) :=
 congrArg (fun k => D67 r n aJy x0 k) (cRd r n)
theorem cFy : D67 r n aJy x0 (K0 (iA r n)) = D67 r n cHu x0 (K4 (aWg r n) 0 1 7 8) :=
 congrArg (fun k => D67 r n cHu x0 k) (cUg r n)
theorem cSd : D67 r n aXg x0 r67 = (K2 (aUu r n) 0 1) :=
 (cGg r n).trans
 ((cFy r n).trans
 ((by kernel_rfl)))
theorem dAs : D67 r n c67 x0 r67 = D67 r n cIa x0 (K2 (aUu r n) 0 1) :=
 congrArg (fun k => D67 r n cIa x0 k) (cSd r n)
theorem dJh : D67 r n c67 x0 r67 = (K2 (s67 r n) 0 1) :=
 (dAs r n).trans
 ((by kernel_rfl))
theorem cIi : aE CF r n 67 args h = s67 r n (aT args 0) (aT args 1) h :=
 (by kernel_rfl : aE CF r n 67 args h = D67 r n c67 x0 r67 (aH args) h).trans ((congrFun (congrFun (dJh r n) (aH args)) h).trans (by kernel_rfl))
noncomputable def s70 (r : RT) (n : Nat) (x0 : DV) (h0 : Hp) : aG :=
 bnd (cF zr6 h0) fun v1 h1 =>
 bnd (r 85 [x0, (.f 86 [] [])] h1) fun v2 h2 =>
 bnd (aC 0 v2 h2) fun v3 h3 =>
 bnd (aC 1 v2 h3) fun v4 h4 =>
 bnd (aC 2 v2 h4) fun v5 h5 =>
 bnd (aI 6 v1 v3 h5) fun _ h6 =>
 bnd (aN 6 v1 h6) fun v7 _ =>
 some (.t [v7, v4, v5], h6)
noncomputable abbrev c70 : Code := cf Tryz.f70
noncomputable abbrev r70 : K := aS CF Tryz.f70
noncomputable def D70 (r : RT) (n : Nat) (c : Code) (X : Nat → K) (k : K) : K := aP CF r 10 n c X r70 k
theorem dId : D70 r n c70 x0 r70 = (K1 (s70 r n) 0) :=
 (by kernel_rfl)
theorem dBf : aE CF r n 70 args h = s70 r n (aT args 0) h :=
 (by kernel_rfl : aE CF r n 70 args h = D70 r n c70 x0 r70 (aH args) h).trans ((congrFun (congrFun (dId r n) (aH args)) h).trans (by kernel_rfl))
noncomputable def s71 (r : RT) (n : Nat) (x0 x1 : DV) (h0 : Hp) : aG :=
 bnd (cB x0 h0) fun v1 h1 =>
 bnd (cF [(.s []), (aK 0), (aK 0), (aK 0), .l0, .l0] h1) fun v2 h2 =>
 bnd (aN 6 v1 h2) fun v3 h3 =>
 bnd (r 87 [v3, x1, (.b false)] h3) fun v4 h4 =>
 bnd (aC 0 v4 h4) fun v5 h5 =>
 bnd (aC 1 v4 h5) fun v6 h6 =>
 bnd (aC 2 v4 h6) fun v7 h7 =>
 bnd (aI 6 v2 v5 h7) fun _ h8 =>
 bnd (aN 6 v2 h8) fun v9 _ =>
 some (.t [v9, v6, v7], h8)
noncomputable abbrev c71 : Code := cf Tryz.f71
noncomputable abbrev r71 : K := aS CF Tryz.f71
noncomputable def D71 (r : RT) (n : Nat) (c : Code) (X : Nat → K) (k : K) : K := aP CF r 13 n c X r71 k
theorem dIm : D71 r n c71 x0 r71 = (K2 (s71 r n) 0 1) :=
 (by kernel_rfl)
theorem cZa : aE CF r n 71 args h = s71 r n (aT args 0) (aT args 1) h :=
 (by kernel_rfl : aE CF r n 71 args h = D71 r n c71 x0 r71 (aH args) h).trans ((congrFun (congrFun (dIm r n) (aH args)) h).trans (by kernel_rfl))
noncomputable def s72 (r : RT) (n : Nat) (x0 x1 x2 : DV) (h0 : Hp) : aG :=
 bnd (cB x2 h0) fun v1 h1 =>
 bnd (aN 6 v1 h1) fun v2 h2 =>
 bnd (r 88 [x0, x1, v2] h2) fun v3 h3 =>
 bnd (aC 0 v3 h3) fun v4 h4 =>
 bnd (aC 1 v3 h4) fun v5 h5 =>
 bnd (aD .neq v5 (aK 0) h5) fun v6 h6 =>
 aX v6 (
 some (.t [(aK 0), v5], h6)) (
 bnd (r 75 [x0, v4, (aK 0)] h6) fun v7 h7 =>
 bnd (r 89 [x0, x1, v7, v4] h7) fun v8 h8 =>
 bnd (aD .neq v8 (aK 0) h8) fun v9 h9 =>
 aX v9 (
 some (.t [(aK 0), v8], h9)) (
 some (.t [v4, (aK 0)], h9)))
noncomputable abbrev c72 : Code := cf Tryz.f72
noncomputable abbrev r72 : K := aS CF Tryz.f72
noncomputable def D72 (r : RT) (n : Nat) (c : Code) (X : Nat → K) (k : K) : K := aP CF r 32 n c X r72 k
theorem dGq : D72 r n c72 x0 r72 = (K3 (s72 r n) 0 1 2) :=
 (by kernel_rfl)
theorem dBq : aE CF r n 72 args h = s72 r n (aT args 0) (aT args 1) (aT args 2) h :=
 (by kernel_rfl : aE CF r n 72 args h = D72 r n c72 x0 r72 (aH args) h).trans ((congrFun (congrFun (dGq r n) (aH args)) h).trans (by kernel_rfl))
noncomputable def s73 (r : RT) (n : Nat) (x0 x1 : DV) (h0 : Hp) : aG :=
 bnd (bD x0 h0) fun v1 h1 =>
 bnd (aB 0 v1 h1) fun v2 h2 =>
 bnd (aA v2 h2) fun v3 h3 =>
 bnd (isF [v3, x1] h3) fun v4 h4 =>
 bnd (gD v4 true (some (x0, h4)) h4) fun v5 h5 =>
 bnd (gD v4 true (bD v5 h5) h5) fun v6 h6 =>
 bnd (gD v4 true (aB 0 v6 h6) h6) fun v7 h7 =>
 bnd (gD v4 true (aA v7 h7) h7) fun v8 h8 =>
 bnd (gD v4 true (some (x1, h8)) h8) fun v9 h9 =>
 bnd (gD v4 true (jL [v8, v9] h9) h9) fun v10 h10 =>
 bnd (gD v4 true (some (x0, h10)) h10) fun v11 h11 =>
 bnd (gD v4 true (r 27 [v11, (.i .i64 (Int.ofNat 1))] h11) h11) fun v12 h12 =>
 bnd (gD v4 true (aD .eql v10 v12 h12) h12) fun v13 h13 =>
 bnd (aQ v4 v13 (.b false) h13) fun v14 h14 =>
 bnd (gD v14 true (some (x0, h14)) h14) fun v15 h15 =>
 bnd (gD v14 true (bD v15 h15) h15) fun v16 h16 =>
 bnd (gD v14 true (aB 0 v16 h16) h16) fun v17 h17 =>
 bnd (gD v14 true (aA v17 h17) h17) fun v18 h18 =>
 bnd (gD v14 true (some (x1, h18)) h18) fun v19 h19 =>
 bnd (gD v14 true (hZ [v18, v19] h19) h19) fun v20 h20 =>
 bnd (gD v14 true (aD .eql v20 (.i .i64 (Int.ofNat 6)) h20) h20) fun v21 h21 =>
 bnd (aQ v14 v21 (.b false) h21) fun v22 h22 =>
 some (v22, h22)
noncomputable abbrev c73 : Code := cf Tryz.f73
noncomputable abbrev r73 : K := aS CF Tryz.f73
noncomputable def D73 (r : RT) (n : Nat) (c : Code) (X : Nat → K) (k : K) : K := aP CF r 31 n c X r73 k
theorem dIn : D73 r n c73 x0 r73 = (K2 (s73 r n) 0 1) :=
 (by kernel_rfl)
theorem cIs : aE CF r n 73 args h = s73 r n (aT args 0) (aT args 1) h :=
 (by kernel_rfl : aE CF r n 73 args h = D73 r n c73 x0 r73 (aH args) h).trans ((congrFun (congrFun (dIn r n) (aH args)) h).trans (by kernel_rfl))
noncomputable def s75 (r : RT) (n : Nat) (x0 x1 x2 : DV) (h0 : Hp) : aG :=
 bnd (bD x0 h0) fun v1 h1 =>
 bnd (aB 0 v1 h1) fun v2 h2 =>
 bnd (aA v2 h2) fun v3 h3 =>
 bnd (sZ [v3, x1, x2] h3) fun v4 h4 =>
 bnd (aC 0 v4 h4) fun v5 h5 =>
 bnd (aC 1 v4 h5) fun v6 h6 =>
 some (v5, h6)
noncomputable abbrev c75 : Code := cf Tryz.f75
noncomputable abbrev r75 : K := aS CF Tryz.f75
noncomputable def D75 (r : RT) (n : Nat) (c : Code) (X : Nat → K) (k : K) : K := aP CF r 20 n c X r75 k
theorem dFe : D75 r n c75 x0 r75 = (K3 (s75 r n) 0 1 2) :=
 (by kernel_rfl)
theorem bKz : aE CF r n 75 args h = s75 r n (aT args 0) (aT args 1) (aT args 2) h :=
 (by kernel_rfl : aE CF r n 75 args h = D75 r n c75 x0 r75 (aH args) h).trans ((congrFun (congrFun (dFe r n) (aH args)) h).trans (by kernel_rfl))
noncomputable def s77 (r : RT) (n : Nat) (x0 x1 : DV) (h0 : Hp) : aG :=
 bnd (r 73 [x0, x1] h0) fun v1 h1 =>
 bnd (jW .not v1 h1) fun v2 h2 =>
 aX v2 (
 some ((aK 0), h2)) (
 bnd (r 75 [x0, x1, (aK 1)] h2) fun v3 h3 =>
 some (v3, h3))
noncomputable abbrev c77 : Code := cf Tryz.f77
noncomputable abbrev r77 : K := aS CF Tryz.f77
noncomputable def D77 (r : RT) (n : Nat) (c : Code) (X : Nat → K) (k : K) : K := aP CF r 12 n c X r77 k
theorem dHe : D77 r n c77 x0 r77 = (K2 (s77 r n) 0 1) :=
 (by kernel_rfl)
theorem cXz : aE CF r n 77 args h = s77 r n (aT args 0) (aT args 1) h :=
 (by kernel_rfl : aE CF r n 77 args h = D77 r n c77 x0 r77 (aH args) h).trans ((congrFun (congrFun (dHe r n) (aH args)) h).trans (by kernel_rfl))
noncomputable def s79 (r : RT) (n : Nat) (x0 x1 : DV) (h0 : Hp) : aG :=
 bnd (r 73 [x0, x1] h0) fun v1 h1 =>
 bnd (jW .not v1 h1) fun v2 h2 =>
 aX v2 (
 some ((aK 0), h2)) (
 bnd (r 75 [x0, x1, (aK 2)] h2) fun v3 h3 =>
 bnd (kH [v3] h3) fun v4 h4 =>
 some (v4, h4))
noncomputable abbrev c79 : Code := cf Tryz.f79
noncomputable abbrev r79 : K := aS CF Tryz.f79
noncomputable def D79 (r : RT) (n : Nat) (c : Code) (X : Nat → K) (k : K) : K := aP CF r 13 n c X r79 k
theorem dGz : D79 r n c79 x0 r79 = (K2 (s79 r n) 0 1) :=
 (by kernel_rfl)
theorem cXq : aE CF r n 79 args h = s79 r n (aT args 0) (aT args 1) h :=
 (by kernel_rfl : aE CF r n 79 args h = D79 r n c79 x0 r79 (aH args) h).trans ((congrFun (congrFun (dGz r n) (aH args)) h).trans (by kernel_rfl))
noncomputable def s84 (r : RT) (n : Nat) (x0 x1 : DV) (h0 : Hp) : aG :=
 bnd (lI [x0, x1] h0) fun v1 h1 =>
 some (v1, h1)
noncomputable abbrev c84 : Code := cf Tryz.f84
noncomputable abbrev r84 : K := aS CF Tryz.f84
noncomputable def D84 (r : RT) (n : Nat) (c : Code) (X : Nat → K) (k : K) : K := aP CF r 8 n c X r84 k
theorem dFh : D84 r n c84 x0 r84 = (K2 (s84 r n) 0 1) :=
 (by kernel_rfl)
theorem cHo : aE CF r n 84 args h = s84 r n (aT args 0) (aT args 1) h :=
 (by kernel_rfl : aE CF r n 84 args h = D84 r n c84 x0 r84 (aH args) h).trans ((congrFun (congrFun (dFh r n) (aH args)) h).trans (by kernel_rfl))
noncomputable def s85 (r : RT) (n : Nat) (x0 x1 : DV) (h0 : Hp) : aG :=
 bnd (cF zr6 h0) fun v1 h1 =>
 bnd (r 98 [x0] h1) fun v2 h2 =>
 bnd (aC 0 v2 h2) fun v3 h3 =>
 bnd (aC 1 v2 h3) fun v4 h4 =>
 bnd (aC 2 v2 h4) fun v5 h5 =>
 bnd (aD .neq v5 (aK 0) h5) fun v6 h6 =>
 aX v6 (
 bnd (cI zr6 [] h6) fun v7 h7 =>
 bnd (aI 6 v1 v7 h7) fun _ h8 =>
 bnd (aN 6 v1 h8) fun v9 _ =>
 some (.t [v9, v4, v5], h8)) (
 bnd (cI [.l0, (aK 0), (aK 0), (aK 0)] [(0, 1, v3)] h6) fun v10 h10 =>
 bnd (cB v10 h10) fun v11 h11 =>
 bnd (jS CF r x1 [v11] h11) fun v12 h12 =>
 bnd (cF zr6 h12) fun v13 h13 =>
 bnd (aI 6 v13 v12 h13) fun _ h14 =>
 bnd (r 99 [v11] h14) fun v15 h15 =>
 bnd (aB 4 v13 h15) fun v16 h16 =>
 bnd (aI 1 v16 v15 h16) fun _ h17 =>
 bnd (r 100 [v11] h17) fun v18 h18 =>
 bnd (aB 5 v13 h18) fun v19 h19 =>
 bnd (aI 1 v19 v18 h19) fun _ h20 =>
 bnd (r 101 [v11, (aK 0), (.s [])] h20) fun v21 h21 =>
 bnd (bD v11 h21) fun v22 h22 =>
 bnd (aB 3 v22 h22) fun v23 h23 =>
 bnd (aA v23 h23) fun v24 h24 =>
 bnd (aD .neq v24 (aK 0) h24) fun v25 h25 =>
 aX v25 (
 bnd (cI zr6 [] h25) fun v26 h26 =>
 bnd (bD v11 h26) fun v27 h27 =>
 bnd (aB 2 v27 h27) fun v28 h28 =>
 bnd (aA v28 h28) fun v29 h29 =>
 bnd (bD v11 h29) fun v30 h30 =>
 bnd (aB 3 v30 h30) fun v31 h31 =>
 bnd (aA v31 h31) fun v32 h32 =>
 bnd (aI 6 v1 v26 h32) fun v33 h33 =>
 cnd (bQ (aA v31 h33) v32 && (bQ (aA v28 h33) v29 && true)) (
 bnd (aN 6 v1 h33) fun v34 _ =>
 some (.t [v34, v29, v32], h33))) (
 bnd (aN 6 v13 h25) fun v35 h35 =>
 bnd (aI 6 v1 v35 h35) fun _ h36 =>
 bnd (aN 6 v1 h36) fun v37 _ =>
 some (.t [v37, (aK 0), (aK 0)], h36)))
noncomputable abbrev c85 : Code := cf Tryz.f85
noncomputable abbrev r85 : K := aS CF Tryz.f85
noncomputable def D85 (r : RT) (n : Nat) (c : Code) (X : Nat → K) (k : K) : K := aP CF r 52 n c X r85 k
theorem dIr : D85 r n c85 x0 r85 = (K2 (s85 r n) 0 1) :=
 (by kernel_rfl)
theorem dDu : aE CF r n 85 args h = s85 r n (aT args 0) (aT args 1) h :=
 (by kernel_rfl : aE CF r n 85 args h = D85 r n c85 x0 r85 (aH args) h).trans ((congrFun (congrFun (dIr r n) (aH args)) h).trans (by kernel_rfl))
noncomputable def s86 (r : RT) (n : Nat) (x0 : DV) (h0 : Hp) : aG :=
 bnd (cF zr6 h0) fun v1 h1 =>
 bnd (cI zr6 [(0, 1, (aK 11))] h1) fun v2 h2 =>
 bnd (cF zr6 h2) fun v3 h3 =>
 bnd (aI 6 v3 v2 h3) fun _ h4 =>
 bnd (r 102 [x0, v3] h4) fun v5 h5 =>
 bnd (r 103 [x0] h5) fun v6 h6 =>
 bnd (aB 2 v3 h6) fun v7 h7 =>
 bnd (aI 1 v7 v6 h7) fun _ h8 =>
 bnd (aN 6 v3 h8) fun v9 h9 =>
 bnd (aI 6 v1 v9 h9) fun _ h10 =>
 bnd (aN 6 v1 h10) fun v11 _ =>
 some (v11, h10)
noncomputable abbrev c86 : Code := cf Tryz.f86
noncomputable abbrev r86 : K := aS CF Tryz.f86
noncomputable def D86 (r : RT) (n : Nat) (c : Code) (X : Nat → K) (k : K) : K := aP CF r 11 n c X r86 k
theorem dEy : D86 r n c86 x0 r86 = (K1 (s86 r n) 0) :=
 (by kernel_rfl)
theorem cYp : aE CF r n 86 args h = s86 r n (aT args 0) h :=
 (by kernel_rfl : aE CF r n 86 args h = D86 r n c86 x0 r86 (aH args) h).trans ((congrFun (congrFun (dEy r n) (aH args)) h).trans (by kernel_rfl))
end Go.Dd

namespace Go.Dd
open Go.Proofs
variable (r : RT) (n : Nat) (args : List DV) (h : Hp)
noncomputable def s88 (r : RT) (n : Nat) (x0 x1 x2 : DV) (h0 : Hp) : aG :=
 bnd (cB x2 h0) fun v1 h1 =>
 bnd (r 73 [x0, x1] h1) fun v2 h2 =>
 bnd (jW .not v2 h2) fun v3 h3 =>
 aX v3 (
 some (.t [(aK 0), (aK 24)], h3)) (
 bnd (aN 6 v1 h3) fun v4 h4 =>
 bnd (r 79 [x0, x1] h4) fun v5 h5 =>
 cnd (bQ (aN 6 v1 h5) v4 && true) (
 bnd (r 106 [v4, v5] h5) fun v6 h6 =>
 bnd (aD .neq v6 (aK 0) h6) fun v7 h7 =>
 aX v7 (
 some (.t [(aK 0), v6], h7)) (
 bnd (aB 0 v1 h7) fun v8 h8 =>
 bnd (aA v8 h8) fun v9 h9 =>
 bnd (r 24 [x0, v9] h9) fun v10 h10 =>
 bnd (aC 0 v10 h10) fun v11 h11 =>
 bnd (aC 1 v10 h11) fun v12 h12 =>
 bnd (aD .neq v12 (aK 0) h12) fun v13 h13 =>
 aX v13 (
 some (.t [(aK 0), v12], h13)) (
 bnd (aB 4 v1 h13) fun v14 h14 =>
 bnd (aA v14 h14) fun v15 h15 =>
 bnd (cI [(aK 0), (.s []), (aK 0), .l0] [(0, 1, (aK 4)), (3, 1, v15)] h15) fun v16 h16 =>
 bnd (r 107 [x0, v16] h16) fun v17 h17 =>
 bnd (aC 0 v17 h17) fun v18 h18 =>
 bnd (aC 1 v17 h18) fun v19 h19 =>
 bnd (aD .neq v19 (aK 0) h19) fun v20 h20 =>
 aX v20 (
 some (.t [(aK 0), v19], h20)) (
 bnd (aB 5 v1 h20) fun v21 h21 =>
 bnd (aA v21 h21) fun v22 h22 =>
 bnd (r 108 [v22] h22) fun v23 h23 =>
 bnd (aC 0 v23 h23) fun v24 h24 =>
 bnd (aC 1 v23 h24) fun v25 h25 =>
 bnd (r 109 [x0, v24] h25) fun v26 h26 =>
 bnd (aC 0 v26 h26) fun v27 h27 =>
 bnd (aC 1 v26 h27) fun v28 h28 =>
 bnd (aD .neq v28 (aK 0) h28) fun v29 h29 =>
 aX v29 (
 some (.t [(aK 0), v28], h29)) (
 bnd (r 27 [x0, (aK 14)] (resv 1 h29)) fun v30 h30 =>
 bnd (aB 1 v1 h30) fun v31 h31 =>
 bnd (aA v31 h31) fun v32 h32 =>
 cnd (bQ (aA v31 (resv 1 h29)) v32 && true) (
 bnd (r 39 [v32] h32) fun v33 h33 =>
 bnd (aB 2 v1 h33) fun v34 h34 =>
 bnd (aA v34 h34) fun v35 h35 =>
 cnd (bQ (aA v34 h30) v35 && (bQ (aA v34 (resv 1 h29)) v35 && true)) (
 bnd (r 39 [v35] h35) fun v36 h36 =>
 bnd (aB 3 v1 h36) fun v37 h37 =>
 bnd (aA v37 h37) fun v38 h38 =>
 cnd (bQ (aA v37 h33) v38 && (bQ (aA v37 h30) v38 && (bQ (aA v37 (resv 1 h29)) v38 && true))) (
 bnd (r 39 [v38] h38) fun v39 h39 =>
 bnd (bY (cH 0 h29.next) [(aK 0), (aK 0), (aK 0), (aK 0), (aK 0), (aK 0), (aK 0)] 7 [(0, 1, v11), (1, 1, v33), (2, 1, v36), (3, 1, v39), (4, 1, v18), (5, 1, v27), (6, 1, x1)] h39) fun v40 h40 =>
 bnd (r 33 [x0, v30, (aK 0), v40] h40) fun v41 h41 =>
 bnd (aC 0 v41 h41) fun v42 h42 =>
 bnd (aC 1 v41 h42) fun v43 h43 =>
 some (.t [v42, v43], h43))))))))))
noncomputable abbrev c88 : Code := cf Tryz.f88
noncomputable abbrev r88 : K := aS CF Tryz.f88
noncomputable def D88 (r : RT) (n : Nat) (c : Code) (X : Nat → K) (k : K) : K := aP CF r 83 n c X r88 k
theorem dFr : D88 r n c88 x0 r88 = (K3 (s88 r n) 0 1 2) :=
 (by kernel_rfl)
theorem dAv : aE CF r n 88 args h = s88 r n (aT args 0) (aT args 1) (aT args 2) h :=
 (by kernel_rfl : aE CF r n 88 args h = D88 r n c88 x0 r88 (aH args) h).trans ((congrFun (congrFun (dFr r n) (aH args)) h).trans (by kernel_rfl))
noncomputable def hD (r : RT) (n : Nat) (x0 x1 x3 : DV) (h0 : Hp) : aG :=
 bnd (r 75 [x0, x1, (aK 4)] h0) fun v1 h1 =>
 bnd (r 40 [x0, x3, v1] h1) fun v2 h2 =>
 bnd (aC 0 v2 h2) fun v3 h3 =>
 bnd (aC 1 v2 h3) fun v4 h4 =>
 bnd (aD .neq v4 (aK 0) h4) fun v5 h5 =>
 aX v5 (
 some (v4, h5)) (
 bnd (bD x0 h5) fun v6 h6 =>
 bnd (aB 0 v6 h6) fun v7 h7 =>
 bnd (aA v7 h7) fun v8 h8 =>
 bnd (wX [v8, x1, (aK 4), v3] h8) fun v9 h9 =>
 some (v9, h9))
noncomputable def bNa (r : RT) (n : Nat) (kk5 : eU) (x0 x1 x2 x3 x9 x10 : DV) (h0 : Hp) : aG :=
 bnd (aD .gtr x10 (aK 0) h0) fun v1 h1 =>
 bnd (gD v1 true (some (x0, h1)) h1) fun v2 h2 =>
 bnd (gD v1 true (bD v2 h2) h2) fun v3 h3 =>
 bnd (gD v1 true (aB 0 v3 h3) h3) fun v4 h4 =>
 bnd (gD v1 true (aA v4 h4) h4) fun v5 h5 =>
 bnd (gD v1 true (some (x9, h5)) h5) fun v6 h6 =>
 bnd (gD v1 true (isF [v5, v6] h6) h6) fun v7 h7 =>
 bnd (aQ v1 v7 (.b false) h7) fun v8 h8 =>
 aX v8 (
 bnd (r 75 [x0, x9, (aK 0)] h8) fun v9 h9 =>
 bnd (r 75 [x0, v9, (aK 0)] h9) fun v10 h10 =>
 bnd (aD .eql v10 x2 h10) fun v11 h11 =>
 aX v11 (
 bnd (bD x0 h11) fun v12 h12 =>
 bnd (aB 0 v12 h12) fun v13 h13 =>
 bnd (aA v13 h13) fun v14 h14 =>
 bnd (wX [v14, x9, (aK 0), x3] h14) fun v15 h15 =>
 some (v15, h15)) (
 bnd (r 75 [x0, x9, (aK 1)] h11) fun v16 h16 =>
 bnd (aD .sub x10 (aK 1) h16) fun v17 h17 =>
    kk5 x0 x1 x2 x3 v16 v17 h17)) (
      hD r n x0 x1 x3 h8)
noncomputable def aEy (r : RT) (n : Nat) (m : Nat) : eU :=
 Nat.rec (motive := fun _ => eU) (fun _ _ _ _ _ _ _ => none) (fun _ ih => bNa r n ih) m
noncomputable def cHt (r : RT) (n : Nat) : eU := aEy r n n
noncomputable def bSs (r : RT) (n : Nat) (x0 x1 x2 x3 x9 x10 : DV) (h0 : Hp) : aG :=
 cHt r n x0 x1 x2 x3 x9 x10 h0
noncomputable def bRz (r : RT) (n : Nat) (x0 x1 x2 x3 x9 : DV) (h0 : Hp) : aG :=
 bnd (bD x0 h0) fun v1 h1 =>
 bnd (aB 0 v1 h1) fun v2 h2 =>
 bnd (aA v2 h2) fun v3 h3 =>
 bnd (aKq [v3] h3) fun v4 h4 =>
  bSs r n x0 x1 x2 x3 x9 v4 h4
noncomputable def bGr (r : RT) (n : Nat) (x0 x1 x2 x3 : DV) (h0 : Hp) : aG :=
 bnd (r 75 [x0, x1, (aK 4)] h0) fun v1 h1 =>
  bRz r n x0 x1 x2 x3 v1 h1
noncomputable def s89 (r : RT) (n : Nat) (x0 x1 x2 x3 : DV) (h0 : Hp) : aG :=
 bGr r n x0 x1 x2 x3 h0
noncomputable abbrev c89 : Code := cf Tryz.f89
noncomputable abbrev aUn : Code := cR c89
noncomputable abbrev aWr : Code := cR aUn
noncomputable abbrev dCz : Code := cR aWr
noncomputable abbrev aLf : Code := cL aWr
noncomputable abbrev bKk : Code := cR aLf
noncomputable abbrev aVf : Code := cL bKk
noncomputable abbrev xH : Code := cL aVf
noncomputable abbrev cId : Code := cL aLf
noncomputable abbrev cIc : Code := cL aUn
noncomputable abbrev bKr : Code := cL c89
noncomputable abbrev r89 : K := aS CF Tryz.f89
noncomputable def D89 (r : RT) (n : Nat) (c : Code) (X : Nat → K) (k : K) : K := aP CF r 69 n c X r89 k
theorem cRy : D89 r n dCz x0 r89 = (K3 (hD r n) 0 1 3) :=
 (by kernel_rfl)
theorem bUr (kk5 : eU) : D89 r n xH (xs x0 0 (K3 (hD r n) 0 1 3)) (K6 kk5 0 1 2 3 9 10) = (K6 (bNa r n kk5) 0 1 2 3 9 10) :=
 (by kernel_rfl)
theorem bZt (m : Nat) : aO (fun kk => D89 r n xH (xs x0 0 (K3 (hD r n) 0 1 3)) kk) m = (K6 (aEy r n m) 0 1 2 3 9 10) := by
 induction m with
 | zero => exact (by kernel_rfl : aO (fun kk => D89 r n xH (xs x0 0 (K3 (hD r n) 0 1 3)) kk) 0 = (K6 (aEy r n 0) 0 1 2 3 9 10))
 | succ m ih =>
  refine (by kernel_rfl : aO (fun kk => D89 r n xH (xs x0 0 (K3 (hD r n) 0 1 3)) kk) (m + 1) = D89 r n xH (xs x0 0 (K3 (hD r n) 0 1 3)) (aO (fun kk => D89 r n xH (xs x0 0 (K3 (hD r n) 0 1 3)) kk) m)).trans ?_
  rw [ih]
  exact (bUr r n (aEy r n m)).trans (by kernel_rfl)
theorem cUk : D89 r n aVf (xs x0 0 (K3 (hD r n) 0 1 3)) (K3 (hD r n) 0 1 3) = (K6 (cHt r n) 0 1 2 3 9 10) :=
 (by kernel_rfl : D89 r n aVf (xs x0 0 (K3 (hD r n) 0 1 3)) (K3 (hD r n) 0 1 3) = aO (fun kk => D89 r n xH (xs x0 0 (K3 (hD r n) 0 1 3)) kk) n).trans ((bZt r n n).trans (by kernel_rfl))
theorem cSf : D89 r n bKk x0 (K3 (hD r n) 0 1 3) = (K6 (bSs r n) 0 1 2 3 9 10) :=
 (by kernel_rfl : D89 r n bKk x0 (K3 (hD r n) 0 1 3) = D89 r n aVf (xs x0 0 (K3 (hD r n) 0 1 3)) (K3 (hD r n) 0 1 3)).trans
 ((cUk r n).trans (by kernel_rfl))
theorem cFq : D89 r n aWr x0 r89 = D89 r n aLf x0 (K3 (hD r n) 0 1 3) :=
 congrArg (fun k => D89 r n aLf x0 k) (cRy r n)
theorem cAr : D89 r n aLf x0 (K3 (hD r n) 0 1 3) = D89 r n cId x0 (K6 (bSs r n) 0 1 2 3 9 10) :=
 congrArg (fun k => D89 r n cId x0 k) (cSf r n)
theorem cQs : D89 r n aWr x0 r89 = (K5 (bRz r n) 0 1 2 3 9) :=
 (cFq r n).trans
 ((cAr r n).trans
 ((by kernel_rfl)))
theorem bXs : D89 r n aUn x0 r89 = D89 r n cIc x0 (K5 (bRz r n) 0 1 2 3 9) :=
 congrArg (fun k => D89 r n cIc x0 k) (cQs r n)
theorem cOw : D89 r n aUn x0 r89 = (K4 (bGr r n) 0 1 2 3) :=
 (bXs r n).trans
 ((by kernel_rfl))
theorem dDk : D89 r n c89 x0 r89 = D89 r n bKr x0 (K4 (bGr r n) 0 1 2 3) :=
 congrArg (fun k => D89 r n bKr x0 k) (cOw r n)
theorem dFj : D89 r n c89 x0 r89 = (K4 (s89 r n) 0 1 2 3) :=
 (dDk r n).trans
 ((by kernel_rfl))
theorem dAl : aE CF r n 89 args h = s89 r n (aT args 0) (aT args 1) (aT args 2) (aT args 3) h :=
 (by kernel_rfl : aE CF r n 89 args h = D89 r n c89 x0 r89 (aH args) h).trans ((congrFun (congrFun (dFj r n) (aH args)) h).trans (by kernel_rfl))
noncomputable def iF (r : RT) (n : Nat) (x0 x6 : DV) (h0 : Hp) : aG :=
 bnd (dI x0 h0) fun v1 h1 =>
 bnd (cI [(aK 0), (.s []), (aK 0), (aK 0)] [(3, 1, v1)] h1) fun v2 h2 =>
 bnd (aJ [(aK 0), (.s []), (aK 0), (aK 0)] 1 [(0, 4, v2)] h2) fun v3 h3 =>
 bnd (bB 4 40 x6 v3 h3) fun v4 h4 =>
 some (.t [v4, (aK 0), (aK 0)], h4)
noncomputable def aPu (r : RT) (n : Nat) (kk7 : mE) (x0 x5 x6 : DV) (h0 : Hp) : aG :=
 bnd (r 121 [(.s [9, 10, 13, 32])] h0) fun v1 h1 =>
 bnd (dI x0 h1) fun v2 h2 =>
 bnd (r 120 [x5, v1, v2] h2) fun v3 h3 =>
 bnd (bD x5 h3) fun v4 h4 =>
 bnd (aB 1 v4 h4) fun v5 h5 =>
 bnd (aA v5 h5) fun v6 h6 =>
 bnd (dI x0 h6) fun v7 h7 =>
 bnd (aD .geq v6 v7 h7) fun v8 h8 =>
 aX v8 (
   iF r n x0 x6 h8) (
 bnd (bD x5 h8) fun v9 h9 =>
 bnd (aB 1 v9 h9) fun v10 h10 =>
 bnd (aA v10 h10) fun v11 h11 =>
 bnd (dP x0 v11 h11) fun v12 h12 =>
 bnd (aD .eql v12 (.i .u8 (Int.ofNat 34)) h12) fun v13 h13 =>
 aX v13 (
 bnd (bD x5 h13) fun v14 h14 =>
 bnd (aB 1 v14 h14) fun v15 h15 =>
 bnd (aA v15 h15) fun v16 h16 =>
 bnd (aD .add v16 (aK 1) h16) fun v17 h17 =>
 bnd (dY x0 (some v17) none h17) fun v18 h18 =>
 bnd (r 57 [v18, (.i .u8 (Int.ofNat 34))] h18) fun v19 h19 =>
 bnd (aD .lss v19 (aK 0) h19) fun v20 h20 =>
 aX v20 (
 bnd (bD x5 h20) fun v21 h21 =>
 bnd (aB 1 v21 h21) fun v22 h22 =>
 bnd (aA v22 h22) fun v23 h23 =>
 some (.t [.l0, v23, (aK 11)], h23)) (
 bnd (bD x5 h20) fun v24 h24 =>
 bnd (aB 1 v24 h24) fun v25 h25 =>
 bnd (aA v25 h25) fun v26 h26 =>
 bnd (aD .add v19 (aK 2) h26) fun v27 h27 =>
 bnd (aD .add v26 v27 h27) fun v28 h28 =>
 bnd (bD x5 h28) fun v29 h29 =>
 bnd (aB 1 v29 h29) fun v30 h30 =>
 bnd (aI 1 v30 v28 h30) fun _ h31 =>
     kk7 x0 x5 x6 h31)) (
 bnd (r 122 [x5] h13) fun v32 h32 =>
 bnd (aC 0 v32 h32) fun v33 h33 =>
 bnd (aC 1 v32 h33) fun v34 h34 =>
 bnd (cF [(aK 0), (.s []), (aK 0), (aK 0)] h34) fun v35 h35 =>
 bnd (aI 4 v35 v33 h35) fun _ h36 =>
 bnd (aD .neq v34 (aK 0) h36) fun v37 h37 =>
 aX v37 (
 bnd (aB 3 v35 h37) fun v38 h38 =>
 bnd (aA v38 h38) fun v39 h39 =>
 some (.t [.l0, v39, v34], h39)) (
 bnd (aN 4 v35 h37) fun v40 h40 =>
 bnd (aJ [(aK 0), (.s []), (aK 0), (aK 0)] 1 [(0, 4, v40)] h40) fun v41 h41 =>
 bnd (bB 4 40 x6 v41 h41) fun v42 h42 =>
     kk7 x0 x5 v42 h42)))
noncomputable def aGd (r : RT) (n : Nat) (m : Nat) : mE :=
 Nat.rec (motive := fun _ => mE) (fun _ _ _ _ => none) (fun _ ih => aPu r n ih) m
noncomputable def cIk (r : RT) (n : Nat) : mE := aGd r n n
noncomputable def bQm (r : RT) (n : Nat) (x0 x5 x6 : DV) (h0 : Hp) : aG :=
 cIk r n x0 x5 x6 h0
noncomputable def bPv (r : RT) (n : Nat) (x0 x5 x6 : DV) (h0 : Hp) : aG :=
 bQm r n x0 x5 x6 h0
noncomputable def aLz (r : RT) (n : Nat) (x0 x5 : DV) (h0 : Hp) : aG :=
 bPv r n x0 x5 .l0 h0
noncomputable def aZg (r : RT) (n : Nat) (x0 : DV) (h0 : Hp) : aG :=
 bnd (cI [(.s []), (aK 0)] [(0, 1, x0)] h0) fun v1 h1 =>
 bnd (cB v1 h1) fun v2 h2 =>
  aLz r n x0 v2 h2
noncomputable def bKe (r : RT) (n : Nat) (x0 : DV) (h0 : Hp) : aG :=
 bnd (dI x0 h0) fun v1 h1 =>
 bnd (aD .gtr v1 (aK 2000) h1) fun v2 h2 =>
 aX v2 (
 some (.t [.l0, (aK 0), (aK 12)], h2)) (
  aZg r n x0 h2)
noncomputable def s98 (r : RT) (n : Nat) (x0 : DV) (h0 : Hp) : aG :=
 bKe r n x0 h0
noncomputable abbrev c98 : Code := cf Tryz.f98
noncomputable abbrev bEe : Code := cR c98
noncomputable abbrev aUs : Code := cL bEe
noncomputable abbrev aWk : Code := cR aUs
noncomputable abbrev aTf : Code := cR aWk
noncomputable abbrev aVa : Code := cR aTf
noncomputable abbrev aTd : Code := cR aVa
noncomputable abbrev dDa : Code := cR aTd
noncomputable abbrev aTm : Code := cL aTd
noncomputable abbrev aWe : Code := cL aTm
noncomputable abbrev nL : Code := cL aWe
noncomputable abbrev bFq : Code := cL aVa
noncomputable abbrev bHa : Code := cL aTf
noncomputable abbrev aNz : Code := cL aWk
noncomputable abbrev bEj : Code := cL aUs
noncomputable abbrev bIt : Code := cL c98
noncomputable abbrev r98 : K := aS CF Tryz.f98
noncomputable def D98 (r : RT) (n : Nat) (c : Code) (X : Nat → K) (k : K) : K := aP CF r 80 n c X r98 k
theorem cRz : D98 r n dDa x0 r98 = (K2 (iF r n) 0 6) :=
 (by kernel_rfl)
theorem bZy (kk7 : mE) (q0 : uL) : D98 r n nL (xs x0 0 (K2 q0 0 6)) (K3 kk7 0 5 6) = fun (env : bF) (h : Hp) =>
 bnd (r 121 [(.s [9, 10, 13, 32])] h) fun v1 h1 =>
 bnd (dI (env 0) h1) fun v2 h2 =>
 bnd (r 120 [(env 5), v1, v2] h2) fun v3 h3 =>
 bnd (bD (env 5) h3) fun v4 h4 =>
 bnd (aB 1 v4 h4) fun v5 h5 =>
 bnd (aA v5 h5) fun v6 h6 =>
 bnd (dI (env 0) h6) fun v7 h7 =>
 bnd (aD .geq v6 v7 h7) fun v8 h8 =>
 aX v8 (
   q0 (env 0) (env 6) h8) (
 bnd (bD (env 5) h8) fun v9 h9 =>
 bnd (aB 1 v9 h9) fun v10 h10 =>
 bnd (aA v10 h10) fun v11 h11 =>
 bnd (dP (env 0) v11 h11) fun v12 h12 =>
 bnd (aD .eql v12 (.i .u8 (Int.ofNat 34)) h12) fun v13 h13 =>
 aX v13 (
 bnd (bD (env 5) h13) fun v14 h14 =>
 bnd (aB 1 v14 h14) fun v15 h15 =>
 bnd (aA v15 h15) fun v16 h16 =>
 bnd (aD .add v16 (aK 1) h16) fun v17 h17 =>
 bnd (dY (env 0) (some v17) none h17) fun v18 h18 =>
 bnd (r 57 [v18, (.i .u8 (Int.ofNat 34))] h18) fun v19 h19 =>
 bnd (aD .lss v19 (aK 0) h19) fun v20 h20 =>
 aX v20 (
 bnd (bD (env 5) h20) fun v21 h21 =>
 bnd (aB 1 v21 h21) fun v22 h22 =>
 bnd (aA v22 h22) fun v23 h23 =>
 some (.t [.l0, v23, (aK 11)], h23)) (
 bnd (bD (env 5) h20) fun v24 h24 =>
 bnd (aB 1 v24 h24) fun v25 h25 =>
 bnd (aA v25 h25) fun v26 h26 =>
 bnd (aD .add v19 (aK 2) h26) fun v27 h27 =>
 bnd (aD .add v26 v27 h27) fun v28 h28 =>
 bnd (bD (env 5) h28) fun v29 h29 =>
 bnd (aB 1 v29 h29) fun v30 h30 =>
 bnd (aI 1 v30 v28 h30) fun _ h31 =>
     kk7 (env 0) (env 5) (env 6) h31)) (
 bnd (r 122 [(env 5)] h13) fun v32 h32 =>
 bnd (aC 0 v32 h32) fun v33 h33 =>
 bnd (aC 1 v32 h33) fun v34 h34 =>
 bnd (cF [(aK 0), (.s []), (aK 0), (aK 0)] h34) fun v35 h35 =>
 bnd (aI 4 v35 v33 h35) fun _ h36 =>
 bnd (aD .neq v34 (aK 0) h36) fun v37 h37 =>
 aX v37 (
 bnd (aB 3 v35 h37) fun v38 h38 =>
 bnd (aA v38 h38) fun v39 h39 =>
 some (.t [.l0, v39, v34], h39)) (
 bnd (aN 4 v35 h37) fun v40 h40 =>
 bnd (aJ [(aK 0), (.s []), (aK 0), (aK 0)] 1 [(0, 4, v40)] h40) fun v41 h41 =>
 bnd (bB 4 40 (env 6) v41 h41) fun v42 h42 =>
     kk7 (env 0) (env 5) v42 h42))) := by kernel_rfl
theorem bLn (kk7 : mE) : (fun (env : bF) (h : Hp) =>
 bnd (r 121 [(.s [9, 10, 13, 32])] h) fun v1 h1 =>
 bnd (dI (env 0) h1) fun v2 h2 =>
 bnd (r 120 [(env 5), v1, v2] h2) fun v3 h3 =>
 bnd (bD (env 5) h3) fun v4 h4 =>
 bnd (aB 1 v4 h4) fun v5 h5 =>
 bnd (aA v5 h5) fun v6 h6 =>
 bnd (dI (env 0) h6) fun v7 h7 =>
 bnd (aD .geq v6 v7 h7) fun v8 h8 =>
 aX v8 (
   iF r n (env 0) (env 6) h8) (
 bnd (bD (env 5) h8) fun v9 h9 =>
 bnd (aB 1 v9 h9) fun v10 h10 =>
 bnd (aA v10 h10) fun v11 h11 =>
 bnd (dP (env 0) v11 h11) fun v12 h12 =>
 bnd (aD .eql v12 (.i .u8 (Int.ofNat 34)) h12) fun v13 h13 =>
 aX v13 (
 bnd (bD (env 5) h13) fun v14 h14 =>
 bnd (aB 1 v14 h14) fun v15 h15 =>
 bnd (aA v15 h15) fun v16 h16 =>
 bnd (aD .add v16 (aK 1) h16) fun v17 h17 =>
 bnd (dY (env 0) (some v17) none h17) fun v18 h18 =>
 bnd (r 57 [v18, (.i .u8 (Int.ofNat 34))] h18) fun v19 h19 =>
 bnd (aD .lss v19 (aK 0) h19) fun v20 h20 =>
 aX v20 (
 bnd (bD (env 5) h20) fun v21 h21 =>
 bnd (aB 1 v21 h21) fun v22 h22 =>
 bnd (aA v22 h22) fun v23 h23 =>
 some (.t [.l0, v23, (aK 11)], h23)) (
 bnd (bD (env 5) h20) fun v24 h24 =>
 bnd (aB 1 v24 h24) fun v25 h25 =>
 bnd (aA v25 h25) fun v26 h26 =>
 bnd (aD .add v19 (aK 2) h26) fun v27 h27 =>
 bnd (aD .add v26 v27 h27) fun v28 h28 =>
 bnd (bD (env 5) h28) fun v29 h29 =>
 bnd (aB 1 v29 h29) fun v30 h30 =>
 bnd (aI 1 v30 v28 h30) fun _ h31 =>
     kk7 (env 0) (env 5) (env 6) h31)) (
 bnd (r 122 [(env 5)] h13) fun v32 h32 =>
 bnd (aC 0 v32 h32) fun v33 h33 =>
 bnd (aC 1 v32 h33) fun v34 h34 =>
 bnd (cF [(aK 0), (.s []), (aK 0), (aK 0)] h34) fun v35 h35 =>
 bnd (aI 4 v35 v33 h35) fun _ h36 =>
 bnd (aD .neq v34 (aK 0) h36) fun v37 h37 =>
 aX v37 (
 bnd (aB 3 v35 h37) fun v38 h38 =>
 bnd (aA v38 h38) fun v39 h39 =>
 some (.t [.l0, v39, v34], h39)) (
 bnd (aN 4 v35 h37) fun v40 h40 =>
 bnd (aJ [(aK 0), (.s []), (aK 0), (aK 0)] 1 [(0, 4, v40)] h40) fun v41 h41 =>
 bnd (bB 4 40 (env 6) v41 h41) fun v42 h42 =>
     kk7 (env 0) (env 5) v42 h42)))) = (K3 (aPu r n kk7) 0 5 6) := by kernel_rfl
theorem cCy (kk7 : mE) : D98 r n nL (xs x0 0 (K2 (iF r n) 0 6)) (K3 kk7 0 5 6) = (K3 (aPu r n kk7) 0 5 6) :=
 (bZy r n kk7 (iF r n)).trans (bLn r n kk7)
theorem cGq (m : Nat) : aO (fun kk => D98 r n nL (xs x0 0 (K2 (iF r n) 0 6)) kk) m = (K3 (aGd r n m) 0 5 6) := by
 induction m with
 | zero => exact (by kernel_rfl : aO (fun kk => D98 r n nL (xs x0 0 (K2 (iF r n) 0 6)) kk) 0 = (K3 (aGd r n 0) 0 5 6))
 | succ m ih =>
  refine (by kernel_rfl : aO (fun kk => D98 r n nL (xs x0 0 (K2 (iF r n) 0 6)) kk) (m + 1) = D98 r n nL (xs x0 0 (K2 (iF r n) 0 6)) (aO (fun kk => D98 r n nL (xs x0 0 (K2 (iF r n) 0 6)) kk) m)).trans ?_
  rw [ih]
  exact (cCy r n (aGd r n m)).trans (by kernel_rfl)
theorem cLo : D98 r n aWe (xs x0 0 (K2 (iF r n) 0 6)) (K2 (iF r n) 0 6) = (K3 (cIk r n) 0 5 6) :=
 (by kernel_rfl : D98 r n aWe (xs x0 0 (K2 (iF r n) 0 6)) (K2 (iF r n) 0 6) = aO (fun kk => D98 r n nL (xs x0 0 (K2 (iF r n) 0 6)) kk) n).trans ((cGq r n n).trans (by kernel_rfl))
theorem cFx : D98 r n aTd x0 r98 = D98 r n aTm x0 (K2 (iF r n) 0 6) :=
 congrArg (fun k => D98 r n aTm x0 k) (cRz r n)
theorem cMl : D98 r n aTd x0 r98 = (K3 (bQm r n) 0 5 6) :=
 (cFx r n).trans
 ((by kernel_rfl : D98 r n aTm x0 (K2 (iF r n) 0 6) = D98 r n aWe (xs x0 0 (K2 (iF r n) 0 6)) (K2 (iF r n) 0 6)).trans
 ((cLo r n).trans (by kernel_rfl)))
theorem bZu : D98 r n aVa x0 r98 = D98 r n bFq x0 (K3 (bQm r n) 0 5 6) :=
 congrArg (fun k => D98 r n bFq x0 k) (cMl r n)
theorem cMp : D98 r n aVa x0 r98 = (K3 (bPv r n) 0 5 6) :=
 (bZu r n).trans
 ((by kernel_rfl))
theorem bUh : D98 r n aTf x0 r98 = D98 r n bHa x0 (K3 (bPv r n) 0 5 6) :=
 congrArg (fun k => D98 r n bHa x0 k) (cMp r n)
theorem cUw : D98 r n aTf x0 r98 = (K2 (aLz r n) 0 5) :=
 (bUh r n).trans
 ((by kernel_rfl))
theorem cEh : D98 r n aWk x0 r98 = D98 r n aNz x0 (K2 (aLz r n) 0 5) :=
 congrArg (fun k => D98 r n aNz x0 k) (cUw r n)
theorem bWo (q0 : uL) : D98 r n aNz x0 (K2 q0 0 5) = fun (env : bF) (h : Hp) =>
 bnd (cI [(.s []), (aK 0)] [(0, 1, (env 0))] h) fun v1 h1 =>
 bnd (cB v1 h1) fun v2 h2 =>
  q0 (env 0) v2 h2 := by kernel_rfl
theorem bPh : (fun (env : bF) (h : Hp) =>
 bnd (cI [(.s []), (aK 0)] [(0, 1, (env 0))] h) fun v1 h1 =>
 bnd (cB v1 h1) fun v2 h2 =>
  aLz r n (env 0) v2 h2) = (K1 (aZg r n) 0) := by kernel_rfl
theorem cOv : D98 r n aWk x0 r98 = (K1 (aZg r n) 0) :=
 (cEh r n).trans
 ((bWo r n (aLz r n)).trans (bPh r n))
theorem cGv : D98 r n aUs x0 r98 = D98 r n bEj x0 (K1 (aZg r n) 0) :=
 congrArg (fun k => D98 r n bEj x0 k) (cOv r n)
theorem cNy : D98 r n bEe x0 r98 = (K1 (bKe r n) 0) :=
 (by kernel_rfl : D98 r n bEe x0 r98 = D98 r n aUs x0 r98).trans
 ((cGv r n).trans
 ((by kernel_rfl)))
theorem dBs : D98 r n c98 x0 r98 = D98 r n bIt x0 (K1 (bKe r n) 0) :=
 congrArg (fun k => D98 r n bIt x0 k) (cNy r n)
theorem dIe : D98 r n c98 x0 r98 = (K1 (s98 r n) 0) :=
 (dBs r n).trans
 ((by kernel_rfl))
theorem dAa : aE CF r n 98 args h = s98 r n (aT args 0) h :=
 (by kernel_rfl : aE CF r n 98 args h = D98 r n c98 x0 r98 (aH args) h).trans ((congrFun (congrFun (dIe r n) (aH args)) h).trans (by kernel_rfl))
noncomputable def s101 (r : RT) (n : Nat) (x0 x1 x2 : DV) (h0 : Hp) : aG :=
 bnd (cF [(aK 0), (.s []), (aK 0), (aK 0)] h0) fun v1 h1 =>
 bnd (r 123 [x0, x1, x2] h1) fun v2 h2 =>
 bnd (jW .not v2 h2) fun v3 h3 =>
 aX v3 (
 bnd (r 127 [x0, (aK 0)] h3) fun v4 h4 =>
 bnd (r 126 [x0, v4, (aK 13)] h4) fun v5 h5 =>
 bnd (cI [(aK 0), (.s []), (aK 0), (aK 0)] [] h5) fun v6 h6 =>
 bnd (aI 4 v1 v6 h6) fun _ h7 =>
 bnd (aN 4 v1 h7) fun v8 _ =>
 some (v8, h7)) (
 bnd (r 124 [x0] h3) fun v9 h9 =>
 bnd (aI 4 v1 v9 h9) fun _ h10 =>
 bnd (aN 4 v1 h10) fun v11 _ =>
 some (v11, h10))
noncomputable abbrev c101 : Code := cf Tryz.f101
noncomputable abbrev r101 : K := aS CF Tryz.f101
noncomputable def D101 (r : RT) (n : Nat) (c : Code) (X : Nat → K) (k : K) : K := aP CF r 19 n c X r101 k
theorem dBk : D101 r n c101 x0 r101 = (K3 (s101 r n) 0 1 2) :=
 (by kernel_rfl)
theorem cWk : aE CF r n 101 args h = s101 r n (aT args 0) (aT args 1) (aT args 2) h :=
 (by kernel_rfl : aE CF r n 101 args h = D101 r n c101 x0 r101 (aH args) h).trans ((congrFun (congrFun (dBk r n) (aH args)) h).trans (by kernel_rfl))
end Go.Dd

namespace Go.Dd
open Go.Proofs
variable (r : RT) (n : Nat) (args : List DV) (h : Hp)
noncomputable def s105 (r : RT) (n : Nat) (x0 : DV) (h0 : Hp) : aG :=
 bnd (cB x0 h0) fun v1 h1 =>
 bnd (aB 0 v1 h1) fun v2 h2 =>
 bnd (aA v2 h2) fun v3 h3 =>
 bnd (r 132 [v3] h3) fun v4 h4 =>
 bnd (aC 0 v4 h4) fun v5 h5 =>
 bnd (aC 1 v4 h5) fun v6 h6 =>
 bnd (aB 0 v1 h6) fun v7 h7 =>
 bnd (aA v7 h7) fun v8 h8 =>
 bnd (aD .geq v8 (aK 1) h8) fun v9 h9 =>
 bnd (gD v9 true (aB 0 v1 h9) h9) fun v10 h10 =>
 bnd (gD v9 true (aA v10 h10) h10) fun v11 h11 =>
 bnd (gD v9 true (aD .leq v11 (aK 20) h11) h11) fun v12 h12 =>
 bnd (aQ v9 v12 (.b false) h12) fun v13 h13 =>
 bnd (gD v13 true (aB 1 v1 h13) h13) fun v14 h14 =>
 bnd (gD v13 true (aA v14 h14) h14) fun v15 h15 =>
 bnd (gD v13 true (some (v5, h15)) h15) fun v16 h16 =>
 bnd (gD v13 true (r 133 [v15, v16] h16) h16) fun v17 h17 =>
 bnd (aQ v13 v17 (.b false) h17) fun v18 h18 =>
 bnd (gD v18 true (aB 2 v1 h18) h18) fun v19 h19 =>
 bnd (gD v18 true (aA v19 h19) h19) fun v20 h20 =>
 bnd (gD v18 true (some (v6, h20)) h20) fun v21 h21 =>
 bnd (gD v18 true (r 133 [v20, v21] h21) h21) fun v22 h22 =>
 bnd (aQ v18 v22 (.b false) h22) fun v23 h23 =>
 some (v23, h23)
noncomputable abbrev c105 : Code := cf Tryz.f105
noncomputable abbrev r105 : K := aS CF Tryz.f105
noncomputable def D105 (r : RT) (n : Nat) (c : Code) (X : Nat → K) (k : K) : K := aP CF r 31 n c X r105 k
theorem dDy : D105 r n c105 x0 r105 = (K1 (s105 r n) 0) :=
 (by kernel_rfl)
theorem cOk : aE CF r n 105 args h = s105 r n (aT args 0) h :=
 (by kernel_rfl : aE CF r n 105 args h = D105 r n c105 x0 r105 (aH args) h).trans ((congrFun (congrFun (dDy r n) (aH args)) h).trans (by kernel_rfl))
noncomputable def s106 (r : RT) (n : Nat) (x0 x1 : DV) (h0 : Hp) : aG :=
 bnd (cB x0 h0) fun v1 h1 =>
 bnd (aN 6 v1 h1) fun v2 h2 =>
 bnd (r 134 [v2, x1] h2) fun v3 h3 =>
 bnd (aC 0 v3 h3) fun v4 h4 =>
 bnd (aC 1 v3 h4) fun v5 h5 =>
 some (v5, h5)
noncomputable abbrev c106 : Code := cf Tryz.f106
noncomputable abbrev r106 : K := aS CF Tryz.f106
noncomputable def D106 (r : RT) (n : Nat) (c : Code) (X : Nat → K) (k : K) : K := aP CF r 14 n c X r106 k
theorem dDv : D106 r n c106 x0 r106 = (K2 (s106 r n) 0 1) :=
 (by kernel_rfl)
theorem cRx : aE CF r n 106 args h = s106 r n (aT args 0) (aT args 1) h :=
 (by kernel_rfl : aE CF r n 106 args h = D106 r n c106 x0 r106 (aH args) h).trans ((congrFun (congrFun (dDv r n) (aH args)) h).trans (by kernel_rfl))
noncomputable def eI (r : RT) (n : Nat) (x0 x6 : DV) (h0 : Hp) : aG :=
 bnd (r 16 [x0, x6] h0) fun v1 h1 =>
 bnd (aC 0 v1 h1) fun v2 h2 =>
 bnd (aC 1 v1 h2) fun v3 h3 =>
 some (.t [v2, v3], h3)
noncomputable def aGm (r : RT) (n : Nat) (kk6 : cZ) (x0 x6 x38 x39 x40 : DV) (h0 : Hp) : aG :=
 bnd (aD .lss x40 x39 h0) fun v1 h1 =>
 aX v1 (
 bnd (aF 4 x38 x40 h1) fun v2 h2 =>
 bnd (aN 4 v2 h2) fun v3 h3 =>
 bnd (cF [(aK 0), (.s []), (aK 0), .l0] h3) fun v4 h4 =>
 bnd (aI 4 v4 v3 h4) fun _ h5 =>
 bnd (aN 4 v4 h5) fun v6 h6 =>
 bnd (r 107 [x0, v6] h6) fun v7 h7 =>
 bnd (aC 0 v7 h7) fun v8 h8 =>
 bnd (aC 1 v7 h8) fun v9 h9 =>
 bnd (aD .neq v9 (aK 0) h9) fun v10 h10 =>
 aX v10 (
 some (.t [(aK 0), v9], h10)) (
 bnd (aJ [(aK 0)] 1 [(0, 1, v8)] h10) fun v11 h11 =>
 bnd (bB 1 8 x6 v11 h11) fun v12 h12 =>
 bnd (aD .add x40 (aK 1) h12) fun v13 h13 =>
    kk6 x0 v12 x38 x39 v13 h13)) (
      eI r n x0 x6 h1)
noncomputable def vD (r : RT) (n : Nat) (m : Nat) : cZ :=
 Nat.rec (motive := fun _ => cZ) (fun _ _ _ _ _ _ => none) (fun _ ih => aGm r n ih) m
noncomputable def bRw (r : RT) (n : Nat) : cZ := vD r n n
noncomputable def aNb (r : RT) (n : Nat) (x0 x6 x38 x39 x40 : DV) (h0 : Hp) : aG :=
 bRw r n x0 x6 x38 x39 x40 h0
noncomputable def aOw (r : RT) (n : Nat) (x0 x3 x6 : DV) (h0 : Hp) : aG :=
 bnd (aB 3 x3 h0) fun v1 h1 =>
 bnd (aA v1 h1) fun v2 h2 =>
 bnd (cO v2 h2) fun v3 h3 =>
  aNb r n x0 x6 v2 v3 (aK 0) h3
noncomputable def aPa (r : RT) (n : Nat) (x0 x3 : DV) (h0 : Hp) : aG :=
 aOw r n x0 x3 .l0 h0
noncomputable def yJ (r : RT) (n : Nat) (x0 x3 : DV) (h0 : Hp) : aG :=
 bnd (aB 0 x3 h0) fun v1 h1 =>
 bnd (aA v1 h1) fun v2 h2 =>
 bnd (aD .eql v2 (aK 1) h2) fun v3 h3 =>
 aX v3 (
 bnd (aB 2 x3 h3) fun v4 h4 =>
 bnd (aA v4 h4) fun v5 h5 =>
 bnd (r 22 [x0, v5] h5) fun v6 h6 =>
 bnd (aC 0 v6 h6) fun v7 h7 =>
 bnd (aC 1 v6 h7) fun v8 h8 =>
 some (.t [v7, v8], h8)) (
 bnd (aD .eql v2 (aK 2) h3) fun v9 h9 =>
 aX v9 (
 bnd (aB 1 x3 h9) fun v10 h10 =>
 bnd (aA v10 h10) fun v11 h11 =>
 bnd (r 23 [x0, v11] h11) fun v12 h12 =>
 bnd (aC 0 v12 h12) fun v13 h13 =>
 bnd (aC 1 v12 h13) fun v14 h14 =>
 some (.t [v13, v14], h14)) (
 bnd (aD .eql v2 (aK 3) h9) fun v15 h15 =>
 aX v15 (
 bnd (aB 1 x3 h15) fun v16 h16 =>
 bnd (aA v16 h16) fun v17 h17 =>
 bnd (r 24 [x0, v17] h17) fun v18 h18 =>
 bnd (aC 0 v18 h18) fun v19 h19 =>
 bnd (aC 1 v18 h19) fun v20 h20 =>
 some (.t [v19, v20], h20)) (
    aPa r n x0 x3 h15)))
noncomputable def s107 (r : RT) (n : Nat) (x0 x1 : DV) (h0 : Hp) : aG :=
 bnd (cB x1 h0) fun v1 h1 =>
  yJ r n x0 v1 h1
noncomputable abbrev c107 : Code := cf Tryz.f107
noncomputable abbrev aCd : Code := cR c107
noncomputable abbrev aIj : Code := cR aCd
noncomputable abbrev aFh : Code := cR aIj
noncomputable abbrev cNp : Code := cR aFh
noncomputable abbrev yU : Code := cL aFh
noncomputable abbrev aMs : Code := cR yU
noncomputable abbrev aGq : Code := cL aMs
noncomputable abbrev nX : Code := cL aGq
noncomputable abbrev bRs : Code := cL yU
noncomputable abbrev aSg : Code := cL aIj
noncomputable abbrev aYo : Code := cL aCd
noncomputable abbrev aFy : Code := cL c107
noncomputable abbrev r107 : K := aS CF Tryz.f107
noncomputable def D107 (r : RT) (n : Nat) (c : Code) (X : Nat → K) (k : K) : K := aP CF r 63 n c X r107 k
theorem bXa : D107 r n cNp x0 r107 = (K2 (eI r n) 0 6) :=
 (by kernel_rfl)
theorem bRb (kk6 : cZ) (q0 : uL) : D107 r n nX (xs x0 1 (K2 q0 0 6)) (K5 kk6 0 6 38 39 40) = fun (env : bF) (h : Hp) =>
 bnd (aD .lss (env 40) (env 39) h) fun v1 h1 =>
 aX v1 (
 bnd (aF 4 (env 38) (env 40) h1) fun v2 h2 =>
 bnd (aN 4 v2 h2) fun v3 h3 =>
 bnd (cF [(aK 0), (.s []), (aK 0), .l0] h3) fun v4 h4 =>
 bnd (aI 4 v4 v3 h4) fun _ h5 =>
 bnd (aN 4 v4 h5) fun v6 h6 =>
 bnd (r 107 [(env 0), v6] h6) fun v7 h7 =>
 bnd (aC 0 v7 h7) fun v8 h8 =>
 bnd (aC 1 v7 h8) fun v9 h9 =>
 bnd (aD .neq v9 (aK 0) h9) fun v10 h10 =>
 aX v10 (
 some (.t [(aK 0), v9], h10)) (
 bnd (aJ [(aK 0)] 1 [(0, 1, v8)] h10) fun v11 h11 =>
 bnd (bB 1 8 (env 6) v11 h11) fun v12 h12 =>
 bnd (aD .add (env 40) (aK 1) h12) fun v13 h13 =>
    kk6 (env 0) v12 (env 38) (env 39) v13 h13)) (
      q0 (env 0) (env 6) h1) := by kernel_rfl
theorem bAb (kk6 : cZ) : (fun (env : bF) (h : Hp) =>
 bnd (aD .lss (env 40) (env 39) h) fun v1 h1 =>
 aX v1 (
 bnd (aF 4 (env 38) (env 40) h1) fun v2 h2 =>
 bnd (aN 4 v2 h2) fun v3 h3 =>
 bnd (cF [(aK 0), (.s []), (aK 0), .l0] h3) fun v4 h4 =>
 bnd (aI 4 v4 v3 h4) fun _ h5 =>
 bnd (aN 4 v4 h5) fun v6 h6 =>
 bnd (r 107 [(env 0), v6] h6) fun v7 h7 =>
 bnd (aC 0 v7 h7) fun v8 h8 =>
 bnd (aC 1 v7 h8) fun v9 h9 =>
 bnd (aD .neq v9 (aK 0) h9) fun v10 h10 =>
 aX v10 (
 some (.t [(aK 0), v9], h10)) (
 bnd (aJ [(aK 0)] 1 [(0, 1, v8)] h10) fun v11 h11 =>
 bnd (bB 1 8 (env 6) v11 h11) fun v12 h12 =>
 bnd (aD .add (env 40) (aK 1) h12) fun v13 h13 =>
    kk6 (env 0) v12 (env 38) (env 39) v13 h13)) (
      eI r n (env 0) (env 6) h1)) = (K5 (aGm r n kk6) 0 6 38 39 40) := by kernel_rfl
theorem bIk (kk6 : cZ) : D107 r n nX (xs x0 1 (K2 (eI r n) 0 6)) (K5 kk6 0 6 38 39 40) = (K5 (aGm r n kk6) 0 6 38 39 40) :=
 (bRb r n kk6 (eI r n)).trans (bAb r n kk6)
theorem bGw (m : Nat) : aO (fun kk => D107 r n nX (xs x0 1 (K2 (eI r n) 0 6)) kk) m = (K5 (vD r n m) 0 6 38 39 40) := by
 induction m with
 | zero => exact (by kernel_rfl : aO (fun kk => D107 r n nX (xs x0 1 (K2 (eI r n) 0 6)) kk) 0 = (K5 (vD r n 0) 0 6 38 39 40))
 | succ m ih =>
  refine (by kernel_rfl : aO (fun kk => D107 r n nX (xs x0 1 (K2 (eI r n) 0 6)) kk) (m + 1) = D107 r n nX (xs x0 1 (K2 (eI r n) 0 6)) (aO (fun kk => D107 r n nX (xs x0 1 (K2 (eI r n) 0 6)) kk) m)).trans ?_
  rw [ih]
  exact (bIk r n (vD r n m)).trans (by kernel_rfl)
theorem bWj : D107 r n aGq (xs x0 1 (K2 (eI r n) 0 6)) (K2 (eI r n) 0 6) = (K5 (bRw r n) 0 6 38 39 40) :=
 (by kernel_rfl : D107 r n aGq (xs x0 1 (K2 (eI r n) 0 6)) (K2 (eI r n) 0 6) = aO (fun kk => D107 r n nX (xs x0 1 (K2 (eI r n) 0 6)) kk) n).trans ((bGw r n n).trans (by kernel_rfl))
theorem cBe : D107 r n aMs x0 (K2 (eI r n) 0 6) = (K5 (aNb r n) 0 6 38 39 40) :=
 (by kernel_rfl : D107 r n aMs x0 (K2 (eI r n) 0 6) = D107 r n aGq (xs x0 1 (K2 (eI r n) 0 6)) (K2 (eI r n) 0 6)).trans
 ((bWj r n).trans (by kernel_rfl))
theorem bLl : D107 r n aFh x0 r107 = D107 r n yU x0 (K2 (eI r n) 0 6) :=
 congrArg (fun k => D107 r n yU x0 k) (bXa r n)
theorem bEi : D107 r n yU x0 (K2 (eI r n) 0 6) = D107 r n bRs x0 (K5 (aNb r n) 0 6 38 39 40) :=
 congrArg (fun k => D107 r n bRs x0 k) (cBe r n)
theorem bZq : D107 r n aFh x0 r107 = (K3 (aOw r n) 0 3 6) :=
 (bLl r n).trans
 ((bEi r n).trans
 ((by kernel_rfl)))
theorem bDm : D107 r n aIj x0 r107 = D107 r n aSg x0 (K3 (aOw r n) 0 3 6) :=
 congrArg (fun k => D107 r n aSg x0 k) (bZq r n)
theorem bUy : D107 r n aIj x0 r107 = (K2 (aPa r n) 0 3) :=
 (bDm r n).trans
 ((by kernel_rfl))
theorem bDf : D107 r n aCd x0 r107 = D107 r n aYo x0 (K2 (aPa r n) 0 3) :=
 congrArg (fun k => D107 r n aYo x0 k) (bUy r n)
theorem cGh : D107 r n aCd x0 r107 = (K2 (yJ r n) 0 3) :=
 (bDf r n).trans
 ((by kernel_rfl))
theorem cQo : D107 r n c107 x0 r107 = D107 r n aFy x0 (K2 (yJ r n) 0 3) :=
 congrArg (fun k => D107 r n aFy x0 k) (cGh r n)
theorem cVa (q0 : uL) : D107 r n aFy x0 (K2 q0 0 3) = fun (env : bF) (h : Hp) =>
 bnd (cB (env 1) h) fun v1 h1 =>
  q0 (env 0) v1 h1 := by kernel_rfl
theorem bZg : (fun (env : bF) (h : Hp) =>
 bnd (cB (env 1) h) fun v1 h1 =>
  yJ r n (env 0) v1 h1) = (K2 (s107 r n) 0 1) := by kernel_rfl
theorem dBz : D107 r n c107 x0 r107 = (K2 (s107 r n) 0 1) :=
 (cQo r n).trans
 ((cVa r n (yJ r n)).trans (bZg r n))
theorem cUd : aE CF r n 107 args h = s107 r n (aT args 0) (aT args 1) h :=
 (by kernel_rfl : aE CF r n 107 args h = D107 r n c107 x0 r107 (aH args) h).trans ((congrFun (congrFun (dBz r n) (aH args)) h).trans (by kernel_rfl))
noncomputable def eJ (r : RT) (n : Nat) (x4 : DV) (h0 : Hp) : aG :=
 some (.t [x4, (aK 0)], h0)
noncomputable def aFl (r : RT) (n : Nat) (kk6 : eY) (x4 x10 x11 x12 : DV) (h0 : Hp) : aG :=
 bnd (aD .lss x12 x11 h0) fun v1 h1 =>
 aX v1 (
 bnd (aF 3 x10 x12 h1) fun v2 h2 =>
 bnd (aN 3 v2 h2) fun v3 h3 =>
 bnd (cF [(aK 0), (aK 0), (aK 0)] h3) fun v4 h4 =>
 bnd (aI 3 v4 v3 h4) fun _ h5 =>
 bnd (aN 3 v4 h5) fun v6 h6 =>
 bnd (r 105 [v6] h6) fun v7 h7 =>
 bnd (jW .not v7 h7) fun v8 h8 =>
 aX v8 (
 some (.t [.l0, (aK 19)], h8)) (
 bnd (aB 0 v4 h8) fun v9 h9 =>
 bnd (aA v9 h9) fun v10 h10 =>
 bnd (dE .u8 v10 h10) fun v11 h11 =>
 bnd (aB 1 v4 h11) fun v12 h12 =>
 bnd (aA v12 h12) fun v13 h13 =>
 bnd (dE .u8 v13 h13) fun v14 h14 =>
 bnd (aB 2 v4 h14) fun v15 h15 =>
 bnd (aA v15 h15) fun v16 h16 =>
 bnd (dE .u8 v16 h16) fun v17 h17 =>
 bnd (aJ [(.i .u8 (Int.ofNat 0)), (.i .u8 (Int.ofNat 0)), (.i .u8 (Int.ofNat 0))] 3 [(0, 1, v11), (1, 1, v14), (2, 1, v17)] h17) fun v18 h18 =>
 bnd (bB 1 1 x4 v18 h18) fun v19 h19 =>
 bnd (aD .add x12 (aK 1) h19) fun v20 h20 =>
    kk6 v19 x10 x11 v20 h20)) (
      eJ r n x4 h1)
noncomputable def vR (r : RT) (n : Nat) (m : Nat) : eY :=
 Nat.rec (motive := fun _ => eY) (fun _ _ _ _ _ => none) (fun _ ih => aFl r n ih) m
noncomputable def bEa (r : RT) (n : Nat) : eY := vR r n n
noncomputable def aOz (r : RT) (n : Nat) (x4 x10 x11 x12 : DV) (h0 : Hp) : aG :=
 bEa r n x4 x10 x11 x12 h0
noncomputable def aRc (r : RT) (n : Nat) (x0 x4 : DV) (h0 : Hp) : aG :=
 bnd (cO x0 h0) fun v1 h1 =>
  aOz r n x4 x0 v1 (aK 0) h1
noncomputable def aPo (r : RT) (n : Nat) (x0 : DV) (h0 : Hp) : aG :=
 aRc r n x0 .l0 h0
noncomputable def aQd (r : RT) (n : Nat) (x0 : DV) (h0 : Hp) : aG :=
 bnd (cO x0 h0) fun v1 h1 =>
 bnd (aD .gtr v1 (aK 400) h1) fun v2 h2 =>
 aX v2 (
 some (.t [.l0, (aK 19)], h2)) (
  aPo r n x0 h2)
noncomputable def s108 (r : RT) (n : Nat) (x0 : DV) (h0 : Hp) : aG :=
 aQd r n x0 h0
noncomputable abbrev c108 : Code := cf Tryz.f108
noncomputable abbrev aFu : Code := cR c108
noncomputable abbrev aHm : Code := cR aFu
noncomputable abbrev aEh : Code := cR aHm
noncomputable abbrev cOg : Code := cR aEh
noncomputable abbrev aAd : Code := cL aEh
noncomputable abbrev aOq : Code := cR aAd
noncomputable abbrev aCp : Code := cL aOq
noncomputable abbrev nR : Code := cL aCp
noncomputable abbrev bKh : Code := cL aAd
noncomputable abbrev aUf : Code := cL aHm
noncomputable abbrev aVr : Code := cL aFu
noncomputable abbrev aSz : Code := cL c108
noncomputable abbrev r108 : K := aS CF Tryz.f108
noncomputable def D108 (r : RT) (n : Nat) (c : Code) (X : Nat → K) (k : K) : K := aP CF r 33 n c X r108 k
theorem bZw : D108 r n cOg x0 r108 = (K1 (eJ r n) 4) :=
 (by kernel_rfl)
theorem bJw (kk6 : eY) (q0 : TT1) : D108 r n nR (xs x0 0 (K1 q0 4)) (K4 kk6 4 10 11 12) = fun (env : bF) (h : Hp) =>
 bnd (aD .lss (env 12) (env 11) h) fun v1 h1 =>
 aX v1 (
 bnd (aF 3 (env 10) (env 12) h1) fun v2 h2 =>
 bnd (aN 3 v2 h2) fun v3 h3 =>
 bnd (cF [(aK 0), (aK 0), (aK 0)] h3) fun v4 h4 =>
 bnd (aI 3 v4 v3 h4) fun _ h5 =>
 bnd (aN 3 v4 h5) fun v6 h6 =>
 bnd (r 105 [v6] h6) fun v7 h7 =>
 bnd (jW .not v7 h7) fun v8 h8 =>
 aX v8 (
 some (.t [.l0, (aK 19)], h8)) (
 bnd (aB 0 v4 h8) fun v9 h9 =>
 bnd (aA v9 h9) fun v10 h10 =>
 bnd (dE .u8 v10 h10) fun v11 h11 =>
 bnd (aB 1 v4 h11) fun v12 h12 =>
 bnd (aA v12 h12) fun v13 h13 =>
 bnd (dE .u8 v13 h13) fun v14 h14 =>
 bnd (aB 2 v4 h14) fun v15 h15 =>
 bnd (aA v15 h15) fun v16 h16 =>
 bnd (dE .u8 v16 h16) fun v17 h17 =>
 bnd (aJ [(.i .u8 (Int.ofNat 0)), (.i .u8 (Int.ofNat 0)), (.i .u8 (Int.ofNat 0))] 3 [(0, 1, v11), (1, 1, v14), (2, 1, v17)] h17) fun v18 h18 =>
 bnd (bB 1 1 (env 4) v18 h18) fun v19 h19 =>
 bnd (aD .add (env 12) (aK 1) h19) fun v20 h20 =>
    kk6 v19 (env 10) (env 11) v20 h20)) (
      q0 (env 4) h1) := by kernel_rfl
theorem bBb (kk6 : eY) : (fun (env : bF) (h : Hp) =>
 bnd (aD .lss (env 12) (env 11) h) fun v1 h1 =>
 aX v1 (
 bnd (aF 3 (env 10) (env 12) h1) fun v2 h2 =>
 bnd (aN 3 v2 h2) fun v3 h3 =>
 bnd (cF [(aK 0), (aK 0), (aK 0)] h3) fun v4 h4 =>
 bnd (aI 3 v4 v3 h4) fun _ h5 =>
 bnd (aN 3 v4 h5) fun v6 h6 =>
 bnd (r 105 [v6] h6) fun v7 h7 =>
 bnd (jW .not v7 h7) fun v8 h8 =>
 aX v8 (
 some (.t [.l0, (aK 19)], h8)) (
 bnd (aB 0 v4 h8) fun v9 h9 =>
 bnd (aA v9 h9) fun v10 h10 =>
 bnd (dE .u8 v10 h10) fun v11 h11 =>
 bnd (aB 1 v4 h11) fun v12 h12 =>
 bnd (aA v12 h12) fun v13 h13 =>
 bnd (dE .u8 v13 h13) fun v14 h14 =>
 bnd (aB 2 v4 h14) fun v15 h15 =>
 bnd (aA v15 h15) fun v16 h16 =>
 bnd (dE .u8 v16 h16) fun v17 h17 =>
 bnd (aJ [(.i .u8 (Int.ofNat 0)), (.i .u8 (Int.ofNat 0)), (.i .u8 (Int.ofNat 0))] 3 [(0, 1, v11), (1, 1, v14), (2, 1, v17)] h17) fun v18 h18 =>
 bnd (bB 1 1 (env 4) v18 h18) fun v19 h19 =>
 bnd (aD .add (env 12) (aK 1) h19) fun v20 h20 =>
    kk6 v19 (env 10) (env 11) v20 h20)) (
      eJ r n (env 4) h1)) = (K4 (aFl r n kk6) 4 10 11 12) := by kernel_rfl
theorem bMl (kk6 : eY) : D108 r n nR (xs x0 0 (K1 (eJ r n) 4)) (K4 kk6 4 10 11 12) = (K4 (aFl r n kk6) 4 10 11 12) :=
 (bJw r n kk6 (eJ r n)).trans (bBb r n kk6)
theorem bLi (m : Nat) : aO (fun kk => D108 r n nR (xs x0 0 (K1 (eJ r n) 4)) kk) m = (K4 (vR r n m) 4 10 11 12) := by
 induction m with
 | zero => exact (by kernel_rfl : aO (fun kk => D108 r n nR (xs x0 0 (K1 (eJ r n) 4)) kk) 0 = (K4 (vR r n 0) 4 10 11 12))
 | succ m ih =>
  refine (by kernel_rfl : aO (fun kk => D108 r n nR (xs x0 0 (K1 (eJ r n) 4)) kk) (m + 1) = D108 r n nR (xs x0 0 (K1 (eJ r n) 4)) (aO (fun kk => D108 r n nR (xs x0 0 (K1 (eJ r n) 4)) kk) m)).trans ?_
  rw [ih]
  exact (bMl r n (vR r n m)).trans (by kernel_rfl)
theorem bYt : D108 r n aCp (xs x0 0 (K1 (eJ r n) 4)) (K1 (eJ r n) 4) = (K4 (bEa r n) 4 10 11 12) :=
 (by kernel_rfl : D108 r n aCp (xs x0 0 (K1 (eJ r n) 4)) (K1 (eJ r n) 4) = aO (fun kk => D108 r n nR (xs x0 0 (K1 (eJ r n) 4)) kk) n).trans ((bLi r n n).trans (by kernel_rfl))
theorem cCc : D108 r n aOq x0 (K1 (eJ r n) 4) = (K4 (aOz r n) 4 10 11 12) :=
 (by kernel_rfl : D108 r n aOq x0 (K1 (eJ r n) 4) = D108 r n aCp (xs x0 0 (K1 (eJ r n) 4)) (K1 (eJ r n) 4)).trans
 ((bYt r n).trans (by kernel_rfl))
theorem bGx : D108 r n aEh x0 r108 = D108 r n aAd x0 (K1 (eJ r n) 4) :=
 congrArg (fun k => D108 r n aAd x0 k) (bZw r n)
theorem bNg : D108 r n aAd x0 (K1 (eJ r n) 4) = D108 r n bKh x0 (K4 (aOz r n) 4 10 11 12) :=
 congrArg (fun k => D108 r n bKh x0 k) (cCc r n)
theorem bXy : D108 r n aEh x0 r108 = (K2 (aRc r n) 0 4) :=
 (bGx r n).trans
 ((bNg r n).trans
 ((by kernel_rfl)))
theorem bQa : D108 r n aHm x0 r108 = D108 r n aUf x0 (K2 (aRc r n) 0 4) :=
 congrArg (fun k => D108 r n aUf x0 k) (bXy r n)
theorem bTv : D108 r n aHm x0 r108 = (K1 (aPo r n) 0) :=
 (bQa r n).trans
 ((by kernel_rfl))
theorem bIr : D108 r n aFu x0 r108 = D108 r n aVr x0 (K1 (aPo r n) 0) :=
 congrArg (fun k => D108 r n aVr x0 k) (bTv r n)
theorem cAm : D108 r n aFu x0 r108 = (K1 (aQd r n) 0) :=
 (bIr r n).trans
 ((by kernel_rfl))
theorem cVv : D108 r n c108 x0 r108 = D108 r n aSz x0 (K1 (aQd r n) 0) :=
 congrArg (fun k => D108 r n aSz x0 k) (cAm r n)
theorem cYk : D108 r n c108 x0 r108 = (K1 (s108 r n) 0) :=
 (cVv r n).trans
 ((by kernel_rfl))
theorem cLg : aE CF r n 108 args h = s108 r n (aT args 0) h :=
 (by kernel_rfl : aE CF r n 108 args h = D108 r n c108 x0 r108 (aH args) h).trans ((congrFun (congrFun (cYk r n) (aH args)) h).trans (by kernel_rfl))
noncomputable def fA (r : RT) (n : Nat) (x0 x6 : DV) (h0 : Hp) : aG :=
 bnd (r 16 [x0, x6] h0) fun v1 h1 =>
 bnd (aC 0 v1 h1) fun v2 h2 =>
 bnd (aC 1 v1 h2) fun v3 h3 =>
 some (.t [v2, v3], h3)
noncomputable def aDe (r : RT) (n : Nat) (kk4 : mE) (x0 x1 x6 : DV) (h0 : Hp) : aG :=
 bnd (cO x1 h0) fun v1 h1 =>
 bnd (aD .gtr v1 (aK 0) h1) fun v2 h2 =>
 aX v2 (
 bnd (cO x1 h2) fun v3 h3 =>
 bnd (aHk v3 (aK 240) h3) fun v4 h4 =>
 bnd (r 27 [x0, (aK 10)] h4) fun v5 h5 =>
 bnd (dC 1 x1 none (some v4) h5) fun v6 h6 =>
 cnd (bQ (dC 1 x1 none (some v4) h4) v6 && true) (
 bnd (dR v6 h6) fun v7 h7 =>
 cnd (bQ (dR v6 h4) v7 && true) (
 bnd (r 59 [x0, v5, v7] h7) fun v8 h8 =>
 bnd (aC 0 v8 h8) fun v9 h9 =>
 bnd (aC 1 v8 h9) fun v10 h10 =>
 bnd (aD .neq v10 (aK 0) h10) fun v11 h11 =>
 aX v11 (
 some (.t [(aK 0), v10], h11)) (
 bnd (bY (cH 0 h11.next) [(aK 0)] 1 [(0, 1, v9)] (resv 1 h11)) fun v12 h12 =>
 bnd (bB 1 8 x6 v12 h12) fun v13 h13 =>
 bnd (dC 1 x1 (some v4) none h13) fun v14 h14 =>
 cnd (bQ (dC 1 x1 (some v4) none (resv 1 h11)) v14 && true) (
    kk4 x0 v14 v13 h14))))) (
      fA r n x0 x6 h2)
noncomputable def uK (r : RT) (n : Nat) (m : Nat) : mE :=
 Nat.rec (motive := fun _ => mE) (fun _ _ _ _ => none) (fun _ ih => aDe r n ih) m
noncomputable def bRk (r : RT) (n : Nat) : mE := uK r n n
noncomputable def aRk (r : RT) (n : Nat) (x0 x1 x6 : DV) (h0 : Hp) : aG :=
 bRk r n x0 x1 x6 h0
noncomputable def aQn (r : RT) (n : Nat) (x0 x1 : DV) (h0 : Hp) : aG :=
 aRk r n x0 x1 .l0 h0
noncomputable def s109 (r : RT) (n : Nat) (x0 x1 : DV) (h0 : Hp) : aG :=
 aQn r n x0 x1 h0
noncomputable abbrev c109 : Code := cf Tryz.f109
noncomputable abbrev aIa : Code := cR c109
noncomputable abbrev aFe : Code := cR aIa
noncomputable abbrev cVk : Code := cR aFe
noncomputable abbrev aHw : Code := cL aFe
noncomputable abbrev aCr : Code := cL aHw
noncomputable abbrev nF : Code := cL aCr
noncomputable abbrev bJv : Code := cL aIa
noncomputable abbrev bEv : Code := cL c109
noncomputable abbrev r109 : K := aS CF Tryz.f109
noncomputable def D109 (r : RT) (n : Nat) (c : Code) (X : Nat → K) (k : K) : K := aP CF r 42 n c X r109 k
theorem bYp : D109 r n cVk x0 r109 = (K2 (fA r n) 0 6) :=
 (by kernel_rfl)
theorem bOj (kk4 : mE) (q0 : uL) : D109 r n nF (xs x0 0 (K2 q0 0 6)) (K3 kk4 0 1 6) = fun (env : bF) (h : Hp) =>
 bnd (cO (env 1) h) fun v1 h1 =>
 bnd (aD .gtr v1 (aK 0) h1) fun v2 h2 =>
 aX v2 (
 bnd (cO (env 1) h2) fun v3 h3 =>
 bnd (aHk v3 (aK 240) h3) fun v4 h4 =>
 bnd (r 27 [(env 0), (aK 10)] h4) fun v5 h5 =>
 bnd (dC 1 (env 1) none (some v4) h5) fun v6 h6 =>
 cnd (bQ (dC 1 (env 1) none (some v4) h4) v6 && true) (
 bnd (dR v6 h6) fun v7 h7 =>
 cnd (bQ (dR v6 h4) v7 && true) (
 bnd (r 59 [(env 0), v5, v7] h7) fun v8 h8 =>
 bnd (aC 0 v8 h8) fun v9 h9 =>
 bnd (aC 1 v8 h9) fun v10 h10 =>
 bnd (aD .neq v10 (aK 0) h10) fun v11 h11 =>
 aX v11 (
 some (.t [(aK 0), v10], h11)) (
 bnd (bY (cH 0 h11.next) [(aK 0)] 1 [(0, 1, v9)] (resv 1 h11)) fun v12 h12 =>
 bnd (bB 1 8 (env 6) v12 h12) fun v13 h13 =>
 bnd (dC 1 (env 1) (some v4) none h13) fun v14 h14 =>
 cnd (bQ (dC 1 (env 1) (some v4) none (resv 1 h11)) v14 && true) (
    kk4 (env 0) v14 v13 h14))))) (
      q0 (env 0) (env 6) h2) := by kernel_rfl
theorem bAw (kk4 : mE) : (fun (env : bF) (h : Hp) =>
 bnd (cO (env 1) h) fun v1 h1 =>
 bnd (aD .gtr v1 (aK 0) h1) fun v2 h2 =>
 aX v2 (
 bnd (cO (env 1) h2) fun v3 h3 =>
 bnd (aHk v3 (aK 240) h3) fun v4 h4 =>
 bnd (r 27 [(env 0), (aK 10)] h4) fun v5 h5 =>
 bnd (dC 1 (env 1) none (some v4) h5) fun v6 h6 =>
 cnd (bQ (dC 1 (env 1) none (some v4) h4) v6 && true) (
 bnd (dR v6 h6) fun v7 h7 =>
 cnd (bQ (dR v6 h4) v7 && true) (
 bnd (r 59 [(env 0), v5, v7] h7) fun v8 h8 =>
 bnd (aC 0 v8 h8) fun v9 h9 =>
 bnd (aC 1 v8 h9) fun v10 h10 =>
 bnd (aD .neq v10 (aK 0) h10) fun v11 h11 =>
 aX v11 (
 some (.t [(aK 0), v10], h11)) (
 bnd (bY (cH 0 h11.next) [(aK 0)] 1 [(0, 1, v9)] (resv 1 h11)) fun v12 h12 =>
 bnd (bB 1 8 (env 6) v12 h12) fun v13 h13 =>
 bnd (dC 1 (env 1) (some v4) none h13) fun v14 h14 =>
 cnd (bQ (dC 1 (env 1) (some v4) none (resv 1 h11)) v14 && true) (
    kk4 (env 0) v14 v13 h14))))) (
      fA r n (env 0) (env 6) h2)) = (K3 (aDe r n kk4) 0 1 6) := by kernel_rfl
theorem bRl (kk4 : mE) : D109 r n nF (xs x0 0 (K2 (fA r n) 0 6)) (K3 kk4 0 1 6) = (K3 (aDe r n kk4) 0 1 6) :=
 (bOj r n kk4 (fA r n)).trans (bAw r n kk4)
theorem bMo (m : Nat) : aO (fun kk => D109 r n nF (xs x0 0 (K2 (fA r n) 0 6)) kk) m = (K3 (uK r n m) 0 1 6) := by
 induction m with
 | zero => exact (by kernel_rfl : aO (fun kk => D109 r n nF (xs x0 0 (K2 (fA r n) 0 6)) kk) 0 = (K3 (uK r n 0) 0 1 6))
 | succ m ih =>
  refine (by kernel_rfl : aO (fun kk => D109 r n nF (xs x0 0 (K2 (fA r n) 0 6)) kk) (m + 1) = D109 r n nF (xs x0 0 (K2 (fA r n) 0 6)) (aO (fun kk => D109 r n nF (xs x0 0 (K2 (fA r n) 0 6)) kk) m)).trans ?_
  rw [ih]
  exact (bRl r n (uK r n m)).trans (by kernel_rfl)
theorem cAh : D109 r n aCr (xs x0 0 (K2 (fA r n) 0 6)) (K2 (fA r n) 0 6) = (K3 (bRk r n) 0 1 6) :=
 (by kernel_rfl : D109 r n aCr (xs x0 0 (K2 (fA r n) 0 6)) (K2 (fA r n) 0 6) = aO (fun kk => D109 r n nF (xs x0 0 (K2 (fA r n) 0 6)) kk) n).trans ((bMo r n n).trans (by kernel_rfl))
theorem bDk : D109 r n aFe x0 r109 = D109 r n aHw x0 (K2 (fA r n) 0 6) :=
 congrArg (fun k => D109 r n aHw x0 k) (bYp r n)
theorem cBr : D109 r n aFe x0 r109 = (K3 (aRk r n) 0 1 6) :=
 (bDk r n).trans
 ((by kernel_rfl : D109 r n aHw x0 (K2 (fA r n) 0 6) = D109 r n aCr (xs x0 0 (K2 (fA r n) 0 6)) (K2 (fA r n) 0 6)).trans
 ((cAh r n).trans (by kernel_rfl)))
theorem bLk : D109 r n aIa x0 r109 = D109 r n bJv x0 (K3 (aRk r n) 0 1 6) :=
 congrArg (fun k => D109 r n bJv x0 k) (cBr r n)
theorem cGk : D109 r n aIa x0 r109 = (K2 (aQn r n) 0 1) :=
 (bLk r n).trans
 ((by kernel_rfl))
theorem cMi : D109 r n c109 x0 r109 = D109 r n bEv x0 (K2 (aQn r n) 0 1) :=
 congrArg (fun k => D109 r n bEv x0 k) (cGk r n)
theorem dBv : D109 r n c109 x0 r109 = (K2 (s109 r n) 0 1) :=
 (cMi r n).trans
 ((by kernel_rfl))
theorem cOd : aE CF r n 109 args h = s109 r n (aT args 0) (aT args 1) h :=
 (by kernel_rfl : aE CF r n 109 args h = D109 r n c109 x0 r109 (aH args) h).trans ((congrFun (congrFun (dBv r n) (aH args)) h).trans (by kernel_rfl))
noncomputable def gC (r : RT) (n : Nat) (x0 x7 : DV) (h0 : Hp) : aG :=
 bnd (bD x0 h0) fun v1 h1 =>
 bnd (aB 0 v1 h1) fun v2 h2 =>
 bnd (aA v2 h2) fun v3 h3 =>
 bnd (bD x0 h3) fun v4 h4 =>
 bnd (aB 1 v4 h4) fun v5 h5 =>
 bnd (aA v5 h5) fun v6 h6 =>
 bnd (dY v3 (some x7) (some v6) h6) fun v7 h7 =>
 some (v7, h7)
noncomputable def aUz (r : RT) (n : Nat) (kk4 : eY) (x0 x1 x2 x7 : DV) (h0 : Hp) : aG :=
 bnd (bD x0 h0) fun v1 h1 =>
 bnd (aB 1 v1 h1) fun v2 h2 =>
 bnd (aA v2 h2) fun v3 h3 =>
 bnd (bD x0 h3) fun v4 h4 =>
 bnd (aB 0 v4 h4) fun v5 h5 =>
 bnd (aA v5 h5) fun v6 h6 =>
 bnd (dI v6 h6) fun v7 h7 =>
 bnd (aD .lss v3 v7 h7) fun v8 h8 =>
 bnd (gD v8 true (some (x0, h8)) h8) fun v9 h9 =>
 bnd (gD v8 true (bD v9 h9) h9) fun v10 h10 =>
 bnd (gD v8 true (aB 1 v10 h10) h10) fun v11 h11 =>
 bnd (gD v8 true (aA v11 h11) h11) fun v12 h12 =>
 bnd (gD v8 true (some (x7, h12)) h12) fun v13 h13 =>
 bnd (gD v8 true (aD .sub v12 v13 h13) h13) fun v14 h14 =>
 bnd (gD v8 true (some (x2, h14)) h14) fun v15 h15 =>
 bnd (gD v8 true (aD .lss v14 v15 h15) h15) fun v16 h16 =>
 bnd (aQ v8 v16 (.b false) h16) fun v17 h17 =>
 bnd (gD v17 true (some (x1, h17)) h17) fun v18 h18 =>
 bnd (gD v17 true (some (x0, h18)) h18) fun v19 h19 =>
 bnd (gD v17 true (bD v19 h19) h19) fun v20 h20 =>
 bnd (gD v17 true (aB 0 v20 h20) h20) fun v21 h21 =>
 bnd (gD v17 true (aA v21 h21) h21) fun v22 h22 =>
 bnd (gD v17 true (some (x0, h22)) h22) fun v23 h23 =>
 bnd (gD v17 true (bD v23 h23) h23) fun v24 h24 =>
 bnd (gD v17 true (aB 1 v24 h24) h24) fun v25 h25 =>
 bnd (gD v17 true (aA v25 h25) h25) fun v26 h26 =>
 bnd (gD v17 true (dP v22 v26 h26) h26) fun v27 h27 =>
 bnd (gD v17 true (jS CF r v18 [v27] h27) h27) fun v28 h28 =>
 bnd (aQ v17 v28 (.b false) h28) fun v29 h29 =>
 aX v29 (
 bnd (bD x0 h29) fun v30 h30 =>
 bnd (aB 1 v30 h30) fun v31 h31 =>
 bnd (aA v31 h31) fun v32 h32 =>
 bnd (aD .add v32 (aK 1) h32) fun v33 h33 =>
 bnd (bD x0 h33) fun v34 h34 =>
 bnd (aB 1 v34 h34) fun v35 h35 =>
 bnd (aI 1 v35 v33 h35) fun _ h36 =>
      kk4 x0 x1 x2 x7 h36) (
      gC r n x0 x7 h29)
noncomputable def vH (r : RT) (n : Nat) (m : Nat) : eY :=
 Nat.rec (motive := fun _ => eY) (fun _ _ _ _ _ => none) (fun _ ih => aUz r n ih) m
noncomputable def bSy (r : RT) (n : Nat) : eY := vH r n n
noncomputable def aNe (r : RT) (n : Nat) (x0 x1 x2 x7 : DV) (h0 : Hp) : aG :=
 bSy r n x0 x1 x2 x7 h0
noncomputable def aOk (r : RT) (n : Nat) (x0 x1 x2 : DV) (h0 : Hp) : aG :=
 bnd (bD x0 h0) fun v1 h1 =>
 bnd (aB 1 v1 h1) fun v2 h2 =>
 bnd (aA v2 h2) fun v3 h3 =>
  aNe r n x0 x1 x2 v3 h3
noncomputable def s120 (r : RT) (n : Nat) (x0 x1 x2 : DV) (h0 : Hp) : aG :=
 aOk r n x0 x1 x2 h0
noncomputable abbrev c120 : Code := cf Tryz.f120
noncomputable abbrev aDs : Code := cR c120
noncomputable abbrev aHx : Code := cR aDs
noncomputable abbrev cTi : Code := cR aHx
noncomputable abbrev aIr : Code := cL aHx
noncomputable abbrev aIw : Code := cL aIr
noncomputable abbrev pU : Code := cL aIw
noncomputable abbrev bIj : Code := cL aDs
noncomputable abbrev bFt : Code := cL c120
noncomputable abbrev r120 : K := aS CF Tryz.f120
noncomputable def D120 (r : RT) (n : Nat) (c : Code) (X : Nat → K) (k : K) : K := aP CF r 62 n c X r120 k
theorem cCq : D120 r n cTi x0 r120 = (K2 (gC r n) 0 7) :=
 (by kernel_rfl)
theorem bLe (kk4 : eY) : D120 r n pU (xs x0 0 (K2 (gC r n) 0 7)) (K4 kk4 0 1 2 7) = (K4 (aUz r n kk4) 0 1 2 7) :=
 (by kernel_rfl)
theorem bTc (m : Nat) : aO (fun kk => D120 r n pU (xs x0 0 (K2 (gC r n) 0 7)) kk) m = (K4 (vH r n m) 0 1 2 7) := by
 induction m with
 | zero => exact (by kernel_rfl : aO (fun kk => D120 r n pU (xs x0 0 (K2 (gC r n) 0 7)) kk) 0 = (K4 (vH r n 0) 0 1 2 7))
 | succ m ih =>
  refine (by kernel_rfl : aO (fun kk => D120 r n pU (xs x0 0 (K2 (gC r n) 0 7)) kk) (m + 1) = D120 r n pU (xs x0 0 (K2 (gC r n) 0 7)) (aO (fun kk => D120 r n pU (xs x0 0 (K2 (gC r n) 0 7)) kk) m)).trans ?_
  rw [ih]
  exact (bLe r n (vH r n m)).trans (by kernel_rfl)
theorem cFe : D120 r n aIw (xs x0 0 (K2 (gC r n) 0 7)) (K2 (gC r n) 0 7) = (K4 (bSy r n) 0 1 2 7) :=
 (by kernel_rfl : D120 r n aIw (xs x0 0 (K2 (gC r n) 0 7)) (K2 (gC r n) 0 7) = aO (fun kk => D120 r n pU (xs x0 0 (K2 (gC r n) 0 7)) kk) n).trans ((bTc r n n).trans (by kernel_rfl))
theorem bNq : D120 r n aHx x0 r120 = D120 r n aIr x0 (K2 (gC r n) 0 7) :=
 congrArg (fun k => D120 r n aIr x0 k) (cCq r n)
theorem cBb : D120 r n aHx x0 r120 = (K4 (aNe r n) 0 1 2 7) :=
 (bNq r n).trans
 ((by kernel_rfl : D120 r n aIr x0 (K2 (gC r n) 0 7) = D120 r n aIw (xs x0 0 (K2 (gC r n) 0 7)) (K2 (gC r n) 0 7)).trans
 ((cFe r n).trans (by kernel_rfl)))
theorem bJm : D120 r n aDs x0 r120 = D120 r n bIj x0 (K4 (aNe r n) 0 1 2 7) :=
 congrArg (fun k => D120 r n bIj x0 k) (cBb r n)
theorem cBq : D120 r n aDs x0 r120 = (K3 (aOk r n) 0 1 2) :=
 (bJm r n).trans
 ((by kernel_rfl))
theorem cVu : D120 r n c120 x0 r120 = D120 r n bFt x0 (K3 (aOk r n) 0 1 2) :=
 congrArg (fun k => D120 r n bFt x0 k) (cBq r n)
theorem cZs : D120 r n c120 x0 r120 = (K3 (s120 r n) 0 1 2) :=
 (cVu r n).trans
 ((by kernel_rfl))
theorem cNm : aE CF r n 120 args h = s120 r n (aT args 0) (aT args 1) (aT args 2) h :=
 (by kernel_rfl : aE CF r n 120 args h = D120 r n c120 x0 r120 (aH args) h).trans ((congrFun (congrFun (cZs r n) (aH args)) h).trans (by kernel_rfl))
noncomputable def s121 (r : RT) (n : Nat) (x0 : DV) (h0 : Hp) : aG :=
 bnd (cB x0 h0) fun v1 h1 =>
 some ((.f 145 [] [v1]), h1)
noncomputable abbrev c121 : Code := cf Tryz.f121
noncomputable abbrev r121 : K := aS CF Tryz.f121
noncomputable def D121 (r : RT) (n : Nat) (c : Code) (X : Nat → K) (k : K) : K := aP CF r 4 n c X r121 k
theorem cYd : D121 r n c121 x0 r121 = (K1 (s121 r n) 0) :=
 (by kernel_rfl)
theorem cMv : aE CF r n 121 args h = s121 r n (aT args 0) h :=
 (by kernel_rfl : aE CF r n 121 args h = D121 r n c121 x0 r121 (aH args) h).trans ((congrFun (congrFun (cYd r n) (aH args)) h).trans (by kernel_rfl))
noncomputable def iU (r : RT) (n : Nat) (x2 x4 x5 : DV) (h0 : Hp) : aG :=
 bnd (aN 4 x4 h0) fun v1 h1 =>
 bnd (aI 4 x2 v1 h1) fun _ h2 =>
 bnd (aN 4 x2 h2) fun v3 _ =>
 some (.t [v3, x5], h2)
noncomputable def aOr (r : RT) (n : Nat) (x0 x2 x4 x5 x6 : DV) (h0 : Hp) : aG :=
 bnd (r 147 [x6] h0) fun v1 h1 =>
 aX v1 (
 bnd (aB 0 x4 h1) fun v2 h2 =>
 bnd (aI 1 v2 (aK 1) h2) fun _ h3 =>
 bnd (r 148 [x0] h3) fun v4 h4 =>
 bnd (aC 0 v4 h4) fun v5 h5 =>
 bnd (aC 1 v4 h5) fun v6 h6 =>
 bnd (aB 1 x4 h6) fun v7 h7 =>
 bnd (aI 1 v7 v5 h7) fun _ h8 =>
 bnd (aD .eql v6 (aK 0) h8) fun v9 h9 =>
 bnd (gD v9 true (some (x0, h9)) h9) fun v10 h10 =>
 bnd (gD v9 true (r 149 [v10] h10) h10) fun v11 h11 =>
 bnd (aQ v9 v11 (.b false) h11) fun v12 h12 =>
 aX v12 (
 bnd (aB 1 x4 h12) fun v13 h13 =>
 bnd (aA v13 h13) fun v14 h14 =>
 bnd (dA .add v14 (.s [58]) h14) fun v15 h15 =>
 bnd (aB 0 x4 h15) fun v16 h16 =>
 bnd (aI 1 v16 (aK 2) h16) fun _ h17 =>
 bnd (aB 1 x4 h17) fun v18 h18 =>
 bnd (aI 1 v18 v15 h18) fun _ h19 =>
      iU r n x2 x4 v6 h19) (
      iU r n x2 x4 v6 h12)) (
 bnd (r 150 [x6] h1) fun v20 h20 =>
 aX v20 (
 bnd (aB 0 x4 h20) fun v21 h21 =>
 bnd (aI 1 v21 (aK 4) h21) fun _ h22 =>
 bnd (r 151 [x0] h22) fun v23 h23 =>
 bnd (aC 0 v23 h23) fun v24 h24 =>
 bnd (aC 1 v23 h24) fun v25 h25 =>
 bnd (aB 2 x4 h25) fun v26 h26 =>
 bnd (aI 1 v26 v24 h26) fun _ h27 =>
      iU r n x2 x4 v25 h27) (
 bnd (aD .eql x6 (.i .u8 (Int.ofNat 39)) h20) fun v28 h28 =>
 aX v28 (
 bnd (bD x0 h28) fun v29 h29 =>
 bnd (aB 1 v29 h29) fun v30 h30 =>
 bnd (aA v30 h30) fun v31 h31 =>
 bnd (aD .add v31 (aK 1) h31) fun v32 h32 =>
 bnd (bD x0 h32) fun v33 h33 =>
 bnd (aB 1 v33 h33) fun v34 h34 =>
 bnd (aI 1 v34 v32 h34) fun _ h35 =>
 bnd (aB 0 x4 h35) fun v36 h36 =>
 bnd (aI 1 v36 (aK 5) h36) fun _ h37 =>
 bnd (r 152 [x0] h37) fun v38 h38 =>
 bnd (aC 0 v38 h38) fun v39 h39 =>
 bnd (aC 1 v38 h39) fun v40 h40 =>
 bnd (aB 1 x4 h40) fun v41 h41 =>
 bnd (aI 1 v41 v39 h41) fun _ h42 =>
    iU r n x2 x4 v40 h42) (
 bnd (aD .eql x6 (.i .u8 (Int.ofNat 35)) h28) fun v43 h43 =>
 bnd (gD v43 true (some (x0, h43)) h43) fun v44 h44 =>
 bnd (gD v43 true (r 146 [v44, (aK 1)] h44) h44) fun v45 h45 =>
 bnd (gD v43 true (aD .eql v45 (.i .u8 (Int.ofNat 40)) h45) h45) fun v46 h46 =>
 bnd (aQ v43 v46 (.b false) h46) fun v47 h47 =>
 aX v47 (
 bnd (bD x0 h47) fun v48 h48 =>
 bnd (aB 1 v48 h48) fun v49 h49 =>
 bnd (aA v49 h49) fun v50 h50 =>
 bnd (aD .add v50 (aK 2) h50) fun v51 h51 =>
 bnd (bD x0 h51) fun v52 h52 =>
 bnd (aB 1 v52 h52) fun v53 h53 =>
 bnd (aI 1 v53 v51 h53) fun _ h54 =>
 bnd (aB 0 x4 h54) fun v55 h55 =>
 bnd (aI 1 v55 (aK 7) h55) fun _ h56 =>
     iU r n x2 x4 x5 h56) (
 bnd (aD .eql x6 (.i .u8 (Int.ofNat 35)) h47) fun v57 h57 =>
 aX v57 (
 bnd (bD x0 h57) fun v58 h58 =>
 bnd (aB 1 v58 h58) fun v59 h59 =>
 bnd (aA v59 h59) fun v60 h60 =>
 bnd (aD .add v60 (aK 1) h60) fun v61 h61 =>
 bnd (bD x0 h61) fun v62 h62 =>
 bnd (aB 1 v62 h62) fun v63 h63 =>
 bnd (aI 1 v63 v61 h63) fun _ h64 =>
 bnd (aB 0 x4 h64) fun v65 h65 =>
 bnd (aI 1 v65 (aK 6) h65) fun _ h66 =>
 bnd (r 153 [x0] h66) fun v67 h67 =>
 bnd (aC 0 v67 h67) fun v68 h68 =>
 bnd (aC 1 v67 h68) fun v69 h69 =>
 bnd (aB 1 x4 h69) fun v70 h70 =>
 bnd (aI 1 v70 v68 h70) fun _ h71 =>
      iU r n x2 x4 v69 h71) (
 bnd (aD .eql x6 (.i .u8 (Int.ofNat 58)) h57) fun v72 h72 =>
 bnd (gD v72 true (some (x0, h72)) h72) fun v73 h73 =>
 bnd (gD v72 true (r 146 [v73, (aK 1)] h73) h73) fun v74 h74 =>
 bnd (gD v72 true (aD .eql v74 (.i .u8 (Int.ofNat 61)) h74) h74) fun v75 h75 =>
 bnd (aQ v72 v75 (.b false) h75) fun v76 h76 =>
 aX v76 (
 bnd (bD x0 h76) fun v77 h77 =>
 bnd (aB 1 v77 h77) fun v78 h78 =>
 bnd (aA v78 h78) fun v79 h79 =>
 bnd (aD .add v79 (aK 2) h79) fun v80 h80 =>
 bnd (bD x0 h80) fun v81 h81 =>
 bnd (aB 1 v81 h81) fun v82 h82 =>
 bnd (aI 1 v82 v80 h82) fun _ h83 =>
 bnd (aB 0 x4 h83) fun v84 h84 =>
 bnd (aI 1 v84 (aK 9) h84) fun _ h85 =>
       iU r n x2 x4 x5 h85) (
 bnd (aD .eql x6 (.i .u8 (Int.ofNat 58)) h76) fun v86 h86 =>
 bnd (gD v86 true (some (x0, h86)) h86) fun v87 h87 =>
 bnd (gD v86 true (r 146 [v87, (aK 1)] h87) h87) fun v88 h88 =>
 bnd (gD v86 true (r 147 [v88] h88) h88) fun v89 h89 =>
 bnd (aQ v86 v89 (.b false) h89) fun v90 h90 =>
 aX v90 (
 bnd (bD x0 h90) fun v91 h91 =>
 bnd (aB 1 v91 h91) fun v92 h92 =>
 bnd (aA v92 h92) fun v93 h93 =>
 bnd (aD .add v93 (aK 1) h93) fun v94 h94 =>
 bnd (bD x0 h94) fun v95 h95 =>
 bnd (aB 1 v95 h95) fun v96 h96 =>
 bnd (aI 1 v96 v94 h96) fun _ h97 =>
 bnd (aB 0 x4 h97) fun v98 h98 =>
 bnd (aI 1 v98 (aK 8) h98) fun _ h99 =>
 bnd (r 148 [x0] h99) fun v100 h100 =>
 bnd (aC 0 v100 h100) fun v101 h101 =>
 bnd (aC 1 v100 h101) fun v102 h102 =>
 bnd (aB 1 x4 h102) fun v103 h103 =>
 bnd (aI 1 v103 v101 h103) fun _ h104 =>
        iU r n x2 x4 v102 h104) (
 bnd (r 121 [(.s [43, 45, 42, 47, 60, 62, 61, 126, 44, 64, 38, 37])] h90) fun v105 h105 =>
 bnd (jS CF r v105 [x6] h105) fun v106 h106 =>
 aX v106 (
 bnd (r 121 [(.s [43, 45, 42, 47, 60, 62, 61, 126, 44, 64, 38, 37])] h106) fun v107 h107 =>
 bnd (r 120 [x0, v107, (aK 2)] h107) fun v108 h108 =>
 bnd (aB 0 x4 h108) fun v109 h109 =>
 bnd (aI 1 v109 (aK 3) h109) fun _ h110 =>
 bnd (aB 1 x4 h110) fun v111 h111 =>
 bnd (aI 1 v111 v108 h111) fun _ h112 =>
         iU r n x2 x4 x5 h112) (
 bnd (r 121 [(.s [94, 46, 59, 40, 41, 91, 93, 124])] h106) fun v113 h113 =>
 bnd (jS CF r v113 [x6] h113) fun v114 h114 =>
 aX v114 (
 bnd (r 121 [(.s [94, 46, 59, 40, 41, 91, 93, 124])] h114) fun v115 h115 =>
 bnd (r 120 [x0, v115, (aK 1)] h115) fun v116 h116 =>
 bnd (aB 0 x4 h116) fun v117 h117 =>
 bnd (aI 1 v117 (aK 10) h117) fun _ h118 =>
 bnd (aB 1 x4 h118) fun v119 h119 =>
 bnd (aI 1 v119 v116 h119) fun _ h120 =>
          iU r n x2 x4 x5 h120) (
          iU r n x2 x4 (aK 10) h114)))))))))
noncomputable def aMy (r : RT) (n : Nat) (x0 x2 x4 x5 : DV) (h0 : Hp) : aG :=
 bnd (r 146 [x0, (aK 0)] h0) fun v1 h1 =>
  aOr r n x0 x2 x4 x5 v1 h1
noncomputable def xL (r : RT) (n : Nat) (x0 x2 x4 : DV) (h0 : Hp) : aG :=
 aMy r n x0 x2 x4 (aK 0) h0
noncomputable def rO (r : RT) (n : Nat) (x0 x2 : DV) (h0 : Hp) : aG :=
 bnd (bD x0 h0) fun v1 h1 =>
 bnd (aB 1 v1 h1) fun v2 h2 =>
 bnd (aA v2 h2) fun v3 h3 =>
 bnd (cI [(aK 0), (.s []), (aK 0), (aK 0)] [(3, 1, v3)] h3) fun v4 h4 =>
 bnd (cF [(aK 0), (.s []), (aK 0), (aK 0)] h4) fun v5 h5 =>
 bnd (aI 4 v5 v4 h5) fun _ h6 =>
  xL r n x0 x2 v5 h6
noncomputable def s122 (r : RT) (n : Nat) (x0 : DV) (h0 : Hp) : aG :=
 bnd (cF [(aK 0), (.s []), (aK 0), (aK 0)] h0) fun v1 h1 =>
  rO r n x0 v1 h1
noncomputable abbrev c122 : Code := cf Tryz.f122
noncomputable abbrev aEx : Code := cR c122
noncomputable abbrev aFq : Code := cR aEx
noncomputable abbrev aHi : Code := cR aFq
noncomputable abbrev aEc : Code := cR aHi
noncomputable abbrev cPv : Code := cR aEc
noncomputable abbrev bRo : Code := cL aEc
noncomputable abbrev bMc : Code := cL aHi
noncomputable abbrev bGo : Code := cL aFq
noncomputable abbrev aNh : Code := cL aEx
noncomputable abbrev aHe : Code := cL c122
noncomputable abbrev r122 : K := aS CF Tryz.f122
noncomputable def D122 (r : RT) (n : Nat) (c : Code) (X : Nat → K) (k : K) : K := aP CF r 153 n c X r122 k
theorem cAa : D122 r n cPv x0 r122 = (K3 (iU r n) 2 4 5) :=
 (by kernel_rfl)
theorem bMe : D122 r n aEc x0 r122 = D122 r n bRo x0 (K3 (iU r n) 2 4 5) :=
 congrArg (fun k => D122 r n bRo x0 k) (cAa r n)
theorem bVg : D122 r n aEc x0 r122 = (K5 (aOr r n) 0 2 4 5 6) :=
 (bMe r n).trans
 ((by kernel_rfl))
theorem bHq : D122 r n aHi x0 r122 = D122 r n bMc x0 (K5 (aOr r n) 0 2 4 5 6) :=
 congrArg (fun k => D122 r n bMc x0 k) (bVg r n)
theorem cAe : D122 r n aHi x0 r122 = (K4 (aMy r n) 0 2 4 5) :=
 (bHq r n).trans
 ((by kernel_rfl))
theorem bMq : D122 r n aFq x0 r122 = D122 r n bGo x0 (K4 (aMy r n) 0 2 4 5) :=
 congrArg (fun k => D122 r n bGo x0 k) (cAe r n)
theorem cGs : D122 r n aFq x0 r122 = (K3 (xL r n) 0 2 4) :=
 (bMq r n).trans
 ((by kernel_rfl))
theorem bHl : D122 r n aEx x0 r122 = D122 r n aNh x0 (K3 (xL r n) 0 2 4) :=
 congrArg (fun k => D122 r n aNh x0 k) (cGs r n)
theorem bJo (q0 : mE) : D122 r n aNh x0 (K3 q0 0 2 4) = fun (env : bF) (h : Hp) =>
 bnd (bD (env 0) h) fun v1 h1 =>
 bnd (aB 1 v1 h1) fun v2 h2 =>
 bnd (aA v2 h2) fun v3 h3 =>
 bnd (cI [(aK 0), (.s []), (aK 0), (aK 0)] [(3, 1, v3)] h3) fun v4 h4 =>
 bnd (cF [(aK 0), (.s []), (aK 0), (aK 0)] h4) fun v5 h5 =>
 bnd (aI 4 v5 v4 h5) fun _ h6 =>
  q0 (env 0) (env 2) v5 h6 := by kernel_rfl
theorem bBz : (fun (env : bF) (h : Hp) =>
 bnd (bD (env 0) h) fun v1 h1 =>
 bnd (aB 1 v1 h1) fun v2 h2 =>
 bnd (aA v2 h2) fun v3 h3 =>
 bnd (cI [(aK 0), (.s []), (aK 0), (aK 0)] [(3, 1, v3)] h3) fun v4 h4 =>
 bnd (cF [(aK 0), (.s []), (aK 0), (aK 0)] h4) fun v5 h5 =>
 bnd (aI 4 v5 v4 h5) fun _ h6 =>
  xL r n (env 0) (env 2) v5 h6) = (K2 (rO r n) 0 2) := by kernel_rfl
theorem cAw : D122 r n aEx x0 r122 = (K2 (rO r n) 0 2) :=
 (bHl r n).trans
 ((bJo r n (xL r n)).trans (bBz r n))
theorem cSw : D122 r n c122 x0 r122 = D122 r n aHe x0 (K2 (rO r n) 0 2) :=
 congrArg (fun k => D122 r n aHe x0 k) (cAw r n)
theorem cLq (q0 : uL) : D122 r n aHe x0 (K2 q0 0 2) = fun (env : bF) (h : Hp) =>
 bnd (cF [(aK 0), (.s []), (aK 0), (aK 0)] h) fun v1 h1 =>
  q0 (env 0) v1 h1 := by kernel_rfl
theorem cAv : (fun (env : bF) (h : Hp) =>
 bnd (cF [(aK 0), (.s []), (aK 0), (aK 0)] h) fun v1 h1 =>
  rO r n (env 0) v1 h1) = (K1 (s122 r n) 0) := by kernel_rfl
theorem cYi : D122 r n c122 x0 r122 = (K1 (s122 r n) 0) :=
 (cSw r n).trans
 ((cLq r n (rO r n)).trans (cAv r n))
theorem cVn : aE CF r n 122 args h = s122 r n (aT args 0) h :=
 (by kernel_rfl : aE CF r n 122 args h = D122 r n c122 x0 r122 (aH args) h).trans ((congrFun (congrFun (cYi r n) (aH args)) h).trans (by kernel_rfl))
noncomputable def s123 (r : RT) (n : Nat) (x0 x1 x2 : DV) (h0 : Hp) : aG :=
 bnd (r 127 [x0, (aK 0)] h0) fun v1 h1 =>
 bnd (cF [(aK 0), (.s []), (aK 0), (aK 0)] h1) fun v2 h2 =>
 bnd (aI 4 v2 v1 h2) fun _ h3 =>
 bnd (bD x0 h3) fun v4 h4 =>
 bnd (aB 3 v4 h4) fun v5 h5 =>
 bnd (aA v5 h5) fun v6 h6 =>
 bnd (aD .eql v6 (aK 0) h6) fun v7 h7 =>
 bnd (gD v7 true (aB 0 v2 h7) h7) fun v8 h8 =>
 bnd (gD v7 true (aA v8 h8) h8) fun v9 h9 =>
 bnd (gD v7 true (some (x1, h9)) h9) fun v10 h10 =>
 bnd (gD v7 true (aD .eql v9 v10 h10) h10) fun v11 h11 =>
 bnd (aQ v7 v11 (.b false) h11) fun v12 h12 =>
 bnd (gD v12 true (some (x2, h12)) h12) fun v13 h13 =>
 bnd (gD v12 true (dA .eql v13 (.s []) h13) h13) fun v14 h14 =>
 bnd (gD v12 true (some (v14, h14)) h14) fun v15 h15 =>
 bnd (gD v15 false (aB 1 v2 h15) h15) fun v16 h16 =>
 bnd (gD v15 false (aA v16 h16) h16) fun v17 h17 =>
 bnd (gD v15 false (some (x2, h17)) h17) fun v18 h18 =>
 bnd (gD v15 false (dA .eql v17 v18 h18) h18) fun v19 h19 =>
 bnd (gD v12 true (aQ v15 (.b true) v19 h19) h19) fun v20 h20 =>
 bnd (aQ v12 v20 (.b false) h20) fun v21 h21 =>
 some (v21, h21)
noncomputable abbrev c123 : Code := cf Tryz.f123
noncomputable abbrev r123 : K := aS CF Tryz.f123
noncomputable def D123 (r : RT) (n : Nat) (c : Code) (X : Nat → K) (k : K) : K := aP CF r 31 n c X r123 k
theorem cYl : D123 r n c123 x0 r123 = (K3 (s123 r n) 0 1 2) :=
 (by kernel_rfl)
theorem cVb : aE CF r n 123 args h = s123 r n (aT args 0) (aT args 1) (aT args 2) h :=
 (by kernel_rfl : aE CF r n 123 args h = D123 r n c123 x0 r123 (aH args) h).trans ((congrFun (congrFun (cYl r n) (aH args)) h).trans (by kernel_rfl))
noncomputable def aEq (r : RT) (n : Nat) (x2 x3 : DV) (h0 : Hp) : aG :=
 bnd (aN 4 x3 h0) fun v1 h1 =>
 bnd (aI 4 x2 v1 h1) fun _ h2 =>
 bnd (aN 4 x2 h2) fun v3 _ =>
 some (v3, h2)
noncomputable def zN (r : RT) (n : Nat) (x0 x2 x3 : DV) (h0 : Hp) : aG :=
 bnd (aB 0 x3 h0) fun v1 h1 =>
 bnd (aA v1 h1) fun v2 h2 =>
 bnd (aD .neq v2 (aK 0) h2) fun v3 h3 =>
 aX v3 (
 bnd (bD x0 h3) fun v4 h4 =>
 bnd (aB 0 v4 h4) fun v5 h5 =>
 bnd (aA v5 h5) fun v6 h6 =>
 bnd (dC 4 v6 (some (aK 1)) none h6) fun v7 h7 =>
 bnd (bD x0 h7) fun v8 h8 =>
 bnd (aB 0 v8 h8) fun v9 h9 =>
 bnd (aI 1 v9 v7 h9) fun _ h10 =>
  aEq r n x2 x3 h10) (
  aEq r n x2 x3 h3)
noncomputable def sW (r : RT) (n : Nat) (x0 x2 : DV) (h0 : Hp) : aG :=
 bnd (r 127 [x0, (aK 0)] h0) fun v1 h1 =>
 bnd (cF [(aK 0), (.s []), (aK 0), (aK 0)] h1) fun v2 h2 =>
 bnd (aI 4 v2 v1 h2) fun _ h3 =>
  zN r n x0 x2 v2 h3
noncomputable def s124 (r : RT) (n : Nat) (x0 : DV) (h0 : Hp) : aG :=
 bnd (cF [(aK 0), (.s []), (aK 0), (aK 0)] h0) fun v1 h1 =>
  sW r n x0 v1 h1
noncomputable abbrev c124 : Code := cf Tryz.f124
noncomputable abbrev aCg : Code := cR c124
noncomputable abbrev aFg : Code := cR aCg
noncomputable abbrev cQi : Code := cR aFg
noncomputable abbrev bOa : Code := cL aFg
noncomputable abbrev aQr : Code := cL aCg
noncomputable abbrev aNc : Code := cL c124
noncomputable abbrev r124 : K := aS CF Tryz.f124
noncomputable def D124 (r : RT) (n : Nat) (c : Code) (X : Nat → K) (k : K) : K := aP CF r 18 n c X r124 k
theorem bWi : D124 r n cQi x0 r124 = (K2 (aEq r n) 2 3) :=
 (by kernel_rfl)
theorem bJl : D124 r n aFg x0 r124 = D124 r n bOa x0 (K2 (aEq r n) 2 3) :=
 congrArg (fun k => D124 r n bOa x0 k) (bWi r n)
theorem bZl : D124 r n aFg x0 r124 = (K3 (zN r n) 0 2 3) :=
 (bJl r n).trans
 ((by kernel_rfl))
theorem bHv : D124 r n aCg x0 r124 = D124 r n aQr x0 (K3 (zN r n) 0 2 3) :=
 congrArg (fun k => D124 r n aQr x0 k) (bZl r n)
theorem bDh (q0 : mE) : D124 r n aQr x0 (K3 q0 0 2 3) = fun (env : bF) (h : Hp) =>
 bnd (r 127 [(env 0), (aK 0)] h) fun v1 h1 =>
 bnd (cF [(aK 0), (.s []), (aK 0), (aK 0)] h1) fun v2 h2 =>
 bnd (aI 4 v2 v1 h2) fun _ h3 =>
  q0 (env 0) (env 2) v2 h3 := by kernel_rfl
theorem bCb : (fun (env : bF) (h : Hp) =>
 bnd (r 127 [(env 0), (aK 0)] h) fun v1 h1 =>
 bnd (cF [(aK 0), (.s []), (aK 0), (aK 0)] h1) fun v2 h2 =>
 bnd (aI 4 v2 v1 h2) fun _ h3 =>
  zN r n (env 0) (env 2) v2 h3) = (K2 (sW r n) 0 2) := by kernel_rfl
theorem cCf : D124 r n aCg x0 r124 = (K2 (sW r n) 0 2) :=
 (bHv r n).trans
 ((bDh r n (zN r n)).trans (bCb r n))
theorem cVr : D124 r n c124 x0 r124 = D124 r n aNc x0 (K2 (sW r n) 0 2) :=
 congrArg (fun k => D124 r n aNc x0 k) (cCf r n)
theorem cMb (q0 : uL) : D124 r n aNc x0 (K2 q0 0 2) = fun (env : bF) (h : Hp) =>
 bnd (cF [(aK 0), (.s []), (aK 0), (aK 0)] h) fun v1 h1 =>
  q0 (env 0) v1 h1 := by kernel_rfl
theorem bZv : (fun (env : bF) (h : Hp) =>
 bnd (cF [(aK 0), (.s []), (aK 0), (aK 0)] h) fun v1 h1 =>
  sW r n (env 0) v1 h1) = (K1 (s124 r n) 0) := by kernel_rfl
theorem dEa : D124 r n c124 x0 r124 = (K1 (s124 r n) 0) :=
 (cVr r n).trans
 ((cMb r n (sW r n)).trans (bZv r n))
theorem cSr : aE CF r n 124 args h = s124 r n (aT args 0) h :=
 (by kernel_rfl : aE CF r n 124 args h = D124 r n c124 x0 r124 (aH args) h).trans ((congrFun (congrFun (dEa r n) (aH args)) h).trans (by kernel_rfl))
noncomputable def s125 (r : RT) (n : Nat) (x0 : DV) (h0 : Hp) : aG :=
 bnd (cF zr6 h0) fun v1 h1 =>
 bnd (r 123 [x0, (aK 1), (.s [])] h1) fun v2 h2 =>
 bnd (gD v2 true (some (x0, h2)) h2) fun v3 h3 =>
 bnd (gD v2 true (r 127 [v3, (aK 1)] h3) h3) fun v4 h4 =>
 bnd (gD v2 true (nQ 0 v4 h4) h4) fun v5 h5 =>
 bnd (gD v2 true (aD .eql v5 (aK 9) h5) h5) fun v6 h6 =>
 bnd (aQ v2 v6 (.b false) h6) fun v7 h7 =>
 aX v7 (
 bnd (r 124 [x0] h7) fun v8 h8 =>
 bnd (nQ 1 v8 h8) fun v9 h9 =>
 bnd (cI zr6 [(0, 1, (aK 6)), (1, 1, v9)] h9) fun v10 h10 =>
 bnd (cF zr6 h10) fun v11 h11 =>
 bnd (aI 6 v11 v10 h11) fun _ h12 =>
 bnd (r 124 [x0] h12) fun v13 h13 =>
 bnd (r 125 [x0] h13) fun v14 h14 =>
 bnd (aJ zr6 1 [(0, 6, v14)] h14) fun v15 h15 =>
 bnd (aB 5 v11 h15) fun v16 h16 =>
 bnd (aI 1 v16 v15 h16) fun _ h17 =>
 bnd (aN 6 v11 h17) fun v18 h18 =>
 bnd (aI 6 v1 v18 h18) fun _ h19 =>
 bnd (aN 6 v1 h19) fun v20 _ =>
 some (v20, h19)) (
 bnd (r 154 [x0] h7) fun v21 h21 =>
 bnd (aI 6 v1 v21 h21) fun _ h22 =>
 bnd (aN 6 v1 h22) fun v23 _ =>
 some (v23, h22))
noncomputable abbrev c125 : Code := cf Tryz.f125
noncomputable abbrev r125 : K := aS CF Tryz.f125
noncomputable def D125 (r : RT) (n : Nat) (c : Code) (X : Nat → K) (k : K) : K := aP CF r 25 n c X r125 k
theorem cZy : D125 r n c125 x0 r125 = (K1 (s125 r n) 0) :=
 (by kernel_rfl)
theorem cMd : aE CF r n 125 args h = s125 r n (aT args 0) h :=
 (by kernel_rfl : aE CF r n 125 args h = D125 r n c125 x0 r125 (aH args) h).trans ((congrFun (congrFun (cZy r n) (aH args)) h).trans (by kernel_rfl))
noncomputable def s127 (r : RT) (n : Nat) (x0 x1 : DV) (h0 : Hp) : aG :=
 bnd (cF [(aK 0), (.s []), (aK 0), (aK 0)] h0) fun v1 h1 =>
 bnd (bD x0 h1) fun v2 h2 =>
 bnd (aB 0 v2 h2) fun v3 h3 =>
 bnd (aA v3 h3) fun v4 h4 =>
 bnd (bD x0 h4) fun v5 h5 =>
 bnd (aB 0 v5 h5) fun v6 h6 =>
 bnd (aA v6 h6) fun v7 h7 =>
 bnd (cO v7 h7) fun v8 h8 =>
 bnd (aD .sub v8 (aK 1) h8) fun v9 h9 =>
 bnd (aHk x1 v9 h9) fun v10 h10 =>
 bnd (aF 4 v4 v10 h10) fun v11 h11 =>
 bnd (aN 4 v11 h11) fun v12 h12 =>
 bnd (aI 4 v1 v12 h12) fun v13 h13 =>
 bnd (aN 4 v1 h13) fun v14 _ =>
 some (v14, h13)
noncomputable abbrev c127 : Code := cf Tryz.f127
noncomputable abbrev r127 : K := aS CF Tryz.f127
noncomputable def D127 (r : RT) (n : Nat) (c : Code) (X : Nat → K) (k : K) : K := aP CF r 19 n c X r127 k
theorem cZi : D127 r n c127 x0 r127 = (K2 (s127 r n) 0 1) :=
 (by kernel_rfl)
theorem cOx : aE CF r n 127 args h = s127 r n (aT args 0) (aT args 1) h :=
 (by kernel_rfl : aE CF r n 127 args h = D127 r n c127 x0 r127 (aH args) h).trans ((congrFun (congrFun (cZi r n) (aH args)) h).trans (by kernel_rfl))
end Go.Dd

namespace Go.Dd
open Go.Proofs
variable (r : RT) (n : Nat) (args : List DV) (h : Hp)
noncomputable def sO (r : RT) (n : Nat) (x0 x3 x11 x14 : DV) (h0 : Hp) : aG :=
 aX x14 (
 bnd (aN 6 x3 h0) fun v1 h1 =>
 bnd (r 159 [x0, v1] h1) fun v2 h2 =>
 bnd (nA [x0, v2] h2) fun v3 h3 =>
 bnd (r 131 [x0, (aK 6), v3, (aK 0)] h3) fun v4 h4 =>
 some (.t [], h4)) (
 bnd (aD .eql x11 (aK 5) h0) fun v5 h5 =>
 aX v5 (
 bnd (aB 1 x3 h5) fun v6 h6 =>
 bnd (aA v6 h6) fun v7 h7 =>
 bnd (r 160 [x0, v7] h7) fun v8 h8 =>
 some (.t [], h8)) (
 bnd (aD .eql x11 (aK 6) h5) fun v9 h9 =>
 aX v9 (
 bnd (aN 6 x3 h9) fun v10 h10 =>
 bnd (r 161 [x0, v10] h10) fun v11 h11 =>
 some (.t [], h11)) (
 bnd (aD .eql x11 (aK 7) h9) fun v12 h12 =>
 aX v12 (
 bnd (aN 6 x3 h12) fun v13 h13 =>
 bnd (r 162 [x0, v13] h13) fun v14 h14 =>
 some (.t [], h14)) (
 bnd (aD .eql x11 (aK 8) h12) fun v15 h15 =>
 aX v15 (
 bnd (aN 6 x3 h15) fun v16 h16 =>
 bnd (r 163 [x0, v16] h16) fun v17 h17 =>
 some (.t [], h17)) (
 bnd (aD .eql x11 (aK 9) h15) fun v18 h18 =>
 aX v18 (
 bnd (bD x0 h18) fun v19 h19 =>
 bnd (aB 0 v19 h19) fun v20 h20 =>
 bnd (aB 2 v20 h20) fun v21 h21 =>
 bnd (aA v21 h21) fun v22 h22 =>
 bnd (aB 3 x3 h22) fun v23 h23 =>
 bnd (aA v23 h23) fun v24 h24 =>
 bnd (cO v24 h24) fun v25 h25 =>
 bnd (r 131 [x0, (aK 18), v22, v25] h25) fun v26 h26 =>
 bnd (r 164 [x0, (aK 16)] h26) fun v27 h27 =>
 bnd (aN 6 x3 h27) fun v28 h28 =>
 bnd (r 165 [x0, v28] h28) fun v29 h29 =>
 bnd (r 131 [x0, (aK 19), (aK 0), (aK 0)] h29) fun v30 h30 =>
 bnd (jS CF r v27 [] h30) fun v31 h31 =>
 some (.t [], h31)) (
 bnd (aD .eql x11 (aK 10) h18) fun v32 h32 =>
 aX v32 (
 bnd (aN 6 x3 h32) fun v33 h33 =>
 bnd (r 166 [x0, v33] h33) fun v34 h34 =>
 aX v34 (
 bnd (aB 5 x3 h34) fun v35 h35 =>
 bnd (aA v35 h35) fun v36 h36 =>
 bnd (aF 6 v36 (aK 0) h36) fun v37 h37 =>
 bnd (aN 6 v37 h37) fun v38 h38 =>
 bnd (r 130 [x0, v38] h38) fun v39 h39 =>
 bnd (r 131 [x0, (aK 20), (aK 0), (aK 0)] h39) fun v40 h40 =>
 some (.t [], h40)) (
 some (.t [], h34))) (
 bnd (r 157 [x0, (.s []), (aK 1)] h32) fun v41 h41 =>
 some (.t [], h41))))))))
noncomputable def aQi (r : RT) (n : Nat) (x0 x3 x11 : DV) (h0 : Hp) : aG :=
 bnd (aD .eql x11 (aK 1) h0) fun v1 h1 =>
 aX v1 (
  sO r n x0 x3 x11 v1 h1) (
 bnd (aD .eql x11 (aK 2) h1) fun v2 h2 =>
 aX v2 (
   sO r n x0 x3 x11 v2 h2) (
 bnd (aD .eql x11 (aK 3) h2) fun v3 h3 =>
 aX v3 (
    sO r n x0 x3 x11 v3 h3) (
 bnd (aD .eql x11 (aK 4) h3) fun v4 h4 =>
    sO r n x0 x3 x11 v4 h4)))
noncomputable def aOh (r : RT) (n : Nat) (x0 x3 : DV) (h0 : Hp) : aG :=
 bnd (aB 0 x3 h0) fun v1 h1 =>
 bnd (aA v1 h1) fun v2 h2 =>
  aQi r n x0 x3 v2 h2
noncomputable def zW (r : RT) (n : Nat) (x0 x3 : DV) (h0 : Hp) : aG :=
 bnd (bD x0 h0) fun v1 h1 =>
 bnd (aB 8 v1 h1) fun v2 h2 =>
 bnd (aA v2 h2) fun v3 h3 =>
 bnd (aD .neq v3 (aK 0) h3) fun v4 h4 =>
 aX v4 (
 some (.t [], h4)) (
  aOh r n x0 x3 h4)
noncomputable def s130 (r : RT) (n : Nat) (x0 x1 : DV) (h0 : Hp) : aG :=
 bnd (cB x1 h0) fun v1 h1 =>
  zW r n x0 v1 h1
noncomputable abbrev c130 : Code := cf Tryz.f130
noncomputable abbrev aEi : Code := cR c130
noncomputable abbrev aEk : Code := cR aEi
noncomputable abbrev aPy : Code := cR aEk
noncomputable abbrev aGf : Code := cL aPy
noncomputable abbrev cTx : Code := cR aGf
noncomputable abbrev bEt : Code := cL aGf
noncomputable abbrev bQn : Code := cL aEk
noncomputable abbrev bQc : Code := cL aEi
noncomputable abbrev aRj : Code := cL c130
noncomputable abbrev r130 : K := aS CF Tryz.f130
noncomputable def D130 (r : RT) (n : Nat) (c : Code) (X : Nat → K) (k : K) : K := aP CF r 81 n c X r130 k
theorem bWu : D130 r n cTx (xs x0 0 r130) r130 = (K4 (sO r n) 0 3 11 14) :=
 (by kernel_rfl)
theorem bSk : D130 r n aGf (xs x0 0 r130) r130 = D130 r n bEt (xs x0 0 r130) (K4 (sO r n) 0 3 11 14) :=
 congrArg (fun k => D130 r n bEt (xs x0 0 r130) k) (bWu r n)
theorem cAg : D130 r n aPy x0 r130 = (K3 (aQi r n) 0 3 11) :=
 (by kernel_rfl : D130 r n aPy x0 r130 = D130 r n aGf (xs x0 0 r130) r130).trans
 ((bSk r n).trans
 ((by kernel_rfl)))
theorem bRe : D130 r n aEk x0 r130 = D130 r n bQn x0 (K3 (aQi r n) 0 3 11) :=
 congrArg (fun k => D130 r n bQn x0 k) (cAg r n)
theorem cBv : D130 r n aEk x0 r130 = (K2 (aOh r n) 0 3) :=
 (bRe r n).trans
 ((by kernel_rfl))
theorem bQj : D130 r n aEi x0 r130 = D130 r n bQc x0 (K2 (aOh r n) 0 3) :=
 congrArg (fun k => D130 r n bQc x0 k) (cBv r n)
theorem bXq : D130 r n aEi x0 r130 = (K2 (zW r n) 0 3) :=
 (bQj r n).trans
 ((by kernel_rfl))
theorem cNn : D130 r n c130 x0 r130 = D130 r n aRj x0 (K2 (zW r n) 0 3) :=
 congrArg (fun k => D130 r n aRj x0 k) (bXq r n)
theorem cUc (q0 : uL) : D130 r n aRj x0 (K2 q0 0 3) = fun (env : bF) (h : Hp) =>
 bnd (cB (env 1) h) fun v1 h1 =>
  q0 (env 0) v1 h1 := by kernel_rfl
theorem bWe : (fun (env : bF) (h : Hp) =>
 bnd (cB (env 1) h) fun v1 h1 =>
  zW r n (env 0) v1 h1) = (K2 (s130 r n) 0 1) := by kernel_rfl
theorem dAu : D130 r n c130 x0 r130 = (K2 (s130 r n) 0 1) :=
 (cNn r n).trans
 ((cUc r n (zW r n)).trans (bWe r n))
theorem cVp : aE CF r n 130 args h = s130 r n (aT args 0) (aT args 1) h :=
 (by kernel_rfl : aE CF r n 130 args h = D130 r n c130 x0 r130 (aH args) h).trans ((congrFun (congrFun (dAu r n) (aH args)) h).trans (by kernel_rfl))
noncomputable def s131 (r : RT) (n : Nat) (x0 x1 x2 x3 : DV) (h0 : Hp) : aG :=
 bnd (bD x0 h0) fun v1 h1 =>
 bnd (aB 0 v1 h1) fun v2 h2 =>
 bnd (aB 5 v2 h2) fun v3 h3 =>
 bnd (aA v3 h3) fun v4 h4 =>
 bnd (cI [(aK 0), (aK 0), (aK 0)] [(0, 1, x1), (1, 1, x2), (2, 1, x3)] h4) fun v5 h5 =>
 bnd (aJ [(aK 0), (aK 0), (aK 0)] 1 [(0, 3, v5)] h5) fun v6 h6 =>
 bnd (bB 3 24 v4 v6 h6) fun v7 h7 =>
 bnd (bD x0 h7) fun v8 h8 =>
 bnd (aB 0 v8 h8) fun v9 h9 =>
 bnd (aB 5 v9 h9) fun v10 h10 =>
 bnd (aI 1 v10 v7 h10) fun _ h11 =>
 some (.t [], h11)
noncomputable abbrev c131 : Code := cf Tryz.f131
noncomputable abbrev r131 : K := aS CF Tryz.f131
noncomputable def D131 (r : RT) (n : Nat) (c : Code) (X : Nat → K) (k : K) : K := aP CF r 23 n c X r131 k
theorem cWx : D131 r n c131 x0 r131 = (K4 (s131 r n) 0 1 2 3) :=
 (by kernel_rfl)
theorem cPe : aE CF r n 131 args h = s131 r n (aT args 0) (aT args 1) (aT args 2) (aT args 3) h :=
 (by kernel_rfl : aE CF r n 131 args h = D131 r n c131 x0 r131 (aH args) h).trans ((congrFun (congrFun (cWx r n) (aH args)) h).trans (by kernel_rfl))
noncomputable def cG (r : RT) (n : Nat) (x2 x3 : DV) (h0 : Hp) : aG :=
 some (.t [x2, x3], h0)
noncomputable def cX (r : RT) (n : Nat) (x3 : DV) (h0 : Hp) : aG :=
 cG r n (.b true) x3 h0
noncomputable def dQ (r : RT) (n : Nat) (h0 : Hp) : aG :=
 cX r n (.b true) h0
noncomputable def qA (r : RT) (n : Nat) (x2 x3 : DV) (h0 : Hp) : aG :=
 cG r n x2 x3 h0
noncomputable def nH (r : RT) (n : Nat) (x2 x3 x11 : DV) (h0 : Hp) : aG :=
 aX x11 (
  cX r n x3 h0) (
  qA r n x2 x3 h0)
noncomputable def xR (r : RT) (n : Nat) (x2 x3 x4 : DV) (h0 : Hp) : aG :=
 bnd (aD .eql x4 (aK 6) h0) fun v1 h1 =>
 aX v1 (
  nH r n x2 x3 v1 h1) (
 bnd (aD .eql x4 (aK 7) h1) fun v2 h2 =>
 aX v2 (
   nH r n x2 x3 v2 h2) (
 bnd (aD .eql x4 (aK 8) h2) fun v3 h3 =>
 aX v3 (
    nH r n x2 x3 v3 h3) (
 bnd (aD .eql x4 (aK 9) h3) fun v4 h4 =>
 aX v4 (
     nH r n x2 x3 v4 h4) (
 bnd (aD .eql x4 (aK 10) h4) fun v5 h5 =>
 aX v5 (
      nH r n x2 x3 v5 h5) (
 bnd (aD .eql x4 (aK 11) h5) fun v6 h6 =>
      nH r n x2 x3 v6 h6)))))
noncomputable def pY (r : RT) (n : Nat) (x2 x3 x4 x5 : DV) (h0 : Hp) : aG :=
 aX x5 (
  dQ r n h0) (
  xR r n x2 x3 x4 h0)
noncomputable def aNy (r : RT) (n : Nat) (x2 x3 x4 : DV) (h0 : Hp) : aG :=
 bnd (aD .eql x4 (aK 14) h0) fun v1 h1 =>
 aX v1 (
  pY r n x2 x3 x4 v1 h1) (
 bnd (aD .eql x4 (aK 15) h1) fun v2 h2 =>
 aX v2 (
   pY r n x2 x3 x4 v2 h2) (
 bnd (aD .eql x4 (aK 16) h2) fun v3 h3 =>
 aX v3 (
    pY r n x2 x3 x4 v3 h3) (
 bnd (aD .eql x4 (aK 17) h3) fun v4 h4 =>
 aX v4 (
     pY r n x2 x3 x4 v4 h4) (
 bnd (aD .eql x4 (aK 18) h4) fun v5 h5 =>
     pY r n x2 x3 x4 v5 h5))))
noncomputable def aMu (r : RT) (n : Nat) (x0 x2 x3 : DV) (h0 : Hp) : aG :=
 aNy r n x2 x3 x0 h0
noncomputable def s132 (r : RT) (n : Nat) (x0 : DV) (h0 : Hp) : aG :=
 aMu r n x0 (.b false) (.b false) h0
noncomputable abbrev c132 : Code := cf Tryz.f132
noncomputable abbrev aGp : Code := cR c132
noncomputable abbrev cSl : Code := cR aGp
noncomputable abbrev xG : Code := cL aGp
noncomputable abbrev aPj : Code := cR xG
noncomputable abbrev aFs : Code := cL aPj
noncomputable abbrev cKw : Code := cR aFs
noncomputable abbrev aDj : Code := cL aFs
noncomputable abbrev aEt : Code := cL aDj
noncomputable abbrev cWj : Code := cR aEt
noncomputable abbrev vO : Code := cL aEt
noncomputable abbrev vJ : Code := cL vO
noncomputable abbrev cDy : Code := cR vJ
noncomputable abbrev qN : Code := cL vJ
noncomputable abbrev uJ : Code := cR qN
noncomputable abbrev cDf : Code := cR uJ
noncomputable abbrev aXb : Code := cL uJ
noncomputable abbrev qM : Code := cL qN
noncomputable abbrev bVd : Code := cR qM
noncomputable abbrev aRs : Code := cL qM
noncomputable abbrev aYx : Code := cL xG
noncomputable abbrev aWy : Code := cL c132
noncomputable abbrev r132 : K := aS CF Tryz.f132
noncomputable def D132 (r : RT) (n : Nat) (c : Code) (X : Nat → K) (k : K) : K := aP CF r 20 n c X r132 k
theorem cCu : D132 r n cSl x0 r132 = (K2 (cG r n) 2 3) :=
 (by kernel_rfl)
theorem cBc : D132 r n cKw (xs x0 0 (K2 (cG r n) 2 3)) (K2 (cG r n) 2 3) = (K1 (cX r n) 3) :=
 (by kernel_rfl)
theorem bWc : D132 r n cWj (xs (xs x0 0 (K2 (cG r n) 2 3)) 2 (K1 (cX r n) 3)) (K1 (cX r n) 3) = (K0 (dQ r n)) :=
 (by kernel_rfl)
theorem bVv : D132 r n cDy (xs (xs (xs x0 0 (K2 (cG r n) 2 3)) 2 (K1 (cX r n) 3)) 1 (K0 (dQ r n))) (K0 (dQ r n)) = (K2 (qA r n) 2 3) :=
 (by kernel_rfl)
theorem bYa : D132 r n cDf (xs (xs (xs x0 0 (K2 (cG r n) 2 3)) 2 (K1 (cX r n) 3)) 1 (K0 (dQ r n))) (K2 (qA r n) 2 3) = (K3 (nH r n) 2 3 11) :=
 (by kernel_rfl)
theorem bSp : D132 r n uJ (xs (xs (xs x0 0 (K2 (cG r n) 2 3)) 2 (K1 (cX r n) 3)) 1 (K0 (dQ r n))) (K2 (qA r n) 2 3) = D132 r n aXb (xs (xs (xs x0 0 (K2 (cG r n) 2 3)) 2 (K1 (cX r n) 3)) 1 (K0 (dQ r n))) (K3 (nH r n) 2 3 11) :=
 congrArg (fun k => D132 r n aXb (xs (xs (xs x0 0 (K2 (cG r n) 2 3)) 2 (K1 (cX r n) 3)) 1 (K0 (dQ r n))) k) (bYa r n)
theorem cDg : D132 r n uJ (xs (xs (xs x0 0 (K2 (cG r n) 2 3)) 2 (K1 (cX r n) 3)) 1 (K0 (dQ r n))) (K2 (qA r n) 2 3) = (K3 (xR r n) 2 3 4) :=
 (bSp r n).trans
 ((by kernel_rfl))
theorem cEw : D132 r n bVd (xs (xs (xs x0 0 (K2 (cG r n) 2 3)) 2 (K1 (cX r n) 3)) 1 (K0 (dQ r n))) (K3 (xR r n) 2 3 4) = (K4 (pY r n) 2 3 4 5) :=
 (by kernel_rfl)
theorem bQh : D132 r n aFs (xs x0 0 (K2 (cG r n) 2 3)) (K2 (cG r n) 2 3) = D132 r n aDj (xs x0 0 (K2 (cG r n) 2 3)) (K1 (cX r n) 3) :=
 congrArg (fun k => D132 r n aDj (xs x0 0 (K2 (cG r n) 2 3)) k) (cBc r n)
theorem bHn : D132 r n aEt (xs (xs x0 0 (K2 (cG r n) 2 3)) 2 (K1 (cX r n) 3)) (K1 (cX r n) 3) = D132 r n vO (xs (xs x0 0 (K2 (cG r n) 2 3)) 2 (K1 (cX r n) 3)) (K0 (dQ r n)) :=
 congrArg (fun k => D132 r n vO (xs (xs x0 0 (K2 (cG r n) 2 3)) 2 (K1 (cX r n) 3)) k) (bWc r n)
theorem bEy : D132 r n vJ (xs (xs (xs x0 0 (K2 (cG r n) 2 3)) 2 (K1 (cX r n) 3)) 1 (K0 (dQ r n))) (K0 (dQ r n)) = D132 r n qN (xs (xs (xs x0 0 (K2 (cG r n) 2 3)) 2 (K1 (cX r n) 3)) 1 (K0 (dQ r n))) (K2 (qA r n) 2 3) :=
 congrArg (fun k => D132 r n qN (xs (xs (xs x0 0 (K2 (cG r n) 2 3)) 2 (K1 (cX r n) 3)) 1 (K0 (dQ r n))) k) (bVv r n)
theorem bHz : D132 r n qN (xs (xs (xs x0 0 (K2 (cG r n) 2 3)) 2 (K1 (cX r n) 3)) 1 (K0 (dQ r n))) (K2 (qA r n) 2 3) = D132 r n qM (xs (xs (xs x0 0 (K2 (cG r n) 2 3)) 2 (K1 (cX r n) 3)) 1 (K0 (dQ r n))) (K3 (xR r n) 2 3 4) :=
 congrArg (fun k => D132 r n qM (xs (xs (xs x0 0 (K2 (cG r n) 2 3)) 2 (K1 (cX r n) 3)) 1 (K0 (dQ r n))) k) (cDg r n)
theorem bFu : D132 r n qM (xs (xs (xs x0 0 (K2 (cG r n) 2 3)) 2 (K1 (cX r n) 3)) 1 (K0 (dQ r n))) (K3 (xR r n) 2 3 4) = D132 r n aRs (xs (xs (xs x0 0 (K2 (cG r n) 2 3)) 2 (K1 (cX r n) 3)) 1 (K0 (dQ r n))) (K4 (pY r n) 2 3 4 5) :=
 congrArg (fun k => D132 r n aRs (xs (xs (xs x0 0 (K2 (cG r n) 2 3)) 2 (K1 (cX r n) 3)) 1 (K0 (dQ r n))) k) (cEw r n)
theorem bXx : D132 r n aPj x0 (K2 (cG r n) 2 3) = (K3 (aNy r n) 2 3 4) :=
 (by kernel_rfl : D132 r n aPj x0 (K2 (cG r n) 2 3) = D132 r n aFs (xs x0 0 (K2 (cG r n) 2 3)) (K2 (cG r n) 2 3)).trans
 ((bQh r n).trans
 ((by kernel_rfl : D132 r n aDj (xs x0 0 (K2 (cG r n) 2 3)) (K1 (cX r n) 3) = D132 r n aEt (xs (xs x0 0 (K2 (cG r n) 2 3)) 2 (K1 (cX r n) 3)) (K1 (cX r n) 3)).trans
 ((bHn r n).trans
 ((by kernel_rfl : D132 r n vO (xs (xs x0 0 (K2 (cG r n) 2 3)) 2 (K1 (cX r n) 3)) (K0 (dQ r n)) = D132 r n vJ (xs (xs (xs x0 0 (K2 (cG r n) 2 3)) 2 (K1 (cX r n) 3)) 1 (K0 (dQ r n))) (K0 (dQ r n))).trans
 ((bEy r n).trans
 ((bHz r n).trans
 ((bFu r n).trans
 ((by kernel_rfl)))))))))
theorem bLr : D132 r n aGp x0 r132 = D132 r n xG x0 (K2 (cG r n) 2 3) :=
 congrArg (fun k => D132 r n xG x0 k) (cCu r n)
theorem bQt : D132 r n xG x0 (K2 (cG r n) 2 3) = D132 r n aYx x0 (K3 (aNy r n) 2 3 4) :=
 congrArg (fun k => D132 r n aYx x0 k) (bXx r n)
theorem cFg : D132 r n aGp x0 r132 = (K3 (aMu r n) 0 2 3) :=
 (bLr r n).trans
 ((bQt r n).trans
 ((by kernel_rfl)))
theorem cMf : D132 r n c132 x0 r132 = D132 r n aWy x0 (K3 (aMu r n) 0 2 3) :=
 congrArg (fun k => D132 r n aWy x0 k) (cFg r n)
theorem cZd : D132 r n c132 x0 r132 = (K1 (s132 r n) 0) :=
 (cMf r n).trans
 ((by kernel_rfl))
theorem cRg : aE CF r n 132 args h = s132 r n (aT args 0) h :=
 (by kernel_rfl : aE CF r n 132 args h = D132 r n c132 x0 r132 (aH args) h).trans ((congrFun (congrFun (cZd r n) (aH args)) h).trans (by kernel_rfl))
noncomputable def s133 (r : RT) (n : Nat) (x0 x1 : DV) (h0 : Hp) : aG :=
 bnd (aD .eql x0 (aK 0) h0) fun v1 h1 =>
 bnd (gD v1 false (some (x1, h1)) h1) fun v2 h2 =>
 bnd (gD v1 false (some (v2, h2)) h2) fun v3 h3 =>
 bnd (gD v3 true (some (x0, h3)) h3) fun v4 h4 =>
 bnd (gD v3 true (aD .gtr v4 (aK 0) h4) h4) fun v5 h5 =>
 bnd (gD v1 false (aQ v3 v5 (.b false) h5) h5) fun v6 h6 =>
 bnd (gD v1 false (some (v6, h6)) h6) fun v7 h7 =>
 bnd (gD v7 true (some (x0, h7)) h7) fun v8 h8 =>
 bnd (gD v7 true (aD .leq v8 (aK 255) h8) h8) fun v9 h9 =>
 bnd (gD v1 false (aQ v7 v9 (.b false) h9) h9) fun v10 h10 =>
 bnd (aQ v1 (.b true) v10 h10) fun v11 h11 =>
 some (v11, h11)
noncomputable abbrev c133 : Code := cf Tryz.f133
noncomputable abbrev r133 : K := aS CF Tryz.f133
noncomputable def D133 (r : RT) (n : Nat) (c : Code) (X : Nat → K) (k : K) : K := aP CF r 18 n c X r133 k
theorem dDh : D133 r n c133 x0 r133 = (K2 (s133 r n) 0 1) :=
 (by kernel_rfl)
theorem cNd : aE CF r n 133 args h = s133 r n (aT args 0) (aT args 1) h :=
 (by kernel_rfl : aE CF r n 133 args h = D133 r n c133 x0 r133 (aH args) h).trans ((congrFun (congrFun (dDh r n) (aH args)) h).trans (by kernel_rfl))
noncomputable def eK (r : RT) (n : Nat) (x2 : DV) (h0 : Hp) : aG :=
 bnd (aB 5 x2 h0) fun v1 h1 =>
 bnd (aA v1 h1) fun v2 h2 =>
 bnd (r 172 [v2] h2) fun v3 h3 =>
 bnd (aB 5 x2 h3) fun v4 h4 =>
 bnd (aA v4 h4) fun v5 h5 =>
 bnd (r 173 [v5, v3] h5) fun v6 h6 =>
 bnd (jW .not v6 h6) fun v7 h7 =>
 aX v7 (
 some (.t [.l0, (aK 19)], h7)) (
 bnd (aB 5 x2 h7) fun v8 h8 =>
 bnd (aA v8 h8) fun v9 h9 =>
 bnd (r 174 [v9, v3] h9) fun v10 h10 =>
 bnd (aC 0 v10 h10) fun v11 h11 =>
 bnd (aC 1 v10 h11) fun v12 h12 =>
 bnd (jW .not v12 h12) fun v13 h13 =>
 aX v13 (
 some (.t [.l0, (aK 19)], h13)) (
 some (.t [v11, (aK 0)], h13)))
noncomputable def aHt (r : RT) (n : Nat) (kk7 : cZ) (x1 x2 x60 x61 x62 : DV) (h0 : Hp) : aG :=
 bnd (aD .lss x62 x61 h0) fun v1 h1 =>
 aX v1 (
 bnd (aF 3 x60 x62 h1) fun v2 h2 =>
 bnd (aN 3 v2 h2) fun v3 h3 =>
 bnd (cF [(aK 0), (aK 0), (aK 0)] h3) fun v4 h4 =>
 bnd (aI 3 v4 v3 h4) fun _ h5 =>
 bnd (aN 3 v4 h5) fun v6 h6 =>
 bnd (r 105 [v6] h6) fun v7 h7 =>
 bnd (jW .not v7 h7) fun v8 h8 =>
 bnd (gD v8 false (aN 6 x2 h8) h8) fun v9 h9 =>
 bnd (gD v8 false (aN 3 v4 h9) h9) fun v10 h10 =>
 bnd (gD v8 false (some (x1, h10)) h10) fun v11 h11 =>
 bnd (gD v8 false (r 171 [v9, v10, v11] h11) h11) fun v12 h12 =>
 bnd (gD v8 false (jW .not v12 h12) h12) fun v13 h13 =>
 bnd (aQ v8 (.b true) v13 h13) fun v14 h14 =>
 aX v14 (
 some (.t [.l0, (aK 19)], h14)) (
 bnd (aD .add x62 (aK 1) h14) fun v15 h15 =>
    kk7 x1 x2 x60 x61 v15 h15)) (
      eK r n x2 h1)
noncomputable def uS (r : RT) (n : Nat) (m : Nat) : cZ :=
 Nat.rec (motive := fun _ => cZ) (fun _ _ _ _ _ _ => none) (fun _ ih => aHt r n ih) m
noncomputable def bPz (r : RT) (n : Nat) : cZ := uS r n n
noncomputable def aOx (r : RT) (n : Nat) (x1 x2 x60 x61 x62 : DV) (h0 : Hp) : aG :=
 bPz r n x1 x2 x60 x61 x62 h0
noncomputable def aPk (r : RT) (n : Nat) (x1 x2 : DV) (h0 : Hp) : aG :=
 bnd (aB 5 x2 h0) fun v1 h1 =>
 bnd (aA v1 h1) fun v2 h2 =>
 bnd (cO v2 h2) fun v3 h3 =>
  aOx r n x1 x2 v2 v3 (aK 0) h3
noncomputable def aPr (r : RT) (n : Nat) (x1 x2 x6 x7 : DV) (h0 : Hp) : aG :=
 bnd (jW .not x6 h0) fun v1 h1 =>
 bnd (gD v1 false (some (x7, h1)) h1) fun v2 h2 =>
 bnd (aQ v1 (.b true) v2 h2) fun v3 h3 =>
 bnd (gD v3 false (aB 4 x2 h3) h3) fun v4 h4 =>
 bnd (gD v3 false (aA v4 h4) h4) fun v5 h5 =>
 bnd (gD v3 false (cO v5 h5) h5) fun v6 h6 =>
 bnd (gD v3 false (aD .gtr v6 (aK 60) h6) h6) fun v7 h7 =>
 bnd (aQ v3 (.b true) v7 h7) fun v8 h8 =>
 bnd (gD v8 false (aB 5 x2 h8) h8) fun v9 h9 =>
 bnd (gD v8 false (aA v9 h9) h9) fun v10 h10 =>
 bnd (gD v8 false (cO v10 h10) h10) fun v11 h11 =>
 bnd (gD v8 false (r 167 [v11, (aK 1), (aK 400)] h11) h11) fun v12 h12 =>
 bnd (gD v8 false (jW .not v12 h12) h12) fun v13 h13 =>
 bnd (aQ v8 (.b true) v13 h13) fun v14 h14 =>
 aX v14 (
 some (.t [.l0, (aK 19)], h14)) (
  aPk r n x1 x2 h14)
noncomputable def aNa (r : RT) (n : Nat) (x1 x2 x6 : DV) (h0 : Hp) : aG :=
 bnd (aB 4 x2 h0) fun v1 h1 =>
 bnd (aA v1 h1) fun v2 h2 =>
 bnd (r 168 [v2, (.f 169 [] [])] h2) fun v3 h3 =>
  aPr r n x1 x2 x6 v3 h3
noncomputable def zI (r : RT) (n : Nat) (x1 x2 : DV) (h0 : Hp) : aG :=
 bnd (r 167 [x1, (aK 0), (aK 8)] h0) fun v1 h1 =>
 bnd (gD v1 true (aB 0 x2 h1) h1) fun v2 h2 =>
 bnd (gD v1 true (aA v2 h2) h2) fun v3 h3 =>
 bnd (gD v1 true (dI v3 h3) h3) fun v4 h4 =>
 bnd (gD v1 true (r 167 [v4, (aK 1), (aK 60)] h4) h4) fun v5 h5 =>
 bnd (aQ v1 v5 (.b false) h5) fun v6 h6 =>
 bnd (gD v6 true (aB 1 x2 h6) h6) fun v7 h7 =>
 bnd (gD v6 true (aA v7 h7) h7) fun v8 h8 =>
 bnd (gD v6 true (r 167 [v8, (aK 0), (aK 4)] h8) h8) fun v9 h9 =>
 bnd (aQ v6 v9 (.b false) h9) fun v10 h10 =>
 bnd (gD v10 true (aB 2 x2 h10) h10) fun v11 h11 =>
 bnd (gD v10 true (aA v11 h11) h11) fun v12 h12 =>
 bnd (gD v10 true (aB 1 x2 h12) h12) fun v13 h13 =>
 bnd (gD v10 true (aA v13 h13) h13) fun v14 h14 =>
 bnd (gD v10 true (r 167 [v12, v14, (aK 24)] h14) h14) fun v15 h15 =>
 bnd (aQ v10 v15 (.b false) h15) fun v16 h16 =>
 bnd (gD v16 true (aB 3 x2 h16) h16) fun v17 h17 =>
 bnd (gD v16 true (aA v17 h17) h17) fun v18 h18 =>
 bnd (gD v16 true (r 167 [v18, (aK 0), (aK 255)] h18) h18) fun v19 h19 =>
 bnd (aQ v16 v19 (.b false) h19) fun v20 h20 =>
  aNa r n x1 x2 v20 h20
noncomputable def s134 (r : RT) (n : Nat) (x0 x1 : DV) (h0 : Hp) : aG :=
 bnd (cB x0 h0) fun v1 h1 =>
  zI r n x1 v1 h1
noncomputable abbrev c134 : Code := cf Tryz.f134
noncomputable abbrev aDv : Code := cR c134
noncomputable abbrev aHf : Code := cR aDv
noncomputable abbrev aDl : Code := cR aHf
noncomputable abbrev aCy : Code := cR aDl
noncomputable abbrev cKq : Code := cR aCy
noncomputable abbrev xY : Code := cL aCy
noncomputable abbrev aQz : Code := cR xY
noncomputable abbrev aIt : Code := cL aQz
noncomputable abbrev nI : Code := cL aIt
noncomputable abbrev aYq : Code := cL xY
noncomputable abbrev aXn : Code := cL aDl
noncomputable abbrev aZa : Code := cL aHf
noncomputable abbrev aXi : Code := cL aDv
noncomputable abbrev aDf : Code := cL c134
noncomputable abbrev r134 : K := aS CF Tryz.f134
noncomputable def D134 (r : RT) (n : Nat) (c : Code) (X : Nat → K) (k : K) : K := aP CF r 95 n c X r134 k
theorem bWx : D134 r n cKq x0 r134 = (K1 (eK r n) 2) :=
 (by kernel_rfl)
theorem bKb (kk7 : cZ) (q0 : TT1) : D134 r n nI (xs x0 0 (K1 q0 2)) (K5 kk7 1 2 60 61 62) = fun (env : bF) (h : Hp) =>
 bnd (aD .lss (env 62) (env 61) h) fun v1 h1 =>
 aX v1 (
 bnd (aF 3 (env 60) (env 62) h1) fun v2 h2 =>
 bnd (aN 3 v2 h2) fun v3 h3 =>
 bnd (cF [(aK 0), (aK 0), (aK 0)] h3) fun v4 h4 =>
 bnd (aI 3 v4 v3 h4) fun _ h5 =>
 bnd (aN 3 v4 h5) fun v6 h6 =>
 bnd (r 105 [v6] h6) fun v7 h7 =>
 bnd (jW .not v7 h7) fun v8 h8 =>
 bnd (gD v8 false (aN 6 (env 2) h8) h8) fun v9 h9 =>
 bnd (gD v8 false (aN 3 v4 h9) h9) fun v10 h10 =>
 bnd (gD v8 false (some ((env 1), h10)) h10) fun v11 h11 =>
 bnd (gD v8 false (r 171 [v9, v10, v11] h11) h11) fun v12 h12 =>
 bnd (gD v8 false (jW .not v12 h12) h12) fun v13 h13 =>
 bnd (aQ v8 (.b true) v13 h13) fun v14 h14 =>
 aX v14 (
 some (.t [.l0, (aK 19)], h14)) (
 bnd (aD .add (env 62) (aK 1) h14) fun v15 h15 =>
    kk7 (env 1) (env 2) (env 60) (env 61) v15 h15)) (
      q0 (env 2) h1) := by kernel_rfl
theorem bBt (kk7 : cZ) : (fun (env : bF) (h : Hp) =>
 bnd (aD .lss (env 62) (env 61) h) fun v1 h1 =>
 aX v1 (
 bnd (aF 3 (env 60) (env 62) h1) fun v2 h2 =>
 bnd (aN 3 v2 h2) fun v3 h3 =>
 bnd (cF [(aK 0), (aK 0), (aK 0)] h3) fun v4 h4 =>
 bnd (aI 3 v4 v3 h4) fun _ h5 =>
 bnd (aN 3 v4 h5) fun v6 h6 =>
 bnd (r 105 [v6] h6) fun v7 h7 =>
 bnd (jW .not v7 h7) fun v8 h8 =>
 bnd (gD v8 false (aN 6 (env 2) h8) h8) fun v9 h9 =>
 bnd (gD v8 false (aN 3 v4 h9) h9) fun v10 h10 =>
 bnd (gD v8 false (some ((env 1), h10)) h10) fun v11 h11 =>
 bnd (gD v8 false (r 171 [v9, v10, v11] h11) h11) fun v12 h12 =>
 bnd (gD v8 false (jW .not v12 h12) h12) fun v13 h13 =>
 bnd (aQ v8 (.b true) v13 h13) fun v14 h14 =>
 aX v14 (
 some (.t [.l0, (aK 19)], h14)) (
 bnd (aD .add (env 62) (aK 1) h14) fun v15 h15 =>
    kk7 (env 1) (env 2) (env 60) (env 61) v15 h15)) (
      eK r n (env 2) h1)) = (K5 (aHt r n kk7) 1 2 60 61 62) := by kernel_rfl
theorem bRy (kk7 : cZ) : D134 r n nI (xs x0 0 (K1 (eK r n) 2)) (K5 kk7 1 2 60 61 62) = (K5 (aHt r n kk7) 1 2 60 61 62) :=
 (bKb r n kk7 (eK r n)).trans (bBt r n kk7)
theorem bEl (m : Nat) : aO (fun kk => D134 r n nI (xs x0 0 (K1 (eK r n) 2)) kk) m = (K5 (uS r n m) 1 2 60 61 62) := by
 induction m with
 | zero => exact (by kernel_rfl : aO (fun kk => D134 r n nI (xs x0 0 (K1 (eK r n) 2)) kk) 0 = (K5 (uS r n 0) 1 2 60 61 62))
 | succ m ih =>
  refine (by kernel_rfl : aO (fun kk => D134 r n nI (xs x0 0 (K1 (eK r n) 2)) kk) (m + 1) = D134 r n nI (xs x0 0 (K1 (eK r n) 2)) (aO (fun kk => D134 r n nI (xs x0 0 (K1 (eK r n) 2)) kk) m)).trans ?_
  rw [ih]
  exact (bRy r n (uS r n m)).trans (by kernel_rfl)
theorem cHd : D134 r n aIt (xs x0 0 (K1 (eK r n) 2)) (K1 (eK r n) 2) = (K5 (bPz r n) 1 2 60 61 62) :=
 (by kernel_rfl : D134 r n aIt (xs x0 0 (K1 (eK r n) 2)) (K1 (eK r n) 2) = aO (fun kk => D134 r n nI (xs x0 0 (K1 (eK r n) 2)) kk) n).trans ((bEl r n n).trans (by kernel_rfl))
theorem cEl : D134 r n aQz x0 (K1 (eK r n) 2) = (K5 (aOx r n) 1 2 60 61 62) :=
 (by kernel_rfl : D134 r n aQz x0 (K1 (eK r n) 2) = D134 r n aIt (xs x0 0 (K1 (eK r n) 2)) (K1 (eK r n) 2)).trans
 ((cHd r n).trans (by kernel_rfl))
theorem bQv : D134 r n aCy x0 r134 = D134 r n xY x0 (K1 (eK r n) 2) :=
 congrArg (fun k => D134 r n xY x0 k) (bWx r n)
theorem bLf : D134 r n xY x0 (K1 (eK r n) 2) = D134 r n aYq x0 (K5 (aOx r n) 1 2 60 61 62) :=
 congrArg (fun k => D134 r n aYq x0 k) (cEl r n)
theorem bZf : D134 r n aCy x0 r134 = (K2 (aPk r n) 1 2) :=
 (bQv r n).trans
 ((bLf r n).trans
 ((by kernel_rfl)))
theorem bTg : D134 r n aDl x0 r134 = D134 r n aXn x0 (K2 (aPk r n) 1 2) :=
 congrArg (fun k => D134 r n aXn x0 k) (bZf r n)
theorem bYi : D134 r n aDl x0 r134 = (K4 (aPr r n) 1 2 6 7) :=
 (bTg r n).trans
 ((by kernel_rfl))
theorem bGc : D134 r n aHf x0 r134 = D134 r n aZa x0 (K4 (aPr r n) 1 2 6 7) :=
 congrArg (fun k => D134 r n aZa x0 k) (bYi r n)
theorem bWf : D134 r n aHf x0 r134 = (K3 (aNa r n) 1 2 6) :=
 (bGc r n).trans
 ((by kernel_rfl))
theorem bTf : D134 r n aDv x0 r134 = D134 r n aXi x0 (K3 (aNa r n) 1 2 6) :=
 congrArg (fun k => D134 r n aXi x0 k) (bWf r n)
theorem cCn : D134 r n aDv x0 r134 = (K2 (zI r n) 1 2) :=
 (bTf r n).trans
 ((by kernel_rfl))
theorem cNe : D134 r n c134 x0 r134 = D134 r n aDf x0 (K2 (zI r n) 1 2) :=
 congrArg (fun k => D134 r n aDf x0 k) (cCn r n)
theorem cPc (q0 : uL) : D134 r n aDf x0 (K2 q0 1 2) = fun (env : bF) (h : Hp) =>
 bnd (cB (env 0) h) fun v1 h1 =>
  q0 (env 1) v1 h1 := by kernel_rfl
theorem bVz : (fun (env : bF) (h : Hp) =>
 bnd (cB (env 0) h) fun v1 h1 =>
  zI r n (env 1) v1 h1) = (K2 (s134 r n) 0 1) := by kernel_rfl
theorem cZj : D134 r n c134 x0 r134 = (K2 (s134 r n) 0 1) :=
 (cNe r n).trans
 ((cPc r n (zI r n)).trans (bVz r n))
theorem cOc : aE CF r n 134 args h = s134 r n (aT args 0) (aT args 1) h :=
 (by kernel_rfl : aE CF r n 134 args h = D134 r n c134 x0 r134 (aH args) h).trans ((congrFun (congrFun (cZj r n) (aH args)) h).trans (by kernel_rfl))
noncomputable def s145 (r : RT) (n : Nat) (x0 x1 : DV) (h0 : Hp) : aG :=
 bnd (aA x1 h0) fun v1 h1 =>
 bnd (r 57 [v1, x0] h1) fun v2 h2 =>
 bnd (aD .geq v2 (aK 0) h2) fun v3 h3 =>
 some (v3, h3)
noncomputable abbrev c145 : Code := cf Tryz.f145
noncomputable abbrev r145 : K := aS CF Tryz.f145
noncomputable def D145 (r : RT) (n : Nat) (c : Code) (X : Nat → K) (k : K) : K := aP CF r 8 n c X r145 k
theorem cYs : D145 r n c145 x0 r145 = (K2 (s145 r n) 0 1) :=
 (by kernel_rfl)
theorem cLh : aE CF r n 145 args h = s145 r n (aT args 0) (aT args 1) h :=
 (by kernel_rfl : aE CF r n 145 args h = D145 r n c145 x0 r145 (aH args) h).trans ((congrFun (congrFun (cYs r n) (aH args)) h).trans (by kernel_rfl))
noncomputable def s146 (r : RT) (n : Nat) (x0 x1 : DV) (h0 : Hp) : aG :=
 bnd (bD x0 h0) fun v1 h1 =>
 bnd (aB 1 v1 h1) fun v2 h2 =>
 bnd (aA v2 h2) fun v3 h3 =>
 bnd (aD .add v3 x1 h3) fun v4 h4 =>
 bnd (bD x0 h4) fun v5 h5 =>
 bnd (aB 0 v5 h5) fun v6 h6 =>
 bnd (aA v6 h6) fun v7 h7 =>
 bnd (dI v7 h7) fun v8 h8 =>
 bnd (aD .geq v4 v8 h8) fun v9 h9 =>
 aX v9 (
 some ((.i .u8 (Int.ofNat 0)), h9)) (
 bnd (bD x0 h9) fun v10 h10 =>
 bnd (aB 0 v10 h10) fun v11 h11 =>
 bnd (aA v11 h11) fun v12 h12 =>
 bnd (bD x0 h12) fun v13 h13 =>
 bnd (aB 1 v13 h13) fun v14 h14 =>
 bnd (aA v14 h14) fun v15 h15 =>
 bnd (aD .add v15 x1 h15) fun v16 h16 =>
 bnd (dP v12 v16 h16) fun v17 h17 =>
 some (v17, h17))
noncomputable abbrev c146 : Code := cf Tryz.f146
noncomputable abbrev r146 : K := aS CF Tryz.f146
noncomputable def D146 (r : RT) (n : Nat) (c : Code) (X : Nat → K) (k : K) : K := aP CF r 28 n c X r146 k
theorem dDt : D146 r n c146 x0 r146 = (K2 (s146 r n) 0 1) :=
 (by kernel_rfl)
theorem cQw : aE CF r n 146 args h = s146 r n (aT args 0) (aT args 1) h :=
 (by kernel_rfl : aE CF r n 146 args h = D146 r n c146 x0 r146 (aH args) h).trans ((congrFun (congrFun (dDt r n) (aH args)) h).trans (by kernel_rfl))
noncomputable def s147 (r : RT) (n : Nat) (x0 : DV) (h0 : Hp) : aG :=
 bnd (aD .geq x0 (.i .u8 (Int.ofNat 97)) h0) fun v1 h1 =>
 bnd (gD v1 true (some (x0, h1)) h1) fun v2 h2 =>
 bnd (gD v1 true (aD .leq v2 (.i .u8 (Int.ofNat 122)) h2) h2) fun v3 h3 =>
 bnd (aQ v1 v3 (.b false) h3) fun v4 h4 =>
 bnd (gD v4 false (some (x0, h4)) h4) fun v5 h5 =>
 bnd (gD v4 false (aD .geq v5 (.i .u8 (Int.ofNat 65)) h5) h5) fun v6 h6 =>
 bnd (gD v4 false (some (v6, h6)) h6) fun v7 h7 =>
 bnd (gD v7 true (some (x0, h7)) h7) fun v8 h8 =>
 bnd (gD v7 true (aD .leq v8 (.i .u8 (Int.ofNat 90)) h8) h8) fun v9 h9 =>
 bnd (gD v4 false (aQ v7 v9 (.b false) h9) h9) fun v10 h10 =>
 bnd (aQ v4 (.b true) v10 h10) fun v11 h11 =>
 some (v11, h11)
noncomputable abbrev c147 : Code := cf Tryz.f147
noncomputable abbrev r147 : K := aS CF Tryz.f147
noncomputable def D147 (r : RT) (n : Nat) (c : Code) (X : Nat → K) (k : K) : K := aP CF r 17 n c X r147 k
theorem dCk : D147 r n c147 x0 r147 = (K1 (s147 r n) 0) :=
 (by kernel_rfl)
theorem cMq : aE CF r n 147 args h = s147 r n (aT args 0) h :=
 (by kernel_rfl : aE CF r n 147 args h = D147 r n c147 x0 r147 (aH args) h).trans ((congrFun (congrFun (dCk r n) (aH args)) h).trans (by kernel_rfl))
noncomputable def s148 (r : RT) (n : Nat) (x0 : DV) (h0 : Hp) : aG :=
 bnd (bD x0 h0) fun v1 h1 =>
 bnd (aB 0 v1 h1) fun v2 h2 =>
 bnd (aA v2 h2) fun v3 h3 =>
 bnd (dI v3 h3) fun v4 h4 =>
 bnd (r 120 [x0, (.f 178 [] []), v4] h4) fun v5 h5 =>
 bnd (dI v5 h5) fun v6 h6 =>
 bnd (aD .gtr v6 (aK 24) h6) fun v7 h7 =>
 aX v7 (
 some (.t [(.s []), (aK 12)], h7)) (
 some (.t [v5, (aK 0)], h7))
noncomputable abbrev c148 : Code := cf Tryz.f148
noncomputable abbrev r148 : K := aS CF Tryz.f148
noncomputable def D148 (r : RT) (n : Nat) (c : Code) (X : Nat → K) (k : K) : K := aP CF r 16 n c X r148 k
theorem cZq : D148 r n c148 x0 r148 = (K1 (s148 r n) 0) :=
 (by kernel_rfl)
theorem cVl : aE CF r n 148 args h = s148 r n (aT args 0) h :=
 (by kernel_rfl : aE CF r n 148 args h = D148 r n c148 x0 r148 (aH args) h).trans ((congrFun (congrFun (cZq r n) (aH args)) h).trans (by kernel_rfl))
noncomputable def s149 (r : RT) (n : Nat) (x0 : DV) (h0 : Hp) : aG :=
 bnd (r 146 [x0, (aK 0)] h0) fun v1 h1 =>
 bnd (aD .neq v1 (.i .u8 (Int.ofNat 58)) h1) fun v2 h2 =>
 bnd (gD v2 false (some (x0, h2)) h2) fun v3 h3 =>
 bnd (gD v2 false (r 146 [v3, (aK 1)] h3) h3) fun v4 h4 =>
 bnd (gD v2 false (aD .eql v4 (.i .u8 (Int.ofNat 61)) h4) h4) fun v5 h5 =>
 bnd (aQ v2 (.b true) v5 h5) fun v6 h6 =>
 aX v6 (
 some ((.b false), h6)) (
 bnd (bD x0 h6) fun v7 h7 =>
 bnd (aB 1 v7 h7) fun v8 h8 =>
 bnd (aA v8 h8) fun v9 h9 =>
 bnd (aD .add v9 (aK 1) h9) fun v10 h10 =>
 bnd (bD x0 h10) fun v11 h11 =>
 bnd (aB 1 v11 h11) fun v12 h12 =>
 bnd (aI 1 v12 v10 h12) fun _ h13 =>
 some ((.b true), h13))
noncomputable abbrev c149 : Code := cf Tryz.f149
noncomputable abbrev r149 : K := aS CF Tryz.f149
noncomputable def D149 (r : RT) (n : Nat) (c : Code) (X : Nat → K) (k : K) : K := aP CF r 18 n c X r149 k
theorem dBj : D149 r n c149 x0 r149 = (K1 (s149 r n) 0) :=
 (by kernel_rfl)
theorem cSe : aE CF r n 149 args h = s149 r n (aT args 0) h :=
 (by kernel_rfl : aE CF r n 149 args h = D149 r n c149 x0 r149 (aH args) h).trans ((congrFun (congrFun (dBj r n) (aH args)) h).trans (by kernel_rfl))
noncomputable def s150 (r : RT) (n : Nat) (x0 : DV) (h0 : Hp) : aG :=
 bnd (aD .geq x0 (.i .u8 (Int.ofNat 48)) h0) fun v1 h1 =>
 bnd (gD v1 true (some (x0, h1)) h1) fun v2 h2 =>
 bnd (gD v1 true (aD .leq v2 (.i .u8 (Int.ofNat 57)) h2) h2) fun v3 h3 =>
 bnd (aQ v1 v3 (.b false) h3) fun v4 h4 =>
 some (v4, h4)
noncomputable abbrev c150 : Code := cf Tryz.f150
noncomputable abbrev r150 : K := aS CF Tryz.f150
noncomputable def D150 (r : RT) (n : Nat) (c : Code) (X : Nat → K) (k : K) : K := aP CF r 9 n c X r150 k
theorem cYy : D150 r n c150 x0 r150 = (K1 (s150 r n) 0) :=
 (by kernel_rfl)
theorem cNs : aE CF r n 150 args h = s150 r n (aT args 0) h :=
 (by kernel_rfl : aE CF r n 150 args h = D150 r n c150 x0 r150 (aH args) h).trans ((congrFun (congrFun (cYy r n) (aH args)) h).trans (by kernel_rfl))
noncomputable def s155 (r : RT) (n : Nat) (x0 x1 : DV) (h0 : Hp) : aG :=
 bnd (cB x1 h0) fun v1 h1 =>
 bnd (cF [(.s []), (.b false), (.b false), (aK 0)] h1) fun v2 h2 =>
 bnd (bD x0 h2) fun v3 h3 =>
 bnd (aB 6 v3 h3) fun v4 h4 =>
 bnd (aA v4 h4) fun v5 h5 =>
 bnd (r 186 [v5, (.f 187 [] [v1])] h5) fun v6 h6 =>
 bnd (aD .lss v6 (aK 0) h6) fun v7 h7 =>
 aX v7 (
 bnd (cI [(.s []), (.b false), (.b false), (aK 0)] [] h7) fun v8 h8 =>
 bnd (aI 4 v2 v8 h8) fun _ h9 =>
 bnd (aN 4 v2 h9) fun v10 _ =>
 some (.t [v10, (.b false)], h9)) (
 bnd (bD x0 h7) fun v11 h11 =>
 bnd (aB 6 v11 h11) fun v12 h12 =>
 bnd (aA v12 h12) fun v13 h13 =>
 bnd (aF 4 v13 v6 h13) fun v14 h14 =>
 bnd (aN 4 v14 h14) fun v15 h15 =>
 bnd (aI 4 v2 v15 h15) fun _ h16 =>
 bnd (aN 4 v2 h16) fun v17 _ =>
 some (.t [v17, (.b true)], h16))
noncomputable abbrev c155 : Code := cf Tryz.f155
noncomputable abbrev r155 : K := aS CF Tryz.f155
noncomputable def D155 (r : RT) (n : Nat) (c : Code) (X : Nat → K) (k : K) : K := aP CF r 23 n c X r155 k
theorem dDd : D155 r n c155 x0 r155 = (K2 (s155 r n) 0 1) :=
 (by kernel_rfl)
theorem cOb : aE CF r n 155 args h = s155 r n (aT args 0) (aT args 1) h :=
 (by kernel_rfl : aE CF r n 155 args h = D155 r n c155 x0 r155 (aH args) h).trans ((congrFun (congrFun (dDd r n) (aH args)) h).trans (by kernel_rfl))
end Go.Dd

namespace Go.Dd
open Go.Proofs
variable (r : RT) (n : Nat) (args : List DV) (h : Hp)
noncomputable def s162 (r : RT) (n : Nat) (x0 x1 : DV) (h0 : Hp) : aG :=
 bnd (cB x1 h0) fun v1 h1 =>
 bnd (aB 5 v1 h1) fun v2 h2 =>
 bnd (aA v2 h2) fun v3 h3 =>
 bnd (cO v3 h3) fun v4 h4 =>
 bnd (aD .eql v4 (aK 0) h4) fun v5 h5 =>
 aX v5 (
 bnd (r 157 [x0, (.s []), (aK 1)] h5) fun v6 h6 =>
 some (.t [], h6)) (
 bnd (aN 6 v1 h5) fun v7 h7 =>
 bnd (r 193 [x0, v7] h7) fun v8 h8 =>
 bnd (gD v8 false (some (x0, h8)) h8) fun v9 h9 =>
 bnd (gD v8 false (aN 6 v1 h9) h9) fun v10 h10 =>
 bnd (gD v8 false (r 194 [v9, v10] h10) h10) fun v11 h11 =>
 bnd (aQ v8 (.b true) v11 h11) fun v12 h12 =>
 aX v12 (
 some (.t [], h12)) (
 bnd (aB 5 v1 h12) fun v13 h13 =>
 bnd (aA v13 h13) fun v14 h14 =>
 bnd (aF 6 v14 (aK 0) h14) fun v15 h15 =>
 bnd (aN 6 v15 h15) fun v16 h16 =>
 bnd (r 196 [x0, v16] h16) fun v17 h17 =>
 bnd (aB 1 v1 h17) fun v18 h18 =>
 bnd (aA v18 h18) fun v19 h19 =>
 cnd (bQ (aA v18 h12) v19 && true) (
 bnd (aB 5 v1 h19) fun v20 h20 =>
 bnd (aA v20 h20) fun v21 h21 =>
 cnd (bQ (aA v20 h12) v21 && true) (
 bnd (dC 6 v21 (some (aK 1)) none h21) fun v22 h22 =>
 cnd (bQ (dC 6 v21 (some (aK 1)) none h12) v22 && true) (
 bnd (r 195 [x0, v17, v19, v22] h22) fun v23 h23 =>
 some (.t [], h23))))))
noncomputable abbrev c162 : Code := cf Tryz.f162
noncomputable abbrev r162 : K := aS CF Tryz.f162
noncomputable def D162 (r : RT) (n : Nat) (c : Code) (X : Nat → K) (k : K) : K := aP CF r 31 n c X r162 k
theorem cYg : D162 r n c162 x0 r162 = (K2 (s162 r n) 0 1) :=
 (by kernel_rfl)
theorem cUe : aE CF r n 162 args h = s162 r n (aT args 0) (aT args 1) h :=
 (by kernel_rfl : aE CF r n 162 args h = D162 r n c162 x0 r162 (aH args) h).trans ((congrFun (congrFun (cYg r n) (aH args)) h).trans (by kernel_rfl))
noncomputable def s167 (r : RT) (n : Nat) (x0 x1 x2 : DV) (h0 : Hp) : aG :=
 bnd (aD .geq x0 x1 h0) fun v1 h1 =>
 bnd (gD v1 true (some (x0, h1)) h1) fun v2 h2 =>
 bnd (gD v1 true (some (x2, h2)) h2) fun v3 h3 =>
 bnd (gD v1 true (aD .leq v2 v3 h3) h3) fun v4 h4 =>
 bnd (aQ v1 v4 (.b false) h4) fun v5 h5 =>
 some (v5, h5)
noncomputable abbrev c167 : Code := cf Tryz.f167
noncomputable abbrev r167 : K := aS CF Tryz.f167
noncomputable def D167 (r : RT) (n : Nat) (c : Code) (X : Nat → K) (k : K) : K := aP CF r 15 n c X r167 k
theorem dBu : D167 r n c167 x0 r167 = (K3 (s167 r n) 0 1 2) :=
 (by kernel_rfl)
theorem cRt : aE CF r n 167 args h = s167 r n (aT args 0) (aT args 1) (aT args 2) h :=
 (by kernel_rfl : aE CF r n 167 args h = D167 r n c167 x0 r167 (aH args) h).trans ((congrFun (congrFun (dBu r n) (aH args)) h).trans (by kernel_rfl))
noncomputable def s168 (r : RT) (n : Nat) (x0 x1 : DV) (h0 : Hp) : aG :=
 bnd (r 188 [x0, x1] h0) fun v1 h1 =>
 bnd (aD .geq v1 (aK 0) h1) fun v2 h2 =>
 some (v2, h2)
noncomputable abbrev c168 : Code := cf Tryz.f168
noncomputable abbrev r168 : K := aS CF Tryz.f168
noncomputable def D168 (r : RT) (n : Nat) (c : Code) (X : Nat → K) (k : K) : K := aP CF r 9 n c X r168 k
theorem dEd : D168 r n c168 x0 r168 = (K2 (s168 r n) 0 1) :=
 (by kernel_rfl)
theorem cVd : aE CF r n 168 args h = s168 r n (aT args 0) (aT args 1) h :=
 (by kernel_rfl : aE CF r n 168 args h = D168 r n c168 x0 r168 (aH args) h).trans ((congrFun (congrFun (dEd r n) (aH args)) h).trans (by kernel_rfl))
noncomputable def s169 (r : RT) (n : Nat) (x0 : DV) (h0 : Hp) : aG :=
 bnd (cB x0 h0) fun v1 h1 =>
 bnd (aN 4 v1 h1) fun v2 h2 =>
 bnd (r 170 [v2, (aK 20)] h2) fun v3 h3 =>
 bnd (jW .not v3 h3) fun v4 h4 =>
 some (v4, h4)
noncomputable abbrev c169 : Code := cf Tryz.f169
noncomputable abbrev r169 : K := aS CF Tryz.f169
noncomputable def D169 (r : RT) (n : Nat) (c : Code) (X : Nat → K) (k : K) : K := aP CF r 6 n c X r169 k
theorem cZw : D169 r n c169 x0 r169 = (K1 (s169 r n) 0) :=
 (by kernel_rfl)
theorem cPw : aE CF r n 169 args h = s169 r n (aT args 0) h :=
 (by kernel_rfl : aE CF r n 169 args h = D169 r n c169 x0 r169 (aH args) h).trans ((congrFun (congrFun (cZw r n) (aH args)) h).trans (by kernel_rfl))
noncomputable def s170 (r : RT) (n : Nat) (x0 x1 : DV) (h0 : Hp) : aG :=
 bnd (cB x0 h0) fun v1 h1 =>
 bnd (cB x1 h1) fun v2 h2 =>
 bnd (aB 0 v1 h2) fun v3 h3 =>
 bnd (aA v3 h3) fun v4 h4 =>
 bnd (aD .eql v4 (aK 1) h4) fun v5 h5 =>
 aX v5 (
 bnd (aB 1 v1 h5) fun v6 h6 =>
 bnd (aA v6 h6) fun v7 h7 =>
 bnd (dA .eql v7 (.s []) h7) fun v8 h8 =>
 bnd (gD v8 true (aB 3 v1 h8) h8) fun v9 h9 =>
 bnd (gD v8 true (aA v9 h9) h9) fun v10 h10 =>
 bnd (gD v8 true (cO v10 h10) h10) fun v11 h11 =>
 bnd (gD v8 true (aD .eql v11 (aK 0) h11) h11) fun v12 h12 =>
 bnd (aQ v8 v12 (.b false) h12) fun v13 h13 =>
 bnd (gD v13 true (aB 2 v1 h13) h13) fun v14 h14 =>
 bnd (gD v13 true (aA v14 h14) h14) fun v15 h15 =>
 bnd (gD v13 true (r 167 [v15, (.i .i64 (Int.negSucc 1152921504606846975)), (aK 1152921504606846976)] h15) h15) fun v16 h16 =>
 bnd (aQ v13 v16 (.b false) h16) fun v17 h17 =>
 some (v17, h17)) (
 bnd (aD .eql v4 (aK 2) h5) fun v18 h18 =>
 aX v18 (
 bnd (aB 2 v1 h18) fun v19 h19 =>
 bnd (aA v19 h19) fun v20 h20 =>
 bnd (aD .eql v20 (aK 0) h20) fun v21 h21 =>
 bnd (gD v21 true (aB 3 v1 h21) h21) fun v22 h22 =>
 bnd (gD v21 true (aA v22 h22) h22) fun v23 h23 =>
 bnd (gD v21 true (cO v23 h23) h23) fun v24 h24 =>
 bnd (gD v21 true (aD .eql v24 (aK 0) h24) h24) fun v25 h25 =>
 bnd (aQ v21 v25 (.b false) h25) fun v26 h26 =>
 bnd (gD v26 true (aB 1 v1 h26) h26) fun v27 h27 =>
 bnd (gD v26 true (aA v27 h27) h27) fun v28 h28 =>
 bnd (gD v26 true (dI v28 h28) h28) fun v29 h29 =>
 bnd (gD v26 true (aD .leq v29 (aK 250) h29) h29) fun v30 h30 =>
 bnd (aQ v26 v30 (.b false) h30) fun v31 h31 =>
 some (v31, h31)) (
 bnd (aD .eql v4 (aK 3) h18) fun v32 h32 =>
 aX v32 (
 bnd (aB 2 v1 h32) fun v33 h33 =>
 bnd (aA v33 h33) fun v34 h34 =>
 bnd (aD .eql v34 (aK 0) h34) fun v35 h35 =>
 bnd (gD v35 true (aB 3 v1 h35) h35) fun v36 h36 =>
 bnd (gD v35 true (aA v36 h36) h36) fun v37 h37 =>
 bnd (gD v35 true (cO v37 h37) h37) fun v38 h38 =>
 bnd (gD v35 true (aD .eql v38 (aK 0) h38) h38) fun v39 h39 =>
 bnd (aQ v35 v39 (.b false) h39) fun v40 h40 =>
 bnd (gD v40 true (aB 1 v1 h40) h40) fun v41 h41 =>
 bnd (gD v40 true (aA v41 h41) h41) fun v42 h42 =>
 bnd (gD v40 true (dI v42 h42) h42) fun v43 h43 =>
 bnd (gD v40 true (r 167 [v43, (aK 1), (aK 60)] h43) h43) fun v44 h44 =>
 bnd (aQ v40 v44 (.b false) h44) fun v45 h45 =>
 some (v45, h45)) (
 bnd (aD .eql v4 (aK 4) h32) fun v46 h46 =>
 aX v46 (
 bnd (aB 3 v1 h46) fun v47 h47 =>
 bnd (aA v47 h47) fun v48 h48 =>
 bnd (r 168 [v48, (.f 200 [] [v2])] h48) fun v49 h49 =>
 bnd (aB 2 v1 h49) fun v50 h50 =>
 bnd (aA v50 h50) fun v51 h51 =>
 bnd (aD .eql v51 (aK 0) h51) fun v52 h52 =>
 bnd (gD v52 true (aB 1 v1 h52) h52) fun v53 h53 =>
 bnd (gD v52 true (aA v53 h53) h53) fun v54 h54 =>
 bnd (gD v52 true (dA .eql v54 (.s []) h54) h54) fun v55 h55 =>
 bnd (aQ v52 v55 (.b false) h55) fun v56 h56 =>
 bnd (gD v56 true (aA v2 h56) h56) fun v57 h57 =>
 bnd (gD v56 true (aD .gtr v57 (aK 0) h57) h57) fun v58 h58 =>
 bnd (aQ v56 v58 (.b false) h58) fun v59 h59 =>
 bnd (gD v59 true (aB 3 v1 h59) h59) fun v60 h60 =>
 bnd (gD v59 true (aA v60 h60) h60) fun v61 h61 =>
 bnd (gD v59 true (cO v61 h61) h61) fun v62 h62 =>
 bnd (gD v59 true (aD .leq v62 (aK 250) h62) h62) fun v63 h63 =>
 bnd (aQ v59 v63 (.b false) h63) fun v64 h64 =>
 bnd (gD v64 true (some (v49, h64)) h64) fun v65 h65 =>
 bnd (gD v64 true (jW .not v65 h65) h65) fun v66 h66 =>
 bnd (aQ v64 v66 (.b false) h66) fun v67 h67 =>
 some (v67, h67)) (
 some ((.b false), h46)))))
noncomputable abbrev c170 : Code := cf Tryz.f170
noncomputable abbrev r170 : K := aS CF Tryz.f170
noncomputable def D170 (r : RT) (n : Nat) (c : Code) (X : Nat → K) (k : K) : K := aP CF r 86 n c X r170 k
theorem cXr : D170 r n c170 x0 r170 = (K2 (s170 r n) 0 1) :=
 (by kernel_rfl)
theorem cWb : aE CF r n 170 args h = s170 r n (aT args 0) (aT args 1) h :=
 (by kernel_rfl : aE CF r n 170 args h = D170 r n c170 x0 r170 (aH args) h).trans ((congrFun (congrFun (cXr r n) (aH args)) h).trans (by kernel_rfl))
end Go.Dd

namespace Go.Dd
open Go.Proofs
variable (r : RT) (n : Nat) (args : List DV) (h : Hp)
noncomputable def bE (r : RT) (n : Nat) (h0 : Hp) : aG :=
 some ((.b true), h0)
noncomputable def uF (r : RT) (n : Nat) (x2 x3 x4 x27 x51 : DV) (h0 : Hp) : aG :=
 aX x51 (
 bnd (aB 1 x4 h0) fun v1 h1 =>
 bnd (aA v1 h1) fun v2 h2 =>
 bnd (aD .lss v2 x2 h2) fun v3 h3 =>
 some (v3, h3)) (
 bnd (aD .eql x27 (aK 18) h0) fun v4 h4 =>
 aX v4 (
 bnd (aB 2 x4 h4) fun v5 h5 =>
 bnd (aA v5 h5) fun v6 h6 =>
 bnd (aD .leq v6 (aK 4) h6) fun v7 h7 =>
 bnd (gD v7 true (aB 1 x4 h7) h7) fun v8 h8 =>
 bnd (gD v7 true (aA v8 h8) h8) fun v9 h9 =>
 bnd (gD v7 true (aB 2 x4 h9) h9) fun v10 h10 =>
 bnd (gD v7 true (aA v10 h10) h10) fun v11 h11 =>
 bnd (gD v7 true (aD .add v9 v11 h11) h11) fun v12 h12 =>
 bnd (gD v7 true (aB 2 x3 h12) h12) fun v13 h13 =>
 bnd (gD v7 true (aA v13 h13) h13) fun v14 h14 =>
 bnd (gD v7 true (aD .leq v12 v14 h14) h14) fun v15 h15 =>
 bnd (aQ v7 v15 (.b false) h15) fun v16 h16 =>
 some (v16, h16)) (
   bE r n h4))
noncomputable def aYh (r : RT) (n : Nat) (x2 x3 x4 x27 : DV) (h0 : Hp) : aG :=
 bnd (aD .eql x27 (aK 8) h0) fun v1 h1 =>
 aX v1 (
  uF r n x2 x3 x4 x27 v1 h1) (
 bnd (aD .eql x27 (aK 11) h1) fun v2 h2 =>
  uF r n x2 x3 x4 x27 v2 h2)
noncomputable def vF (r : RT) (n : Nat) (x2 x3 x4 x27 x43 : DV) (h0 : Hp) : aG :=
 aX x43 (
 bnd (aB 1 x4 h0) fun v1 h1 =>
 bnd (aA v1 h1) fun v2 h2 =>
 bnd (aB 2 x3 h2) fun v3 h3 =>
 bnd (aA v3 h3) fun v4 h4 =>
 bnd (aD .lss v2 v4 h4) fun v5 h5 =>
 some (v5, h5)) (
  aYh r n x2 x3 x4 x27 h0)
noncomputable def aYf (r : RT) (n : Nat) (x2 x3 x4 x27 : DV) (h0 : Hp) : aG :=
 bnd (aD .eql x27 (aK 7) h0) fun v1 h1 =>
 aX v1 (
  vF r n x2 x3 x4 x27 v1 h1) (
 bnd (aD .eql x27 (aK 10) h1) fun v2 h2 =>
  vF r n x2 x3 x4 x27 v2 h2)
noncomputable def vB (r : RT) (n : Nat) (x2 x3 x4 x8 x27 x34 : DV) (h0 : Hp) : aG :=
 aX x34 (
 bnd (gD x8 true (aB 2 x4 h0) h0) fun v1 h1 =>
 bnd (gD x8 true (aA v1 h1) h1) fun v2 h2 =>
 bnd (gD x8 true (aD .leq v2 (aK 4) h2) h2) fun v3 h3 =>
 bnd (aQ x8 v3 (.b false) h3) fun v4 h4 =>
 some (v4, h4)) (
  aYf r n x2 x3 x4 x27 h0)
noncomputable def bDw (r : RT) (n : Nat) (x2 x3 x4 x8 x27 : DV) (h0 : Hp) : aG :=
 bnd (aD .eql x27 (aK 14) h0) fun v1 h1 =>
 aX v1 (
  vB r n x2 x3 x4 x8 x27 v1 h1) (
 bnd (aD .eql x27 (aK 15) h1) fun v2 h2 =>
  vB r n x2 x3 x4 x8 x27 v2 h2)
noncomputable def aPs (r : RT) (n : Nat) (x2 x3 x4 x8 x27 x31 : DV) (h0 : Hp) : aG :=
 aX x31 (
 some (x8, h0)) (
  bDw r n x2 x3 x4 x8 x27 h0)
noncomputable def bDo (r : RT) (n : Nat) (x2 x3 x4 x8 x27 : DV) (h0 : Hp) : aG :=
 bnd (aD .eql x27 (aK 9) h0) fun v1 h1 =>
  aPs r n x2 x3 x4 x8 x27 v1 h1
noncomputable def aPv (r : RT) (n : Nat) (x2 x3 x4 x7 x8 x27 x28 : DV) (h0 : Hp) : aG :=
 aX x28 (
 some (x7, h0)) (
  bDo r n x2 x3 x4 x8 x27 h0)
noncomputable def aQu (r : RT) (n : Nat) (x2 x3 x4 x7 x8 x27 : DV) (h0 : Hp) : aG :=
 bnd (aD .eql x27 (aK 6) h0) fun v1 h1 =>
  aPv r n x2 x3 x4 x7 x8 x27 v1 h1
noncomputable def aPc (r : RT) (n : Nat) (x2 x3 x4 x7 x8 : DV) (h0 : Hp) : aG :=
 bnd (aB 0 x4 h0) fun v1 h1 =>
 bnd (aA v1 h1) fun v2 h2 =>
  aQu r n x2 x3 x4 x7 x8 v2 h2
noncomputable def aNx (r : RT) (n : Nat) (x2 x3 x4 x7 : DV) (h0 : Hp) : aG :=
 bnd (gD x7 true (aB 4 x3 h0) h0) fun v1 h1 =>
 bnd (gD x7 true (aA v1 h1) h1) fun v2 h2 =>
 bnd (gD x7 true (aB 1 x4 h2) h2) fun v3 h3 =>
 bnd (gD x7 true (aA v3 h3) h3) fun v4 h4 =>
 bnd (gD x7 true (aF 4 v2 v4 h4) h4) fun v5 h5 =>
 bnd (gD x7 true (aB 0 v5 h5) h5) fun v6 h6 =>
 bnd (gD x7 true (aA v6 h6) h6) fun v7 h7 =>
 bnd (gD x7 true (aD .eql v7 (aK 3) h7) h7) fun v8 h8 =>
 bnd (aQ x7 v8 (.b false) h8) fun v9 h9 =>
  aPc r n x2 x3 x4 x7 v9 h9
noncomputable def xS (r : RT) (n : Nat) (x2 x3 x4 : DV) (h0 : Hp) : aG :=
 bnd (aB 1 x4 h0) fun v1 h1 =>
 bnd (aA v1 h1) fun v2 h2 =>
 bnd (aB 4 x3 h2) fun v3 h3 =>
 bnd (aA v3 h3) fun v4 h4 =>
 bnd (cO v4 h4) fun v5 h5 =>
 bnd (aD .lss v2 v5 h5) fun v6 h6 =>
  aNx r n x2 x3 x4 v6 h6
noncomputable def s171 (r : RT) (n : Nat) (x0 x1 x2 : DV) (h0 : Hp) : aG :=
 bnd (cB x0 h0) fun v1 h1 =>
 bnd (cB x1 h1) fun v2 h2 =>
  xS r n x2 v1 v2 h2
noncomputable abbrev c171 : Code := cf Tryz.f171
noncomputable abbrev aHd : Code := cR c171
noncomputable abbrev aFw : Code := cR aHd
noncomputable abbrev aDz : Code := cR aFw
noncomputable abbrev cQa : Code := cR aDz
noncomputable abbrev xX : Code := cL aDz
noncomputable abbrev aOv : Code := cR xX
noncomputable abbrev aHz : Code := cL aOv
noncomputable abbrev yM : Code := cR aHz
noncomputable abbrev yY : Code := cR yM
noncomputable abbrev qU : Code := cR yY
noncomputable abbrev qQ : Code := cR qU
noncomputable abbrev rH : Code := cR qQ
noncomputable abbrev qI : Code := cR rH
noncomputable abbrev qF : Code := cR qI
noncomputable abbrev qW : Code := cR qF
noncomputable abbrev bXw : Code := cR qW
noncomputable abbrev aXs : Code := cL qW
noncomputable abbrev cBy : Code := cL qF
noncomputable abbrev aSn : Code := cL qI
noncomputable abbrev cEd : Code := cL rH
noncomputable abbrev aRw : Code := cL qQ
noncomputable abbrev cBp : Code := cL qU
noncomputable abbrev aXw : Code := cL yY
noncomputable abbrev cDq : Code := cL yM
noncomputable abbrev aXm : Code := cL aHz
noncomputable abbrev aZh : Code := cL xX
noncomputable abbrev aWz : Code := cL aFw
noncomputable abbrev aUp : Code := cL aHd
noncomputable abbrev aGa : Code := cL c171
noncomputable abbrev r171 : K := aS CF Tryz.f171
noncomputable def D171 (r : RT) (n : Nat) (c : Code) (X : Nat → K) (k : K) : K := aP CF r 73 n c X r171 k
theorem bYg : D171 r n cQa x0 r171 = (K0 (bE r n)) :=
 (by kernel_rfl)
theorem bRi : D171 r n bXw (xs x0 0 (K0 (bE r n))) (K0 (bE r n)) = (K5 (uF r n) 2 3 4 27 51) :=
 (by kernel_rfl)
theorem bBm : D171 r n qW (xs x0 0 (K0 (bE r n))) (K0 (bE r n)) = D171 r n aXs (xs x0 0 (K0 (bE r n))) (K5 (uF r n) 2 3 4 27 51) :=
 congrArg (fun k => D171 r n aXs (xs x0 0 (K0 (bE r n))) k) (bRi r n)
theorem bTm : D171 r n qW (xs x0 0 (K0 (bE r n))) (K0 (bE r n)) = (K4 (aYh r n) 2 3 4 27) :=
 (bBm r n).trans
 ((by kernel_rfl))
theorem bEz : D171 r n qF (xs x0 0 (K0 (bE r n))) (K0 (bE r n)) = (K5 (vF r n) 2 3 4 27 43) :=
 (by kernel_rfl : D171 r n qF (xs x0 0 (K0 (bE r n))) (K0 (bE r n)) = (fun (env : bF) (h : Hp) => aX (opr env (cC qF)) (D171 r n cBy (xs x0 0 (K0 (bE r n))) (K0 (bE r n)) env h) (D171 r n qW (xs x0 0 (K0 (bE r n))) (K0 (bE r n)) env h))).trans (by rw [bTm r n]; kernel_rfl)
theorem bCk : D171 r n qI (xs x0 0 (K0 (bE r n))) (K0 (bE r n)) = D171 r n aSn (xs x0 0 (K0 (bE r n))) (K5 (vF r n) 2 3 4 27 43) :=
 congrArg (fun k => D171 r n aSn (xs x0 0 (K0 (bE r n))) k) (bEz r n)
theorem bRq : D171 r n qI (xs x0 0 (K0 (bE r n))) (K0 (bE r n)) = (K4 (aYf r n) 2 3 4 27) :=
 (bCk r n).trans
 ((by kernel_rfl))
theorem bOw : D171 r n rH (xs x0 0 (K0 (bE r n))) (K0 (bE r n)) = (K6 (vB r n) 2 3 4 8 27 34) :=
 (by kernel_rfl : D171 r n rH (xs x0 0 (K0 (bE r n))) (K0 (bE r n)) = (fun (env : bF) (h : Hp) => aX (opr env (cC rH)) (D171 r n cEd (xs x0 0 (K0 (bE r n))) (K0 (bE r n)) env h) (D171 r n qI (xs x0 0 (K0 (bE r n))) (K0 (bE r n)) env h))).trans (by rw [bRq r n]; kernel_rfl)
theorem bGi : D171 r n qQ (xs x0 0 (K0 (bE r n))) (K0 (bE r n)) = D171 r n aRw (xs x0 0 (K0 (bE r n))) (K6 (vB r n) 2 3 4 8 27 34) :=
 congrArg (fun k => D171 r n aRw (xs x0 0 (K0 (bE r n))) k) (bOw r n)
theorem bVa : D171 r n qQ (xs x0 0 (K0 (bE r n))) (K0 (bE r n)) = (K5 (bDw r n) 2 3 4 8 27) :=
 (bGi r n).trans
 ((by kernel_rfl))
theorem bVk : D171 r n qU (xs x0 0 (K0 (bE r n))) (K0 (bE r n)) = (K6 (aPs r n) 2 3 4 8 27 31) :=
 (by kernel_rfl : D171 r n qU (xs x0 0 (K0 (bE r n))) (K0 (bE r n)) = (fun (env : bF) (h : Hp) => aX (opr env (cC qU)) (D171 r n cBp (xs x0 0 (K0 (bE r n))) (K0 (bE r n)) env h) (D171 r n qQ (xs x0 0 (K0 (bE r n))) (K0 (bE r n)) env h))).trans (by rw [bVa r n]; kernel_rfl)
theorem bNc : D171 r n yY (xs x0 0 (K0 (bE r n))) (K0 (bE r n)) = D171 r n aXw (xs x0 0 (K0 (bE r n))) (K6 (aPs r n) 2 3 4 8 27 31) :=
 congrArg (fun k => D171 r n aXw (xs x0 0 (K0 (bE r n))) k) (bVk r n)
theorem cHj : D171 r n yY (xs x0 0 (K0 (bE r n))) (K0 (bE r n)) = (K5 (bDo r n) 2 3 4 8 27) :=
 (bNc r n).trans
 ((by kernel_rfl))
theorem bZd : D171 r n yM (xs x0 0 (K0 (bE r n))) (K0 (bE r n)) = (K7 (aPv r n) 2 3 4 7 8 27 28) :=
 (by kernel_rfl : D171 r n yM (xs x0 0 (K0 (bE r n))) (K0 (bE r n)) = (fun (env : bF) (h : Hp) => aX (opr env (cC yM)) (D171 r n cDq (xs x0 0 (K0 (bE r n))) (K0 (bE r n)) env h) (D171 r n yY (xs x0 0 (K0 (bE r n))) (K0 (bE r n)) env h))).trans (by rw [cHj r n]; kernel_rfl)
theorem bKo : D171 r n aHz (xs x0 0 (K0 (bE r n))) (K0 (bE r n)) = D171 r n aXm (xs x0 0 (K0 (bE r n))) (K7 (aPv r n) 2 3 4 7 8 27 28) :=
 congrArg (fun k => D171 r n aXm (xs x0 0 (K0 (bE r n))) k) (bZd r n)
theorem bYw : D171 r n aOv x0 (K0 (bE r n)) = (K6 (aQu r n) 2 3 4 7 8 27) :=
 (by kernel_rfl : D171 r n aOv x0 (K0 (bE r n)) = D171 r n aHz (xs x0 0 (K0 (bE r n))) (K0 (bE r n))).trans
 ((bKo r n).trans
 ((by kernel_rfl)))
theorem bFs : D171 r n aDz x0 r171 = D171 r n xX x0 (K0 (bE r n)) :=
 congrArg (fun k => D171 r n xX x0 k) (bYg r n)
theorem bLg : D171 r n xX x0 (K0 (bE r n)) = D171 r n aZh x0 (K6 (aQu r n) 2 3 4 7 8 27) :=
 congrArg (fun k => D171 r n aZh x0 k) (bYw r n)
theorem cCr : D171 r n aDz x0 r171 = (K5 (aPc r n) 2 3 4 7 8) :=
 (bFs r n).trans
 ((bLg r n).trans
 ((by kernel_rfl)))
theorem bPb : D171 r n aFw x0 r171 = D171 r n aWz x0 (K5 (aPc r n) 2 3 4 7 8) :=
 congrArg (fun k => D171 r n aWz x0 k) (cCr r n)
theorem cCk : D171 r n aFw x0 r171 = (K4 (aNx r n) 2 3 4 7) :=
 (bPb r n).trans
 ((by kernel_rfl))
theorem bSu : D171 r n aHd x0 r171 = D171 r n aUp x0 (K4 (aNx r n) 2 3 4 7) :=
 congrArg (fun k => D171 r n aUp x0 k) (cCk r n)
theorem bVw : D171 r n aHd x0 r171 = (K3 (xS r n) 2 3 4) :=
 (bSu r n).trans
 ((by kernel_rfl))
theorem bUu : D171 r n c171 x0 r171 = D171 r n aGa x0 (K3 (xS r n) 2 3 4) :=
 congrArg (fun k => D171 r n aGa x0 k) (bVw r n)
theorem cCe (q0 : mE) : D171 r n aGa x0 (K3 q0 2 3 4) = fun (env : bF) (h : Hp) =>
 bnd (cB (env 0) h) fun v1 h1 =>
 bnd (cB (env 1) h1) fun v2 h2 =>
  q0 (env 2) v1 v2 h2 := by kernel_rfl
theorem bKq : (fun (env : bF) (h : Hp) =>
 bnd (cB (env 0) h) fun v1 h1 =>
 bnd (cB (env 1) h1) fun v2 h2 =>
  xS r n (env 2) v1 v2 h2) = (K3 (s171 r n) 0 1 2) := by kernel_rfl
theorem dAp : D171 r n c171 x0 r171 = (K3 (s171 r n) 0 1 2) :=
 (bUu r n).trans
 ((cCe r n (xS r n)).trans (bKq r n))
theorem cPo : aE CF r n 171 args h = s171 r n (aT args 0) (aT args 1) (aT args 2) h :=
 (by kernel_rfl : aE CF r n 171 args h = D171 r n c171 x0 r171 (aH args) h).trans ((congrFun (congrFun (dAp r n) (aH args)) h).trans (by kernel_rfl))
noncomputable def fF (r : RT) (n : Nat) (x3 : DV) (h0 : Hp) : aG :=
 some (x3, h0)
noncomputable def aWq (r : RT) (n : Nat) (kk6 : eY) (x3 x4 x11 x12 : DV) (h0 : Hp) : aG :=
 bnd (aD .lss x12 x11 h0) fun v1 h1 =>
 aX v1 (
 bnd (jS CF r x4 [x12] h1) fun v2 h2 =>
 bnd (aF 1 x3 x12 h2) fun v3 h3 =>
 bnd (aI 1 v3 v2 h3) fun _ h4 =>
 bnd (aD .add x12 (aK 1) h4) fun v5 h5 =>
      kk6 x3 x4 x11 v5 h5) (
      fF r n x3 h1)
noncomputable def uV (r : RT) (n : Nat) (m : Nat) : eY :=
 Nat.rec (motive := fun _ => eY) (fun _ _ _ _ _ => none) (fun _ ih => aWq r n ih) m
noncomputable def bFb (r : RT) (n : Nat) : eY := uV r n n
noncomputable def aRe (r : RT) (n : Nat) (x3 x4 x11 x12 : DV) (h0 : Hp) : aG :=
 bFb r n x3 x4 x11 x12 h0
noncomputable def aQk (r : RT) (n : Nat) (x1 x3 x4 : DV) (h0 : Hp) : aG :=
 bnd (aA x1 h0) fun v1 h1 =>
 bnd (cO v1 h1) fun v2 h2 =>
  aRe r n x3 x4 v2 (aK 0) h2
noncomputable def zG (r : RT) (n : Nat) (x1 x3 : DV) (h0 : Hp) : aG :=
 aQk r n x1 x3 (.f 201 [] [x1]) h0
noncomputable def rP (r : RT) (n : Nat) (x1 : DV) (h0 : Hp) : aG :=
 bnd (aA x1 h0) fun v1 h1 =>
 bnd (cO v1 h1) fun v2 h2 =>
 bnd (cJ 1 8 [(aK 0)] v2 v2 h2) fun v3 h3 =>
  zG r n x1 v3 h3
noncomputable def s172 (r : RT) (n : Nat) (x0 : DV) (h0 : Hp) : aG :=
 bnd (cB x0 h0) fun v1 h1 =>
  rP r n v1 h1
noncomputable abbrev c172 : Code := cf Tryz.f172
noncomputable abbrev aIe : Code := cR c172
noncomputable abbrev aIv : Code := cR aIe
noncomputable abbrev aEp : Code := cR aIv
noncomputable abbrev cTk : Code := cR aEp
noncomputable abbrev wL : Code := cL aEp
noncomputable abbrev aPx : Code := cR wL
noncomputable abbrev aHv : Code := cL aPx
noncomputable abbrev pT : Code := cL aHv
noncomputable abbrev bRx : Code := cL wL
noncomputable abbrev aSa : Code := cL aIv
noncomputable abbrev aFt : Code := cL aIe
noncomputable abbrev aFc : Code := cL c172
noncomputable abbrev r172 : K := aS CF Tryz.f172
noncomputable def D172 (r : RT) (n : Nat) (c : Code) (X : Nat → K) (k : K) : K := aP CF r 23 n c X r172 k
theorem cAy : D172 r n cTk x0 r172 = (K1 (fF r n) 3) :=
 (by kernel_rfl)
theorem bPx (kk6 : eY) : D172 r n pT (xs x0 0 (K1 (fF r n) 3)) (K4 kk6 3 4 11 12) = (K4 (aWq r n kk6) 3 4 11 12) :=
 (by kernel_rfl)
theorem bGl (m : Nat) : aO (fun kk => D172 r n pT (xs x0 0 (K1 (fF r n) 3)) kk) m = (K4 (uV r n m) 3 4 11 12) := by
 induction m with
 | zero => exact (by kernel_rfl : aO (fun kk => D172 r n pT (xs x0 0 (K1 (fF r n) 3)) kk) 0 = (K4 (uV r n 0) 3 4 11 12))
 | succ m ih =>
  refine (by kernel_rfl : aO (fun kk => D172 r n pT (xs x0 0 (K1 (fF r n) 3)) kk) (m + 1) = D172 r n pT (xs x0 0 (K1 (fF r n) 3)) (aO (fun kk => D172 r n pT (xs x0 0 (K1 (fF r n) 3)) kk) m)).trans ?_
  rw [ih]
  exact (bPx r n (uV r n m)).trans (by kernel_rfl)
theorem bVm : D172 r n aHv (xs x0 0 (K1 (fF r n) 3)) (K1 (fF r n) 3) = (K4 (bFb r n) 3 4 11 12) :=
 (by kernel_rfl : D172 r n aHv (xs x0 0 (K1 (fF r n) 3)) (K1 (fF r n) 3) = aO (fun kk => D172 r n pT (xs x0 0 (K1 (fF r n) 3)) kk) n).trans ((bGl r n n).trans (by kernel_rfl))
theorem bWd : D172 r n aPx x0 (K1 (fF r n) 3) = (K4 (aRe r n) 3 4 11 12) :=
 (by kernel_rfl : D172 r n aPx x0 (K1 (fF r n) 3) = D172 r n aHv (xs x0 0 (K1 (fF r n) 3)) (K1 (fF r n) 3)).trans
 ((bVm r n).trans (by kernel_rfl))
theorem bGz : D172 r n aEp x0 r172 = D172 r n wL x0 (K1 (fF r n) 3) :=
 congrArg (fun k => D172 r n wL x0 k) (cAy r n)
theorem bGy : D172 r n wL x0 (K1 (fF r n) 3) = D172 r n bRx x0 (K4 (aRe r n) 3 4 11 12) :=
 congrArg (fun k => D172 r n bRx x0 k) (bWd r n)
theorem cAc : D172 r n aEp x0 r172 = (K3 (aQk r n) 1 3 4) :=
 (bGz r n).trans
 ((bGy r n).trans
 ((by kernel_rfl)))
theorem bJj : D172 r n aIv x0 r172 = D172 r n aSa x0 (K3 (aQk r n) 1 3 4) :=
 congrArg (fun k => D172 r n aSa x0 k) (cAc r n)
theorem cHa : D172 r n aIv x0 r172 = (K2 (zG r n) 1 3) :=
 (bJj r n).trans
 ((by kernel_rfl))
theorem bRm : D172 r n aIe x0 r172 = D172 r n aFt x0 (K2 (zG r n) 1 3) :=
 congrArg (fun k => D172 r n aFt x0 k) (cHa r n)
theorem bPr (q0 : uL) : D172 r n aFt x0 (K2 q0 1 3) = fun (env : bF) (h : Hp) =>
 bnd (aA (env 1) h) fun v1 h1 =>
 bnd (cO v1 h1) fun v2 h2 =>
 bnd (cJ 1 8 [(aK 0)] v2 v2 h2) fun v3 h3 =>
  q0 (env 1) v3 h3 := by kernel_rfl
theorem bBo : (fun (env : bF) (h : Hp) =>
 bnd (aA (env 1) h) fun v1 h1 =>
 bnd (cO v1 h1) fun v2 h2 =>
 bnd (cJ 1 8 [(aK 0)] v2 v2 h2) fun v3 h3 =>
  zG r n (env 1) v3 h3) = (K1 (rP r n) 1) := by kernel_rfl
theorem cEq : D172 r n aIe x0 r172 = (K1 (rP r n) 1) :=
 (bRm r n).trans
 ((bPr r n (zG r n)).trans (bBo r n))
theorem cVy : D172 r n c172 x0 r172 = D172 r n aFc x0 (K1 (rP r n) 1) :=
 congrArg (fun k => D172 r n aFc x0 k) (cEq r n)
theorem cMk (q0 : TT1) : D172 r n aFc x0 (K1 q0 1) = fun (env : bF) (h : Hp) =>
 bnd (cB (env 0) h) fun v1 h1 =>
  q0 v1 h1 := by kernel_rfl
theorem cGj : (fun (env : bF) (h : Hp) =>
 bnd (cB (env 0) h) fun v1 h1 =>
  rP r n v1 h1) = (K1 (s172 r n) 0) := by kernel_rfl
theorem dCr : D172 r n c172 x0 r172 = (K1 (s172 r n) 0) :=
 (cVy r n).trans
 ((cMk r n (rP r n)).trans (cGj r n))
theorem cLm : aE CF r n 172 args h = s172 r n (aT args 0) h :=
 (by kernel_rfl : aE CF r n 172 args h = D172 r n c172 x0 r172 (aH args) h).trans ((congrFun (congrFun (dCr r n) (aH args)) h).trans (by kernel_rfl))
noncomputable def bX (r : RT) (n : Nat) (x6 x9 : DV) (h0 : Hp) : aG :=
 bnd (aA x6 h0) fun v1 h1 =>
 bnd (aA x9 h1) fun v2 h2 =>
 some (.t [v1, v2], h2)
noncomputable def vI (r : RT) (n : Nat) (kk9 : eU) (x2 x3 x6 x7 x9 x10 x11 x14 : DV) (h0 : Hp) : aG :=
 bnd (aD .add x11 (aK 1) h0) fun v1 h1 =>
 bnd (aA x3 h1) fun v2 h2 =>
 bnd (aF 1 v2 x11 h2) fun v3 h3 =>
 bnd (aA v3 h3) fun v4 h4 =>
 bnd (jS CF r x10 [v1, v4, x14] h4) fun v5 h5 =>
  kk9 x2 x3 x6 x7 x9 x10 h5
noncomputable def aFi (r : RT) (n : Nat) (kk9 : eU) (x2 x3 x6 x7 x9 x10 x11 x12 x13 x14 : DV) (h0 : Hp) : aG :=
 bnd (aB 0 x12 h0) fun v1 h1 =>
 bnd (aA v1 h1) fun v2 h2 =>
 bnd (aD .eql v2 (aK 19) h2) fun v3 h3 =>
 aX v3 (
 bnd (aD .neq x13 (aK 1) h3) fun v4 h4 =>
 bnd (gD v4 false (aA x3 h4) h4) fun v5 h5 =>
 bnd (gD v4 false (some (x11, h5)) h5) fun v6 h6 =>
 bnd (gD v4 false (aF 1 v5 v6 h6) h6) fun v7 h7 =>
 bnd (gD v4 false (aA v7 h7) h7) fun v8 h8 =>
 bnd (gD v4 false (aD .lss v8 (aK 0) h8) h8) fun v9 h9 =>
 bnd (aQ v4 (.b true) v9 h9) fun v10 h10 =>
 aX v10 (
 some (.t [.l0, (.b false)], h10)) (
   kk9 x2 x3 x6 x7 x9 x10 h10)) (
 bnd (aD .eql v2 (aK 20) h3) fun v11 h11 =>
 aX v11 (
   kk9 x2 x3 x6 x7 x9 x10 h11) (
 bnd (aD .eql v2 (aK 16) h11) fun v12 h12 =>
 aX v12 (
 bnd (aN 3 x12 h12) fun v13 h13 =>
 bnd (r 203 [v13] h13) fun v14 h14 =>
 bnd (aA x3 h14) fun v15 h15 =>
 cnd (bQ (aA x3 h12) v15 && true) (
 bnd (aF 1 v15 x11 h15) fun v16 h16 =>
 bnd (aA v16 h16) fun v17 h17 =>
 cnd (bQ (aA v16 h12) v17 && true) (
 bnd (jS CF r x10 [v14, v17, x14] h17) fun v18 h18 =>
    kk9 x2 x3 x6 x7 x9 x10 h18))) (
 bnd (aD .eql v2 (aK 17) h12) fun v19 h19 =>
 aX v19 (
 bnd (aN 3 x12 h19) fun v20 h20 =>
 bnd (r 203 [v20] h20) fun v21 h21 =>
 bnd (aA x3 h21) fun v22 h22 =>
 cnd (bQ (aA x3 h19) v22 && true) (
 bnd (aF 1 v22 x11 h22) fun v23 h23 =>
 bnd (aA v23 h23) fun v24 h24 =>
 cnd (bQ (aA v23 h19) v24 && true) (
 bnd (jS CF r x10 [v21, v24, x14] h24) fun v25 h25 =>
     vI r n kk9 x2 x3 x6 x7 x9 x10 x11 x14 h25))) (
     vI r n kk9 x2 x3 x6 x7 x9 x10 x11 x14 h19))))
noncomputable def aHp (r : RT) (n : Nat) (kk9 : eU) (x2 x3 x6 x7 x9 x10 x11 x12 x13 x14 : DV) (h0 : Hp) : aG :=
 bnd (aN 3 x12 h0) fun v1 h1 =>
 bnd (r 206 [v1] h1) fun v2 h2 =>
 bnd (aD .lss x13 v2 h2) fun v3 h3 =>
 bnd (gD v3 false (some (x14, h3)) h3) fun v4 h4 =>
 bnd (gD v3 false (aD .gtr v4 (aK 24) h4) h4) fun v5 h5 =>
 bnd (aQ v3 (.b true) v5 h5) fun v6 h6 =>
 aX v6 (
 some (.t [.l0, (.b false)], h6)) (
  aFi r n kk9 x2 x3 x6 x7 x9 x10 x11 x12 x13 x14 h6)
noncomputable def aDr (r : RT) (n : Nat) (kk9 : eU) (x2 x3 x6 x7 x9 x10 x11 x12 x13 : DV) (h0 : Hp) : aG :=
 bnd (aN 3 x12 h0) fun v1 h1 =>
 bnd (r 205 [v1] h1) fun v2 h2 =>
 bnd (aD .add x13 v2 h2) fun v3 h3 =>
  aHp r n kk9 x2 x3 x6 x7 x9 x10 x11 x12 x13 v3 h3
noncomputable def aCo (r : RT) (n : Nat) (kk9 : eU) (x2 x3 x6 x7 x9 x10 x11 : DV) (h0 : Hp) : aG :=
 bnd (aA x2 (resv 1 h0)) fun v1 h1 =>
 bnd (aF 3 v1 x11 h1) fun v2 h2 =>
 bnd (aN 3 v2 h2) fun v3 h3 =>
 bnd (aA x6 h3) fun v4 h4 =>
 bnd (aF 1 v4 x11 h4) fun v5 h5 =>
 bnd (aA v5 h5) fun v6 h6 =>
 bnd (mO (cH 0 h0.next) [(aK 0), (aK 0), (aK 0)] h6) fun v7 h7 =>
 bnd (aI 3 v7 v3 h7) fun v8 h8 =>
 cnd (bQ (aA v5 h8) v6 && (bQ (aA x6 h8) v4 && true)) (
  aDr r n kk9 x2 x3 x6 x7 x9 x10 x11 v7 v6 h8)
noncomputable def aGk (r : RT) (n : Nat) (kk9 : eU) (x2 x3 x6 x7 x9 x10 x11 : DV) (h0 : Hp) : aG :=
 bnd (aA x7 h0) fun v1 h1 =>
 bnd (aA x7 h1) fun v2 h2 =>
 bnd (cO v2 h2) fun v3 h3 =>
 bnd (aD .sub v3 (aK 1) h3) fun v4 h4 =>
 bnd (dC 1 v1 none (some v4) h4) fun v5 h5 =>
 bnd (aI 1 x7 v5 h5) fun _ h6 =>
  aCo r n kk9 x2 x3 x6 x7 x9 x10 x11 h6
noncomputable def aFp (r : RT) (n : Nat) (kk9 : eU) (x2 x3 x6 x7 x9 x10 : DV) (h0 : Hp) : aG :=
 bnd (aA x7 h0) fun v1 h1 =>
 bnd (aA x7 h1) fun v2 h2 =>
 bnd (cO v2 h2) fun v3 h3 =>
 bnd (aD .sub v3 (aK 1) h3) fun v4 h4 =>
 bnd (aF 1 v1 v4 h4) fun v5 h5 =>
 bnd (aA v5 h5) fun v6 h6 =>
  aGk r n kk9 x2 x3 x6 x7 x9 x10 v6 h6
noncomputable def aZf (r : RT) (n : Nat) (kk9 : eU) (x2 x3 x6 x7 x9 x10 : DV) (h0 : Hp) : aG :=
 bnd (aA x7 h0) fun v1 h1 =>
 bnd (cO v1 h1) fun v2 h2 =>
 bnd (aD .gtr v2 (aK 0) h2) fun v3 h3 =>
 bnd (gD v3 true (aA x9 h3) h3) fun v4 h4 =>
 bnd (aQ v3 v4 (.b false) h4) fun v5 h5 =>
 aX v5 (
   aFp r n kk9 x2 x3 x6 x7 x9 x10 h5) (
   bX r n x6 x9 h5)
noncomputable def vC (r : RT) (n : Nat) (m : Nat) : eU :=
 Nat.rec (motive := fun _ => eU) (fun _ _ _ _ _ _ _ => none) (fun _ ih => aZf r n ih) m
noncomputable def bTk (r : RT) (n : Nat) : eU := vC r n n
noncomputable def aQp (r : RT) (n : Nat) (x2 x3 x6 x7 x9 x10 : DV) (h0 : Hp) : aG :=
 bTk r n x2 x3 x6 x7 x9 x10 h0
noncomputable def aRi (r : RT) (n : Nat) (x2 x3 x6 x7 x9 x10 : DV) (h0 : Hp) : aG :=
 aQp r n x2 x3 x6 x7 x9 x10 h0
noncomputable def wW (r : RT) (n : Nat) (x2 x3 x6 x7 x9 : DV) (h0 : Hp) : aG :=
 aRi r n x2 x3 x6 x7 x9 (.f 204 [] [x2, x3, x6, x9, x7]) h0
noncomputable def cQ (r : RT) (n : Nat) (x2 x3 x6 x7 : DV) (h0 : Hp) : aG :=
 bnd (cF [(.b false)] h0) fun v1 h1 =>
 bnd (aI 1 v1 (.b true) h1) fun _ h2 =>
  wW r n x2 x3 x6 x7 v1 h2
noncomputable def mL (r : RT) (n : Nat) (kk18 : eU) (x2 x3 x6 x7 x19 x20 : DV) (h0 : Hp) : aG :=
 bnd (aD .add x20 (aK 1) h0) fun v1 h1 =>
  kk18 x2 x3 x6 x7 x19 v1 h1
noncomputable def vA (r : RT) (n : Nat) (kk18 : eU) (x2 x3 x6 x7 x19 x20 : DV) (h0 : Hp) : aG :=
 bnd (aA x6 h0) fun v1 h1 =>
 bnd (aF 1 v1 x20 h1) fun v2 h2 =>
 bnd (aI 1 v2 (.i .i64 (Int.negSucc 0)) h2) fun _ h3 =>
 bnd (aD .eql x20 (aK 0) h3) fun v4 h4 =>
 bnd (gD v4 false (some (x20, h4)) h4) fun v5 h5 =>
 bnd (gD v4 false (aD .gtr v5 (aK 1) h5) h5) fun v6 h6 =>
 bnd (gD v4 false (some (v6, h6)) h6) fun v7 h7 =>
 bnd (gD v7 true (aA x2 h7) h7) fun v8 h8 =>
 bnd (gD v7 true (some (x20, h8)) h8) fun v9 h9 =>
 bnd (gD v7 true (aD .sub v9 (aK 2) h9) h9) fun v10 h10 =>
 bnd (gD v7 true (aF 3 v8 v10 h10) h10) fun v11 h11 =>
 bnd (gD v7 true (aB 0 v11 h11) h11) fun v12 h12 =>
 bnd (gD v7 true (aA v12 h12) h12) fun v13 h13 =>
 bnd (gD v7 true (aD .eql v13 (aK 18) h13) h13) fun v14 h14 =>
 bnd (gD v4 false (aQ v7 v14 (.b false) h14) h14) fun v15 h15 =>
 bnd (gD v4 false (some (v15, h15)) h15) fun v16 h16 =>
 bnd (gD v16 true (aA x3 h16) h16) fun v17 h17 =>
 bnd (gD v16 true (some (x20, h17)) h17) fun v18 h18 =>
 bnd (gD v16 true (aF 1 v17 v18 h18) h18) fun v19 h19 =>
 bnd (gD v16 true (aA v19 h19) h19) fun v20 h20 =>
 bnd (gD v16 true (some (x20, h20)) h20) fun v21 h21 =>
 bnd (gD v16 true (aD .sub v21 (aK 2) h21) h21) fun v22 h22 =>
 bnd (gD v16 true (aD .eql v20 v22 h22) h22) fun v23 h23 =>
 bnd (gD v4 false (aQ v16 v23 (.b false) h23) h23) fun v24 h24 =>
 bnd (aQ v4 (.b true) v24 h24) fun v25 h25 =>
 aX v25 (
 bnd (aA x6 h25) fun v26 h26 =>
 bnd (aF 1 v26 x20 h26) fun v27 h27 =>
 bnd (aI 1 v27 (aK 0) h27) fun _ h28 =>
 bnd (aA x7 h28) fun v29 h29 =>
 bnd (aJ [(aK 0)] 1 [(0, 1, x20)] h29) fun v30 h30 =>
 bnd (bB 1 8 v29 v30 h30) fun v31 h31 =>
 bnd (aI 1 x7 v31 h31) fun _ h32 =>
  mL r n kk18 x2 x3 x6 x7 x19 x20 h32) (
  mL r n kk18 x2 x3 x6 x7 x19 x20 h25)
noncomputable def aHc (r : RT) (n : Nat) (kk18 : eU) (x2 x3 x6 x7 x19 x20 x21 : DV) (h0 : Hp) : aG :=
 aX x21 (
  vA r n kk18 x2 x3 x6 x7 x19 x20 h0) (
  cQ r n x2 x3 x6 x7 h0)
noncomputable def aKi (r : RT) (n : Nat) (kk18 : eU) (x2 x3 x6 x7 x19 x20 : DV) (h0 : Hp) : aG :=
 bnd (aD .lss x20 x19 h0) fun v1 h1 =>
  aHc r n kk18 x2 x3 x6 x7 x19 x20 v1 h1
noncomputable def rJ (r : RT) (n : Nat) (m : Nat) : eU :=
 Nat.rec (motive := fun _ => eU) (fun _ _ _ _ _ _ _ => none) (fun _ ih => aKi r n ih) m
noncomputable def aZk (r : RT) (n : Nat) : eU := rJ r n n
noncomputable def aGl (r : RT) (n : Nat) (x2 x3 x6 x7 x19 x20 : DV) (h0 : Hp) : aG :=
 aZk r n x2 x3 x6 x7 x19 x20 h0
noncomputable def yS (r : RT) (n : Nat) (x2 x3 x6 x7 : DV) (h0 : Hp) : aG :=
 bnd (aA x6 h0) fun v1 h1 =>
 bnd (cO v1 h1) fun v2 h2 =>
  aGl r n x2 x3 x6 x7 v2 (aK 0) h2
noncomputable def sJ (r : RT) (n : Nat) (x2 x3 x6 : DV) (h0 : Hp) : aG :=
 bnd (cF [.l0] h0) fun v1 h1 =>
  yS r n x2 x3 x6 v1 h1
noncomputable def tE (r : RT) (n : Nat) (x2 x3 : DV) (h0 : Hp) : aG :=
 bnd (aA x2 h0) fun v1 h1 =>
 bnd (cO v1 h1) fun v2 h2 =>
 bnd (cJ 1 8 [(aK 0)] v2 v2 h2) fun v3 h3 =>
 bnd (cF [.l0] h3) fun v4 h4 =>
 bnd (aI 1 v4 v3 h4) fun _ h5 =>
  sJ r n x2 x3 v4 h5
noncomputable def s174 (r : RT) (n : Nat) (x0 x1 : DV) (h0 : Hp) : aG :=
 bnd (cB x0 h0) fun v1 h1 =>
 bnd (cB x1 h1) fun v2 h2 =>
  tE r n v1 v2 h2
noncomputable abbrev c174 : Code := cf Tryz.f174
noncomputable abbrev aNf : Code := cR c174
noncomputable abbrev aDc : Code := cL aNf
noncomputable abbrev aHg : Code := cR aDc
noncomputable abbrev aCu : Code := cR aHg
noncomputable abbrev aFm : Code := cR aCu
noncomputable abbrev aEm : Code := cR aFm
noncomputable abbrev aHn : Code := cR aEm
noncomputable abbrev aCe : Code := cR aHn
noncomputable abbrev cOq : Code := cR aCe
noncomputable abbrev vE : Code := cL aCe
noncomputable abbrev uX : Code := cL vE
noncomputable abbrev iX : Code := cL uX
noncomputable abbrev aCf : Code := cR iX
noncomputable abbrev uT : Code := cL aCf
noncomputable abbrev uI : Code := cR uT
noncomputable abbrev vL : Code := cR uI
noncomputable abbrev uP : Code := cR vL
noncomputable abbrev uH : Code := cR uP
noncomputable abbrev vN : Code := cR uH
noncomputable abbrev cDw : Code := cR vN
noncomputable abbrev aVp : Code := cL vN
noncomputable abbrev aYb : Code := cL uH
noncomputable abbrev aYz : Code := cL uP
noncomputable abbrev aVs : Code := cL vL
noncomputable abbrev aWc : Code := cL uI
noncomputable abbrev aXz : Code := cL uT
noncomputable abbrev aVj : Code := cL iX
noncomputable abbrev aWs : Code := cL aHn
noncomputable abbrev aVk : Code := cL aEm
noncomputable abbrev aGv : Code := cL aFm
noncomputable abbrev qS : Code := cL aCu
noncomputable abbrev aEe : Code := cR qS
noncomputable abbrev uW : Code := cL aEe
noncomputable abbrev iY : Code := cL uW
noncomputable abbrev uZ : Code := cR iY
noncomputable abbrev vT : Code := cR uZ
noncomputable abbrev bUv : Code := cR vT
noncomputable abbrev aCt : Code := cL vT
noncomputable abbrev aSk : Code := cL uZ
noncomputable abbrev aYi : Code := cL iY
noncomputable abbrev aXh : Code := cL qS
noncomputable abbrev aHh : Code := cL aHg
noncomputable abbrev aHr : Code := cL aDc
noncomputable abbrev aGh : Code := cL c174
noncomputable abbrev r174 : K := aS CF Tryz.f174
noncomputable def D174 (r : RT) (n : Nat) (c : Code) (X : Nat → K) (k : K) : K := aP CF r 144 n c X r174 k
theorem cHg : D174 r n cOq x0 r174 = (K2 (bX r n) 6 9) :=
 (by kernel_rfl)
theorem bEq (kk9 : eU) : D174 r n cDw (xs (xs x0 2 (K2 (bX r n) 6 9)) 3 (K6 kk9 2 3 6 7 9 10)) (K6 kk9 2 3 6 7 9 10) = (K8 (vI r n kk9) 2 3 6 7 9 10 11 14) :=
 (by kernel_rfl)
theorem bCo (kk9 : eU) : D174 r n vN (xs (xs x0 2 (K2 (bX r n) 6 9)) 3 (K6 kk9 2 3 6 7 9 10)) (K6 kk9 2 3 6 7 9 10) = D174 r n aVp (xs (xs x0 2 (K2 (bX r n) 6 9)) 3 (K6 kk9 2 3 6 7 9 10)) (K8 (vI r n kk9) 2 3 6 7 9 10 11 14) :=
 congrArg (fun k => D174 r n aVp (xs (xs x0 2 (K2 (bX r n) 6 9)) 3 (K6 kk9 2 3 6 7 9 10)) k) (bEq r n kk9)
theorem bMh (kk9 : eU) : D174 r n vN (xs (xs x0 2 (K2 (bX r n) 6 9)) 3 (K6 kk9 2 3 6 7 9 10)) (K6 kk9 2 3 6 7 9 10) = (K10 (aFi r n kk9) 2 3 6 7 9 10 11 12 13 14) :=
 (bCo r n kk9).trans
 ((by kernel_rfl))
theorem bCw (kk9 : eU) : D174 r n uH (xs (xs x0 2 (K2 (bX r n) 6 9)) 3 (K6 kk9 2 3 6 7 9 10)) (K6 kk9 2 3 6 7 9 10) = D174 r n aYb (xs (xs x0 2 (K2 (bX r n) 6 9)) 3 (K6 kk9 2 3 6 7 9 10)) (K10 (aFi r n kk9) 2 3 6 7 9 10 11 12 13 14) :=
 congrArg (fun k => D174 r n aYb (xs (xs x0 2 (K2 (bX r n) 6 9)) 3 (K6 kk9 2 3 6 7 9 10)) k) (bMh r n kk9)
theorem bKc (kk9 : eU) : D174 r n uH (xs (xs x0 2 (K2 (bX r n) 6 9)) 3 (K6 kk9 2 3 6 7 9 10)) (K6 kk9 2 3 6 7 9 10) = (K10 (aHp r n kk9) 2 3 6 7 9 10 11 12 13 14) :=
 (bCw r n kk9).trans
 ((by kernel_rfl))
theorem bAe (kk9 : eU) : D174 r n uP (xs (xs x0 2 (K2 (bX r n) 6 9)) 3 (K6 kk9 2 3 6 7 9 10)) (K6 kk9 2 3 6 7 9 10) = D174 r n aYz (xs (xs x0 2 (K2 (bX r n) 6 9)) 3 (K6 kk9 2 3 6 7 9 10)) (K10 (aHp r n kk9) 2 3 6 7 9 10 11 12 13 14) :=
 congrArg (fun k => D174 r n aYz (xs (xs x0 2 (K2 (bX r n) 6 9)) 3 (K6 kk9 2 3 6 7 9 10)) k) (bKc r n kk9)
theorem bHy (kk9 : eU) : D174 r n uP (xs (xs x0 2 (K2 (bX r n) 6 9)) 3 (K6 kk9 2 3 6 7 9 10)) (K6 kk9 2 3 6 7 9 10) = (K9 (aDr r n kk9) 2 3 6 7 9 10 11 12 13) :=
 (bAe r n kk9).trans
 ((by kernel_rfl))
theorem bAx (kk9 : eU) : D174 r n vL (xs (xs x0 2 (K2 (bX r n) 6 9)) 3 (K6 kk9 2 3 6 7 9 10)) (K6 kk9 2 3 6 7 9 10) = D174 r n aVs (xs (xs x0 2 (K2 (bX r n) 6 9)) 3 (K6 kk9 2 3 6 7 9 10)) (K9 (aDr r n kk9) 2 3 6 7 9 10 11 12 13) :=
 congrArg (fun k => D174 r n aVs (xs (xs x0 2 (K2 (bX r n) 6 9)) 3 (K6 kk9 2 3 6 7 9 10)) k) (bHy r n kk9)
theorem bRa (kk9 : eU) : D174 r n vL (xs (xs x0 2 (K2 (bX r n) 6 9)) 3 (K6 kk9 2 3 6 7 9 10)) (K6 kk9 2 3 6 7 9 10) = (K7 (aCo r n kk9) 2 3 6 7 9 10 11) :=
 (bAx r n kk9).trans
 ((by kernel_rfl))
theorem bCd (kk9 : eU) : D174 r n uI (xs (xs x0 2 (K2 (bX r n) 6 9)) 3 (K6 kk9 2 3 6 7 9 10)) (K6 kk9 2 3 6 7 9 10) = D174 r n aWc (xs (xs x0 2 (K2 (bX r n) 6 9)) 3 (K6 kk9 2 3 6 7 9 10)) (K7 (aCo r n kk9) 2 3 6 7 9 10 11) :=
 congrArg (fun k => D174 r n aWc (xs (xs x0 2 (K2 (bX r n) 6 9)) 3 (K6 kk9 2 3 6 7 9 10)) k) (bRa r n kk9)
theorem bHg (kk9 : eU) : D174 r n uI (xs (xs x0 2 (K2 (bX r n) 6 9)) 3 (K6 kk9 2 3 6 7 9 10)) (K6 kk9 2 3 6 7 9 10) = (K7 (aGk r n kk9) 2 3 6 7 9 10 11) :=
 (bCd r n kk9).trans
 ((by kernel_rfl))
theorem aZu (kk9 : eU) : D174 r n uT (xs (xs x0 2 (K2 (bX r n) 6 9)) 3 (K6 kk9 2 3 6 7 9 10)) (K6 kk9 2 3 6 7 9 10) = D174 r n aXz (xs (xs x0 2 (K2 (bX r n) 6 9)) 3 (K6 kk9 2 3 6 7 9 10)) (K7 (aGk r n kk9) 2 3 6 7 9 10 11) :=
 congrArg (fun k => D174 r n aXz (xs (xs x0 2 (K2 (bX r n) 6 9)) 3 (K6 kk9 2 3 6 7 9 10)) k) (bHg r n kk9)
theorem bTn (kk9 : eU) : D174 r n aCf (xs x0 2 (K2 (bX r n) 6 9)) (K6 kk9 2 3 6 7 9 10) = (K6 (aFp r n kk9) 2 3 6 7 9 10) :=
 (by kernel_rfl : D174 r n aCf (xs x0 2 (K2 (bX r n) 6 9)) (K6 kk9 2 3 6 7 9 10) = D174 r n uT (xs (xs x0 2 (K2 (bX r n) 6 9)) 3 (K6 kk9 2 3 6 7 9 10)) (K6 kk9 2 3 6 7 9 10)).trans
 ((aZu r n kk9).trans
 ((by kernel_rfl)))
theorem bOn (kk9 : eU) : D174 r n iX (xs x0 2 (K2 (bX r n) 6 9)) (K6 kk9 2 3 6 7 9 10) = D174 r n aVj (xs x0 2 (K2 (bX r n) 6 9)) (K6 (aFp r n kk9) 2 3 6 7 9 10) :=
 congrArg (fun k => D174 r n aVj (xs x0 2 (K2 (bX r n) 6 9)) k) (bTn r n kk9)
theorem bKp (kk9 : eU) : D174 r n iX (xs x0 2 (K2 (bX r n) 6 9)) (K6 kk9 2 3 6 7 9 10) = (K6 (aZf r n kk9) 2 3 6 7 9 10) :=
 (bOn r n kk9).trans
 ((by kernel_rfl))
theorem bJu (m : Nat) : aO (fun kk => D174 r n iX (xs x0 2 (K2 (bX r n) 6 9)) kk) m = (K6 (vC r n m) 2 3 6 7 9 10) := by
 induction m with
 | zero => exact (by kernel_rfl : aO (fun kk => D174 r n iX (xs x0 2 (K2 (bX r n) 6 9)) kk) 0 = (K6 (vC r n 0) 2 3 6 7 9 10))
 | succ m ih =>
  refine (by kernel_rfl : aO (fun kk => D174 r n iX (xs x0 2 (K2 (bX r n) 6 9)) kk) (m + 1) = D174 r n iX (xs x0 2 (K2 (bX r n) 6 9)) (aO (fun kk => D174 r n iX (xs x0 2 (K2 (bX r n) 6 9)) kk) m)).trans ?_
  rw [ih]
  exact (bKp r n (vC r n m)).trans (by kernel_rfl)
theorem cGf : D174 r n uX (xs x0 2 (K2 (bX r n) 6 9)) (K2 (bX r n) 6 9) = (K6 (bTk r n) 2 3 6 7 9 10) :=
 (by kernel_rfl : D174 r n uX (xs x0 2 (K2 (bX r n) 6 9)) (K2 (bX r n) 6 9) = aO (fun kk => D174 r n iX (xs x0 2 (K2 (bX r n) 6 9)) kk) n).trans ((bJu r n n).trans (by kernel_rfl))
theorem bFx : D174 r n aCe x0 r174 = D174 r n vE x0 (K2 (bX r n) 6 9) :=
 congrArg (fun k => D174 r n vE x0 k) (cHg r n)
theorem bWb : D174 r n aCe x0 r174 = (K6 (aQp r n) 2 3 6 7 9 10) :=
 (bFx r n).trans
 ((by kernel_rfl : D174 r n vE x0 (K2 (bX r n) 6 9) = D174 r n uX (xs x0 2 (K2 (bX r n) 6 9)) (K2 (bX r n) 6 9)).trans
 ((cGf r n).trans (by kernel_rfl)))
theorem bSf : D174 r n aHn x0 r174 = D174 r n aWs x0 (K6 (aQp r n) 2 3 6 7 9 10) :=
 congrArg (fun k => D174 r n aWs x0 k) (bWb r n)
theorem bVp : D174 r n aHn x0 r174 = (K6 (aRi r n) 2 3 6 7 9 10) :=
 (bSf r n).trans
 ((by kernel_rfl))
theorem aZs : D174 r n aEm x0 r174 = D174 r n aVk x0 (K6 (aRi r n) 2 3 6 7 9 10) :=
 congrArg (fun k => D174 r n aVk x0 k) (bVp r n)
theorem cGm : D174 r n aEm x0 r174 = (K5 (wW r n) 2 3 6 7 9) :=
 (aZs r n).trans
 ((by kernel_rfl))
theorem bAs : D174 r n aFm x0 r174 = D174 r n aGv x0 (K5 (wW r n) 2 3 6 7 9) :=
 congrArg (fun k => D174 r n aGv x0 k) (cGm r n)
theorem bBi (q0 : cZ) : D174 r n aGv x0 (K5 q0 2 3 6 7 9) = fun (env : bF) (h : Hp) =>
 bnd (cF [(.b false)] h) fun v1 h1 =>
 bnd (aI 1 v1 (.b true) h1) fun _ h2 =>
  q0 (env 2) (env 3) (env 6) (env 7) v1 h2 := by kernel_rfl
theorem aRg : (fun (env : bF) (h : Hp) =>
 bnd (cF [(.b false)] h) fun v1 h1 =>
 bnd (aI 1 v1 (.b true) h1) fun _ h2 =>
  wW r n (env 2) (env 3) (env 6) (env 7) v1 h2) = (K4 (cQ r n) 2 3 6 7) := by kernel_rfl
theorem cDj : D174 r n aFm x0 r174 = (K4 (cQ r n) 2 3 6 7) :=
 (bAs r n).trans
 ((bBi r n (wW r n)).trans (aRg r n))
theorem bNn (kk18 : eU) : D174 r n bUv (xs x0 0 (K4 (cQ r n) 2 3 6 7)) (K6 kk18 2 3 6 7 19 20) = (K6 (mL r n kk18) 2 3 6 7 19 20) :=
 (by kernel_rfl)
theorem aMw (kk18 : eU) : D174 r n vT (xs x0 0 (K4 (cQ r n) 2 3 6 7)) (K6 kk18 2 3 6 7 19 20) = D174 r n aCt (xs x0 0 (K4 (cQ r n) 2 3 6 7)) (K6 (mL r n kk18) 2 3 6 7 19 20) :=
 congrArg (fun k => D174 r n aCt (xs x0 0 (K4 (cQ r n) 2 3 6 7)) k) (bNn r n kk18)
theorem aQa (kk18 : eU) (q0 : eU) (q1 : eY) : D174 r n aCt (xs x0 0 (K4 q1 2 3 6 7)) (K6 q0 2 3 6 7 19 20) = fun (env : bF) (h : Hp) =>
 bnd (aA (env 6) h) fun v1 h1 =>
 bnd (aF 1 v1 (env 20) h1) fun v2 h2 =>
 bnd (aI 1 v2 (.i .i64 (Int.negSucc 0)) h2) fun _ h3 =>
 bnd (aD .eql (env 20) (aK 0) h3) fun v4 h4 =>
 bnd (gD v4 false (some ((env 20), h4)) h4) fun v5 h5 =>
 bnd (gD v4 false (aD .gtr v5 (aK 1) h5) h5) fun v6 h6 =>
 bnd (gD v4 false (some (v6, h6)) h6) fun v7 h7 =>
 bnd (gD v7 true (aA (env 2) h7) h7) fun v8 h8 =>
 bnd (gD v7 true (some ((env 20), h8)) h8) fun v9 h9 =>
 bnd (gD v7 true (aD .sub v9 (aK 2) h9) h9) fun v10 h10 =>
 bnd (gD v7 true (aF 3 v8 v10 h10) h10) fun v11 h11 =>
 bnd (gD v7 true (aB 0 v11 h11) h11) fun v12 h12 =>
 bnd (gD v7 true (aA v12 h12) h12) fun v13 h13 =>
 bnd (gD v7 true (aD .eql v13 (aK 18) h13) h13) fun v14 h14 =>
 bnd (gD v4 false (aQ v7 v14 (.b false) h14) h14) fun v15 h15 =>
 bnd (gD v4 false (some (v15, h15)) h15) fun v16 h16 =>
 bnd (gD v16 true (aA (env 3) h16) h16) fun v17 h17 =>
 bnd (gD v16 true (some ((env 20), h17)) h17) fun v18 h18 =>
 bnd (gD v16 true (aF 1 v17 v18 h18) h18) fun v19 h19 =>
 bnd (gD v16 true (aA v19 h19) h19) fun v20 h20 =>
 bnd (gD v16 true (some ((env 20), h20)) h20) fun v21 h21 =>
 bnd (gD v16 true (aD .sub v21 (aK 2) h21) h21) fun v22 h22 =>
 bnd (gD v16 true (aD .eql v20 v22 h22) h22) fun v23 h23 =>
 bnd (gD v4 false (aQ v16 v23 (.b false) h23) h23) fun v24 h24 =>
 bnd (aQ v4 (.b true) v24 h24) fun v25 h25 =>
 aX v25 (
 bnd (aA (env 6) h25) fun v26 h26 =>
 bnd (aF 1 v26 (env 20) h26) fun v27 h27 =>
 bnd (aI 1 v27 (aK 0) h27) fun _ h28 =>
 bnd (aA (env 7) h28) fun v29 h29 =>
 bnd (aJ [(aK 0)] 1 [(0, 1, (env 20))] h29) fun v30 h30 =>
 bnd (bB 1 8 v29 v30 h30) fun v31 h31 =>
 bnd (aI 1 (env 7) v31 h31) fun _ h32 =>
      q0 (env 2) (env 3) (env 6) (env 7) (env 19) (env 20) h32) (
      q0 (env 2) (env 3) (env 6) (env 7) (env 19) (env 20) h25) := by kernel_rfl
theorem aJo (kk18 : eU) : (fun (env : bF) (h : Hp) =>
 bnd (aA (env 6) h) fun v1 h1 =>
 bnd (aF 1 v1 (env 20) h1) fun v2 h2 =>
 bnd (aI 1 v2 (.i .i64 (Int.negSucc 0)) h2) fun _ h3 =>
 bnd (aD .eql (env 20) (aK 0) h3) fun v4 h4 =>
 bnd (gD v4 false (some ((env 20), h4)) h4) fun v5 h5 =>
 bnd (gD v4 false (aD .gtr v5 (aK 1) h5) h5) fun v6 h6 =>
 bnd (gD v4 false (some (v6, h6)) h6) fun v7 h7 =>
 bnd (gD v7 true (aA (env 2) h7) h7) fun v8 h8 =>
 bnd (gD v7 true (some ((env 20), h8)) h8) fun v9 h9 =>
 bnd (gD v7 true (aD .sub v9 (aK 2) h9) h9) fun v10 h10 =>
 bnd (gD v7 true (aF 3 v8 v10 h10) h10) fun v11 h11 =>
 bnd (gD v7 true (aB 0 v11 h11) h11) fun v12 h12 =>
 bnd (gD v7 true (aA v12 h12) h12) fun v13 h13 =>
 bnd (gD v7 true (aD .eql v13 (aK 18) h13) h13) fun v14 h14 =>
 bnd (gD v4 false (aQ v7 v14 (.b false) h14) h14) fun v15 h15 =>
 bnd (gD v4 false (some (v15, h15)) h15) fun v16 h16 =>
 bnd (gD v16 true (aA (env 3) h16) h16) fun v17 h17 =>
 bnd (gD v16 true (some ((env 20), h17)) h17) fun v18 h18 =>
 bnd (gD v16 true (aF 1 v17 v18 h18) h18) fun v19 h19 =>
 bnd (gD v16 true (aA v19 h19) h19) fun v20 h20 =>
 bnd (gD v16 true (some ((env 20), h20)) h20) fun v21 h21 =>
 bnd (gD v16 true (aD .sub v21 (aK 2) h21) h21) fun v22 h22 =>
 bnd (gD v16 true (aD .eql v20 v22 h22) h22) fun v23 h23 =>
 bnd (gD v4 false (aQ v16 v23 (.b false) h23) h23) fun v24 h24 =>
 bnd (aQ v4 (.b true) v24 h24) fun v25 h25 =>
 aX v25 (
 bnd (aA (env 6) h25) fun v26 h26 =>
 bnd (aF 1 v26 (env 20) h26) fun v27 h27 =>
 bnd (aI 1 v27 (aK 0) h27) fun _ h28 =>
 bnd (aA (env 7) h28) fun v29 h29 =>
 bnd (aJ [(aK 0)] 1 [(0, 1, (env 20))] h29) fun v30 h30 =>
 bnd (bB 1 8 v29 v30 h30) fun v31 h31 =>
 bnd (aI 1 (env 7) v31 h31) fun _ h32 =>
      mL r n kk18 (env 2) (env 3) (env 6) (env 7) (env 19) (env 20) h32) (
      mL r n kk18 (env 2) (env 3) (env 6) (env 7) (env 19) (env 20) h25)) = (K6 (vA r n kk18) 2 3 6 7 19 20) := by kernel_rfl
theorem bTb (kk18 : eU) : D174 r n vT (xs x0 0 (K4 (cQ r n) 2 3 6 7)) (K6 kk18 2 3 6 7 19 20) = (K6 (vA r n kk18) 2 3 6 7 19 20) :=
 (aMw r n kk18).trans
 ((aQa r n kk18 (mL r n kk18) (cQ r n)).trans (aJo r n kk18))
theorem aNr (kk18 : eU) : D174 r n uZ (xs x0 0 (K4 (cQ r n) 2 3 6 7)) (K6 kk18 2 3 6 7 19 20) = D174 r n aSk (xs x0 0 (K4 (cQ r n) 2 3 6 7)) (K6 (vA r n kk18) 2 3 6 7 19 20) :=
 congrArg (fun k => D174 r n aSk (xs x0 0 (K4 (cQ r n) 2 3 6 7)) k) (bTb r n kk18)
theorem bOv (kk18 : eU) : D174 r n uZ (xs x0 0 (K4 (cQ r n) 2 3 6 7)) (K6 kk18 2 3 6 7 19 20) = (K7 (aHc r n kk18) 2 3 6 7 19 20 21) :=
 (aNr r n kk18).trans
 ((by kernel_rfl))
theorem aNg (kk18 : eU) : D174 r n iY (xs x0 0 (K4 (cQ r n) 2 3 6 7)) (K6 kk18 2 3 6 7 19 20) = D174 r n aYi (xs x0 0 (K4 (cQ r n) 2 3 6 7)) (K7 (aHc r n kk18) 2 3 6 7 19 20 21) :=
 congrArg (fun k => D174 r n aYi (xs x0 0 (K4 (cQ r n) 2 3 6 7)) k) (bOv r n kk18)
theorem bCs (kk18 : eU) : D174 r n iY (xs x0 0 (K4 (cQ r n) 2 3 6 7)) (K6 kk18 2 3 6 7 19 20) = (K6 (aKi r n kk18) 2 3 6 7 19 20) :=
 (aNg r n kk18).trans
 ((by kernel_rfl))
theorem bAl (m : Nat) : aO (fun kk => D174 r n iY (xs x0 0 (K4 (cQ r n) 2 3 6 7)) kk) m = (K6 (rJ r n m) 2 3 6 7 19 20) := by
 induction m with
 | zero => exact (by kernel_rfl : aO (fun kk => D174 r n iY (xs x0 0 (K4 (cQ r n) 2 3 6 7)) kk) 0 = (K6 (rJ r n 0) 2 3 6 7 19 20))
 | succ m ih =>
  refine (by kernel_rfl : aO (fun kk => D174 r n iY (xs x0 0 (K4 (cQ r n) 2 3 6 7)) kk) (m + 1) = D174 r n iY (xs x0 0 (K4 (cQ r n) 2 3 6 7)) (aO (fun kk => D174 r n iY (xs x0 0 (K4 (cQ r n) 2 3 6 7)) kk) m)).trans ?_
  rw [ih]
  exact (bCs r n (rJ r n m)).trans (by kernel_rfl)
theorem bJr : D174 r n uW (xs x0 0 (K4 (cQ r n) 2 3 6 7)) (K4 (cQ r n) 2 3 6 7) = (K6 (aZk r n) 2 3 6 7 19 20) :=
 (by kernel_rfl : D174 r n uW (xs x0 0 (K4 (cQ r n) 2 3 6 7)) (K4 (cQ r n) 2 3 6 7) = aO (fun kk => D174 r n iY (xs x0 0 (K4 (cQ r n) 2 3 6 7)) kk) n).trans ((bAl r n n).trans (by kernel_rfl))
theorem bJd : D174 r n aEe x0 (K4 (cQ r n) 2 3 6 7) = (K6 (aGl r n) 2 3 6 7 19 20) :=
 (by kernel_rfl : D174 r n aEe x0 (K4 (cQ r n) 2 3 6 7) = D174 r n uW (xs x0 0 (K4 (cQ r n) 2 3 6 7)) (K4 (cQ r n) 2 3 6 7)).trans
 ((bJr r n).trans (by kernel_rfl))
theorem bDb : D174 r n aCu x0 r174 = D174 r n qS x0 (K4 (cQ r n) 2 3 6 7) :=
 congrArg (fun k => D174 r n qS x0 k) (cDj r n)
theorem bBv : D174 r n qS x0 (K4 (cQ r n) 2 3 6 7) = D174 r n aXh x0 (K6 (aGl r n) 2 3 6 7 19 20) :=
 congrArg (fun k => D174 r n aXh x0 k) (bJd r n)
theorem cHi : D174 r n aCu x0 r174 = (K4 (yS r n) 2 3 6 7) :=
 (bDb r n).trans
 ((bBv r n).trans
 ((by kernel_rfl)))
theorem bBq : D174 r n aHg x0 r174 = D174 r n aHh x0 (K4 (yS r n) 2 3 6 7) :=
 congrArg (fun k => D174 r n aHh x0 k) (cHi r n)
theorem bAt (q0 : eY) : D174 r n aHh x0 (K4 q0 2 3 6 7) = fun (env : bF) (h : Hp) =>
 bnd (cF [.l0] h) fun v1 h1 =>
  q0 (env 2) (env 3) (env 6) v1 h1 := by kernel_rfl
theorem aQs : (fun (env : bF) (h : Hp) =>
 bnd (cF [.l0] h) fun v1 h1 =>
  yS r n (env 2) (env 3) (env 6) v1 h1) = (K3 (sJ r n) 2 3 6) := by kernel_rfl
theorem bYd : D174 r n aHg x0 r174 = (K3 (sJ r n) 2 3 6) :=
 (bBq r n).trans
 ((bAt r n (yS r n)).trans (aQs r n))
theorem bCv : D174 r n aDc x0 r174 = D174 r n aHr x0 (K3 (sJ r n) 2 3 6) :=
 congrArg (fun k => D174 r n aHr x0 k) (bYd r n)
theorem bAj (q0 : mE) : D174 r n aHr x0 (K3 q0 2 3 6) = fun (env : bF) (h : Hp) =>
 bnd (aA (env 2) h) fun v1 h1 =>
 bnd (cO v1 h1) fun v2 h2 =>
 bnd (cJ 1 8 [(aK 0)] v2 v2 h2) fun v3 h3 =>
 bnd (cF [.l0] h3) fun v4 h4 =>
 bnd (aI 1 v4 v3 h4) fun _ h5 =>
  q0 (env 2) (env 3) v4 h5 := by kernel_rfl
theorem aNs : (fun (env : bF) (h : Hp) =>
 bnd (aA (env 2) h) fun v1 h1 =>
 bnd (cO v1 h1) fun v2 h2 =>
 bnd (cJ 1 8 [(aK 0)] v2 v2 h2) fun v3 h3 =>
 bnd (cF [.l0] h3) fun v4 h4 =>
 bnd (aI 1 v4 v3 h4) fun _ h5 =>
  sJ r n (env 2) (env 3) v4 h5) = (K2 (tE r n) 2 3) := by kernel_rfl
theorem bYy : D174 r n aNf x0 r174 = (K2 (tE r n) 2 3) :=
 (by kernel_rfl : D174 r n aNf x0 r174 = D174 r n aDc x0 r174).trans
 ((bCv r n).trans
 ((bAj r n (sJ r n)).trans (aNs r n)))
theorem cAn : D174 r n c174 x0 r174 = D174 r n aGh x0 (K2 (tE r n) 2 3) :=
 congrArg (fun k => D174 r n aGh x0 k) (bYy r n)
theorem cCg (q0 : uL) : D174 r n aGh x0 (K2 q0 2 3) = fun (env : bF) (h : Hp) =>
 bnd (cB (env 0) h) fun v1 h1 =>
 bnd (cB (env 1) h1) fun v2 h2 =>
  q0 v1 v2 h2 := by kernel_rfl
theorem bNw : (fun (env : bF) (h : Hp) =>
 bnd (cB (env 0) h) fun v1 h1 =>
 bnd (cB (env 1) h1) fun v2 h2 =>
  tE r n v1 v2 h2) = (K2 (s174 r n) 0 1) := by kernel_rfl
theorem dDx : D174 r n c174 x0 r174 = (K2 (s174 r n) 0 1) :=
 (cAn r n).trans
 ((cCg r n (tE r n)).trans (bNw r n))
theorem cLt : aE CF r n 174 args h = s174 r n (aT args 0) (aT args 1) h :=
 (by kernel_rfl : aE CF r n 174 args h = D174 r n c174 x0 r174 (aH args) h).trans ((congrFun (congrFun (dDx r n) (aH args)) h).trans (by kernel_rfl))
noncomputable def s178 (r : RT) (n : Nat) (x0 : DV) (h0 : Hp) : aG :=
 bnd (r 147 [x0] h0) fun v1 h1 =>
 bnd (gD v1 false (some (x0, h1)) h1) fun v2 h2 =>
 bnd (gD v1 false (r 150 [v2] h2) h2) fun v3 h3 =>
 bnd (aQ v1 (.b true) v3 h3) fun v4 h4 =>
 some (v4, h4)
noncomputable abbrev c178 : Code := cf Tryz.f178
noncomputable abbrev r178 : K := aS CF Tryz.f178
noncomputable def D178 (r : RT) (n : Nat) (c : Code) (X : Nat → K) (k : K) : K := aP CF r 9 n c X r178 k
theorem cXg : D178 r n c178 x0 r178 = (K1 (s178 r n) 0) :=
 (by kernel_rfl)
theorem cQj : aE CF r n 178 args h = s178 r n (aT args 0) h :=
 (by kernel_rfl : aE CF r n 178 args h = D178 r n c178 x0 r178 (aH args) h).trans ((congrFun (congrFun (cXg r n) (aH args)) h).trans (by kernel_rfl))
end Go.Dd

namespace Go.Dd
open Go.Proofs
variable (r : RT) (n : Nat) (args : List DV) (h : Hp)
noncomputable def s187 (r : RT) (n : Nat) (x0 x1 : DV) (h0 : Hp) : aG :=
 bnd (cB x0 h0) fun v1 h1 =>
 bnd (aB 0 v1 h1) fun v2 h2 =>
 bnd (aA v2 h2) fun v3 h3 =>
 bnd (aA x1 h3) fun v4 h4 =>
 bnd (dA .eql v3 v4 h4) fun v5 h5 =>
 some (v5, h5)
noncomputable abbrev c187 : Code := cf Tryz.f187
noncomputable abbrev r187 : K := aS CF Tryz.f187
noncomputable def D187 (r : RT) (n : Nat) (c : Code) (X : Nat → K) (k : K) : K := aP CF r 8 n c X r187 k
theorem cXn : D187 r n c187 x0 r187 = (K2 (s187 r n) 0 1) :=
 (by kernel_rfl)
theorem cTb : aE CF r n 187 args h = s187 r n (aT args 0) (aT args 1) h :=
 (by kernel_rfl : aE CF r n 187 args h = D187 r n c187 x0 r187 (aH args) h).trans ((congrFun (congrFun (cXn r n) (aH args)) h).trans (by kernel_rfl))
noncomputable def fB (r : RT) (n : Nat) (h0 : Hp) : aG :=
 some ((.i .i64 (Int.negSucc 0)), h0)
noncomputable def aUw (r : RT) (n : Nat) (kk4 : eY) (x0 x1 x7 x8 : DV) (h0 : Hp) : aG :=
 bnd (aD .lss x8 x7 h0) fun v1 h1 =>
 aX v1 (
 bnd (aF 4 x0 x8 h1) fun v2 h2 =>
 bnd (aN 4 v2 h2) fun v3 h3 =>
 bnd (jS CF r x1 [v3] h3) fun v4 h4 =>
 aX v4 (
 some (x8, h4)) (
 bnd (aD .add x8 (aK 1) h4) fun v5 h5 =>
    kk4 x0 x1 x7 v5 h5)) (
      fB r n h1)
noncomputable def vQ (r : RT) (n : Nat) (m : Nat) : eY :=
 Nat.rec (motive := fun _ => eY) (fun _ _ _ _ _ => none) (fun _ ih => aUw r n ih) m
noncomputable def bHt (r : RT) (n : Nat) : eY := vQ r n n
noncomputable def aQm (r : RT) (n : Nat) (x0 x1 x7 x8 : DV) (h0 : Hp) : aG :=
 bHt r n x0 x1 x7 x8 h0
noncomputable def aOa (r : RT) (n : Nat) (x0 x1 : DV) (h0 : Hp) : aG :=
 bnd (cO x0 h0) fun v1 h1 =>
  aQm r n x0 x1 v1 (aK 0) h1
noncomputable def s188 (r : RT) (n : Nat) (x0 x1 : DV) (h0 : Hp) : aG :=
 aOa r n x0 x1 h0
noncomputable abbrev c188 : Code := cf Tryz.f188
noncomputable abbrev aHo : Code := cR c188
noncomputable abbrev cUp : Code := cR aHo
noncomputable abbrev yF : Code := cL aHo
noncomputable abbrev aNt : Code := cR yF
noncomputable abbrev aCi : Code := cL aNt
noncomputable abbrev pO : Code := cL aCi
noncomputable abbrev bJt : Code := cL yF
noncomputable abbrev bFz : Code := cL c188
noncomputable abbrev r188 : K := aS CF Tryz.f188
noncomputable def D188 (r : RT) (n : Nat) (c : Code) (X : Nat → K) (k : K) : K := aP CF r 19 n c X r188 k
theorem cEf : D188 r n cUp x0 r188 = (K0 (fB r n)) :=
 (by kernel_rfl)
theorem bJp (kk4 : eY) : D188 r n pO (xs x0 0 (K0 (fB r n))) (K4 kk4 0 1 7 8) = (K4 (aUw r n kk4) 0 1 7 8) :=
 (by kernel_rfl)
theorem bIb (m : Nat) : aO (fun kk => D188 r n pO (xs x0 0 (K0 (fB r n))) kk) m = (K4 (vQ r n m) 0 1 7 8) := by
 induction m with
 | zero => exact (by kernel_rfl : aO (fun kk => D188 r n pO (xs x0 0 (K0 (fB r n))) kk) 0 = (K4 (vQ r n 0) 0 1 7 8))
 | succ m ih =>
  refine (by kernel_rfl : aO (fun kk => D188 r n pO (xs x0 0 (K0 (fB r n))) kk) (m + 1) = D188 r n pO (xs x0 0 (K0 (fB r n))) (aO (fun kk => D188 r n pO (xs x0 0 (K0 (fB r n))) kk) m)).trans ?_
  rw [ih]
  exact (bJp r n (vQ r n m)).trans (by kernel_rfl)
theorem cCl : D188 r n aCi (xs x0 0 (K0 (fB r n))) (K0 (fB r n)) = (K4 (bHt r n) 0 1 7 8) :=
 (by kernel_rfl : D188 r n aCi (xs x0 0 (K0 (fB r n))) (K0 (fB r n)) = aO (fun kk => D188 r n pO (xs x0 0 (K0 (fB r n))) kk) n).trans ((bIb r n n).trans (by kernel_rfl))
theorem cEc : D188 r n aNt x0 (K0 (fB r n)) = (K4 (aQm r n) 0 1 7 8) :=
 (by kernel_rfl : D188 r n aNt x0 (K0 (fB r n)) = D188 r n aCi (xs x0 0 (K0 (fB r n))) (K0 (fB r n))).trans
 ((cCl r n).trans (by kernel_rfl))
theorem bHk : D188 r n aHo x0 r188 = D188 r n yF x0 (K0 (fB r n)) :=
 congrArg (fun k => D188 r n yF x0 k) (cEf r n)
theorem bKn : D188 r n yF x0 (K0 (fB r n)) = D188 r n bJt x0 (K4 (aQm r n) 0 1 7 8) :=
 congrArg (fun k => D188 r n bJt x0 k) (cEc r n)
theorem cCv : D188 r n aHo x0 r188 = (K2 (aOa r n) 0 1) :=
 (bHk r n).trans
 ((bKn r n).trans
 ((by kernel_rfl)))
theorem cWa : D188 r n c188 x0 r188 = D188 r n bFz x0 (K2 (aOa r n) 0 1) :=
 congrArg (fun k => D188 r n bFz x0 k) (cCv r n)
theorem dCw : D188 r n c188 x0 r188 = (K2 (s188 r n) 0 1) :=
 (cWa r n).trans
 ((by kernel_rfl))
theorem cUf : aE CF r n 188 args h = s188 r n (aT args 0) (aT args 1) h :=
 (by kernel_rfl : aE CF r n 188 args h = D188 r n c188 x0 r188 (aH args) h).trans ((congrFun (congrFun (dCw r n) (aH args)) h).trans (by kernel_rfl))
noncomputable def s196 (r : RT) (n : Nat) (x0 x1 : DV) (h0 : Hp) : aG :=
 bnd (cB x1 h0) fun v1 h1 =>
 bnd (aN 6 v1 h1) fun v2 h2 =>
 bnd (r 224 [v2] h2) fun v3 h3 =>
 aX v3 (
 bnd (r 131 [x0, (aK 1), (aK 0), (aK 0)] h3) fun v4 h4 =>
 some ((aK 15), h4)) (
 bnd (aN 6 v1 h3) fun v5 h5 =>
 bnd (r 130 [x0, v5] h5) fun v6 h6 =>
 some ((aK 14), h6))
noncomputable abbrev c196 : Code := cf Tryz.f196
noncomputable abbrev r196 : K := aS CF Tryz.f196
noncomputable def D196 (r : RT) (n : Nat) (c : Code) (X : Nat → K) (k : K) : K := aP CF r 12 n c X r196 k
theorem cYz : D196 r n c196 x0 r196 = (K2 (s196 r n) 0 1) :=
 (by kernel_rfl)
theorem cLu : aE CF r n 196 args h = s196 r n (aT args 0) (aT args 1) h :=
 (by kernel_rfl : aE CF r n 196 args h = D196 r n c196 x0 r196 (aH args) h).trans ((congrFun (congrFun (cYz r n) (aH args)) h).trans (by kernel_rfl))
noncomputable def dH (r : RT) (n : Nat) (x4 : DV) (h0 : Hp) : aG :=
 some (x4, h0)
noncomputable def aHq (r : RT) (n : Nat) (kk5 : eY) (x0 x1 x4 x5 : DV) (h0 : Hp) : aG :=
 bnd (aD .add x5 (aK 1) h0) fun v1 h1 =>
  kk5 x0 x1 x4 v1 h1
noncomputable def aQh (r : RT) (n : Nat) (kk5 : eY) (x0 x1 x4 x5 : DV) (h0 : Hp) : aG :=
 bnd (aA x1 h0) fun v1 h1 =>
 bnd (r 202 [v1, x5] h1) fun v2 h2 =>
 bnd (aC 0 v2 h2) fun v3 h3 =>
 bnd (aC 1 v2 h3) fun v4 h4 =>
 bnd (gD v4 true (some (x0, h4)) h4) fun v5 h5 =>
 bnd (gD v4 true (some (v3, h5)) h5) fun v6 h6 =>
 bnd (gD v4 true (aD .lss v5 v6 h6) h6) fun v7 h7 =>
 bnd (aQ v4 v7 (.b false) h7) fun v8 h8 =>
 aX v8 (
  aHq r n kk5 x0 x1 x5 x5 h8) (
  aHq r n kk5 x0 x1 x4 x5 h8)
noncomputable def aSr (r : RT) (n : Nat) (kk5 : eY) (x0 x1 x4 x5 : DV) (h0 : Hp) : aG :=
 bnd (aD .add x5 (aK 2) h0) fun v1 h1 =>
 bnd (aD .leq v1 x0 h1) fun v2 h2 =>
 aX v2 (
   aQh r n kk5 x0 x1 x4 x5 h2) (
   dH r n x4 h2)
noncomputable def vM (r : RT) (n : Nat) (m : Nat) : eY :=
 Nat.rec (motive := fun _ => eY) (fun _ _ _ _ _ => none) (fun _ ih => aSr r n ih) m
noncomputable def bLx (r : RT) (n : Nat) : eY := vM r n n
noncomputable def aRd (r : RT) (n : Nat) (x0 x1 x4 x5 : DV) (h0 : Hp) : aG :=
 bLx r n x0 x1 x4 x5 h0
noncomputable def aNw (r : RT) (n : Nat) (x0 x1 x4 : DV) (h0 : Hp) : aG :=
 aRd r n x0 x1 x4 (aK 0) h0
noncomputable def aQx (r : RT) (n : Nat) (x0 x1 : DV) (h0 : Hp) : aG :=
 aNw r n x0 x1 (.i .i64 (Int.negSucc 0)) h0
noncomputable def s201 (r : RT) (n : Nat) (x0 x1 : DV) (h0 : Hp) : aG :=
 aQx r n x0 x1 h0
noncomputable abbrev c201 : Code := cf Tryz.f201
noncomputable abbrev aIb : Code := cR c201
noncomputable abbrev aFa : Code := cR aIb
noncomputable abbrev cQk : Code := cR aFa
noncomputable abbrev wR : Code := cL aFa
noncomputable abbrev aOf : Code := cR wR
noncomputable abbrev aGo : Code := cL aOf
noncomputable abbrev lD : Code := cL aGo
noncomputable abbrev aGt : Code := cR lD
noncomputable abbrev cWi : Code := cR aGt
noncomputable abbrev aUg : Code := cL aGt
noncomputable abbrev aXx : Code := cL lD
noncomputable abbrev aSv : Code := cL wR
noncomputable abbrev aTz : Code := cL aIb
noncomputable abbrev aXd : Code := cL c201
noncomputable abbrev r201 : K := aS CF Tryz.f201
noncomputable def D201 (r : RT) (n : Nat) (c : Code) (X : Nat → K) (k : K) : K := aP CF r 28 n c X r201 k
theorem bXo : D201 r n cQk x0 r201 = (K1 (dH r n) 4) :=
 (by kernel_rfl)
theorem bWq (kk5 : eY) : D201 r n cWi (xs x0 0 (K1 (dH r n) 4)) (K4 kk5 0 1 4 5) = (K4 (aHq r n kk5) 0 1 4 5) :=
 (by kernel_rfl)
theorem bRu (kk5 : eY) : D201 r n aGt (xs x0 0 (K1 (dH r n) 4)) (K4 kk5 0 1 4 5) = D201 r n aUg (xs x0 0 (K1 (dH r n) 4)) (K4 (aHq r n kk5) 0 1 4 5) :=
 congrArg (fun k => D201 r n aUg (xs x0 0 (K1 (dH r n) 4)) k) (bWq r n kk5)
theorem cDe (kk5 : eY) : D201 r n aGt (xs x0 0 (K1 (dH r n) 4)) (K4 kk5 0 1 4 5) = (K4 (aQh r n kk5) 0 1 4 5) :=
 (bRu r n kk5).trans
 ((by kernel_rfl))
theorem bJq (kk5 : eY) : D201 r n lD (xs x0 0 (K1 (dH r n) 4)) (K4 kk5 0 1 4 5) = D201 r n aXx (xs x0 0 (K1 (dH r n) 4)) (K4 (aQh r n kk5) 0 1 4 5) :=
 congrArg (fun k => D201 r n aXx (xs x0 0 (K1 (dH r n) 4)) k) (cDe r n kk5)
theorem bIm (kk5 : eY) : D201 r n lD (xs x0 0 (K1 (dH r n) 4)) (K4 kk5 0 1 4 5) = (K4 (aSr r n kk5) 0 1 4 5) :=
 (bJq r n kk5).trans
 ((by kernel_rfl))
theorem bIy (m : Nat) : aO (fun kk => D201 r n lD (xs x0 0 (K1 (dH r n) 4)) kk) m = (K4 (vM r n m) 0 1 4 5) := by
 induction m with
 | zero => exact (by kernel_rfl : aO (fun kk => D201 r n lD (xs x0 0 (K1 (dH r n) 4)) kk) 0 = (K4 (vM r n 0) 0 1 4 5))
 | succ m ih =>
  refine (by kernel_rfl : aO (fun kk => D201 r n lD (xs x0 0 (K1 (dH r n) 4)) kk) (m + 1) = D201 r n lD (xs x0 0 (K1 (dH r n) 4)) (aO (fun kk => D201 r n lD (xs x0 0 (K1 (dH r n) 4)) kk) m)).trans ?_
  rw [ih]
  exact (bIm r n (vM r n m)).trans (by kernel_rfl)
theorem cEs : D201 r n aGo (xs x0 0 (K1 (dH r n) 4)) (K1 (dH r n) 4) = (K4 (bLx r n) 0 1 4 5) :=
 (by kernel_rfl : D201 r n aGo (xs x0 0 (K1 (dH r n) 4)) (K1 (dH r n) 4) = aO (fun kk => D201 r n lD (xs x0 0 (K1 (dH r n) 4)) kk) n).trans ((bIy r n n).trans (by kernel_rfl))
theorem bUm : D201 r n aOf x0 (K1 (dH r n) 4) = (K4 (aRd r n) 0 1 4 5) :=
 (by kernel_rfl : D201 r n aOf x0 (K1 (dH r n) 4) = D201 r n aGo (xs x0 0 (K1 (dH r n) 4)) (K1 (dH r n) 4)).trans
 ((cEs r n).trans (by kernel_rfl))
theorem bMm : D201 r n aFa x0 r201 = D201 r n wR x0 (K1 (dH r n) 4) :=
 congrArg (fun k => D201 r n wR x0 k) (bXo r n)
theorem bFi : D201 r n wR x0 (K1 (dH r n) 4) = D201 r n aSv x0 (K4 (aRd r n) 0 1 4 5) :=
 congrArg (fun k => D201 r n aSv x0 k) (bUm r n)
theorem cCt : D201 r n aFa x0 r201 = (K3 (aNw r n) 0 1 4) :=
 (bMm r n).trans
 ((bFi r n).trans
 ((by kernel_rfl)))
theorem bEh : D201 r n aIb x0 r201 = D201 r n aTz x0 (K3 (aNw r n) 0 1 4) :=
 congrArg (fun k => D201 r n aTz x0 k) (cCt r n)
theorem bTr : D201 r n aIb x0 r201 = (K2 (aQx r n) 0 1) :=
 (bEh r n).trans
 ((by kernel_rfl))
theorem cPl : D201 r n c201 x0 r201 = D201 r n aXd x0 (K2 (aQx r n) 0 1) :=
 congrArg (fun k => D201 r n aXd x0 k) (bTr r n)
theorem cZm : D201 r n c201 x0 r201 = (K2 (s201 r n) 0 1) :=
 (cPl r n).trans
 ((by kernel_rfl))
theorem cNo : aE CF r n 201 args h = s201 r n (aT args 0) (aT args 1) h :=
 (by kernel_rfl : aE CF r n 201 args h = D201 r n c201 x0 r201 (aH args) h).trans ((congrFun (congrFun (cZm r n) (aH args)) h).trans (by kernel_rfl))
noncomputable def s202 (r : RT) (n : Nat) (x0 x1 : DV) (h0 : Hp) : aG :=
 bnd (aF 3 x0 x1 h0) fun v1 h1 =>
 bnd (aB 0 v1 h1) fun v2 h2 =>
 bnd (aA v2 h2) fun v3 h3 =>
 bnd (aD .neq v3 (aK 18) h3) fun v4 h4 =>
 bnd (gD v4 false (some (x1, h4)) h4) fun v5 h5 =>
 bnd (gD v4 false (aD .add v5 (aK 1) h5) h5) fun v6 h6 =>
 bnd (gD v4 false (some (x0, h6)) h6) fun v7 h7 =>
 bnd (gD v4 false (cO v7 h7) h7) fun v8 h8 =>
 bnd (gD v4 false (aD .geq v6 v8 h8) h8) fun v9 h9 =>
 bnd (aQ v4 (.b true) v9 h9) fun v10 h10 =>
 bnd (gD v10 false (some (x0, h10)) h10) fun v11 h11 =>
 bnd (gD v10 false (some (x1, h11)) h11) fun v12 h12 =>
 bnd (gD v10 false (aD .add v12 (aK 1) h12) h12) fun v13 h13 =>
 bnd (gD v10 false (aF 3 v11 v13 h13) h13) fun v14 h14 =>
 bnd (gD v10 false (aB 0 v14 h14) h14) fun v15 h15 =>
 bnd (gD v10 false (aA v15 h15) h15) fun v16 h16 =>
 bnd (gD v10 false (aD .neq v16 (aK 16) h16) h16) fun v17 h17 =>
 bnd (aQ v10 (.b true) v17 h17) fun v18 h18 =>
 aX v18 (
 some (.t [(aK 0), (.b false)], h18)) (
 bnd (aD .add x1 (aK 1) h18) fun v19 h19 =>
 bnd (aF 3 x0 v19 h19) fun v20 h20 =>
 bnd (aN 3 v20 h20) fun v21 h21 =>
 bnd (r 203 [v21] h21) fun v22 h22 =>
 bnd (aD .add x1 (aK 2) h22) fun v23 h23 =>
 bnd (aD .gtr v22 v23 h23) fun v24 h24 =>
 some (.t [v22, v24], h24))
noncomputable abbrev c202 : Code := cf Tryz.f202
noncomputable abbrev r202 : K := aS CF Tryz.f202
noncomputable def D202 (r : RT) (n : Nat) (c : Code) (X : Nat → K) (k : K) : K := aP CF r 40 n c X r202 k
theorem dDw : D202 r n c202 x0 r202 = (K2 (s202 r n) 0 1) :=
 (by kernel_rfl)
theorem cUx : aE CF r n 202 args h = s202 r n (aT args 0) (aT args 1) h :=
 (by kernel_rfl : aE CF r n 202 args h = D202 r n c202 x0 r202 (aH args) h).trans ((congrFun (congrFun (dDw r n) (aH args)) h).trans (by kernel_rfl))
noncomputable def s203 (r : RT) (n : Nat) (x0 : DV) (h0 : Hp) : aG :=
 bnd (cB x0 h0) fun v1 h1 =>
 bnd (aB 0 v1 h1) fun v2 h2 =>
 bnd (aA v2 h2) fun v3 h3 =>
 bnd (r 225 [v3] h3) fun v4 h4 =>
 bnd (jW .not v4 h4) fun v5 h5 =>
 aX v5 (
 some ((.i .i64 (Int.negSucc 0)), h5)) (
 bnd (aB 1 v1 h5) fun v6 h6 =>
 bnd (aA v6 h6) fun v7 h7 =>
 bnd (aB 2 v1 h7) fun v8 h8 =>
 bnd (aA v8 h8) fun v9 h9 =>
 bnd (dO .shl v9 (.i .u64 (Int.ofNat 8)) h9) fun v10 h10 =>
 bnd (aD .add v7 v10 h10) fun v11 h11 =>
 some (v11, h11))
noncomputable abbrev c203 : Code := cf Tryz.f203
noncomputable abbrev r203 : K := aS CF Tryz.f203
noncomputable def D203 (r : RT) (n : Nat) (c : Code) (X : Nat → K) (k : K) : K := aP CF r 13 n c X r203 k
theorem dDj : D203 r n c203 x0 r203 = (K1 (s203 r n) 0) :=
 (by kernel_rfl)
theorem cUh : aE CF r n 203 args h = s203 r n (aT args 0) h :=
 (by kernel_rfl : aE CF r n 203 args h = D203 r n c203 x0 r203 (aH args) h).trans ((congrFun (congrFun (dDj r n) (aH args)) h).trans (by kernel_rfl))
noncomputable def s204 (r : RT) (n : Nat) (x0 x1 x2 x3 x4 x5 x6 x7 : DV) (h0 : Hp) : aG :=
 bnd (aA x3 h0) fun v1 h1 =>
 bnd (cO v1 h1) fun v2 h2 =>
 bnd (aD .geq x0 v2 h2) fun v3 h3 =>
 bnd (gD v3 false (aA x4 h3) h3) fun v4 h4 =>
 bnd (gD v3 false (some (x0, h4)) h4) fun v5 h5 =>
 bnd (gD v3 false (aF 1 v4 v5 h5) h5) fun v6 h6 =>
 bnd (gD v3 false (aA v6 h6) h6) fun v7 h7 =>
 bnd (gD v3 false (some (x1, h7)) h7) fun v8 h8 =>
 bnd (gD v3 false (aD .neq v7 v8 h8) h8) fun v9 h9 =>
 bnd (aQ v3 (.b true) v9 h9) fun v10 h10 =>
 bnd (gD v10 false (aA x5 h10) h10) fun v11 h11 =>
 bnd (gD v10 false (some (x0, h11)) h11) fun v12 h12 =>
 bnd (gD v10 false (aF 1 v11 v12 h12) h12) fun v13 h13 =>
 bnd (gD v10 false (aA v13 h13) h13) fun v14 h14 =>
 bnd (gD v10 false (aD .geq v14 (aK 0) h14) h14) fun v15 h15 =>
 bnd (gD v10 false (some (v15, h15)) h15) fun v16 h16 =>
 bnd (gD v16 true (aA x5 h16) h16) fun v17 h17 =>
 bnd (gD v16 true (some (x0, h17)) h17) fun v18 h18 =>
 bnd (gD v16 true (aF 1 v17 v18 h18) h18) fun v19 h19 =>
 bnd (gD v16 true (aA v19 h19) h19) fun v20 h20 =>
 bnd (gD v16 true (some (x2, h20)) h20) fun v21 h21 =>
 bnd (gD v16 true (aD .neq v20 v21 h21) h21) fun v22 h22 =>
 bnd (gD v10 false (aQ v16 v22 (.b false) h22) h22) fun v23 h23 =>
 bnd (aQ v10 (.b true) v23 h23) fun v24 h24 =>
 aX v24 (
 bnd (aI 1 x6 (.b false) h24) fun _ h25 =>
 some (.t [], h25)) (
 bnd (aA x5 h24) fun v26 h26 =>
 bnd (aF 1 v26 x0 h26) fun v27 h27 =>
 bnd (aA v27 h27) fun v28 h28 =>
 bnd (aD .lss v28 (aK 0) h28) fun v29 h29 =>
 aX v29 (
 bnd (aA x5 h29) fun v30 h30 =>
 bnd (aF 1 v30 x0 h30) fun v31 h31 =>
 bnd (aI 1 v31 x2 h31) fun _ h32 =>
 bnd (aA x7 h32) fun v33 h33 =>
 bnd (aJ [(aK 0)] 1 [(0, 1, x0)] h33) fun v34 h34 =>
 bnd (bB 1 8 v33 v34 h34) fun v35 h35 =>
 bnd (aI 1 x7 v35 h35) fun _ h36 =>
 some (.t [], h36)) (
 some (.t [], h29)))
noncomputable abbrev c204 : Code := cf Tryz.f204
noncomputable abbrev r204 : K := aS CF Tryz.f204
noncomputable def D204 (r : RT) (n : Nat) (c : Code) (X : Nat → K) (k : K) : K := aP CF r 53 n c X r204 k
theorem cYu : D204 r n c204 x0 r204 = (K8 (s204 r n) 0 1 2 3 4 5 6 7) :=
 (by kernel_rfl)
theorem cTz : aE CF r n 204 args h = s204 r n (aT args 0) (aT args 1) (aT args 2) (aT args 3) (aT args 4) (aT args 5) (aT args 6) (aT args 7) h :=
 (by kernel_rfl : aE CF r n 204 args h = D204 r n c204 x0 r204 (aH args) h).trans ((congrFun (congrFun (cYu r n) (aH args)) h).trans (by kernel_rfl))
end Go.Dd

namespace Go.Dd
open Go.Proofs
variable (r : RT) (n : Nat) (args : List DV) (h : Hp)
noncomputable def bZ (r : RT) (n : Nat) (h0 : Hp) : aG :=
 some ((aK 0), h0)
noncomputable def aGs (r : RT) (n : Nat) (x1 x22 : DV) (h0 : Hp) : aG :=
 aX x22 (
 bnd (aB 2 x1 h0) fun v1 h1 =>
 bnd (aA v1 h1) fun v2 h2 =>
 bnd (jW .neg v2 h2) fun v3 h3 =>
 some (v3, h3)) (
  bZ r n h0)
noncomputable def bNr (r : RT) (n : Nat) (x1 x4 : DV) (h0 : Hp) : aG :=
 bnd (aD .eql x4 (aK 14) h0) fun v1 h1 =>
 aX v1 (
  aGs r n x1 v1 h1) (
 bnd (aD .eql x4 (aK 15) h1) fun v2 h2 =>
  aGs r n x1 v2 h2)
noncomputable def tF (r : RT) (n : Nat) (x1 x4 x17 : DV) (h0 : Hp) : aG :=
 aX x17 (
 some ((.i .i64 (Int.negSucc 0)), h0)) (
  bNr r n x1 x4 h0)
noncomputable def bIs (r : RT) (n : Nat) (x1 x4 : DV) (h0 : Hp) : aG :=
 bnd (aD .eql x4 (aK 12) h0) fun v1 h1 =>
 aX v1 (
  tF r n x1 x4 v1 h1) (
 bnd (aD .eql x4 (aK 17) h1) fun v2 h2 =>
 aX v2 (
   tF r n x1 x4 v2 h2) (
 bnd (aD .eql x4 (aK 19) h2) fun v3 h3 =>
 aX v3 (
    tF r n x1 x4 v3 h3) (
 bnd (aD .eql x4 (aK 20) h3) fun v4 h4 =>
    tF r n x1 x4 v4 h4)))
noncomputable def iQ (r : RT) (n : Nat) (x1 x4 x5 : DV) (h0 : Hp) : aG :=
 aX x5 (
 some ((aK 1), h0)) (
  bIs r n x1 x4 h0)
noncomputable def aMr (r : RT) (n : Nat) (x1 x4 : DV) (h0 : Hp) : aG :=
 bnd (aD .eql x4 (aK 1) h0) fun v1 h1 =>
 aX v1 (
  iQ r n x1 x4 v1 h1) (
 bnd (aD .eql x4 (aK 2) h1) fun v2 h2 =>
 aX v2 (
   iQ r n x1 x4 v2 h2) (
 bnd (aD .eql x4 (aK 3) h2) fun v3 h3 =>
 aX v3 (
    iQ r n x1 x4 v3 h3) (
 bnd (aD .eql x4 (aK 4) h3) fun v4 h4 =>
 aX v4 (
     iQ r n x1 x4 v4 h4) (
 bnd (aD .eql x4 (aK 5) h4) fun v5 h5 =>
 aX v5 (
      iQ r n x1 x4 v5 h5) (
 bnd (aD .eql x4 (aK 6) h5) fun v6 h6 =>
 aX v6 (
       iQ r n x1 x4 v6 h6) (
 bnd (aD .eql x4 (aK 7) h6) fun v7 h7 =>
 aX v7 (
        iQ r n x1 x4 v7 h7) (
 bnd (aD .eql x4 (aK 8) h7) fun v8 h8 =>
 aX v8 (
         iQ r n x1 x4 v8 h8) (
 bnd (aD .eql x4 (aK 9) h8) fun v9 h9 =>
 aX v9 (
          iQ r n x1 x4 v9 h9) (
 bnd (aD .eql x4 (aK 13) h9) fun v10 h10 =>
 aX v10 (
           iQ r n x1 x4 v10 h10) (
 bnd (aD .eql x4 (aK 18) h10) fun v11 h11 =>
           iQ r n x1 x4 v11 h11))))))))))
noncomputable def zX (r : RT) (n : Nat) (x1 : DV) (h0 : Hp) : aG :=
 bnd (aB 0 x1 h0) fun v1 h1 =>
 bnd (aA v1 h1) fun v2 h2 =>
  aMr r n x1 v2 h2
noncomputable def s205 (r : RT) (n : Nat) (x0 : DV) (h0 : Hp) : aG :=
 bnd (cB x0 h0) fun v1 h1 =>
  zX r n v1 h1
noncomputable abbrev c205 : Code := cf Tryz.f205
noncomputable abbrev aFf : Code := cR c205
noncomputable abbrev cNv : Code := cR aFf
noncomputable abbrev zT : Code := cL aFf
noncomputable abbrev aQg : Code := cR zT
noncomputable abbrev aIp : Code := cL aQg
noncomputable abbrev zC : Code := cR aIp
noncomputable abbrev yW : Code := cR zC
noncomputable abbrev wY : Code := cR yW
noncomputable abbrev wZ : Code := cR wY
noncomputable abbrev cBw : Code := cR wZ
noncomputable abbrev aTr : Code := cL wZ
noncomputable abbrev cDv : Code := cL wY
noncomputable abbrev aXj : Code := cL yW
noncomputable abbrev bWr : Code := cL zC
noncomputable abbrev aXo : Code := cL aIp
noncomputable abbrev aWw : Code := cL zT
noncomputable abbrev aFx : Code := cL c205
noncomputable abbrev r205 : K := aS CF Tryz.f205
noncomputable def D205 (r : RT) (n : Nat) (c : Code) (X : Nat → K) (k : K) : K := aP CF r 28 n c X r205 k
theorem bYn : D205 r n cNv x0 r205 = (K0 (bZ r n)) :=
 (by kernel_rfl)
theorem cAi : D205 r n cBw (xs x0 0 (K0 (bZ r n))) (K0 (bZ r n)) = (K2 (aGs r n) 1 22) :=
 (by kernel_rfl)
theorem bKa : D205 r n wZ (xs x0 0 (K0 (bZ r n))) (K0 (bZ r n)) = D205 r n aTr (xs x0 0 (K0 (bZ r n))) (K2 (aGs r n) 1 22) :=
 congrArg (fun k => D205 r n aTr (xs x0 0 (K0 (bZ r n))) k) (cAi r n)
theorem cEg : D205 r n wZ (xs x0 0 (K0 (bZ r n))) (K0 (bZ r n)) = (K2 (bNr r n) 1 4) :=
 (bKa r n).trans
 ((by kernel_rfl))
theorem cBh : D205 r n wY (xs x0 0 (K0 (bZ r n))) (K0 (bZ r n)) = (K3 (tF r n) 1 4 17) :=
 (by kernel_rfl : D205 r n wY (xs x0 0 (K0 (bZ r n))) (K0 (bZ r n)) = (fun (env : bF) (h : Hp) => aX (opr env (cC wY)) (D205 r n cDv (xs x0 0 (K0 (bZ r n))) (K0 (bZ r n)) env h) (D205 r n wZ (xs x0 0 (K0 (bZ r n))) (K0 (bZ r n)) env h))).trans (by rw [cEg r n]; kernel_rfl)
theorem bMa : D205 r n yW (xs x0 0 (K0 (bZ r n))) (K0 (bZ r n)) = D205 r n aXj (xs x0 0 (K0 (bZ r n))) (K3 (tF r n) 1 4 17) :=
 congrArg (fun k => D205 r n aXj (xs x0 0 (K0 (bZ r n))) k) (cBh r n)
theorem bZm : D205 r n yW (xs x0 0 (K0 (bZ r n))) (K0 (bZ r n)) = (K2 (bIs r n) 1 4) :=
 (bMa r n).trans
 ((by kernel_rfl))
theorem bWn : D205 r n zC (xs x0 0 (K0 (bZ r n))) (K0 (bZ r n)) = (K3 (iQ r n) 1 4 5) :=
 (by kernel_rfl : D205 r n zC (xs x0 0 (K0 (bZ r n))) (K0 (bZ r n)) = (fun (env : bF) (h : Hp) => aX (opr env (cC zC)) (D205 r n bWr (xs x0 0 (K0 (bZ r n))) (K0 (bZ r n)) env h) (D205 r n yW (xs x0 0 (K0 (bZ r n))) (K0 (bZ r n)) env h))).trans (by rw [bZm r n]; kernel_rfl)
theorem bEf : D205 r n aIp (xs x0 0 (K0 (bZ r n))) (K0 (bZ r n)) = D205 r n aXo (xs x0 0 (K0 (bZ r n))) (K3 (iQ r n) 1 4 5) :=
 congrArg (fun k => D205 r n aXo (xs x0 0 (K0 (bZ r n))) k) (bWn r n)
theorem bYj : D205 r n aQg x0 (K0 (bZ r n)) = (K2 (aMr r n) 1 4) :=
 (by kernel_rfl : D205 r n aQg x0 (K0 (bZ r n)) = D205 r n aIp (xs x0 0 (K0 (bZ r n))) (K0 (bZ r n))).trans
 ((bEf r n).trans
 ((by kernel_rfl)))
theorem bLw : D205 r n aFf x0 r205 = D205 r n zT x0 (K0 (bZ r n)) :=
 congrArg (fun k => D205 r n zT x0 k) (bYn r n)
theorem bRj : D205 r n zT x0 (K0 (bZ r n)) = D205 r n aWw x0 (K2 (aMr r n) 1 4) :=
 congrArg (fun k => D205 r n aWw x0 k) (bYj r n)
theorem cEy : D205 r n aFf x0 r205 = (K1 (zX r n) 1) :=
 (bLw r n).trans
 ((bRj r n).trans
 ((by kernel_rfl)))
theorem cOa : D205 r n c205 x0 r205 = D205 r n aFx x0 (K1 (zX r n) 1) :=
 congrArg (fun k => D205 r n aFx x0 k) (cEy r n)
theorem cOm (q0 : TT1) : D205 r n aFx x0 (K1 q0 1) = fun (env : bF) (h : Hp) =>
 bnd (cB (env 0) h) fun v1 h1 =>
  q0 v1 h1 := by kernel_rfl
theorem cEn : (fun (env : bF) (h : Hp) =>
 bnd (cB (env 0) h) fun v1 h1 =>
  zX r n v1 h1) = (K1 (s205 r n) 0) := by kernel_rfl
theorem dCe : D205 r n c205 x0 r205 = (K1 (s205 r n) 0) :=
 (cOa r n).trans
 ((cOm r n (zX r n)).trans (cEn r n))
theorem cSh : aE CF r n 205 args h = s205 r n (aT args 0) h :=
 (by kernel_rfl : aE CF r n 205 args h = D205 r n c205 x0 r205 (aH args) h).trans ((congrFun (congrFun (dCe r n) (aH args)) h).trans (by kernel_rfl))
noncomputable def dF (r : RT) (n : Nat) (h0 : Hp) : aG :=
 some ((aK 0), h0)
noncomputable def aDp (r : RT) (n : Nat) (x1 x13 : DV) (h0 : Hp) : aG :=
 aX x13 (
 bnd (aB 2 x1 h0) fun v1 h1 =>
 bnd (aA v1 h1) fun v2 h2 =>
 bnd (aD .add v2 (aK 1) h2) fun v3 h3 =>
 some (v3, h3)) (
  dF r n h0)
noncomputable def bOh (r : RT) (n : Nat) (x1 x4 : DV) (h0 : Hp) : aG :=
 bnd (aD .eql x4 (aK 14) h0) fun v1 h1 =>
 aX v1 (
  aDp r n x1 v1 h1) (
 bnd (aD .eql x4 (aK 15) h1) fun v2 h2 =>
  aDp r n x1 v2 h2)
noncomputable def mG (r : RT) (n : Nat) (x1 x4 x5 : DV) (h0 : Hp) : aG :=
 aX x5 (
 some ((aK 1), h0)) (
  bOh r n x1 x4 h0)
noncomputable def aMx (r : RT) (n : Nat) (x1 x4 : DV) (h0 : Hp) : aG :=
 bnd (aD .eql x4 (aK 12) h0) fun v1 h1 =>
 aX v1 (
  mG r n x1 x4 v1 h1) (
 bnd (aD .eql x4 (aK 13) h1) fun v2 h2 =>
 aX v2 (
   mG r n x1 x4 v2 h2) (
 bnd (aD .eql x4 (aK 10) h2) fun v3 h3 =>
 aX v3 (
    mG r n x1 x4 v3 h3) (
 bnd (aD .eql x4 (aK 11) h3) fun v4 h4 =>
 aX v4 (
     mG r n x1 x4 v4 h4) (
 bnd (aD .eql x4 (aK 17) h4) fun v5 h5 =>
 aX v5 (
      mG r n x1 x4 v5 h5) (
 bnd (aD .eql x4 (aK 20) h5) fun v6 h6 =>
 aX v6 (
       mG r n x1 x4 v6 h6) (
 bnd (aD .eql x4 (aK 19) h6) fun v7 h7 =>
       mG r n x1 x4 v7 h7))))))
noncomputable def xO (r : RT) (n : Nat) (x1 : DV) (h0 : Hp) : aG :=
 bnd (aB 0 x1 h0) fun v1 h1 =>
 bnd (aA v1 h1) fun v2 h2 =>
  aMx r n x1 v2 h2
noncomputable def s206 (r : RT) (n : Nat) (x0 : DV) (h0 : Hp) : aG :=
 bnd (cB x0 h0) fun v1 h1 =>
  xO r n v1 h1
noncomputable abbrev c206 : Code := cf Tryz.f206
noncomputable abbrev aEw : Code := cR c206
noncomputable abbrev cRp : Code := cR aEw
noncomputable abbrev yX : Code := cL aEw
noncomputable abbrev aPm : Code := cR yX
noncomputable abbrev aDd : Code := cL aPm
noncomputable abbrev yD : Code := cR aDd
noncomputable abbrev aAf : Code := cR yD
noncomputable abbrev cLv : Code := cR aAf
noncomputable abbrev bNi : Code := cL aAf
noncomputable abbrev cGl : Code := cL yD
noncomputable abbrev aUo : Code := cL aDd
noncomputable abbrev aTg : Code := cL yX
noncomputable abbrev aFv : Code := cL c206
noncomputable abbrev r206 : K := aS CF Tryz.f206
noncomputable def D206 (r : RT) (n : Nat) (c : Code) (X : Nat → K) (k : K) : K := aP CF r 19 n c X r206 k
theorem bXr : D206 r n cRp x0 r206 = (K0 (dF r n)) :=
 (by kernel_rfl)
theorem cBi : D206 r n cLv (xs x0 0 (K0 (dF r n))) (K0 (dF r n)) = (K2 (aDp r n) 1 13) :=
 (by kernel_rfl)
theorem bEs : D206 r n aAf (xs x0 0 (K0 (dF r n))) (K0 (dF r n)) = D206 r n bNi (xs x0 0 (K0 (dF r n))) (K2 (aDp r n) 1 13) :=
 congrArg (fun k => D206 r n bNi (xs x0 0 (K0 (dF r n))) k) (cBi r n)
theorem cBf : D206 r n aAf (xs x0 0 (K0 (dF r n))) (K0 (dF r n)) = (K2 (bOh r n) 1 4) :=
 (bEs r n).trans
 ((by kernel_rfl))
theorem bYl : D206 r n yD (xs x0 0 (K0 (dF r n))) (K0 (dF r n)) = (K3 (mG r n) 1 4 5) :=
 (by kernel_rfl : D206 r n yD (xs x0 0 (K0 (dF r n))) (K0 (dF r n)) = (fun (env : bF) (h : Hp) => aX (opr env (cC yD)) (D206 r n cGl (xs x0 0 (K0 (dF r n))) (K0 (dF r n)) env h) (D206 r n aAf (xs x0 0 (K0 (dF r n))) (K0 (dF r n)) env h))).trans (by rw [cBf r n]; kernel_rfl)
theorem bQx : D206 r n aDd (xs x0 0 (K0 (dF r n))) (K0 (dF r n)) = D206 r n aUo (xs x0 0 (K0 (dF r n))) (K3 (mG r n) 1 4 5) :=
 congrArg (fun k => D206 r n aUo (xs x0 0 (K0 (dF r n))) k) (bYl r n)
theorem cCw : D206 r n aPm x0 (K0 (dF r n)) = (K2 (aMx r n) 1 4) :=
 (by kernel_rfl : D206 r n aPm x0 (K0 (dF r n)) = D206 r n aDd (xs x0 0 (K0 (dF r n))) (K0 (dF r n))).trans
 ((bQx r n).trans
 ((by kernel_rfl)))
theorem bTj : D206 r n aEw x0 r206 = D206 r n yX x0 (K0 (dF r n)) :=
 congrArg (fun k => D206 r n yX x0 k) (bXr r n)
theorem bDs : D206 r n yX x0 (K0 (dF r n)) = D206 r n aTg x0 (K2 (aMx r n) 1 4) :=
 congrArg (fun k => D206 r n aTg x0 k) (cCw r n)
theorem bZo : D206 r n aEw x0 r206 = (K1 (xO r n) 1) :=
 (bTj r n).trans
 ((bDs r n).trans
 ((by kernel_rfl)))
theorem cTv : D206 r n c206 x0 r206 = D206 r n aFv x0 (K1 (xO r n) 1) :=
 congrArg (fun k => D206 r n aFv x0 k) (bZo r n)
theorem cQq (q0 : TT1) : D206 r n aFv x0 (K1 q0 1) = fun (env : bF) (h : Hp) =>
 bnd (cB (env 0) h) fun v1 h1 =>
  q0 v1 h1 := by kernel_rfl
theorem cFl : (fun (env : bF) (h : Hp) =>
 bnd (cB (env 0) h) fun v1 h1 =>
  xO r n v1 h1) = (K1 (s206 r n) 0) := by kernel_rfl
theorem dBr : D206 r n c206 x0 r206 = (K1 (s206 r n) 0) :=
 (cTv r n).trans
 ((cQq r n (xO r n)).trans (cFl r n))
theorem cLf : aE CF r n 206 args h = s206 r n (aT args 0) h :=
 (by kernel_rfl : aE CF r n 206 args h = D206 r n c206 x0 r206 (aH args) h).trans ((congrFun (congrFun (dBr r n) (aH args)) h).trans (by kernel_rfl))
noncomputable def s224 (r : RT) (n : Nat) (x0 : DV) (h0 : Hp) : aG :=
 bnd (cB x0 h0) fun v1 h1 =>
 bnd (aB 0 v1 h1) fun v2 h2 =>
 bnd (aA v2 h2) fun v3 h3 =>
 bnd (aD .eql v3 (aK 5) h3) fun v4 h4 =>
 bnd (gD v4 true (aB 1 v1 h4) h4) fun v5 h5 =>
 bnd (gD v4 true (aA v5 h5) h5) fun v6 h6 =>
 bnd (gD v4 true (dA .eql v6 (.s [115, 117, 112, 101, 114]) h6) h6) fun v7 h7 =>
 bnd (aQ v4 v7 (.b false) h7) fun v8 h8 =>
 some (v8, h8)
noncomputable abbrev c224 : Code := cf Tryz.f224
noncomputable abbrev r224 : K := aS CF Tryz.f224
noncomputable def D224 (r : RT) (n : Nat) (c : Code) (X : Nat → K) (k : K) : K := aP CF r 11 n c X r224 k
theorem cYm : D224 r n c224 x0 r224 = (K1 (s224 r n) 0) :=
 (by kernel_rfl)
theorem cUu : aE CF r n 224 args h = s224 r n (aT args 0) h :=
 (by kernel_rfl : aE CF r n 224 args h = D224 r n c224 x0 r224 (aH args) h).trans ((congrFun (congrFun (cYm r n) (aH args)) h).trans (by kernel_rfl))
noncomputable def s225 (r : RT) (n : Nat) (x0 : DV) (h0 : Hp) : aG :=
 bnd (aD .eql x0 (aK 16) h0) fun v1 h1 =>
 bnd (gD v1 false (some (x0, h1)) h1) fun v2 h2 =>
 bnd (gD v1 false (aD .eql v2 (aK 17) h2) h2) fun v3 h3 =>
 bnd (aQ v1 (.b true) v3 h3) fun v4 h4 =>
 some (v4, h4)
noncomputable abbrev c225 : Code := cf Tryz.f225
noncomputable abbrev r225 : K := aS CF Tryz.f225
noncomputable def D225 (r : RT) (n : Nat) (c : Code) (X : Nat → K) (k : K) : K := aP CF r 9 n c X r225 k
theorem cXb : D225 r n c225 x0 r225 = (K1 (s225 r n) 0) :=
 (by kernel_rfl)
theorem cPk : aE CF r n 225 args h = s225 r n (aT args 0) h :=
 (by kernel_rfl : aE CF r n 225 args h = D225 r n c225 x0 r225 (aH args) h).trans ((congrFun (congrFun (cXb r n) (aH args)) h).trans (by kernel_rfl))
noncomputable def s226 (r : RT) (n : Nat) (x0 : DV) (h0 : Hp) : aG :=
 bnd (r 127 [x0, (aK 1)] h0) fun v1 h1 =>
 bnd (cF [(aK 0), (.s []), (aK 0), (aK 0)] h1) fun v2 h2 =>
 bnd (aI 4 v2 v1 h2) fun _ h3 =>
 bnd (r 123 [x0, (aK 3), (.s [45])] h3) fun v4 h4 =>
 bnd (gD v4 true (aB 0 v2 h4) h4) fun v5 h5 =>
 bnd (gD v4 true (aA v5 h5) h5) fun v6 h6 =>
 bnd (gD v4 true (aD .eql v6 (aK 4) h6) h6) fun v7 h7 =>
 bnd (aQ v4 v7 (.b false) h7) fun v8 h8 =>
 bnd (gD v8 true (aB 3 v2 h8) h8) fun v9 h9 =>
 bnd (gD v8 true (aA v9 h9) h9) fun v10 h10 =>
 bnd (gD v8 true (some (x0, h10)) h10) fun v11 h11 =>
 bnd (gD v8 true (r 127 [v11, (aK 0)] h11) h11) fun v12 h12 =>
 cnd (bQ (gD v8 true (aA v9 h12) h12) v10 && true) (
 bnd (gD v8 true (nQ 3 v12 h12) h12) fun v13 h13 =>
 bnd (gD v8 true (aD .add v13 (aK 1) h13) h13) fun v14 h14 =>
 bnd (gD v8 true (aD .eql v10 v14 h14) h14) fun v15 h15 =>
 bnd (aQ v8 v15 (.b false) h15) fun v16 h16 =>
 some (v16, h16))
noncomputable abbrev c226 : Code := cf Tryz.f226
noncomputable abbrev r226 : K := aS CF Tryz.f226
noncomputable def D226 (r : RT) (n : Nat) (c : Code) (X : Nat → K) (k : K) : K := aP CF r 22 n c X r226 k
theorem dBb : D226 r n c226 x0 r226 = (K1 (s226 r n) 0) :=
 (by kernel_rfl)
theorem cVj : aE CF r n 226 args h = s226 r n (aT args 0) h :=
 (by kernel_rfl : aE CF r n 226 args h = D226 r n c226 x0 r226 (aH args) h).trans ((congrFun (congrFun (dBb r n) (aH args)) h).trans (by kernel_rfl))
end Go.Dd

namespace Go.Dd
open Go.Proofs
section
variable (ih : RT) (m : Nat) (f : FuncId) (args : List DV) (h : Hp)
theorem dT {i : Nat} {s r : aG} (e1 : s = aE CF ih m i args h) (e2 : r = aE CF ih m f args h) : (bif Nat.beq f i then s else r) = aE CF ih m f args h := by
 cases e : Nat.beq f i with
 | false => exact e2
 | true => cases Nat.eq_of_beq_eq_true e; exact e1
theorem ndC {i : Nat} {a b : aG} (e1 : a = aE CF ih m f args h) (e2 : b = aE CF ih m f args h) : (bif Nat.blt f i then a else b) = aE CF ih m f args h := by
 cases Nat.blt f i with
 | false => exact e2
 | true => exact e1
noncomputable def qg0 : aG := bif Nat.beq f 3 then s3 ih m (aT args 0) h else bif Nat.beq f 4 then s4 ih m (aT args 0) h else bif Nat.beq f 5 then s5 ih m (aT args 0) (aT args 1) h else bif Nat.beq f 6 then s6 ih m (aT args 0) h else bif Nat.beq f 7 then s7 ih m (aT args 0) h else bif Nat.beq f 8 then s8 ih m h else bif Nat.beq f 9 then s9 ih m (aT args 0) (aT args 1) (aT args 2) h else bif Nat.beq f 10 then s10 ih m (aT args 0) (aT args 1) h else aE CF ih m f args h
theorem dFz : qg0 ih m f args h = aE CF ih m f args h := dT ih m f args h (dEj ih m args h).symm (dT ih m f args h (cZv ih m args h).symm (dT ih m f args h (cYr ih m args h).symm (dT ih m f args h (cWr ih m args h).symm (dT ih m f args h (dBa ih m args h).symm (dT ih m f args h (dCv ih m args h).symm (dT ih m f args h (cWt ih m args h).symm (dT ih m f args h (cKg ih m args h).symm rfl)))))))
noncomputable def qg1 : aG := bif Nat.beq f 11 then s11 ih m (aT args 0) (aT args 1) h else bif Nat.beq f 12 then s12 ih m (aT args 0) h else bif Nat.beq f 13 then s13 ih m h else bif Nat.beq f 14 then s14 ih m (aT args 0) h else bif Nat.beq f 16 then s16 ih m (aT args 0) (aT args 1) h else bif Nat.beq f 19 then s19 ih m (aT args 0) h else bif Nat.beq f 21 then s21 ih m (aT args 0) (aT args 1) (aT args 2) h else bif Nat.beq f 22 then s22 ih m (aT args 0) (aT args 1) h else aE CF ih m f args h
theorem dKa : qg1 ih m f args h = aE CF ih m f args h := dT ih m f args h (cJb ih m args h).symm (dT ih m f args h (cJf ih m args h).symm (dT ih m f args h (cJc ih m args h).symm (dT ih m f args h (cJw ih m args h).symm (dT ih m f args h (cIg ih m args h).symm (dT ih m f args h (dCj ih m args h).symm (dT ih m f args h (cJy ih m args h).symm (dT ih m f args h (cKf ih m args h).symm rfl)))))))
noncomputable def qg2 : aG := bif Nat.beq f 23 then s23 ih m (aT args 0) (aT args 1) h else bif Nat.beq f 24 then s24 ih m (aT args 0) (aT args 1) h else bif Nat.beq f 26 then s26 ih m (aT args 0) (aT args 1) h else bif Nat.beq f 27 then s27 ih m (aT args 0) (aT args 1) h else bif Nat.beq f 28 then s28 ih m (aT args 0) (aT args 1) h else bif Nat.beq f 31 then s31 ih m (aT args 0) (aT args 1) h else bif Nat.beq f 32 then s32 ih m (aT args 0) (aT args 1) h else bif Nat.beq f 33 then s33 ih m (aT args 0) (aT args 1) (aT args 2) (aT args 3) h else aE CF ih m f args h
theorem dEw : qg2 ih m f args h = aE CF ih m f args h := dT ih m f args h (cHn ih m args h).symm (dT ih m f args h (cHy ih m args h).symm (dT ih m f args h (cKo ih m args h).symm (dT ih m f args h (bKu ih m args h).symm (dT ih m f args h (bOs ih m args h).symm (dT ih m f args h (cJe ih m args h).symm (dT ih m f args h (cJx ih m args h).symm (dT ih m f args h (cIn ih m args h).symm rfl)))))))
noncomputable def qg3 : aG := bif Nat.beq f 39 then s39 ih m (aT args 0) h else bif Nat.beq f 40 then s40 ih m (aT args 0) (aT args 1) (aT args 2) h else bif Nat.beq f 42 then s42 ih m (aT args 0) (aT args 1) (aT args 2) h else bif Nat.beq f 44 then s44 ih m (aT args 0) (aT args 1) h else bif Nat.beq f 49 then s49 ih m (aT args 0) (aT args 1) h else bif Nat.beq f 51 then s51 ih m (aT args 0) h else bif Nat.beq f 52 then s52 ih m (aT args 0) (aT args 1) h else bif Nat.beq f 53 then s53 ih m (aT args 0) (aT args 1) h else aE CF ih m f args h
theorem dHc : qg3 ih m f args h = aE CF ih m f args h := dT ih m f args h (cXh ih m args h).symm (dT ih m f args h (cIf ih m args h).symm (dT ih m f args h (dCp ih m args h).symm (dT ih m f args h (cJs ih m args h).symm (dT ih m f args h (cHq ih m args h).symm (dT ih m f args h (cJp ih m args h).symm (dT ih m f args h (cJv ih m args h).symm (dT ih m f args h (bIl ih m args h).symm rfl)))))))
noncomputable def qg4 : aG := bif Nat.beq f 55 then s55 ih m (aT args 0) (aT args 1) (aT args 2) h else bif Nat.beq f 56 then s56 ih m (aT args 0) (aT args 1) h else bif Nat.beq f 57 then s57 ih m (aT args 0) (aT args 1) h else bif Nat.beq f 59 then s59 ih m (aT args 0) (aT args 1) (aT args 2) h else bif Nat.beq f 62 then s62 ih m (aT args 0) h else bif Nat.beq f 63 then s63 ih m (aT args 0) h else bif Nat.beq f 67 then s67 ih m (aT args 0) (aT args 1) h else bif Nat.beq f 70 then s70 ih m (aT args 0) h else aE CF ih m f args h
theorem dJo : qg4 ih m f args h = aE CF ih m f args h := dT ih m f args h (bGn ih m args h).symm (dT ih m f args h (cHz ih m args h).symm (dT ih m f args h (cJm ih m args h).symm (dT ih m f args h (cHs ih m args h).symm (dT ih m f args h (aWf ih m args h).symm (dT ih m f args h (cIr ih m args h).symm (dT ih m f args h (cIi ih m args h).symm (dT ih m f args h (dBf ih m args h).symm rfl)))))))
noncomputable def qg5 : aG := bif Nat.beq f 71 then s71 ih m (aT args 0) (aT args 1) h else bif Nat.beq f 72 then s72 ih m (aT args 0) (aT args 1) (aT args 2) h else bif Nat.beq f 73 then s73 ih m (aT args 0) (aT args 1) h else bif Nat.beq f 75 then s75 ih m (aT args 0) (aT args 1) (aT args 2) h else bif Nat.beq f 77 then s77 ih m (aT args 0) (aT args 1) h else bif Nat.beq f 79 then s79 ih m (aT args 0) (aT args 1) h else bif Nat.beq f 84 then s84 ih m (aT args 0) (aT args 1) h else bif Nat.beq f 85 then s85 ih m (aT args 0) (aT args 1) h else aE CF ih m f args h
theorem dJm : qg5 ih m f args h = aE CF ih m f args h := dT ih m f args h (cZa ih m args h).symm (dT ih m f args h (dBq ih m args h).symm (dT ih m f args h (cIs ih m args h).symm (dT ih m f args h (bKz ih m args h).symm (dT ih m f args h (cXz ih m args h).symm (dT ih m f args h (cXq ih m args h).symm (dT ih m f args h (cHo ih m args h).symm (dT ih m f args h (dDu ih m args h).symm rfl)))))))
noncomputable def qg6 : aG := bif Nat.beq f 86 then s86 ih m (aT args 0) h else bif Nat.beq f 88 then s88 ih m (aT args 0) (aT args 1) (aT args 2) h else bif Nat.beq f 89 then s89 ih m (aT args 0) (aT args 1) (aT args 2) (aT args 3) h else bif Nat.beq f 98 then s98 ih m (aT args 0) h else bif Nat.beq f 101 then s101 ih m (aT args 0) (aT args 1) (aT args 2) h else bif Nat.beq f 105 then s105 ih m (aT args 0) h else bif Nat.beq f 106 then s106 ih m (aT args 0) (aT args 1) h else bif Nat.beq f 107 then s107 ih m (aT args 0) (aT args 1) h else aE CF ih m f args h
theorem dGn : qg6 ih m f args h = aE CF ih m f args h := dT ih m f args h (cYp ih m args h).symm (dT ih m f args h (dAv ih m args h).symm (dT ih m f args h (dAl ih m args h).symm (dT ih m f args h (dAa ih m args h).symm (dT ih m f args h (cWk ih m args h).symm (dT ih m f args h (cOk ih m args h).symm (dT ih m f args h (cRx ih m args h).symm (dT ih m f args h (cUd ih m args h).symm rfl)))))))
noncomputable def qg7 : aG := bif Nat.beq f 108 then s108 ih m (aT args 0) h else bif Nat.beq f 109 then s109 ih m (aT args 0) (aT args 1) h else bif Nat.beq f 120 then s120 ih m (aT args 0) (aT args 1) (aT args 2) h else bif Nat.beq f 121 then s121 ih m (aT args 0) h else bif Nat.beq f 122 then s122 ih m (aT args 0) h else bif Nat.beq f 123 then s123 ih m (aT args 0) (aT args 1) (aT args 2) h else bif Nat.beq f 124 then s124 ih m (aT args 0) h else bif Nat.beq f 125 then s125 ih m (aT args 0) h else aE CF ih m f args h
theorem dJs : qg7 ih m f args h = aE CF ih m f args h := dT ih m f args h (cLg ih m args h).symm (dT ih m f args h (cOd ih m args h).symm (dT ih m f args h (cNm ih m args h).symm (dT ih m f args h (cMv ih m args h).symm (dT ih m f args h (cVn ih m args h).symm (dT ih m f args h (cVb ih m args h).symm (dT ih m f args h (cSr ih m args h).symm (dT ih m f args h (cMd ih m args h).symm rfl)))))))
noncomputable def qg8 : aG := bif Nat.beq f 127 then s127 ih m (aT args 0) (aT args 1) h else bif Nat.beq f 130 then s130 ih m (aT args 0) (aT args 1) h else bif Nat.beq f 131 then s131 ih m (aT args 0) (aT args 1) (aT args 2) (aT args 3) h else bif Nat.beq f 132 then s132 ih m (aT args 0) h else bif Nat.beq f 133 then s133 ih m (aT args 0) (aT args 1) h else bif Nat.beq f 134 then s134 ih m (aT args 0) (aT args 1) h else bif Nat.beq f 145 then s145 ih m (aT args 0) (aT args 1) h else bif Nat.beq f 146 then s146 ih m (aT args 0) (aT args 1) h else aE CF ih m f args h
theorem dJi : qg8 ih m f args h = aE CF ih m f args h := dT ih m f args h (cOx ih m args h).symm (dT ih m f args h (cVp ih m args h).symm (dT ih m f args h (cPe ih m args h).symm (dT ih m f args h (cRg ih m args h).symm (dT ih m f args h (cNd ih m args h).symm (dT ih m f args h (cOc ih m args h).symm (dT ih m f args h (cLh ih m args h).symm (dT ih m f args h (cQw ih m args h).symm rfl)))))))
noncomputable def qg9 : aG := bif Nat.beq f 147 then s147 ih m (aT args 0) h else bif Nat.beq f 148 then s148 ih m (aT args 0) h else bif Nat.beq f 149 then s149 ih m (aT args 0) h else bif Nat.beq f 150 then s150 ih m (aT args 0) h else bif Nat.beq f 155 then s155 ih m (aT args 0) (aT args 1) h else bif Nat.beq f 162 then s162 ih m (aT args 0) (aT args 1) h else bif Nat.beq f 167 then s167 ih m (aT args 0) (aT args 1) (aT args 2) h else bif Nat.beq f 168 then s168 ih m (aT args 0) (aT args 1) h else aE CF ih m f args h
theorem dFg : qg9 ih m f args h = aE CF ih m f args h := dT ih m f args h (cMq ih m args h).symm (dT ih m f args h (cVl ih m args h).symm (dT ih m f args h (cSe ih m args h).symm (dT ih m f args h (cNs ih m args h).symm (dT ih m f args h (cOb ih m args h).symm (dT ih m f args h (cUe ih m args h).symm (dT ih m f args h (cRt ih m args h).symm (dT ih m f args h (cVd ih m args h).symm rfl)))))))
noncomputable def dDm : aG := bif Nat.beq f 169 then s169 ih m (aT args 0) h else bif Nat.beq f 170 then s170 ih m (aT args 0) (aT args 1) h else bif Nat.beq f 171 then s171 ih m (aT args 0) (aT args 1) (aT args 2) h else bif Nat.beq f 172 then s172 ih m (aT args 0) h else bif Nat.beq f 174 then s174 ih m (aT args 0) (aT args 1) h else bif Nat.beq f 178 then s178 ih m (aT args 0) h else bif Nat.beq f 187 then s187 ih m (aT args 0) (aT args 1) h else bif Nat.beq f 188 then s188 ih m (aT args 0) (aT args 1) h else aE CF ih m f args h
theorem dAy : dDm ih m f args h = aE CF ih m f args h := dT ih m f args h (cPw ih m args h).symm (dT ih m f args h (cWb ih m args h).symm (dT ih m f args h (cPo ih m args h).symm (dT ih m f args h (cLm ih m args h).symm (dT ih m f args h (cLt ih m args h).symm (dT ih m f args h (cQj ih m args h).symm (dT ih m f args h (cTb ih m args h).symm (dT ih m f args h (cUf ih m args h).symm rfl)))))))
noncomputable def cXo : aG := bif Nat.beq f 196 then s196 ih m (aT args 0) (aT args 1) h else bif Nat.beq f 201 then s201 ih m (aT args 0) (aT args 1) h else bif Nat.beq f 202 then s202 ih m (aT args 0) (aT args 1) h else bif Nat.beq f 203 then s203 ih m (aT args 0) h else bif Nat.beq f 204 then s204 ih m (aT args 0) (aT args 1) (aT args 2) (aT args 3) (aT args 4) (aT args 5) (aT args 6) (aT args 7) h else bif Nat.beq f 205 then s205 ih m (aT args 0) h else bif Nat.beq f 206 then s206 ih m (aT args 0) h else bif Nat.beq f 224 then s224 ih m (aT args 0) h else aE CF ih m f args h
theorem dEl : cXo ih m f args h = aE CF ih m f args h := dT ih m f args h (cLu ih m args h).symm (dT ih m f args h (cNo ih m args h).symm (dT ih m f args h (cUx ih m args h).symm (dT ih m f args h (cUh ih m args h).symm (dT ih m f args h (cTz ih m args h).symm (dT ih m f args h (cSh ih m args h).symm (dT ih m f args h (cLf ih m args h).symm (dT ih m f args h (cUu ih m args h).symm rfl)))))))
noncomputable def dCt : aG := bif Nat.beq f 225 then s225 ih m (aT args 0) h else bif Nat.beq f 226 then s226 ih m (aT args 0) h else aE CF ih m f args h
theorem dDc : dCt ih m f args h = aE CF ih m f args h := dT ih m f args h (cPk ih m args h).symm (dT ih m f args h (cVj ih m args h).symm rfl)
noncomputable def qd0 : aG := bif Nat.blt f 23 then qg1 ih m f args h else qg2 ih m f args h
theorem dFk : qd0 ih m f args h = aE CF ih m f args h := ndC ih m f args h (dKa ih m f args h) (dEw ih m f args h)
noncomputable def qd1 : aG := bif Nat.blt f 11 then qg0 ih m f args h else qd0 ih m f args h
theorem dJv : qd1 ih m f args h = aE CF ih m f args h := ndC ih m f args h (dFz ih m f args h) (dFk ih m f args h)
noncomputable def qd2 : aG := bif Nat.blt f 71 then qg4 ih m f args h else qg5 ih m f args h
theorem dIu : qd2 ih m f args h = aE CF ih m f args h := ndC ih m f args h (dJo ih m f args h) (dJm ih m f args h)
noncomputable def qd3 : aG := bif Nat.blt f 55 then qg3 ih m f args h else qd2 ih m f args h
theorem dIt : qd3 ih m f args h = aE CF ih m f args h := ndC ih m f args h (dHc ih m f args h) (dIu ih m f args h)
noncomputable def qd4 : aG := bif Nat.blt f 39 then qd1 ih m f args h else qd3 ih m f args h
theorem dGg : qd4 ih m f args h = aE CF ih m f args h := ndC ih m f args h (dJv ih m f args h) (dIt ih m f args h)
noncomputable def qd5 : aG := bif Nat.blt f 127 then qg7 ih m f args h else qg8 ih m f args h
theorem dIc : qd5 ih m f args h = aE CF ih m f args h := ndC ih m f args h (dJs ih m f args h) (dJi ih m f args h)
noncomputable def qd6 : aG := bif Nat.blt f 108 then qg6 ih m f args h else qd5 ih m f args h
theorem dFl : qd6 ih m f args h = aE CF ih m f args h := ndC ih m f args h (dGn ih m f args h) (dIc ih m f args h)
noncomputable def qd7 : aG := bif Nat.blt f 169 then qg9 ih m f args h else dDm ih m f args h
theorem dJd : qd7 ih m f args h = aE CF ih m f args h := ndC ih m f args h (dFg ih m f args h) (dAy ih m f args h)
noncomputable def qd8 : aG := bif Nat.blt f 225 then cXo ih m f args h else dCt ih m f args h
theorem dFm : qd8 ih m f args h = aE CF ih m f args h := ndC ih m f args h (dEl ih m f args h) (dDc ih m f args h)
noncomputable def qd9 : aG := bif Nat.blt f 196 then qd7 ih m f args h else qd8 ih m f args h
theorem dGa : qd9 ih m f args h = aE CF ih m f args h := ndC ih m f args h (dJd ih m f args h) (dFm ih m f args h)
noncomputable def cXj : aG := bif Nat.blt f 147 then qd6 ih m f args h else qd9 ih m f args h
theorem cZz : cXj ih m f args h = aE CF ih m f args h := ndC ih m f args h (dFl ih m f args h) (dGa ih m f args h)
noncomputable def cWp : aG := bif Nat.blt f 86 then qd4 ih m f args h else cXj ih m f args h
theorem dBe : cWp ih m f args h = aE CF ih m f args h := ndC ih m f args h (dGg ih m f args h) (cZz ih m f args h)
end
noncomputable def shB (ih : RT) (m : Nat) (f : FuncId) (args : List DV) (h : Hp) : aG := cWp ih m f args h
theorem bEw (ih : RT) (m : Nat) (f : FuncId) (args : List DV) (h : Hp) : shB ih m f args h = aE CF ih m f args h := dBe ih m f args h
noncomputable def cK (n : Nat) : FuncId → List DV → Hp → aG :=
 Nat.rec (motive := fun _ => FuncId → List DV → Hp → aG) (fun _ _ _ => none) (fun m ih => fun f args h => bif rgB f then nZ CF ih m itm f args h else shB ih m f args h) n
theorem aJh (f : FuncId) (hf : rgB f = false) (n : Nat) (args : List DV) (h : Hp) : cK (n + 1) f args h = aE CF (cK n) n f args h := by
 show (bif rgB f then nZ CF (cK n) n itm f args h else shB (cK n) n f args h) = _
 rw [hf, cond_false, bEw]
theorem xJ : ∀ n, cK n = gH CF n
 | 0 => rfl
 | n + 1 => by
  funext f args h
  show (bif rgB f then nZ CF (cK n) n itm f args h else shB (cK n) n f args h) = (bif rgB f then nZ CF (gH CF n) n itm f else aE CF (gH CF n) n f) args h
  rw [← xJ n]
  cases rgB f with
  | true => rfl
  | false => exact bEw _ _ _ _ _
end Go.Dd

