/- A part of the proof: Q9 Q10 Q11 Q12 Q13 Q14 Qt HK: each text has a comment of its own. -/
import Derived.Test.YtkdndgecldkiiaaGreatPk2
set_option linter.unusedVariables false
set_option linter.unusedSimpArgs false
set_option linter.constructorNameAsVariable false
set_option maxRecDepth 100000
namespace Go.Dd
open Go.Proofs
variable (r : RT) (n : Nat) (args : List DV) (h : Hp)
noncomputable def zN (r : RT) (n : Nat) (x7 : DV) (h0 : Hp) : aG :=
 bnd (aB 1 x7 h0) fun v1 h1 =>
 bnd (aA v1 h1) fun v2 h2 =>
 some (v2, h2)
noncomputable def vH (r : RT) (n : Nat) (x0 x2 x7 : DV) (h0 : Hp) : aG :=
 bnd (bQ x2 h0) fun v1 h1 =>
 bnd (aD .eql v1 (aH 4) h1) fun v2 h2 =>
 aU v2 (
 bnd (aK 4 x7 h2) fun v3 h3 =>
 bnd (r 182 [x0, v3, (aH 18)] h3) fun v4 h4 =>
  zN r n x7 h4) (
  zN r n x7 h2)
noncomputable def aBp (r : RT) (n : Nat) (x0 x1 x2 : DV) (h0 : Hp) : aG :=
 bnd (r 156 [x0, x1, (.s [])] h0) fun v1 h1 =>
 bnd (bJ [(aH 0), (.s []), (aH 0), (aH 0)] h1) fun v2 h2 =>
 bnd (aE 4 v2 v1 h2) fun _ h3 =>
  vH r n x0 x2 v2 h3
noncomputable def s184 (r : RT) (n : Nat) (x0 x1 x2 : DV) (h0 : Hp) : aG :=
 aBp r n x0 x1 x2 h0
noncomputable abbrev c184 : Code := cf Tryz.f184
noncomputable abbrev aAo : Code := cR c184
noncomputable abbrev aBg : Code := cR aAo
noncomputable abbrev cOz : Code := cR aBg
noncomputable abbrev bMk : Code := cL aBg
noncomputable abbrev aLv : Code := cL aAo
noncomputable abbrev bHo : Code := cL c184
noncomputable abbrev r184 : K := aQ CF Tryz.f184
noncomputable def D184 (r : RT) (n : Nat) (c : Code) (X : Nat → K) (k : K) : K := aM CF r 19 n c X r184 k
theorem cAw : D184 r n cOz x0 r184 = (K1 (zN r n) 7) :=
 (by kernel_rfl)
theorem bQv : D184 r n aBg x0 r184 = D184 r n bMk x0 (K1 (zN r n) 7) :=
 congrArg (fun k => D184 r n bMk x0 k) (cAw r n)
theorem bXs : D184 r n aBg x0 r184 = (K3 (vH r n) 0 2 7) :=
 (bQv r n).trans
 ((by kernel_rfl))
theorem bOa : D184 r n aAo x0 r184 = D184 r n aLv x0 (K3 (vH r n) 0 2 7) :=
 congrArg (fun k => D184 r n aLv x0 k) (bXs r n)
theorem bTc (q0 : mE) : D184 r n aLv x0 (K3 q0 0 2 7) = fun (env : aS) (h : Hp) =>
 bnd (r 156 [(env 0), (env 1), (.s [])] h) fun v1 h1 =>
 bnd (bJ [(aH 0), (.s []), (aH 0), (aH 0)] h1) fun v2 h2 =>
 bnd (aE 4 v2 v1 h2) fun _ h3 =>
  q0 (env 0) (env 2) v2 h3 := by kernel_rfl
theorem aZy : (fun (env : aS) (h : Hp) =>
 bnd (r 156 [(env 0), (env 1), (.s [])] h) fun v1 h1 =>
 bnd (bJ [(aH 0), (.s []), (aH 0), (aH 0)] h1) fun v2 h2 =>
 bnd (aE 4 v2 v1 h2) fun _ h3 =>
  vH r n (env 0) (env 2) v2 h3) = (K3 (aBp r n) 0 1 2) := by kernel_rfl
theorem cFy : D184 r n aAo x0 r184 = (K3 (aBp r n) 0 1 2) :=
 (bOa r n).trans
 ((bTc r n (vH r n)).trans (aZy r n))
theorem cTw : D184 r n c184 x0 r184 = D184 r n bHo x0 (K3 (aBp r n) 0 1 2) :=
 congrArg (fun k => D184 r n bHo x0 k) (cFy r n)
theorem dCr : D184 r n c184 x0 r184 = (K3 (s184 r n) 0 1 2) :=
 (cTw r n).trans
 ((by kernel_rfl))
theorem cKb : aF CF r n 184 args h = s184 r n (aT args 0) (aT args 1) (aT args 2) h :=
 (by kernel_rfl : aF CF r n 184 args h = D184 r n c184 x0 r184 (aJ args) h).trans ((congrFun (congrFun (dCr r n) (aJ args)) h).trans (by kernel_rfl))
noncomputable def cU (r : RT) (n : Nat) (kk2 : bX) (x0 x2 x10 x11 x12 : DV) (h0 : Hp) : aG :=
 bnd (aD .add x12 (aH 1) h0) fun v1 h1 =>
  kk2 x0 x2 x10 x11 v1 h1
noncomputable def vM (r : RT) (n : Nat) (kk2 : bX) (x0 x2 x7 x10 x11 x12 : DV) (h0 : Hp) : aG :=
 bnd (aP x0 h0) fun v1 h1 =>
 bnd (aB 8 v1 h1) fun v2 h2 =>
 bnd (aA v2 h2) fun v3 h3 =>
 bnd (aD .neq v3 (aH 0) h3) fun v4 h4 =>
 aU v4 (
 some (.t [], h4)) (
 bnd (aP x0 (resv 1 h4)) fun v5 h5 =>
 bnd (aB 6 v5 h5) fun v6 h6 =>
 bnd (aA v6 h6) fun v7 h7 =>
 bnd (aP x0 h7) fun v8 h8 =>
 bnd (aB 0 v8 h8) fun v9 h9 =>
 bnd (aB 2 v9 h9) fun v10 h10 =>
 bnd (aA v10 h10) fun v11 h11 =>
 bnd (aX [(.s []), (.b false), (.b false), (aH 0)] [(0, 1, x7), (1, 1, (.b false)), (2, 1, x2), (3, 1, v11)] h11) fun v12 h12 =>
 bnd (bH (aY 0 h4.next) [(.s []), (.b false), (.b false), (aH 0)] 1 [(0, 4, v12)] h12) fun v13 h13 =>
 bnd (aW 4 32 v7 v13 h13) fun v14 h14 =>
 bnd (aP x0 h14) fun v15 h15 =>
 bnd (aB 6 v15 h15) fun v16 h16 =>
 bnd (aE 1 v16 v14 h16) fun v17 h17 =>
 bnd (aP x0 h17) fun v18 h18 =>
 bnd (aB 0 v18 h18) fun v19 h19 =>
 bnd (aB 2 v19 h19) fun v20 h20 =>
 bnd (aA v20 h20) fun v21 h21 =>
 bnd (aD .add v21 (aH 1) h21) fun v22 h22 =>
 bnd (aP x0 h22) fun v23 h23 =>
 bnd (aB 0 v23 h23) fun v24 h24 =>
 bnd (aB 2 v24 h24) fun v25 h25 =>
 bnd (aE 1 v25 v22 h25) fun _ h26 =>
  cU r n kk2 x0 x2 x10 x11 x12 h26)
noncomputable def nJ (r : RT) (n : Nat) (kk2 : bX) (x0 x2 x7 x10 x11 x12 : DV) (h0 : Hp) : aG :=
 bnd (aP x0 h0) fun v1 h1 =>
 bnd (aB 0 v1 h1) fun v2 h2 =>
 bnd (aB 2 v2 h2) fun v3 h3 =>
 bnd (aA v3 h3) fun v4 h4 =>
 bnd (aD .eql v4 (aH 24) h4) fun v5 h5 =>
 aU v5 (
 bnd (r 213 [x0, x7, (aH 18)] h5) fun v6 h6 =>
  vM r n kk2 x0 x2 x7 x10 x11 x12 h6) (
  vM r n kk2 x0 x2 x7 x10 x11 x12 h5)
noncomputable def zO (r : RT) (n : Nat) (kk2 : bX) (x0 x2 x7 x10 x11 x12 : DV) (h0 : Hp) : aG :=
 bnd (r 211 [x0, x7] h0) fun v1 h1 =>
 bnd (aC 0 v1 h1) fun v2 h2 =>
 bnd (aC 1 v1 h2) fun v3 h3 =>
 bnd (bJ [(.s []), (.b false), (.b false), (aH 0)] h3) fun v4 h4 =>
 bnd (aE 4 v4 v2 h4) fun _ h5 =>
 bnd (gD v3 false (some (x7, h5)) h5) fun v6 h6 =>
 bnd (gD v3 false (r 212 [v6] h6) h6) fun v7 h7 =>
 bnd (aO v3 (.b true) v7 h7) fun v8 h8 =>
 aU v8 (
 bnd (r 213 [x0, x7, (aH 16)] h8) fun v9 h9 =>
  nJ r n kk2 x0 x2 x7 x10 x11 x12 h9) (
  nJ r n kk2 x0 x2 x7 x10 x11 x12 h8)
noncomputable def aNg (r : RT) (n : Nat) (kk2 : bX) (x0 x2 x10 x11 x12 : DV) (h0 : Hp) : aG :=
 bnd (aI 1 x10 x12 h0) fun v1 h1 =>
 bnd (aA v1 h1) fun v2 h2 =>
  zO r n kk2 x0 x2 v2 x10 x11 x12 h2
noncomputable def aMv (r : RT) (n : Nat) (kk2 : bX) (x0 x2 x10 x11 x12 x13 : DV) (h0 : Hp) : aG :=
 aU x13 (
  aNg r n kk2 x0 x2 x10 x11 x12 h0) (
 some (.t [], h0))
noncomputable def aXf (r : RT) (n : Nat) (kk2 : bX) (x0 x2 x10 x11 x12 : DV) (h0 : Hp) : aG :=
 bnd (aD .lss x12 x11 h0) fun v1 h1 =>
  aMv r n kk2 x0 x2 x10 x11 x12 v1 h1
noncomputable def sP (r : RT) (n : Nat) (m : Nat) : bX :=
 Nat.rec (motive := fun _ => bX) (fun _ _ _ _ _ _ => none) (fun _ ih => aXf r n ih) m
noncomputable def bNo (r : RT) (n : Nat) : bX := sP r n n
noncomputable def aPx (r : RT) (n : Nat) (x0 x2 x10 x11 x12 : DV) (h0 : Hp) : aG :=
 bNo r n x0 x2 x10 x11 x12 h0
noncomputable def s185 (r : RT) (n : Nat) (x0 x1 x2 : DV) (h0 : Hp) : aG :=
 bnd (bQ x1 h0) fun v1 h1 =>
  aPx r n x0 x2 x1 v1 (aH 0) h1
noncomputable abbrev c185 : Code := cf Tryz.f185
noncomputable abbrev aLe : Code := cR c185
noncomputable abbrev aCi : Code := cL aLe
noncomputable abbrev jL : Code := cL aCi
noncomputable abbrev aGr : Code := cR jL
noncomputable abbrev aGh : Code := cR aGr
noncomputable abbrev cPc : Code := cR aGh
noncomputable abbrev aDh : Code := cL aGh
noncomputable abbrev aDd : Code := cL aDh
noncomputable abbrev aGf : Code := cR aDd
noncomputable abbrev rV : Code := cR aGf
noncomputable abbrev aWh : Code := cR rV
noncomputable abbrev aTh : Code := cL rV
noncomputable abbrev aGn : Code := cL aGf
noncomputable abbrev aWd : Code := cL aDd
noncomputable abbrev aQl : Code := cL aGr
noncomputable abbrev aQt : Code := cL jL
noncomputable abbrev aSr : Code := cL c185
noncomputable abbrev r185 : K := aQ CF Tryz.f185
noncomputable def D185 (r : RT) (n : Nat) (c : Code) (X : Nat → K) (k : K) : K := aM CF r 71 n c X r185 k
theorem cHm (kk2 : bX) : D185 r n cPc (xs x0 0 r185) (K5 kk2 0 2 10 11 12) = (K5 (cU r n kk2) 0 2 10 11 12) :=
 (by kernel_rfl)
theorem bIh (kk2 : bX) (q0 : bX) : D185 r n aWh (xs (xs x0 0 r185) 1 (K5 q0 0 2 10 11 12)) (K5 q0 0 2 10 11 12) = fun (env : aS) (h : Hp) =>
 bnd (aP (env 0) h) fun v1 h1 =>
 bnd (aB 8 v1 h1) fun v2 h2 =>
 bnd (aA v2 h2) fun v3 h3 =>
 bnd (aD .neq v3 (aH 0) h3) fun v4 h4 =>
 aU v4 (
 some (.t [], h4)) (
 bnd (aP (env 0) (resv 1 h4)) fun v5 h5 =>
 bnd (aB 6 v5 h5) fun v6 h6 =>
 bnd (aA v6 h6) fun v7 h7 =>
 bnd (aP (env 0) h7) fun v8 h8 =>
 bnd (aB 0 v8 h8) fun v9 h9 =>
 bnd (aB 2 v9 h9) fun v10 h10 =>
 bnd (aA v10 h10) fun v11 h11 =>
 bnd (aX [(.s []), (.b false), (.b false), (aH 0)] [(0, 1, (env 7)), (1, 1, (.b false)), (2, 1, (env 2)), (3, 1, v11)] h11) fun v12 h12 =>
 bnd (bH (aY 0 h4.next) [(.s []), (.b false), (.b false), (aH 0)] 1 [(0, 4, v12)] h12) fun v13 h13 =>
 bnd (aW 4 32 v7 v13 h13) fun v14 h14 =>
 bnd (aP (env 0) h14) fun v15 h15 =>
 bnd (aB 6 v15 h15) fun v16 h16 =>
 bnd (aE 1 v16 v14 h16) fun v17 h17 =>
 bnd (aP (env 0) h17) fun v18 h18 =>
 bnd (aB 0 v18 h18) fun v19 h19 =>
 bnd (aB 2 v19 h19) fun v20 h20 =>
 bnd (aA v20 h20) fun v21 h21 =>
 bnd (aD .add v21 (aH 1) h21) fun v22 h22 =>
 bnd (aP (env 0) h22) fun v23 h23 =>
 bnd (aB 0 v23 h23) fun v24 h24 =>
 bnd (aB 2 v24 h24) fun v25 h25 =>
 bnd (aE 1 v25 v22 h25) fun _ h26 =>
      q0 (env 0) (env 2) (env 10) (env 11) (env 12) h26) := by kernel_rfl
theorem bAv (kk2 : bX) : (fun (env : aS) (h : Hp) =>
 bnd (aP (env 0) h) fun v1 h1 =>
 bnd (aB 8 v1 h1) fun v2 h2 =>
 bnd (aA v2 h2) fun v3 h3 =>
 bnd (aD .neq v3 (aH 0) h3) fun v4 h4 =>
 aU v4 (
 some (.t [], h4)) (
 bnd (aP (env 0) (resv 1 h4)) fun v5 h5 =>
 bnd (aB 6 v5 h5) fun v6 h6 =>
 bnd (aA v6 h6) fun v7 h7 =>
 bnd (aP (env 0) h7) fun v8 h8 =>
 bnd (aB 0 v8 h8) fun v9 h9 =>
 bnd (aB 2 v9 h9) fun v10 h10 =>
 bnd (aA v10 h10) fun v11 h11 =>
 bnd (aX [(.s []), (.b false), (.b false), (aH 0)] [(0, 1, (env 7)), (1, 1, (.b false)), (2, 1, (env 2)), (3, 1, v11)] h11) fun v12 h12 =>
 bnd (bH (aY 0 h4.next) [(.s []), (.b false), (.b false), (aH 0)] 1 [(0, 4, v12)] h12) fun v13 h13 =>
 bnd (aW 4 32 v7 v13 h13) fun v14 h14 =>
 bnd (aP (env 0) h14) fun v15 h15 =>
 bnd (aB 6 v15 h15) fun v16 h16 =>
 bnd (aE 1 v16 v14 h16) fun v17 h17 =>
 bnd (aP (env 0) h17) fun v18 h18 =>
 bnd (aB 0 v18 h18) fun v19 h19 =>
 bnd (aB 2 v19 h19) fun v20 h20 =>
 bnd (aA v20 h20) fun v21 h21 =>
 bnd (aD .add v21 (aH 1) h21) fun v22 h22 =>
 bnd (aP (env 0) h22) fun v23 h23 =>
 bnd (aB 0 v23 h23) fun v24 h24 =>
 bnd (aB 2 v24 h24) fun v25 h25 =>
 bnd (aE 1 v25 v22 h25) fun _ h26 =>
      cU r n kk2 (env 0) (env 2) (env 10) (env 11) (env 12) h26)) = (K6 (vM r n kk2) 0 2 7 10 11 12) := by kernel_rfl
theorem bVr (kk2 : bX) : D185 r n aWh (xs (xs x0 0 r185) 1 (K5 (cU r n kk2) 0 2 10 11 12)) (K5 (cU r n kk2) 0 2 10 11 12) = (K6 (vM r n kk2) 0 2 7 10 11 12) :=
 (bIh r n kk2 (cU r n kk2)).trans (bAv r n kk2)
theorem bJi (kk2 : bX) : D185 r n rV (xs (xs x0 0 r185) 1 (K5 (cU r n kk2) 0 2 10 11 12)) (K5 (cU r n kk2) 0 2 10 11 12) = D185 r n aTh (xs (xs x0 0 r185) 1 (K5 (cU r n kk2) 0 2 10 11 12)) (K6 (vM r n kk2) 0 2 7 10 11 12) :=
 congrArg (fun k => D185 r n aTh (xs (xs x0 0 r185) 1 (K5 (cU r n kk2) 0 2 10 11 12)) k) (bVr r n kk2)
theorem cDt (kk2 : bX) : D185 r n rV (xs (xs x0 0 r185) 1 (K5 (cU r n kk2) 0 2 10 11 12)) (K5 (cU r n kk2) 0 2 10 11 12) = (K6 (nJ r n kk2) 0 2 7 10 11 12) :=
 (bJi r n kk2).trans
 ((by kernel_rfl))
theorem bEw (kk2 : bX) : D185 r n aGf (xs (xs x0 0 r185) 1 (K5 (cU r n kk2) 0 2 10 11 12)) (K5 (cU r n kk2) 0 2 10 11 12) = D185 r n aGn (xs (xs x0 0 r185) 1 (K5 (cU r n kk2) 0 2 10 11 12)) (K6 (nJ r n kk2) 0 2 7 10 11 12) :=
 congrArg (fun k => D185 r n aGn (xs (xs x0 0 r185) 1 (K5 (cU r n kk2) 0 2 10 11 12)) k) (cDt r n kk2)
theorem bSb (kk2 : bX) (q0 : eR) (q1 : bX) : D185 r n aGn (xs (xs x0 0 r185) 1 (K5 q1 0 2 10 11 12)) (K6 q0 0 2 7 10 11 12) = fun (env : aS) (h : Hp) =>
 bnd (r 211 [(env 0), (env 7)] h) fun v1 h1 =>
 bnd (aC 0 v1 h1) fun v2 h2 =>
 bnd (aC 1 v1 h2) fun v3 h3 =>
 bnd (bJ [(.s []), (.b false), (.b false), (aH 0)] h3) fun v4 h4 =>
 bnd (aE 4 v4 v2 h4) fun _ h5 =>
 bnd (gD v3 false (some ((env 7), h5)) h5) fun v6 h6 =>
 bnd (gD v3 false (r 212 [v6] h6) h6) fun v7 h7 =>
 bnd (aO v3 (.b true) v7 h7) fun v8 h8 =>
 aU v8 (
 bnd (r 213 [(env 0), (env 7), (aH 16)] h8) fun v9 h9 =>
      q0 (env 0) (env 2) (env 7) (env 10) (env 11) (env 12) h9) (
      q0 (env 0) (env 2) (env 7) (env 10) (env 11) (env 12) h8) := by kernel_rfl
theorem aYs (kk2 : bX) : (fun (env : aS) (h : Hp) =>
 bnd (r 211 [(env 0), (env 7)] h) fun v1 h1 =>
 bnd (aC 0 v1 h1) fun v2 h2 =>
 bnd (aC 1 v1 h2) fun v3 h3 =>
 bnd (bJ [(.s []), (.b false), (.b false), (aH 0)] h3) fun v4 h4 =>
 bnd (aE 4 v4 v2 h4) fun _ h5 =>
 bnd (gD v3 false (some ((env 7), h5)) h5) fun v6 h6 =>
 bnd (gD v3 false (r 212 [v6] h6) h6) fun v7 h7 =>
 bnd (aO v3 (.b true) v7 h7) fun v8 h8 =>
 aU v8 (
 bnd (r 213 [(env 0), (env 7), (aH 16)] h8) fun v9 h9 =>
      nJ r n kk2 (env 0) (env 2) (env 7) (env 10) (env 11) (env 12) h9) (
      nJ r n kk2 (env 0) (env 2) (env 7) (env 10) (env 11) (env 12) h8)) = (K6 (zO r n kk2) 0 2 7 10 11 12) := by kernel_rfl
theorem cHt (kk2 : bX) : D185 r n aGf (xs (xs x0 0 r185) 1 (K5 (cU r n kk2) 0 2 10 11 12)) (K5 (cU r n kk2) 0 2 10 11 12) = (K6 (zO r n kk2) 0 2 7 10 11 12) :=
 (bEw r n kk2).trans
 ((bSb r n kk2 (nJ r n kk2) (cU r n kk2)).trans (aYs r n kk2))
theorem bBr (kk2 : bX) : D185 r n aGh (xs x0 0 r185) (K5 kk2 0 2 10 11 12) = D185 r n aDh (xs x0 0 r185) (K5 (cU r n kk2) 0 2 10 11 12) :=
 congrArg (fun k => D185 r n aDh (xs x0 0 r185) k) (cHm r n kk2)
theorem bCx (kk2 : bX) : D185 r n aDd (xs (xs x0 0 r185) 1 (K5 (cU r n kk2) 0 2 10 11 12)) (K5 (cU r n kk2) 0 2 10 11 12) = D185 r n aWd (xs (xs x0 0 r185) 1 (K5 (cU r n kk2) 0 2 10 11 12)) (K6 (zO r n kk2) 0 2 7 10 11 12) :=
 congrArg (fun k => D185 r n aWd (xs (xs x0 0 r185) 1 (K5 (cU r n kk2) 0 2 10 11 12)) k) (cHt r n kk2)
theorem cGg (kk2 : bX) : D185 r n aGh (xs x0 0 r185) (K5 kk2 0 2 10 11 12) = (K5 (aNg r n kk2) 0 2 10 11 12) :=
 (bBr r n kk2).trans
 ((by kernel_rfl : D185 r n aDh (xs x0 0 r185) (K5 (cU r n kk2) 0 2 10 11 12) = D185 r n aDd (xs (xs x0 0 r185) 1 (K5 (cU r n kk2) 0 2 10 11 12)) (K5 (cU r n kk2) 0 2 10 11 12)).trans
 ((bCx r n kk2).trans
 ((by kernel_rfl))))
theorem bGa (kk2 : bX) : D185 r n aGr (xs x0 0 r185) (K5 kk2 0 2 10 11 12) = D185 r n aQl (xs x0 0 r185) (K5 (aNg r n kk2) 0 2 10 11 12) :=
 congrArg (fun k => D185 r n aQl (xs x0 0 r185) k) (cGg r n kk2)
theorem cAc (kk2 : bX) : D185 r n aGr (xs x0 0 r185) (K5 kk2 0 2 10 11 12) = (K6 (aMv r n kk2) 0 2 10 11 12 13) :=
 (bGa r n kk2).trans
 ((by kernel_rfl))
theorem bTb (kk2 : bX) : D185 r n jL (xs x0 0 r185) (K5 kk2 0 2 10 11 12) = D185 r n aQt (xs x0 0 r185) (K6 (aMv r n kk2) 0 2 10 11 12 13) :=
 congrArg (fun k => D185 r n aQt (xs x0 0 r185) k) (cAc r n kk2)
theorem bLv (kk2 : bX) : D185 r n jL (xs x0 0 r185) (K5 kk2 0 2 10 11 12) = (K5 (aXf r n kk2) 0 2 10 11 12) :=
 (bTb r n kk2).trans
 ((by kernel_rfl))
theorem bKt (m : Nat) : aL (fun kk => D185 r n jL (xs x0 0 r185) kk) m = (K5 (sP r n m) 0 2 10 11 12) := by
 induction m with
 | zero => exact (by kernel_rfl : aL (fun kk => D185 r n jL (xs x0 0 r185) kk) 0 = (K5 (sP r n 0) 0 2 10 11 12))
 | succ m ih =>
  refine (by kernel_rfl : aL (fun kk => D185 r n jL (xs x0 0 r185) kk) (m + 1) = D185 r n jL (xs x0 0 r185) (aL (fun kk => D185 r n jL (xs x0 0 r185) kk) m)).trans ?_
  rw [ih]
  exact (bLv r n (sP r n m)).trans (by kernel_rfl)
theorem cCe : D185 r n aCi (xs x0 0 r185) r185 = (K5 (bNo r n) 0 2 10 11 12) :=
 (by kernel_rfl : D185 r n aCi (xs x0 0 r185) r185 = aL (fun kk => D185 r n jL (xs x0 0 r185) kk) n).trans ((bKt r n n).trans (by kernel_rfl))
theorem bYx : D185 r n aLe x0 r185 = (K5 (aPx r n) 0 2 10 11 12) :=
 (by kernel_rfl : D185 r n aLe x0 r185 = D185 r n aCi (xs x0 0 r185) r185).trans
 ((cCe r n).trans (by kernel_rfl))
theorem cSi : D185 r n c185 x0 r185 = D185 r n aSr x0 (K5 (aPx r n) 0 2 10 11 12) :=
 congrArg (fun k => D185 r n aSr x0 k) (bYx r n)
theorem cVl : D185 r n c185 x0 r185 = (K3 (s185 r n) 0 1 2) :=
 (cSi r n).trans
 ((by kernel_rfl))
theorem cLk : aF CF r n 185 args h = s185 r n (aT args 0) (aT args 1) (aT args 2) h :=
 (by kernel_rfl : aF CF r n 185 args h = D185 r n c185 x0 r185 (aJ args) h).trans ((congrFun (congrFun (cVl r n) (aJ args)) h).trans (by kernel_rfl))
noncomputable def qD (r : RT) (n : Nat) (x0 x3 x11 x14 : DV) (h0 : Hp) : aG :=
 aU x14 (
 bnd (aK 6 x3 h0) fun v1 h1 =>
 bnd (r 215 [x0, v1] h1) fun v2 h2 =>
 bnd (kN [x0, v2] h2) fun v3 h3 =>
 bnd (r 187 [x0, (aH 6), v3, (aH 0)] h3) fun v4 h4 =>
 some (.t [], h4)) (
 bnd (aD .eql x11 (aH 5) h0) fun v5 h5 =>
 aU v5 (
 bnd (aB 1 x3 h5) fun v6 h6 =>
 bnd (aA v6 h6) fun v7 h7 =>
 bnd (r 216 [x0, v7] h7) fun v8 h8 =>
 some (.t [], h8)) (
 bnd (aD .eql x11 (aH 6) h5) fun v9 h9 =>
 aU v9 (
 bnd (aK 6 x3 h9) fun v10 h10 =>
 bnd (r 217 [x0, v10] h10) fun v11 h11 =>
 some (.t [], h11)) (
 bnd (aD .eql x11 (aH 7) h9) fun v12 h12 =>
 aU v12 (
 bnd (aK 6 x3 h12) fun v13 h13 =>
 bnd (r 218 [x0, v13] h13) fun v14 h14 =>
 some (.t [], h14)) (
 bnd (aD .eql x11 (aH 8) h12) fun v15 h15 =>
 aU v15 (
 bnd (aK 6 x3 h15) fun v16 h16 =>
 bnd (r 219 [x0, v16] h16) fun v17 h17 =>
 some (.t [], h17)) (
 bnd (aD .eql x11 (aH 9) h15) fun v18 h18 =>
 aU v18 (
 bnd (aP x0 h18) fun v19 h19 =>
 bnd (aB 0 v19 h19) fun v20 h20 =>
 bnd (aB 2 v20 h20) fun v21 h21 =>
 bnd (aA v21 h21) fun v22 h22 =>
 bnd (aB 3 x3 h22) fun v23 h23 =>
 bnd (aA v23 h23) fun v24 h24 =>
 bnd (bQ v24 h24) fun v25 h25 =>
 bnd (r 187 [x0, (aH 18), v22, v25] h25) fun v26 h26 =>
 bnd (r 220 [x0, (aH 16)] h26) fun v27 h27 =>
 bnd (aK 6 x3 h27) fun v28 h28 =>
 bnd (r 221 [x0, v28] h28) fun v29 h29 =>
 bnd (r 187 [x0, (aH 19), (aH 0), (aH 0)] h29) fun v30 h30 =>
 bnd (cY CF r v27 [] h30) fun v31 h31 =>
 some (.t [], h31)) (
 bnd (aD .eql x11 (aH 10) h18) fun v32 h32 =>
 aU v32 (
 bnd (aK 6 x3 h32) fun v33 h33 =>
 bnd (r 222 [x0, v33] h33) fun v34 h34 =>
 aU v34 (
 bnd (aB 5 x3 h34) fun v35 h35 =>
 bnd (aA v35 h35) fun v36 h36 =>
 bnd (aI 6 v36 (aH 0) h36) fun v37 h37 =>
 bnd (aK 6 v37 h37) fun v38 h38 =>
 bnd (r 186 [x0, v38] h38) fun v39 h39 =>
 bnd (r 187 [x0, (aH 20), (aH 0), (aH 0)] h39) fun v40 h40 =>
 some (.t [], h40)) (
 some (.t [], h34))) (
 bnd (r 213 [x0, (.s []), (aH 1)] h32) fun v41 h41 =>
 some (.t [], h41))))))))
noncomputable def aQc (r : RT) (n : Nat) (x0 x3 x11 : DV) (h0 : Hp) : aG :=
 bnd (aD .eql x11 (aH 1) h0) fun v1 h1 =>
 aU v1 (
  qD r n x0 x3 x11 v1 h1) (
 bnd (aD .eql x11 (aH 2) h1) fun v2 h2 =>
 aU v2 (
   qD r n x0 x3 x11 v2 h2) (
 bnd (aD .eql x11 (aH 3) h2) fun v3 h3 =>
 aU v3 (
    qD r n x0 x3 x11 v3 h3) (
 bnd (aD .eql x11 (aH 4) h3) fun v4 h4 =>
    qD r n x0 x3 x11 v4 h4)))
noncomputable def aNy (r : RT) (n : Nat) (x0 x3 : DV) (h0 : Hp) : aG :=
 bnd (aB 0 x3 h0) fun v1 h1 =>
 bnd (aA v1 h1) fun v2 h2 =>
  aQc r n x0 x3 v2 h2
noncomputable def wQ (r : RT) (n : Nat) (x0 x3 : DV) (h0 : Hp) : aG :=
 bnd (aP x0 h0) fun v1 h1 =>
 bnd (aB 8 v1 h1) fun v2 h2 =>
 bnd (aA v2 h2) fun v3 h3 =>
 bnd (aD .neq v3 (aH 0) h3) fun v4 h4 =>
 aU v4 (
 some (.t [], h4)) (
  aNy r n x0 x3 h4)
noncomputable def s186 (r : RT) (n : Nat) (x0 x1 : DV) (h0 : Hp) : aG :=
 bnd (bS x1 h0) fun v1 h1 =>
  wQ r n x0 v1 h1
noncomputable abbrev c186 : Code := cf Tryz.f186
noncomputable abbrev aFa : Code := cR c186
noncomputable abbrev aCp : Code := cR aFa
noncomputable abbrev aLa : Code := cR aCp
noncomputable abbrev yW : Code := cL aLa
noncomputable abbrev cQl : Code := cR yW
noncomputable abbrev bMf : Code := cL yW
noncomputable abbrev bFj : Code := cL aCp
noncomputable abbrev bCn : Code := cL aFa
noncomputable abbrev aPm : Code := cL c186
noncomputable abbrev r186 : K := aQ CF Tryz.f186
noncomputable def D186 (r : RT) (n : Nat) (c : Code) (X : Nat → K) (k : K) : K := aM CF r 81 n c X r186 k
theorem bWu : D186 r n cQl (xs x0 0 r186) r186 = (K4 (qD r n) 0 3 11 14) :=
 (by kernel_rfl)
theorem bBt : D186 r n yW (xs x0 0 r186) r186 = D186 r n bMf (xs x0 0 r186) (K4 (qD r n) 0 3 11 14) :=
 congrArg (fun k => D186 r n bMf (xs x0 0 r186) k) (bWu r n)
theorem bWy : D186 r n aLa x0 r186 = (K3 (aQc r n) 0 3 11) :=
 (by kernel_rfl : D186 r n aLa x0 r186 = D186 r n yW (xs x0 0 r186) r186).trans
 ((bBt r n).trans
 ((by kernel_rfl)))
theorem bDb : D186 r n aCp x0 r186 = D186 r n bFj x0 (K3 (aQc r n) 0 3 11) :=
 congrArg (fun k => D186 r n bFj x0 k) (bWy r n)
theorem bYg : D186 r n aCp x0 r186 = (K2 (aNy r n) 0 3) :=
 (bDb r n).trans
 ((by kernel_rfl))
theorem bFo : D186 r n aFa x0 r186 = D186 r n bCn x0 (K2 (aNy r n) 0 3) :=
 congrArg (fun k => D186 r n bCn x0 k) (bYg r n)
theorem bUt : D186 r n aFa x0 r186 = (K2 (wQ r n) 0 3) :=
 (bFo r n).trans
 ((by kernel_rfl))
theorem cUi : D186 r n c186 x0 r186 = D186 r n aPm x0 (K2 (wQ r n) 0 3) :=
 congrArg (fun k => D186 r n aPm x0 k) (bUt r n)
theorem cRf (q0 : gP) : D186 r n aPm x0 (K2 q0 0 3) = fun (env : aS) (h : Hp) =>
 bnd (bS (env 1) h) fun v1 h1 =>
  q0 (env 0) v1 h1 := by kernel_rfl
theorem bYl : (fun (env : aS) (h : Hp) =>
 bnd (bS (env 1) h) fun v1 h1 =>
  wQ r n (env 0) v1 h1) = (K2 (s186 r n) 0 1) := by kernel_rfl
theorem cWk : D186 r n c186 x0 r186 = (K2 (s186 r n) 0 1) :=
 (cUi r n).trans
 ((cRf r n (wQ r n)).trans (bYl r n))
theorem cSx : aF CF r n 186 args h = s186 r n (aT args 0) (aT args 1) h :=
 (by kernel_rfl : aF CF r n 186 args h = D186 r n c186 x0 r186 (aJ args) h).trans ((congrFun (congrFun (cWk r n) (aJ args)) h).trans (by kernel_rfl))
noncomputable def s187 (r : RT) (n : Nat) (x0 x1 x2 x3 : DV) (h0 : Hp) : aG :=
 bnd (aP x0 h0) fun v1 h1 =>
 bnd (aB 0 v1 h1) fun v2 h2 =>
 bnd (aB 5 v2 h2) fun v3 h3 =>
 bnd (aA v3 h3) fun v4 h4 =>
 bnd (aX [(aH 0), (aH 0), (aH 0)] [(0, 1, x1), (1, 1, x2), (2, 1, x3)] h4) fun v5 h5 =>
 bnd (aN [(aH 0), (aH 0), (aH 0)] 1 [(0, 3, v5)] h5) fun v6 h6 =>
 bnd (aW 3 24 v4 v6 h6) fun v7 h7 =>
 bnd (aP x0 h7) fun v8 h8 =>
 bnd (aB 0 v8 h8) fun v9 h9 =>
 bnd (aB 5 v9 h9) fun v10 h10 =>
 bnd (aE 1 v10 v7 h10) fun _ h11 =>
 some (.t [], h11)
noncomputable abbrev c187 : Code := cf Tryz.f187
noncomputable abbrev r187 : K := aQ CF Tryz.f187
noncomputable def D187 (r : RT) (n : Nat) (c : Code) (X : Nat → K) (k : K) : K := aM CF r 23 n c X r187 k
theorem cYq : D187 r n c187 x0 r187 = (K4 (s187 r n) 0 1 2 3) :=
 (by kernel_rfl)
theorem cSr : aF CF r n 187 args h = s187 r n (aT args 0) (aT args 1) (aT args 2) (aT args 3) h :=
 (by kernel_rfl : aF CF r n 187 args h = D187 r n c187 x0 r187 (aJ args) h).trans ((congrFun (congrFun (cYq r n) (aJ args)) h).trans (by kernel_rfl))
noncomputable def s188 (r : RT) (n : Nat) (x0 : DV) (h0 : Hp) : aG :=
 bnd (aD .eql x0 (aH 16) h0) fun v1 h1 =>
 bnd (gD v1 false (some (x0, h1)) h1) fun v2 h2 =>
 bnd (gD v1 false (aD .eql v2 (aH 17) h2) h2) fun v3 h3 =>
 bnd (aO v1 (.b true) v3 h3) fun v4 h4 =>
 some (v4, h4)
noncomputable abbrev c188 : Code := cf Tryz.f188
noncomputable abbrev r188 : K := aQ CF Tryz.f188
noncomputable def D188 (r : RT) (n : Nat) (c : Code) (X : Nat → K) (k : K) : K := aM CF r 9 n c X r188 k
theorem dBe : D188 r n c188 x0 r188 = (K1 (s188 r n) 0) :=
 (by kernel_rfl)
theorem cUp : aF CF r n 188 args h = s188 r n (aT args 0) h :=
 (by kernel_rfl : aF CF r n 188 args h = D188 r n c188 x0 r188 (aJ args) h).trans ((congrFun (congrFun (dBe r n) (aJ args)) h).trans (by kernel_rfl))
end Go.Dd

namespace Go.Dd
open Go.Proofs
variable (r : RT) (n : Nat) (args : List DV) (h : Hp)
end Go.Dd

namespace Go.Dd
open Go.Proofs
variable (r : RT) (n : Nat) (args : List DV) (h : Hp)
noncomputable def s200 (r : RT) (n : Nat) (x0 x1 : DV) (h0 : Hp) : aG :=
 bnd (aA x1 h0) fun v1 h1 =>
 bnd (r 177 [v1, x0] h1) fun v2 h2 =>
 bnd (aD .geq v2 (aH 0) h2) fun v3 h3 =>
 some (v3, h3)
noncomputable abbrev c200 : Code := cf Tryz.f200
noncomputable abbrev r200 : K := aQ CF Tryz.f200
noncomputable def D200 (r : RT) (n : Nat) (c : Code) (X : Nat → K) (k : K) : K := aM CF r 8 n c X r200 k
theorem cZf : D200 r n c200 x0 r200 = (K2 (s200 r n) 0 1) :=
 (by kernel_rfl)
theorem cMv : aF CF r n 200 args h = s200 r n (aT args 0) (aT args 1) h :=
 (by kernel_rfl : aF CF r n 200 args h = D200 r n c200 x0 r200 (aJ args) h).trans ((congrFun (congrFun (cZf r n) (aJ args)) h).trans (by kernel_rfl))
noncomputable def s201 (r : RT) (n : Nat) (x0 x1 : DV) (h0 : Hp) : aG :=
 bnd (lC [x0, x1] h0) fun v1 h1 =>
 some (v1, h1)
noncomputable abbrev c201 : Code := cf Tryz.f201
noncomputable abbrev r201 : K := aQ CF Tryz.f201
noncomputable def D201 (r : RT) (n : Nat) (c : Code) (X : Nat → K) (k : K) : K := aM CF r 8 n c X r201 k
theorem cVe : D201 r n c201 x0 r201 = (K2 (s201 r n) 0 1) :=
 (by kernel_rfl)
theorem cOr : aF CF r n 201 args h = s201 r n (aT args 0) (aT args 1) h :=
 (by kernel_rfl : aF CF r n 201 args h = D201 r n c201 x0 r201 (aJ args) h).trans ((congrFun (congrFun (cVe r n) (aJ args)) h).trans (by kernel_rfl))
noncomputable def s202 (r : RT) (n : Nat) (x0 x1 : DV) (h0 : Hp) : aG :=
 bnd (aP x0 h0) fun v1 h1 =>
 bnd (aB 1 v1 h1) fun v2 h2 =>
 bnd (aA v2 h2) fun v3 h3 =>
 bnd (aD .add v3 x1 h3) fun v4 h4 =>
 bnd (aP x0 h4) fun v5 h5 =>
 bnd (aB 0 v5 h5) fun v6 h6 =>
 bnd (aA v6 h6) fun v7 h7 =>
 bnd (eT v7 h7) fun v8 h8 =>
 bnd (aD .geq v4 v8 h8) fun v9 h9 =>
 aU v9 (
 some ((.i .u8 (Int.ofNat 0)), h9)) (
 bnd (aP x0 h9) fun v10 h10 =>
 bnd (aB 0 v10 h10) fun v11 h11 =>
 bnd (aA v11 h11) fun v12 h12 =>
 bnd (aP x0 h12) fun v13 h13 =>
 bnd (aB 1 v13 h13) fun v14 h14 =>
 bnd (aA v14 h14) fun v15 h15 =>
 bnd (aD .add v15 x1 h15) fun v16 h16 =>
 bnd (fB v12 v16 h16) fun v17 h17 =>
 some (v17, h17))
noncomputable abbrev c202 : Code := cf Tryz.f202
noncomputable abbrev r202 : K := aQ CF Tryz.f202
noncomputable def D202 (r : RT) (n : Nat) (c : Code) (X : Nat → K) (k : K) : K := aM CF r 28 n c X r202 k
theorem dCw : D202 r n c202 x0 r202 = (K2 (s202 r n) 0 1) :=
 (by kernel_rfl)
theorem cLa : aF CF r n 202 args h = s202 r n (aT args 0) (aT args 1) h :=
 (by kernel_rfl : aF CF r n 202 args h = D202 r n c202 x0 r202 (aJ args) h).trans ((congrFun (congrFun (dCw r n) (aJ args)) h).trans (by kernel_rfl))
noncomputable def s203 (r : RT) (n : Nat) (x0 : DV) (h0 : Hp) : aG :=
 bnd (aD .geq x0 (.i .u8 (Int.ofNat 97)) h0) fun v1 h1 =>
 bnd (gD v1 true (some (x0, h1)) h1) fun v2 h2 =>
 bnd (gD v1 true (aD .leq v2 (.i .u8 (Int.ofNat 122)) h2) h2) fun v3 h3 =>
 bnd (aO v1 v3 (.b false) h3) fun v4 h4 =>
 bnd (gD v4 false (some (x0, h4)) h4) fun v5 h5 =>
 bnd (gD v4 false (aD .geq v5 (.i .u8 (Int.ofNat 65)) h5) h5) fun v6 h6 =>
 bnd (gD v4 false (some (v6, h6)) h6) fun v7 h7 =>
 bnd (gD v7 true (some (x0, h7)) h7) fun v8 h8 =>
 bnd (gD v7 true (aD .leq v8 (.i .u8 (Int.ofNat 90)) h8) h8) fun v9 h9 =>
 bnd (gD v4 false (aO v7 v9 (.b false) h9) h9) fun v10 h10 =>
 bnd (aO v4 (.b true) v10 h10) fun v11 h11 =>
 some (v11, h11)
noncomputable abbrev c203 : Code := cf Tryz.f203
noncomputable abbrev r203 : K := aQ CF Tryz.f203
noncomputable def D203 (r : RT) (n : Nat) (c : Code) (X : Nat → K) (k : K) : K := aM CF r 17 n c X r203 k
theorem cZs : D203 r n c203 x0 r203 = (K1 (s203 r n) 0) :=
 (by kernel_rfl)
theorem cKk : aF CF r n 203 args h = s203 r n (aT args 0) h :=
 (by kernel_rfl : aF CF r n 203 args h = D203 r n c203 x0 r203 (aJ args) h).trans ((congrFun (congrFun (cZs r n) (aJ args)) h).trans (by kernel_rfl))
noncomputable def s204 (r : RT) (n : Nat) (x0 : DV) (h0 : Hp) : aG :=
 bnd (aP x0 h0) fun v1 h1 =>
 bnd (aB 0 v1 h1) fun v2 h2 =>
 bnd (aA v2 h2) fun v3 h3 =>
 bnd (eT v3 h3) fun v4 h4 =>
 bnd (r 175 [x0, (.f 230 [] []), v4] h4) fun v5 h5 =>
 bnd (eT v5 h5) fun v6 h6 =>
 bnd (aD .gtr v6 (aH 24) h6) fun v7 h7 =>
 aU v7 (
 some (.t [(.s []), (aH 12)], h7)) (
 some (.t [v5, (aH 0)], h7))
noncomputable abbrev c204 : Code := cf Tryz.f204
noncomputable abbrev r204 : K := aQ CF Tryz.f204
noncomputable def D204 (r : RT) (n : Nat) (c : Code) (X : Nat → K) (k : K) : K := aM CF r 16 n c X r204 k
theorem dCp : D204 r n c204 x0 r204 = (K1 (s204 r n) 0) :=
 (by kernel_rfl)
theorem cUh : aF CF r n 204 args h = s204 r n (aT args 0) h :=
 (by kernel_rfl : aF CF r n 204 args h = D204 r n c204 x0 r204 (aJ args) h).trans ((congrFun (congrFun (dCp r n) (aJ args)) h).trans (by kernel_rfl))
noncomputable def s205 (r : RT) (n : Nat) (x0 : DV) (h0 : Hp) : aG :=
 bnd (r 202 [x0, (aH 0)] h0) fun v1 h1 =>
 bnd (aD .neq v1 (.i .u8 (Int.ofNat 58)) h1) fun v2 h2 =>
 bnd (gD v2 false (some (x0, h2)) h2) fun v3 h3 =>
 bnd (gD v2 false (r 202 [v3, (aH 1)] h3) h3) fun v4 h4 =>
 bnd (gD v2 false (aD .eql v4 (.i .u8 (Int.ofNat 61)) h4) h4) fun v5 h5 =>
 bnd (aO v2 (.b true) v5 h5) fun v6 h6 =>
 aU v6 (
 some ((.b false), h6)) (
 bnd (aP x0 h6) fun v7 h7 =>
 bnd (aB 1 v7 h7) fun v8 h8 =>
 bnd (aA v8 h8) fun v9 h9 =>
 bnd (aD .add v9 (aH 1) h9) fun v10 h10 =>
 bnd (aP x0 h10) fun v11 h11 =>
 bnd (aB 1 v11 h11) fun v12 h12 =>
 bnd (aE 1 v12 v10 h12) fun _ h13 =>
 some ((.b true), h13))
noncomputable abbrev c205 : Code := cf Tryz.f205
noncomputable abbrev r205 : K := aQ CF Tryz.f205
noncomputable def D205 (r : RT) (n : Nat) (c : Code) (X : Nat → K) (k : K) : K := aM CF r 18 n c X r205 k
theorem dBy : D205 r n c205 x0 r205 = (K1 (s205 r n) 0) :=
 (by kernel_rfl)
theorem cPu : aF CF r n 205 args h = s205 r n (aT args 0) h :=
 (by kernel_rfl : aF CF r n 205 args h = D205 r n c205 x0 r205 (aJ args) h).trans ((congrFun (congrFun (dBy r n) (aJ args)) h).trans (by kernel_rfl))
noncomputable def s206 (r : RT) (n : Nat) (x0 : DV) (h0 : Hp) : aG :=
 bnd (aD .geq x0 (.i .u8 (Int.ofNat 48)) h0) fun v1 h1 =>
 bnd (gD v1 true (some (x0, h1)) h1) fun v2 h2 =>
 bnd (gD v1 true (aD .leq v2 (.i .u8 (Int.ofNat 57)) h2) h2) fun v3 h3 =>
 bnd (aO v1 v3 (.b false) h3) fun v4 h4 =>
 some (v4, h4)
noncomputable abbrev c206 : Code := cf Tryz.f206
noncomputable abbrev r206 : K := aQ CF Tryz.f206
noncomputable def D206 (r : RT) (n : Nat) (c : Code) (X : Nat → K) (k : K) : K := aM CF r 9 n c X r206 k
theorem dBj : D206 r n c206 x0 r206 = (K1 (s206 r n) 0) :=
 (by kernel_rfl)
theorem cTr : aF CF r n 206 args h = s206 r n (aT args 0) h :=
 (by kernel_rfl : aF CF r n 206 args h = D206 r n c206 x0 r206 (aJ args) h).trans ((congrFun (congrFun (dBj r n) (aJ args)) h).trans (by kernel_rfl))
noncomputable def eD (r : RT) (n : Nat) (x4 : DV) (h0 : Hp) : aG :=
 some (.t [x4, (aH 0)], h0)
noncomputable def aTw (r : RT) (n : Nat) (kk5 : gP) (x4 x14 : DV) (h0 : Hp) : aG :=
 bnd (vD x14 h0) fun v1 h1 =>
 bnd (aC 0 v1 h1) fun v2 h2 =>
 aU v2 (
 bnd (aC 2 v1 h2) fun v3 h3 =>
 bnd (aD .gtr x4 (aH 115292150460684697) h3) fun v4 h4 =>
 aU v4 (
 some (.t [(aH 0), (aH 2)], h4)) (
 bnd (aD .mul x4 (aH 10) h4) fun v5 h5 =>
 bnd (aD .sub v3 (.i .i32 (Int.ofNat 48)) h5) fun v6 h6 =>
 bnd (eB .i64 v6 h6) fun v7 h7 =>
 bnd (aD .add v5 v7 h7) fun v8 h8 =>
 bnd (aD .gtr v8 (aH 1152921504606846976) h8) fun v9 h9 =>
 aU v9 (
 some (.t [(aH 0), (aH 2)], h9)) (
     kk5 v8 x14 h9))) (
   eD r n x4 h2)
noncomputable def tV (r : RT) (n : Nat) (m : Nat) : gP :=
 Nat.rec (motive := fun _ => gP) (fun _ _ _ => none) (fun _ ih => aTw r n ih) m
noncomputable def bHn (r : RT) (n : Nat) : gP := tV r n n
noncomputable def aMz (r : RT) (n : Nat) (x4 x14 : DV) (h0 : Hp) : aG :=
 bHn r n x4 x14 h0
noncomputable def aMy (r : RT) (n : Nat) (x0 x4 : DV) (h0 : Hp) : aG :=
 bnd (aP x0 h0) fun v1 h1 =>
 bnd (aB 0 v1 h1) fun v2 h2 =>
 bnd (aA v2 h2) fun v3 h3 =>
 bnd (eT v3 h3) fun v4 h4 =>
 bnd (r 175 [x0, (.f 206 [] []), v4] h4) fun v5 h5 =>
 bnd (nF v5 h5) fun v6 h6 =>
  aMz r n x4 v6 h6
noncomputable def aLz (r : RT) (n : Nat) (x0 : DV) (h0 : Hp) : aG :=
 aMy r n x0 (aH 0) h0
noncomputable def s207 (r : RT) (n : Nat) (x0 : DV) (h0 : Hp) : aG :=
 aLz r n x0 h0
noncomputable abbrev c207 : Code := cf Tryz.f207
noncomputable abbrev aEn : Code := cR c207
noncomputable abbrev aGw : Code := cR aEn
noncomputable abbrev cOt : Code := cR aGw
noncomputable abbrev wR : Code := cL aGw
noncomputable abbrev aMn : Code := cR wR
noncomputable abbrev aBx : Code := cL aMn
noncomputable abbrev nS : Code := cL aBx
noncomputable abbrev bDv : Code := cL wR
noncomputable abbrev bRd : Code := cL aEn
noncomputable abbrev aSm : Code := cL c207
noncomputable abbrev r207 : K := aQ CF Tryz.f207
noncomputable def D207 (r : RT) (n : Nat) (c : Code) (X : Nat → K) (k : K) : K := aM CF r 29 n c X r207 k
theorem bVx : D207 r n cOt x0 r207 = (K1 (eD r n) 4) :=
 (by kernel_rfl)
theorem bTl (kk5 : gP) : D207 r n nS (xs x0 0 (K1 (eD r n) 4)) (K2 kk5 4 14) = (K2 (aTw r n kk5) 4 14) :=
 (by kernel_rfl)
theorem bDy (m : Nat) : aL (fun kk => D207 r n nS (xs x0 0 (K1 (eD r n) 4)) kk) m = (K2 (tV r n m) 4 14) := by
 induction m with
 | zero => exact (by kernel_rfl : aL (fun kk => D207 r n nS (xs x0 0 (K1 (eD r n) 4)) kk) 0 = (K2 (tV r n 0) 4 14))
 | succ m ih =>
  refine (by kernel_rfl : aL (fun kk => D207 r n nS (xs x0 0 (K1 (eD r n) 4)) kk) (m + 1) = D207 r n nS (xs x0 0 (K1 (eD r n) 4)) (aL (fun kk => D207 r n nS (xs x0 0 (K1 (eD r n) 4)) kk) m)).trans ?_
  rw [ih]
  exact (bTl r n (tV r n m)).trans (by kernel_rfl)
theorem cDd : D207 r n aBx (xs x0 0 (K1 (eD r n) 4)) (K1 (eD r n) 4) = (K2 (bHn r n) 4 14) :=
 (by kernel_rfl : D207 r n aBx (xs x0 0 (K1 (eD r n) 4)) (K1 (eD r n) 4) = aL (fun kk => D207 r n nS (xs x0 0 (K1 (eD r n) 4)) kk) n).trans ((bDy r n n).trans (by kernel_rfl))
theorem cFs : D207 r n aMn x0 (K1 (eD r n) 4) = (K2 (aMz r n) 4 14) :=
 (by kernel_rfl : D207 r n aMn x0 (K1 (eD r n) 4) = D207 r n aBx (xs x0 0 (K1 (eD r n) 4)) (K1 (eD r n) 4)).trans
 ((cDd r n).trans (by kernel_rfl))
theorem bNq : D207 r n aGw x0 r207 = D207 r n wR x0 (K1 (eD r n) 4) :=
 congrArg (fun k => D207 r n wR x0 k) (bVx r n)
theorem bQl : D207 r n wR x0 (K1 (eD r n) 4) = D207 r n bDv x0 (K2 (aMz r n) 4 14) :=
 congrArg (fun k => D207 r n bDv x0 k) (cFs r n)
theorem cBy : D207 r n aGw x0 r207 = (K2 (aMy r n) 0 4) :=
 (bNq r n).trans
 ((bQl r n).trans
 ((by kernel_rfl)))
theorem bLa : D207 r n aEn x0 r207 = D207 r n bRd x0 (K2 (aMy r n) 0 4) :=
 congrArg (fun k => D207 r n bRd x0 k) (cBy r n)
theorem cDh : D207 r n aEn x0 r207 = (K1 (aLz r n) 0) :=
 (bLa r n).trans
 ((by kernel_rfl))
theorem cRi : D207 r n c207 x0 r207 = D207 r n aSm x0 (K1 (aLz r n) 0) :=
 congrArg (fun k => D207 r n aSm x0 k) (cDh r n)
theorem cYl : D207 r n c207 x0 r207 = (K1 (s207 r n) 0) :=
 (cRi r n).trans
 ((by kernel_rfl))
theorem cUy : aF CF r n 207 args h = s207 r n (aT args 0) h :=
 (by kernel_rfl : aF CF r n 207 args h = D207 r n c207 x0 r207 (aJ args) h).trans ((congrFun (congrFun (cYl r n) (aJ args)) h).trans (by kernel_rfl))
noncomputable def s211 (r : RT) (n : Nat) (x0 x1 : DV) (h0 : Hp) : aG :=
 bnd (bS x1 h0) fun v1 h1 =>
 bnd (bJ [(.s []), (.b false), (.b false), (aH 0)] h1) fun v2 h2 =>
 bnd (aP x0 h2) fun v3 h3 =>
 bnd (aB 6 v3 h3) fun v4 h4 =>
 bnd (aA v4 h4) fun v5 h5 =>
 bnd (r 238 [v5, (.f 239 [] [v1])] h5) fun v6 h6 =>
 bnd (aD .lss v6 (aH 0) h6) fun v7 h7 =>
 aU v7 (
 bnd (aX [(.s []), (.b false), (.b false), (aH 0)] [] h7) fun v8 h8 =>
 bnd (aE 4 v2 v8 h8) fun _ h9 =>
 bnd (aK 4 v2 h9) fun v10 _ =>
 some (.t [v10, (.b false)], h9)) (
 bnd (aP x0 h7) fun v11 h11 =>
 bnd (aB 6 v11 h11) fun v12 h12 =>
 bnd (aA v12 h12) fun v13 h13 =>
 bnd (aI 4 v13 v6 h13) fun v14 h14 =>
 bnd (aK 4 v14 h14) fun v15 h15 =>
 bnd (aE 4 v2 v15 h15) fun _ h16 =>
 bnd (aK 4 v2 h16) fun v17 _ =>
 some (.t [v17, (.b true)], h16))
noncomputable abbrev c211 : Code := cf Tryz.f211
noncomputable abbrev r211 : K := aQ CF Tryz.f211
noncomputable def D211 (r : RT) (n : Nat) (c : Code) (X : Nat → K) (k : K) : K := aM CF r 23 n c X r211 k
theorem dAo : D211 r n c211 x0 r211 = (K2 (s211 r n) 0 1) :=
 (by kernel_rfl)
theorem cQv : aF CF r n 211 args h = s211 r n (aT args 0) (aT args 1) h :=
 (by kernel_rfl : aF CF r n 211 args h = D211 r n c211 x0 r211 (aJ args) h).trans ((congrFun (congrFun (dAo r n) (aJ args)) h).trans (by kernel_rfl))
noncomputable def fV (r : RT) (n : Nat) (h0 : Hp) : aG :=
 some ((.b false), h0)
noncomputable def lR (r : RT) (n : Nat) (x4 : DV) (h0 : Hp) : aG :=
 aU x4 (
 some ((.b true), h0)) (
  fV r n h0)
noncomputable def aKe (r : RT) (n : Nat) (x3 : DV) (h0 : Hp) : aG :=
 bnd (fE .eql x3 (.s [115, 101, 108, 102]) h0) fun v1 h1 =>
 aU v1 (
  lR r n v1 h1) (
 bnd (fE .eql x3 (.s [115, 117, 112, 101, 114]) h1) fun v2 h2 =>
 aU v2 (
   lR r n v2 h2) (
 bnd (fE .eql x3 (.s [110, 105, 108]) h2) fun v3 h3 =>
 aU v3 (
    lR r n v3 h3) (
 bnd (fE .eql x3 (.s [116, 114, 117, 101]) h3) fun v4 h4 =>
 aU v4 (
     lR r n v4 h4) (
 bnd (fE .eql x3 (.s [102, 97, 108, 115, 101]) h4) fun v5 h5 =>
 aU v5 (
      lR r n v5 h5) (
 bnd (fE .eql x3 (.s [116, 104, 105, 115, 67, 111, 110, 116, 101, 120, 116]) h5) fun v6 h6 =>
      lR r n v6 h6)))))
noncomputable def aNr (r : RT) (n : Nat) (x0 : DV) (h0 : Hp) : aG :=
 aKe r n x0 h0
noncomputable def s212 (r : RT) (n : Nat) (x0 : DV) (h0 : Hp) : aG :=
 aNr r n x0 h0
noncomputable abbrev c212 : Code := cf Tryz.f212
noncomputable abbrev aBj : Code := cR c212
noncomputable abbrev cLz : Code := cR aBj
noncomputable abbrev xC : Code := cL aBj
noncomputable abbrev aKt : Code := cR xC
noncomputable abbrev aAk : Code := cL aKt
noncomputable abbrev cJw : Code := cR aAk
noncomputable abbrev bPe : Code := cL aAk
noncomputable abbrev bFx : Code := cL xC
noncomputable abbrev bOq : Code := cL c212
noncomputable abbrev r212 : K := aQ CF Tryz.f212
noncomputable def D212 (r : RT) (n : Nat) (c : Code) (X : Nat → K) (k : K) : K := aM CF r 11 n c X r212 k
theorem bVf : D212 r n cLz x0 r212 = (K0 (fV r n)) :=
 (by kernel_rfl)
theorem cDx : D212 r n cJw (xs x0 0 (K0 (fV r n))) (K0 (fV r n)) = (K1 (lR r n) 4) :=
 (by kernel_rfl)
theorem bFa : D212 r n aAk (xs x0 0 (K0 (fV r n))) (K0 (fV r n)) = D212 r n bPe (xs x0 0 (K0 (fV r n))) (K1 (lR r n) 4) :=
 congrArg (fun k => D212 r n bPe (xs x0 0 (K0 (fV r n))) k) (cDx r n)
theorem bXv : D212 r n aKt x0 (K0 (fV r n)) = (K1 (aKe r n) 3) :=
 (by kernel_rfl : D212 r n aKt x0 (K0 (fV r n)) = D212 r n aAk (xs x0 0 (K0 (fV r n))) (K0 (fV r n))).trans
 ((bFa r n).trans
 ((by kernel_rfl)))
theorem bCh : D212 r n aBj x0 r212 = D212 r n xC x0 (K0 (fV r n)) :=
 congrArg (fun k => D212 r n xC x0 k) (bVf r n)
theorem bLj : D212 r n xC x0 (K0 (fV r n)) = D212 r n bFx x0 (K1 (aKe r n) 3) :=
 congrArg (fun k => D212 r n bFx x0 k) (bXv r n)
theorem cDk : D212 r n aBj x0 r212 = (K1 (aNr r n) 0) :=
 (bCh r n).trans
 ((bLj r n).trans
 ((by kernel_rfl)))
theorem cUn : D212 r n c212 x0 r212 = D212 r n bOq x0 (K1 (aNr r n) 0) :=
 congrArg (fun k => D212 r n bOq x0 k) (cDk r n)
theorem cWo : D212 r n c212 x0 r212 = (K1 (s212 r n) 0) :=
 (cUn r n).trans
 ((by kernel_rfl))
theorem cLp : aF CF r n 212 args h = s212 r n (aT args 0) h :=
 (by kernel_rfl : aF CF r n 212 args h = D212 r n c212 x0 r212 (aJ args) h).trans ((congrFun (congrFun (cWo r n) (aJ args)) h).trans (by kernel_rfl))
end Go.Dd

namespace Go.Dd
open Go.Proofs
variable (r : RT) (n : Nat) (args : List DV) (h : Hp)
noncomputable def zB (r : RT) (n : Nat) (x0 x1 : DV) (h0 : Hp) : aG :=
 bnd (r 211 [x0, x1] h0) fun v1 h1 =>
 bnd (aC 0 v1 h1) fun v2 h2 =>
 bnd (aC 1 v1 h2) fun v3 h3 =>
 bnd (bJ [(.s []), (.b false), (.b false), (aH 0)] h3) fun v4 h4 =>
 bnd (aE 4 v4 v2 h4) fun _ h5 =>
 bnd (gD v3 true (aB 1 v4 h5) h5) fun v6 h6 =>
 bnd (gD v3 true (aA v6 h6) h6) fun v7 h7 =>
 bnd (aO v3 v7 (.b false) h7) fun v8 h8 =>
 aU v8 (
 bnd (aB 3 v4 h8) fun v9 h9 =>
 bnd (aA v9 h9) fun v10 h10 =>
 bnd (r 187 [x0, (aH 8), v10, (aH 0)] h10) fun v11 h11 =>
 some (.t [], h11)) (
 aU v3 (
 bnd (aB 3 v4 h8) fun v12 h12 =>
 bnd (aA v12 h12) fun v13 h13 =>
 bnd (r 187 [x0, (aH 7), v13, (aH 0)] h13) fun v14 h14 =>
 some (.t [], h14)) (
 bnd (r 242 [x1] h8) fun v15 h15 =>
 aU v15 (
 bnd (r 243 [x0, x1] h15) fun v16 h16 =>
 bnd (r 187 [x0, (aH 9), v16, (aH 0)] h16) fun v17 h17 =>
 some (.t [], h17)) (
 bnd (r 213 [x0, x1, (aH 15)] h15) fun v18 h18 =>
 some (.t [], h18))))
noncomputable def s216 (r : RT) (n : Nat) (x0 x1 : DV) (h0 : Hp) : aG :=
 bnd (fE .eql x1 (.s [115, 101, 108, 102]) h0) fun v1 h1 =>
 aU v1 (
 bnd (r 187 [x0, (aH 1), (aH 0), (aH 0)] h1) fun v2 h2 =>
 some (.t [], h2)) (
 bnd (fE .eql x1 (.s [110, 105, 108]) h1) fun v3 h3 =>
 aU v3 (
 bnd (r 187 [x0, (aH 2), (aH 0), (aH 0)] h3) fun v4 h4 =>
 some (.t [], h4)) (
 bnd (fE .eql x1 (.s [116, 114, 117, 101]) h3) fun v5 h5 =>
 aU v5 (
 bnd (r 187 [x0, (aH 3), (aH 0), (aH 0)] h5) fun v6 h6 =>
 some (.t [], h6)) (
 bnd (fE .eql x1 (.s [102, 97, 108, 115, 101]) h5) fun v7 h7 =>
 aU v7 (
 bnd (r 187 [x0, (aH 4), (aH 0), (aH 0)] h7) fun v8 h8 =>
 some (.t [], h8)) (
 bnd (fE .eql x1 (.s [116, 104, 105, 115, 67, 111, 110, 116, 101, 120, 116]) h7) fun v9 h9 =>
 aU v9 (
 bnd (r 187 [x0, (aH 5), (aH 0), (aH 0)] h9) fun v10 h10 =>
 some (.t [], h10)) (
 bnd (fE .eql x1 (.s [115, 117, 112, 101, 114]) h9) fun v11 h11 =>
 aU v11 (
 bnd (r 213 [x0, x1, (aH 15)] h11) fun v12 h12 =>
       zB r n x0 x1 h12) (
       zB r n x0 x1 h11))))))
noncomputable abbrev c216 : Code := cf Tryz.f216
noncomputable abbrev cLe : Code := cR c216
noncomputable abbrev bFt : Code := cL c216
noncomputable abbrev r216 : K := aQ CF Tryz.f216
noncomputable def D216 (r : RT) (n : Nat) (c : Code) (X : Nat → K) (k : K) : K := aM CF r 65 n c X r216 k
theorem cHu : D216 r n cLe x0 r216 = (K2 (zB r n) 0 1) :=
 (by kernel_rfl)
theorem cPo : D216 r n c216 x0 r216 = D216 r n bFt x0 (K2 (zB r n) 0 1) :=
 congrArg (fun k => D216 r n bFt x0 k) (cHu r n)
theorem cXe : D216 r n c216 x0 r216 = (K2 (s216 r n) 0 1) :=
 (cPo r n).trans
 ((by kernel_rfl))
theorem cUr : aF CF r n 216 args h = s216 r n (aT args 0) (aT args 1) h :=
 (by kernel_rfl : aF CF r n 216 args h = D216 r n c216 x0 r216 (aJ args) h).trans ((congrFun (congrFun (cXe r n) (aJ args)) h).trans (by kernel_rfl))
noncomputable def s218 (r : RT) (n : Nat) (x0 x1 : DV) (h0 : Hp) : aG :=
 bnd (bS x1 h0) fun v1 h1 =>
 bnd (aB 5 v1 h1) fun v2 h2 =>
 bnd (aA v2 h2) fun v3 h3 =>
 bnd (bQ v3 h3) fun v4 h4 =>
 bnd (aD .eql v4 (aH 0) h4) fun v5 h5 =>
 aU v5 (
 bnd (r 213 [x0, (.s []), (aH 1)] h5) fun v6 h6 =>
 some (.t [], h6)) (
 bnd (aK 6 v1 h5) fun v7 h7 =>
 bnd (r 244 [x0, v7] h7) fun v8 h8 =>
 bnd (gD v8 false (some (x0, h8)) h8) fun v9 h9 =>
 bnd (gD v8 false (aK 6 v1 h9) h9) fun v10 h10 =>
 bnd (gD v8 false (r 245 [v9, v10] h10) h10) fun v11 h11 =>
 bnd (aO v8 (.b true) v11 h11) fun v12 h12 =>
 aU v12 (
 some (.t [], h12)) (
 bnd (aB 5 v1 h12) fun v13 h13 =>
 bnd (aA v13 h13) fun v14 h14 =>
 bnd (aI 6 v14 (aH 0) h14) fun v15 h15 =>
 bnd (aK 6 v15 h15) fun v16 h16 =>
 bnd (r 247 [x0, v16] h16) fun v17 h17 =>
 bnd (aB 1 v1 h17) fun v18 h18 =>
 bnd (aA v18 h18) fun v19 h19 =>
 cnd (bD (aA v18 h12) v19 && true) (
 bnd (aB 5 v1 h19) fun v20 h20 =>
 bnd (aA v20 h20) fun v21 h21 =>
 cnd (bD (aA v20 h12) v21 && true) (
 bnd (cG 6 v21 (some (aH 1)) none h21) fun v22 h22 =>
 cnd (bD (cG 6 v21 (some (aH 1)) none h12) v22 && true) (
 bnd (r 246 [x0, v17, v19, v22] h22) fun v23 h23 =>
 some (.t [], h23))))))
noncomputable abbrev c218 : Code := cf Tryz.f218
noncomputable abbrev r218 : K := aQ CF Tryz.f218
noncomputable def D218 (r : RT) (n : Nat) (c : Code) (X : Nat → K) (k : K) : K := aM CF r 31 n c X r218 k
theorem cYm : D218 r n c218 x0 r218 = (K2 (s218 r n) 0 1) :=
 (by kernel_rfl)
theorem cPa : aF CF r n 218 args h = s218 r n (aT args 0) (aT args 1) h :=
 (by kernel_rfl : aF CF r n 218 args h = D218 r n c218 x0 r218 (aJ args) h).trans ((congrFun (congrFun (cYm r n) (aJ args)) h).trans (by kernel_rfl))
noncomputable def aGc (r : RT) (n : Nat) (x3 : DV) (h0 : Hp) : aG :=
 bnd (aB 5 x3 h0) fun v1 h1 =>
 bnd (aA v1 h1) fun v2 h2 =>
 bnd (bQ v2 h2) fun v3 h3 =>
 bnd (aD .eql v3 (aH 1) h3) fun v4 h4 =>
 some (v4, h4)
noncomputable def wZ (r : RT) (n : Nat) (x0 x3 : DV) (h0 : Hp) : aG :=
 bnd (aB 5 x3 h0) fun v1 h1 =>
 bnd (aA v1 h1) fun v2 h2 =>
 bnd (bQ v2 h2) fun v3 h3 =>
 bnd (aD .neq v3 (aH 1) h3) fun v4 h4 =>
 aU v4 (
 bnd (r 213 [x0, (.s []), (aH 1)] h4) fun v5 h5 =>
  aGc r n x3 h5) (
  aGc r n x3 h4)
noncomputable def s222 (r : RT) (n : Nat) (x0 x1 : DV) (h0 : Hp) : aG :=
 bnd (bS x1 h0) fun v1 h1 =>
  wZ r n x0 v1 h1
noncomputable abbrev c222 : Code := cf Tryz.f222
noncomputable abbrev aEk : Code := cR c222
noncomputable abbrev cSw : Code := cR aEk
noncomputable abbrev bDg : Code := cL aEk
noncomputable abbrev aNd : Code := cL c222
noncomputable abbrev r222 : K := aQ CF Tryz.f222
noncomputable def D222 (r : RT) (n : Nat) (c : Code) (X : Nat → K) (k : K) : K := aM CF r 15 n c X r222 k
theorem bVa : D222 r n cSw x0 r222 = (K1 (aGc r n) 3) :=
 (by kernel_rfl)
theorem bSm : D222 r n aEk x0 r222 = D222 r n bDg x0 (K1 (aGc r n) 3) :=
 congrArg (fun k => D222 r n bDg x0 k) (bVa r n)
theorem bUo : D222 r n aEk x0 r222 = (K2 (wZ r n) 0 3) :=
 (bSm r n).trans
 ((by kernel_rfl))
theorem cTc : D222 r n c222 x0 r222 = D222 r n aNd x0 (K2 (wZ r n) 0 3) :=
 congrArg (fun k => D222 r n aNd x0 k) (bUo r n)
theorem cUs (q0 : gP) : D222 r n aNd x0 (K2 q0 0 3) = fun (env : aS) (h : Hp) =>
 bnd (bS (env 1) h) fun v1 h1 =>
  q0 (env 0) v1 h1 := by kernel_rfl
theorem bWf : (fun (env : aS) (h : Hp) =>
 bnd (bS (env 1) h) fun v1 h1 =>
  wZ r n (env 0) v1 h1) = (K2 (s222 r n) 0 1) := by kernel_rfl
theorem dBb : D222 r n c222 x0 r222 = (K2 (s222 r n) 0 1) :=
 (cTc r n).trans
 ((cUs r n (wZ r n)).trans (bWf r n))
theorem cMp : aF CF r n 222 args h = s222 r n (aT args 0) (aT args 1) h :=
 (by kernel_rfl : aF CF r n 222 args h = D222 r n c222 x0 r222 (aJ args) h).trans ((congrFun (congrFun (dBb r n) (aJ args)) h).trans (by kernel_rfl))
noncomputable def s230 (r : RT) (n : Nat) (x0 : DV) (h0 : Hp) : aG :=
 bnd (r 203 [x0] h0) fun v1 h1 =>
 bnd (gD v1 false (some (x0, h1)) h1) fun v2 h2 =>
 bnd (gD v1 false (r 206 [v2] h2) h2) fun v3 h3 =>
 bnd (aO v1 (.b true) v3 h3) fun v4 h4 =>
 some (v4, h4)
noncomputable abbrev c230 : Code := cf Tryz.f230
noncomputable abbrev r230 : K := aQ CF Tryz.f230
noncomputable def D230 (r : RT) (n : Nat) (c : Code) (X : Nat → K) (k : K) : K := aM CF r 9 n c X r230 k
theorem dCo : D230 r n c230 x0 r230 = (K1 (s230 r n) 0) :=
 (by kernel_rfl)
theorem cPf : aF CF r n 230 args h = s230 r n (aT args 0) h :=
 (by kernel_rfl : aF CF r n 230 args h = D230 r n c230 x0 r230 (aJ args) h).trans ((congrFun (congrFun (dCo r n) (aJ args)) h).trans (by kernel_rfl))
end Go.Dd

namespace Go.Dd
open Go.Proofs
variable (r : RT) (n : Nat) (args : List DV) (h : Hp)
noncomputable def nC (r : RT) (n : Nat) (x2 : DV) (h0 : Hp) : aG :=
 bnd (aX gX [] h0) fun v1 h1 =>
 bnd (aE 6 x2 v1 h1) fun _ h2 =>
 bnd (aK 6 x2 h2) fun v3 _ =>
 some (v3, h2)
noncomputable def pH (r : RT) (n : Nat) (x0 x2 : DV) (h0 : Hp) : aG :=
 bnd (r 183 [x0, (aH 0)] h0) fun v1 h1 =>
 bnd (bJ [(aH 0), (.s []), (aH 0), (aH 0)] h1) fun v2 h2 =>
 bnd (aE 4 v2 v1 h2) fun _ h3 =>
 bnd (aP x0 h3) fun v4 h4 =>
 bnd (aB 3 v4 h4) fun v5 h5 =>
 bnd (aA v5 h5) fun v6 h6 =>
 bnd (aD .neq v6 (aH 0) h6) fun v7 h7 =>
 aU v7 (
  nC r n x2 h7) (
 bnd (aB 0 v2 h7) fun v8 h8 =>
 bnd (aA v8 h8) fun v9 h9 =>
 bnd (aD .eql v9 (aH 1) h9) fun v10 h10 =>
 aU v10 (
 bnd (r 180 [x0] h10) fun v11 h11 =>
 bnd (eX 1 v11 h11) fun v12 h12 =>
 bnd (aX gX [(0, 1, (aH 5)), (1, 1, v12)] h12) fun v13 h13 =>
 bnd (aE 6 x2 v13 h13) fun _ h14 =>
 bnd (aK 6 x2 h14) fun v15 _ =>
 some (v15, h14)) (
 bnd (aB 0 v2 h10) fun v16 h16 =>
 bnd (aA v16 h16) fun v17 h17 =>
 bnd (aD .eql v17 (aH 7) h17) fun v18 h18 =>
 aU v18 (
 bnd (r 254 [x0, (.f 255 [x0] [])] h18) fun v19 h19 =>
 bnd (aE 6 x2 v19 h19) fun _ h20 =>
 bnd (aK 6 x2 h20) fun v21 _ =>
 some (v21, h20)) (
 bnd (r 179 [x0, (aH 10), (.s [40])] h18) fun v22 h22 =>
 aU v22 (
 bnd (r 254 [x0, (.f 256 [x0] [])] h22) fun v23 h23 =>
 bnd (aE 6 x2 v23 h23) fun _ h24 =>
 bnd (aK 6 x2 h24) fun v25 _ =>
 some (v25, h24)) (
 bnd (r 179 [x0, (aH 10), (.s [91])] h22) fun v26 h26 =>
 aU v26 (
 bnd (r 254 [x0, (.f 257 [x0] [])] h26) fun v27 h27 =>
 bnd (aE 6 x2 v27 h27) fun _ h28 =>
 bnd (aK 6 x2 h28) fun v29 _ =>
 some (v29, h28)) (
 bnd (aK 4 v2 h26) fun v30 h30 =>
 bnd (r 182 [x0, v30, (aH 13)] h30) fun v31 h31 =>
      nC r n x2 h31)))))
noncomputable def qC (r : RT) (n : Nat) (x0 x2 : DV) (h0 : Hp) : aG :=
 bnd (r 253 [x0] h0) fun v1 h1 =>
 bnd (aC 0 v1 h1) fun v2 h2 =>
 bnd (aC 1 v1 h2) fun v3 h3 =>
 bnd (bJ gX h3) fun v4 h4 =>
 bnd (aE 6 v4 v2 h4) fun _ h5 =>
 aU v3 (
 bnd (aK 6 v4 h5) fun v6 h6 =>
 bnd (aE 6 x2 v6 h6) fun _ h7 =>
 bnd (aK 6 x2 h7) fun v8 _ =>
 some (v8, h7)) (
  pH r n x0 x2 h5)
noncomputable def s235 (r : RT) (n : Nat) (x0 : DV) (h0 : Hp) : aG :=
 bnd (bJ gX h0) fun v1 h1 =>
  qC r n x0 v1 h1
noncomputable abbrev c235 : Code := cf Tryz.f235
noncomputable abbrev aGz : Code := cR c235
noncomputable abbrev aBe : Code := cR aGz
noncomputable abbrev cSg : Code := cR aBe
noncomputable abbrev aPn : Code := cL aBe
noncomputable abbrev aNk : Code := cL aGz
noncomputable abbrev aMd : Code := cL c235
noncomputable abbrev r235 : K := aQ CF Tryz.f235
noncomputable def D235 (r : RT) (n : Nat) (c : Code) (X : Nat → K) (k : K) : K := aM CF r 55 n c X r235 k
theorem cEp : D235 r n cSg x0 r235 = (K1 (nC r n) 2) :=
 (by kernel_rfl)
theorem bSh : D235 r n aBe x0 r235 = D235 r n aPn x0 (K1 (nC r n) 2) :=
 congrArg (fun k => D235 r n aPn x0 k) (cEp r n)
theorem bKj (q0 : TT1) : D235 r n aPn x0 (K1 q0 2) = fun (env : aS) (h : Hp) =>
 bnd (r 183 [(env 0), (aH 0)] h) fun v1 h1 =>
 bnd (bJ [(aH 0), (.s []), (aH 0), (aH 0)] h1) fun v2 h2 =>
 bnd (aE 4 v2 v1 h2) fun _ h3 =>
 bnd (aP (env 0) h3) fun v4 h4 =>
 bnd (aB 3 v4 h4) fun v5 h5 =>
 bnd (aA v5 h5) fun v6 h6 =>
 bnd (aD .neq v6 (aH 0) h6) fun v7 h7 =>
 aU v7 (
   q0 (env 2) h7) (
 bnd (aB 0 v2 h7) fun v8 h8 =>
 bnd (aA v8 h8) fun v9 h9 =>
 bnd (aD .eql v9 (aH 1) h9) fun v10 h10 =>
 aU v10 (
 bnd (r 180 [(env 0)] h10) fun v11 h11 =>
 bnd (eX 1 v11 h11) fun v12 h12 =>
 bnd (aX gX [(0, 1, (aH 5)), (1, 1, v12)] h12) fun v13 h13 =>
 bnd (aE 6 (env 2) v13 h13) fun _ h14 =>
 bnd (aK 6 (env 2) h14) fun v15 _ =>
 some (v15, h14)) (
 bnd (aB 0 v2 h10) fun v16 h16 =>
 bnd (aA v16 h16) fun v17 h17 =>
 bnd (aD .eql v17 (aH 7) h17) fun v18 h18 =>
 aU v18 (
 bnd (r 254 [(env 0), (.f 255 [(env 0)] [])] h18) fun v19 h19 =>
 bnd (aE 6 (env 2) v19 h19) fun _ h20 =>
 bnd (aK 6 (env 2) h20) fun v21 _ =>
 some (v21, h20)) (
 bnd (r 179 [(env 0), (aH 10), (.s [40])] h18) fun v22 h22 =>
 aU v22 (
 bnd (r 254 [(env 0), (.f 256 [(env 0)] [])] h22) fun v23 h23 =>
 bnd (aE 6 (env 2) v23 h23) fun _ h24 =>
 bnd (aK 6 (env 2) h24) fun v25 _ =>
 some (v25, h24)) (
 bnd (r 179 [(env 0), (aH 10), (.s [91])] h22) fun v26 h26 =>
 aU v26 (
 bnd (r 254 [(env 0), (.f 257 [(env 0)] [])] h26) fun v27 h27 =>
 bnd (aE 6 (env 2) v27 h27) fun _ h28 =>
 bnd (aK 6 (env 2) h28) fun v29 _ =>
 some (v29, h28)) (
 bnd (aK 4 v2 h26) fun v30 h30 =>
 bnd (r 182 [(env 0), v30, (aH 13)] h30) fun v31 h31 =>
       q0 (env 2) h31))))) := by kernel_rfl
theorem bAq : (fun (env : aS) (h : Hp) =>
 bnd (r 183 [(env 0), (aH 0)] h) fun v1 h1 =>
 bnd (bJ [(aH 0), (.s []), (aH 0), (aH 0)] h1) fun v2 h2 =>
 bnd (aE 4 v2 v1 h2) fun _ h3 =>
 bnd (aP (env 0) h3) fun v4 h4 =>
 bnd (aB 3 v4 h4) fun v5 h5 =>
 bnd (aA v5 h5) fun v6 h6 =>
 bnd (aD .neq v6 (aH 0) h6) fun v7 h7 =>
 aU v7 (
   nC r n (env 2) h7) (
 bnd (aB 0 v2 h7) fun v8 h8 =>
 bnd (aA v8 h8) fun v9 h9 =>
 bnd (aD .eql v9 (aH 1) h9) fun v10 h10 =>
 aU v10 (
 bnd (r 180 [(env 0)] h10) fun v11 h11 =>
 bnd (eX 1 v11 h11) fun v12 h12 =>
 bnd (aX gX [(0, 1, (aH 5)), (1, 1, v12)] h12) fun v13 h13 =>
 bnd (aE 6 (env 2) v13 h13) fun _ h14 =>
 bnd (aK 6 (env 2) h14) fun v15 _ =>
 some (v15, h14)) (
 bnd (aB 0 v2 h10) fun v16 h16 =>
 bnd (aA v16 h16) fun v17 h17 =>
 bnd (aD .eql v17 (aH 7) h17) fun v18 h18 =>
 aU v18 (
 bnd (r 254 [(env 0), (.f 255 [(env 0)] [])] h18) fun v19 h19 =>
 bnd (aE 6 (env 2) v19 h19) fun _ h20 =>
 bnd (aK 6 (env 2) h20) fun v21 _ =>
 some (v21, h20)) (
 bnd (r 179 [(env 0), (aH 10), (.s [40])] h18) fun v22 h22 =>
 aU v22 (
 bnd (r 254 [(env 0), (.f 256 [(env 0)] [])] h22) fun v23 h23 =>
 bnd (aE 6 (env 2) v23 h23) fun _ h24 =>
 bnd (aK 6 (env 2) h24) fun v25 _ =>
 some (v25, h24)) (
 bnd (r 179 [(env 0), (aH 10), (.s [91])] h22) fun v26 h26 =>
 aU v26 (
 bnd (r 254 [(env 0), (.f 257 [(env 0)] [])] h26) fun v27 h27 =>
 bnd (aE 6 (env 2) v27 h27) fun _ h28 =>
 bnd (aK 6 (env 2) h28) fun v29 _ =>
 some (v29, h28)) (
 bnd (aK 4 v2 h26) fun v30 h30 =>
 bnd (r 182 [(env 0), v30, (aH 13)] h30) fun v31 h31 =>
       nC r n (env 2) h31)))))) = (K2 (pH r n) 0 2) := by kernel_rfl
theorem cDp : D235 r n aBe x0 r235 = (K2 (pH r n) 0 2) :=
 (bSh r n).trans
 ((bKj r n (nC r n)).trans (bAq r n))
theorem bQw : D235 r n aGz x0 r235 = D235 r n aNk x0 (K2 (pH r n) 0 2) :=
 congrArg (fun k => D235 r n aNk x0 k) (cDp r n)
theorem bQe (q0 : gP) : D235 r n aNk x0 (K2 q0 0 2) = fun (env : aS) (h : Hp) =>
 bnd (r 253 [(env 0)] h) fun v1 h1 =>
 bnd (aC 0 v1 h1) fun v2 h2 =>
 bnd (aC 1 v1 h2) fun v3 h3 =>
 bnd (bJ gX h3) fun v4 h4 =>
 bnd (aE 6 v4 v2 h4) fun _ h5 =>
 aU v3 (
 bnd (aK 6 v4 h5) fun v6 h6 =>
 bnd (aE 6 (env 2) v6 h6) fun _ h7 =>
 bnd (aK 6 (env 2) h7) fun v8 _ =>
 some (v8, h7)) (
   q0 (env 0) (env 2) h5) := by kernel_rfl
theorem aYi : (fun (env : aS) (h : Hp) =>
 bnd (r 253 [(env 0)] h) fun v1 h1 =>
 bnd (aC 0 v1 h1) fun v2 h2 =>
 bnd (aC 1 v1 h2) fun v3 h3 =>
 bnd (bJ gX h3) fun v4 h4 =>
 bnd (aE 6 v4 v2 h4) fun _ h5 =>
 aU v3 (
 bnd (aK 6 v4 h5) fun v6 h6 =>
 bnd (aE 6 (env 2) v6 h6) fun _ h7 =>
 bnd (aK 6 (env 2) h7) fun v8 _ =>
 some (v8, h7)) (
   pH r n (env 0) (env 2) h5)) = (K2 (qC r n) 0 2) := by kernel_rfl
theorem cEo : D235 r n aGz x0 r235 = (K2 (qC r n) 0 2) :=
 (bQw r n).trans
 ((bQe r n (pH r n)).trans (aYi r n))
theorem cKt : D235 r n c235 x0 r235 = D235 r n aMd x0 (K2 (qC r n) 0 2) :=
 congrArg (fun k => D235 r n aMd x0 k) (cEo r n)
theorem cMc (q0 : gP) : D235 r n aMd x0 (K2 q0 0 2) = fun (env : aS) (h : Hp) =>
 bnd (bJ gX h) fun v1 h1 =>
  q0 (env 0) v1 h1 := by kernel_rfl
theorem cAd : (fun (env : aS) (h : Hp) =>
 bnd (bJ gX h) fun v1 h1 =>
  qC r n (env 0) v1 h1) = (K1 (s235 r n) 0) := by kernel_rfl
theorem dAv : D235 r n c235 x0 r235 = (K1 (s235 r n) 0) :=
 (cKt r n).trans
 ((cMc r n (qC r n)).trans (cAd r n))
theorem cUc : aF CF r n 235 args h = s235 r n (aT args 0) h :=
 (by kernel_rfl : aF CF r n 235 args h = D235 r n c235 x0 r235 (aJ args) h).trans ((congrFun (congrFun (dAv r n) (aJ args)) h).trans (by kernel_rfl))
noncomputable def eL (r : RT) (n : Nat) (h0 : Hp) : aG :=
 some ((.i .i64 (Int.negSucc 0)), h0)
noncomputable def aVc (r : RT) (n : Nat) (kk4 : dD) (x0 x1 x7 x8 : DV) (h0 : Hp) : aG :=
 bnd (aD .lss x8 x7 h0) fun v1 h1 =>
 aU v1 (
 bnd (aI 4 x0 x8 h1) fun v2 h2 =>
 bnd (aK 4 v2 h2) fun v3 h3 =>
 bnd (cY CF r x1 [v3] h3) fun v4 h4 =>
 aU v4 (
 some (x8, h4)) (
 bnd (aD .add x8 (aH 1) h4) fun v5 h5 =>
    kk4 x0 x1 x7 v5 h5)) (
      eL r n h1)
noncomputable def tN (r : RT) (n : Nat) (m : Nat) : dD :=
 Nat.rec (motive := fun _ => dD) (fun _ _ _ _ _ => none) (fun _ ih => aVc r n ih) m
noncomputable def bQt (r : RT) (n : Nat) : dD := tN r n n
noncomputable def aMw (r : RT) (n : Nat) (x0 x1 x7 x8 : DV) (h0 : Hp) : aG :=
 bQt r n x0 x1 x7 x8 h0
noncomputable def aNq (r : RT) (n : Nat) (x0 x1 : DV) (h0 : Hp) : aG :=
 bnd (bQ x0 h0) fun v1 h1 =>
  aMw r n x0 x1 v1 (aH 0) h1
noncomputable def s238 (r : RT) (n : Nat) (x0 x1 : DV) (h0 : Hp) : aG :=
 aNq r n x0 x1 h0
noncomputable abbrev c238 : Code := cf Tryz.f238
noncomputable abbrev aDu : Code := cR c238
noncomputable abbrev cTt : Code := cR aDu
noncomputable abbrev uD : Code := cL aDu
noncomputable abbrev aMb : Code := cR uD
noncomputable abbrev aAd : Code := cL aMb
noncomputable abbrev nD : Code := cL aAd
noncomputable abbrev bKl : Code := cL uD
noncomputable abbrev bSe : Code := cL c238
noncomputable abbrev r238 : K := aQ CF Tryz.f238
noncomputable def D238 (r : RT) (n : Nat) (c : Code) (X : Nat → K) (k : K) : K := aM CF r 19 n c X r238 k
theorem bXj : D238 r n cTt x0 r238 = (K0 (eL r n)) :=
 (by kernel_rfl)
theorem bOs (kk4 : dD) : D238 r n nD (xs x0 0 (K0 (eL r n))) (K4 kk4 0 1 7 8) = (K4 (aVc r n kk4) 0 1 7 8) :=
 (by kernel_rfl)
theorem bRk (m : Nat) : aL (fun kk => D238 r n nD (xs x0 0 (K0 (eL r n))) kk) m = (K4 (tN r n m) 0 1 7 8) := by
 induction m with
 | zero => exact (by kernel_rfl : aL (fun kk => D238 r n nD (xs x0 0 (K0 (eL r n))) kk) 0 = (K4 (tN r n 0) 0 1 7 8))
 | succ m ih =>
  refine (by kernel_rfl : aL (fun kk => D238 r n nD (xs x0 0 (K0 (eL r n))) kk) (m + 1) = D238 r n nD (xs x0 0 (K0 (eL r n))) (aL (fun kk => D238 r n nD (xs x0 0 (K0 (eL r n))) kk) m)).trans ?_
  rw [ih]
  exact (bOs r n (tN r n m)).trans (by kernel_rfl)
theorem bZt : D238 r n aAd (xs x0 0 (K0 (eL r n))) (K0 (eL r n)) = (K4 (bQt r n) 0 1 7 8) :=
 (by kernel_rfl : D238 r n aAd (xs x0 0 (K0 (eL r n))) (K0 (eL r n)) = aL (fun kk => D238 r n nD (xs x0 0 (K0 (eL r n))) kk) n).trans ((bRk r n n).trans (by kernel_rfl))
theorem bUv : D238 r n aMb x0 (K0 (eL r n)) = (K4 (aMw r n) 0 1 7 8) :=
 (by kernel_rfl : D238 r n aMb x0 (K0 (eL r n)) = D238 r n aAd (xs x0 0 (K0 (eL r n))) (K0 (eL r n))).trans
 ((bZt r n).trans (by kernel_rfl))
theorem bMh : D238 r n aDu x0 r238 = D238 r n uD x0 (K0 (eL r n)) :=
 congrArg (fun k => D238 r n uD x0 k) (bXj r n)
theorem bKw : D238 r n uD x0 (K0 (eL r n)) = D238 r n bKl x0 (K4 (aMw r n) 0 1 7 8) :=
 congrArg (fun k => D238 r n bKl x0 k) (bUv r n)
theorem bVq : D238 r n aDu x0 r238 = (K2 (aNq r n) 0 1) :=
 (bMh r n).trans
 ((bKw r n).trans
 ((by kernel_rfl)))
theorem cMb : D238 r n c238 x0 r238 = D238 r n bSe x0 (K2 (aNq r n) 0 1) :=
 congrArg (fun k => D238 r n bSe x0 k) (bVq r n)
theorem cVh : D238 r n c238 x0 r238 = (K2 (s238 r n) 0 1) :=
 (cMb r n).trans
 ((by kernel_rfl))
theorem cNd : aF CF r n 238 args h = s238 r n (aT args 0) (aT args 1) h :=
 (by kernel_rfl : aF CF r n 238 args h = D238 r n c238 x0 r238 (aJ args) h).trans ((congrFun (congrFun (cVh r n) (aJ args)) h).trans (by kernel_rfl))
noncomputable def s239 (r : RT) (n : Nat) (x0 x1 : DV) (h0 : Hp) : aG :=
 bnd (bS x0 h0) fun v1 h1 =>
 bnd (aB 0 v1 h1) fun v2 h2 =>
 bnd (aA v2 h2) fun v3 h3 =>
 bnd (aA x1 h3) fun v4 h4 =>
 bnd (fE .eql v3 v4 h4) fun v5 h5 =>
 some (v5, h5)
noncomputable abbrev c239 : Code := cf Tryz.f239
noncomputable abbrev r239 : K := aQ CF Tryz.f239
noncomputable def D239 (r : RT) (n : Nat) (c : Code) (X : Nat → K) (k : K) : K := aM CF r 8 n c X r239 k
theorem cZk : D239 r n c239 x0 r239 = (K2 (s239 r n) 0 1) :=
 (by kernel_rfl)
theorem cQg : aF CF r n 239 args h = s239 r n (aT args 0) (aT args 1) h :=
 (by kernel_rfl : aF CF r n 239 args h = D239 r n c239 x0 r239 (aJ args) h).trans ((congrFun (congrFun (cZk r n) (aJ args)) h).trans (by kernel_rfl))
noncomputable def s243 (r : RT) (n : Nat) (x0 x1 : DV) (h0 : Hp) : aG :=
 bnd (aX [(aH 0), (.s []), (aH 0), .l0] [(0, 1, (aH 3)), (1, 1, x1)] h0) fun v1 h1 =>
 bnd (kN [x0, v1] h1) fun v2 h2 =>
 some (v2, h2)
noncomputable abbrev c243 : Code := cf Tryz.f243
noncomputable abbrev r243 : K := aQ CF Tryz.f243
noncomputable def D243 (r : RT) (n : Nat) (c : Code) (X : Nat → K) (k : K) : K := aM CF r 9 n c X r243 k
theorem cVx : D243 r n c243 x0 r243 = (K2 (s243 r n) 0 1) :=
 (by kernel_rfl)
theorem cLw : aF CF r n 243 args h = s243 r n (aT args 0) (aT args 1) h :=
 (by kernel_rfl : aF CF r n 243 args h = D243 r n c243 x0 r243 (aJ args) h).trans ((congrFun (congrFun (cVx r n) (aJ args)) h).trans (by kernel_rfl))
noncomputable def lZ (r : RT) (n : Nat) (x2 x3 x5 x6 x9 : DV) (h0 : Hp) : aG :=
 bnd (aB 5 x3 h0) fun v1 h1 =>
 bnd (aA v1 h1) fun v2 h2 =>
 bnd (bQ v2 h2) fun v3 h3 =>
 bnd (aD .neq v3 x9 h3) fun v4 h4 =>
 bnd (gD v4 false (aB 5 x3 h4) h4) fun v5 h5 =>
 bnd (gD v4 false (aA v5 h5) h5) fun v6 h6 =>
 bnd (gD v4 false (cG 6 v6 (some (aH 1)) none h6) h6) fun v7 h7 =>
 bnd (gD v4 false (r 266 [v7, (.f 267 [] [])] h7) h7) fun v8 h8 =>
 bnd (aO v4 (.b true) v8 h8) fun v9 h9 =>
 aU v9 (
 some ((.b false), h9)) (
 bnd (aA x2 h9) fun v10 h10 =>
 bnd (aB 5 x3 h10) fun v11 h11 =>
 bnd (aA v11 h11) fun v12 h12 =>
 bnd (aI 6 v12 (aH 0) h12) fun v13 h13 =>
 bnd (aK 6 v13 h13) fun v14 h14 =>
 bnd (r 186 [v10, v14] h14) fun v15 h15 =>
 bnd (aA x2 h15) fun v16 h16 =>
 bnd (r 220 [v16, (aH 17)] h16) fun v17 h17 =>
 bnd (cY CF r x5 [] h17) fun v18 h18 =>
 bnd (aA x2 h18) fun v19 h19 =>
 bnd (r 220 [v19, (aH 16)] h19) fun v20 h20 =>
 bnd (cY CF r v17 [] h20) fun v21 h21 =>
 bnd (cY CF r x6 [] h21) fun v22 h22 =>
 bnd (cY CF r v20 [] h22) fun v23 h23 =>
 some ((.b true), h23))
noncomputable def aOz (r : RT) (n : Nat) (x2 x3 x7 x8 x9 : DV) (h0 : Hp) : aG :=
 bnd (aB 1 x3 h0) fun v1 h1 =>
 bnd (aA v1 h1) fun v2 h2 =>
 bnd (fE .eql v2 (.s [105, 102, 84, 114, 117, 101, 58]) h2) fun v3 h3 =>
 aU v3 (
 bnd (cY CF r x7 [(aH 1)] h3) fun v4 h4 =>
 bnd (cY CF r x8 [(aH 2)] h4) fun v5 h5 =>
  lZ r n x2 x3 v4 v5 x9 h5) (
 bnd (fE .eql v2 (.s [105, 102, 70, 97, 108, 115, 101, 58]) h3) fun v6 h6 =>
 aU v6 (
 bnd (cY CF r x8 [(aH 2)] h6) fun v7 h7 =>
 bnd (cY CF r x7 [(aH 1)] h7) fun v8 h8 =>
      lZ r n x2 x3 v7 v8 x9 h8) (
 bnd (fE .eql v2 (.s [97, 110, 100, 58]) h6) fun v9 h9 =>
 aU v9 (
 bnd (cY CF r x7 [(aH 1)] h9) fun v10 h10 =>
 bnd (cY CF r x8 [(aH 4)] h10) fun v11 h11 =>
    lZ r n x2 x3 v10 v11 x9 h11) (
 bnd (fE .eql v2 (.s [111, 114, 58]) h9) fun v12 h12 =>
 aU v12 (
 bnd (cY CF r x8 [(aH 3)] h12) fun v13 h13 =>
 bnd (cY CF r x7 [(aH 1)] h13) fun v14 h14 =>
     lZ r n x2 x3 v13 v14 x9 h14) (
 bnd (fE .eql v2 (.s [105, 102, 84, 114, 117, 101, 58, 105, 102, 70, 97, 108, 115, 101, 58]) h12) fun v15 h15 =>
 aU v15 (
 bnd (cY CF r x7 [(aH 1)] h15) fun v16 h16 =>
 bnd (cY CF r x7 [(aH 2)] h16) fun v17 h17 =>
      lZ r n x2 x3 v16 v17 (aH 3) h17) (
 bnd (fE .eql v2 (.s [105, 102, 70, 97, 108, 115, 101, 58, 105, 102, 84, 114, 117, 101, 58]) h15) fun v18 h18 =>
 aU v18 (
 bnd (cY CF r x7 [(aH 2)] h18) fun v19 h19 =>
 bnd (cY CF r x7 [(aH 1)] h19) fun v20 h20 =>
       lZ r n x2 x3 v19 v20 (aH 3) h20) (
 some ((.b false), h18)))))))
noncomputable def aOr (r : RT) (n : Nat) (x2 x3 x7 x8 : DV) (h0 : Hp) : aG :=
 aOz r n x2 x3 x7 x8 (aH 2) h0
noncomputable def aLc (r : RT) (n : Nat) (x2 x3 x7 : DV) (h0 : Hp) : aG :=
 aOr r n x2 x3 x7 (.f 264 [] [x2]) h0
noncomputable def aOn (r : RT) (n : Nat) (x2 x3 : DV) (h0 : Hp) : aG :=
 aLc r n x2 x3 (.f 262 [] [x2, x3]) h0
noncomputable def uU (r : RT) (n : Nat) (x2 x3 : DV) (h0 : Hp) : aG :=
 aOn r n x2 x3 h0
noncomputable def s244 (r : RT) (n : Nat) (x0 x1 : DV) (h0 : Hp) : aG :=
 bnd (bS x0 h0) fun v1 h1 =>
 bnd (bS x1 h1) fun v2 h2 =>
  uU r n v1 v2 h2
noncomputable abbrev c244 : Code := cf Tryz.f244
noncomputable abbrev aAn : Code := cR c244
noncomputable abbrev aAb : Code := cR aAn
noncomputable abbrev aEi : Code := cR aAb
noncomputable abbrev zF : Code := cR aEi
noncomputable abbrev aEr : Code := cR zF
noncomputable abbrev cMr : Code := cR aEr
noncomputable abbrev bBm : Code := cL aEr
noncomputable abbrev bCs : Code := cL zF
noncomputable abbrev bRz : Code := cL aEi
noncomputable abbrev aUu : Code := cL aAb
noncomputable abbrev aTg : Code := cL aAn
noncomputable abbrev aFw : Code := cL c244
noncomputable abbrev r244 : K := aQ CF Tryz.f244
noncomputable def D244 (r : RT) (n : Nat) (c : Code) (X : Nat → K) (k : K) : K := aM CF r 81 n c X r244 k
theorem cCx : D244 r n cMr x0 r244 = (K5 (lZ r n) 2 3 5 6 9) :=
 (by kernel_rfl)
theorem bCm : D244 r n aEr x0 r244 = D244 r n bBm x0 (K5 (lZ r n) 2 3 5 6 9) :=
 congrArg (fun k => D244 r n bBm x0 k) (cCx r n)
theorem cDw : D244 r n aEr x0 r244 = (K5 (aOz r n) 2 3 7 8 9) :=
 (bCm r n).trans
 ((by kernel_rfl))
theorem bFc : D244 r n zF x0 r244 = D244 r n bCs x0 (K5 (aOz r n) 2 3 7 8 9) :=
 congrArg (fun k => D244 r n bCs x0 k) (cDw r n)
theorem cGc : D244 r n zF x0 r244 = (K4 (aOr r n) 2 3 7 8) :=
 (bFc r n).trans
 ((by kernel_rfl))
theorem bJj : D244 r n aEi x0 r244 = D244 r n bRz x0 (K4 (aOr r n) 2 3 7 8) :=
 congrArg (fun k => D244 r n bRz x0 k) (cGc r n)
theorem bZf : D244 r n aEi x0 r244 = (K3 (aLc r n) 2 3 7) :=
 (bJj r n).trans
 ((by kernel_rfl))
theorem bNx : D244 r n aAb x0 r244 = D244 r n aUu x0 (K3 (aLc r n) 2 3 7) :=
 congrArg (fun k => D244 r n aUu x0 k) (bZf r n)
theorem bXl : D244 r n aAb x0 r244 = (K2 (aOn r n) 2 3) :=
 (bNx r n).trans
 ((by kernel_rfl))
theorem bGx : D244 r n aAn x0 r244 = D244 r n aTg x0 (K2 (aOn r n) 2 3) :=
 congrArg (fun k => D244 r n aTg x0 k) (bXl r n)
theorem bTp : D244 r n aAn x0 r244 = (K2 (uU r n) 2 3) :=
 (bGx r n).trans
 ((by kernel_rfl))
theorem cPy : D244 r n c244 x0 r244 = D244 r n aFw x0 (K2 (uU r n) 2 3) :=
 congrArg (fun k => D244 r n aFw x0 k) (bTp r n)
theorem cOi (q0 : gP) : D244 r n aFw x0 (K2 q0 2 3) = fun (env : aS) (h : Hp) =>
 bnd (bS (env 0) h) fun v1 h1 =>
 bnd (bS (env 1) h1) fun v2 h2 =>
  q0 v1 v2 h2 := by kernel_rfl
theorem cFc : (fun (env : aS) (h : Hp) =>
 bnd (bS (env 0) h) fun v1 h1 =>
 bnd (bS (env 1) h1) fun v2 h2 =>
  uU r n v1 v2 h2) = (K2 (s244 r n) 0 1) := by kernel_rfl
theorem cXr : D244 r n c244 x0 r244 = (K2 (s244 r n) 0 1) :=
 (cPy r n).trans
 ((cOi r n (uU r n)).trans (cFc r n))
theorem cKl : aF CF r n 244 args h = s244 r n (aT args 0) (aT args 1) h :=
 (by kernel_rfl : aF CF r n 244 args h = D244 r n c244 x0 r244 (aJ args) h).trans ((congrFun (congrFun (cXr r n) (aJ args)) h).trans (by kernel_rfl))
noncomputable def s247 (r : RT) (n : Nat) (x0 x1 : DV) (h0 : Hp) : aG :=
 bnd (bS x1 h0) fun v1 h1 =>
 bnd (aK 6 v1 h1) fun v2 h2 =>
 bnd (r 269 [v2] h2) fun v3 h3 =>
 aU v3 (
 bnd (r 187 [x0, (aH 1), (aH 0), (aH 0)] h3) fun v4 h4 =>
 some ((aH 15), h4)) (
 bnd (aK 6 v1 h3) fun v5 h5 =>
 bnd (r 186 [x0, v5] h5) fun v6 h6 =>
 some ((aH 14), h6))
noncomputable abbrev c247 : Code := cf Tryz.f247
noncomputable abbrev r247 : K := aQ CF Tryz.f247
noncomputable def D247 (r : RT) (n : Nat) (c : Code) (X : Nat → K) (k : K) : K := aM CF r 12 n c X r247 k
theorem cXm : D247 r n c247 x0 r247 = (K2 (s247 r n) 0 1) :=
 (by kernel_rfl)
theorem cUa : aF CF r n 247 args h = s247 r n (aT args 0) (aT args 1) h :=
 (by kernel_rfl : aF CF r n 247 args h = D247 r n c247 x0 r247 (aJ args) h).trans ((congrFun (congrFun (cXm r n) (aJ args)) h).trans (by kernel_rfl))
noncomputable def s248 (r : RT) (n : Nat) (x0 : DV) (h0 : Hp) : aG :=
 bnd (aP x0 h0) fun v1 h1 =>
 bnd (aB 0 v1 h1) fun v2 h2 =>
 bnd (aB 5 v2 h2) fun v3 h3 =>
 bnd (aA v3 h3) fun v4 h4 =>
 bnd (bQ v4 h4) fun v5 h5 =>
 some (v5, h5)
noncomputable abbrev c248 : Code := cf Tryz.f248
noncomputable abbrev r248 : K := aQ CF Tryz.f248
noncomputable def D248 (r : RT) (n : Nat) (c : Code) (X : Nat → K) (k : K) : K := aM CF r 9 n c X r248 k
theorem cVg : D248 r n c248 x0 r248 = (K1 (s248 r n) 0) :=
 (by kernel_rfl)
theorem cQp : aF CF r n 248 args h = s248 r n (aT args 0) h :=
 (by kernel_rfl : aF CF r n 248 args h = D248 r n c248 x0 r248 (aJ args) h).trans ((congrFun (congrFun (cVg r n) (aJ args)) h).trans (by kernel_rfl))
noncomputable def s252 (r : RT) (n : Nat) (x0 x1 : DV) (h0 : Hp) : aG :=
 bnd (bJ gX h0) fun v1 h1 =>
 bnd (aX gX [(0, 1, (aH 7)), (1, 1, x0), (5, 1, x1)] h1) fun v2 h2 =>
 bnd (aE 6 v1 v2 h2) fun _ h3 =>
 bnd (aK 6 v1 h3) fun v4 _ =>
 some (v4, h3)
noncomputable abbrev c252 : Code := cf Tryz.f252
noncomputable abbrev r252 : K := aQ CF Tryz.f252
noncomputable def D252 (r : RT) (n : Nat) (c : Code) (X : Nat → K) (k : K) : K := aM CF r 8 n c X r252 k
theorem dBz : D252 r n c252 x0 r252 = (K2 (s252 r n) 0 1) :=
 (by kernel_rfl)
theorem cOs : aF CF r n 252 args h = s252 r n (aT args 0) (aT args 1) h :=
 (by kernel_rfl : aF CF r n 252 args h = D252 r n c252 x0 r252 (aJ args) h).trans ((congrFun (congrFun (dBz r n) (aJ args)) h).trans (by kernel_rfl))
noncomputable def kW (r : RT) (n : Nat) (x0 x2 x5 : DV) (h0 : Hp) : aG :=
 bnd (r 180 [x0] h0) fun v1 h1 =>
 bnd (aK 6 x5 h1) fun v2 h2 =>
 bnd (aE 6 x2 v2 h2) fun _ h3 =>
 bnd (aK 6 x2 h3) fun v4 _ =>
 some (.t [v4, (.b true)], h3)
noncomputable def pM (r : RT) (n : Nat) (x0 x2 x4 x5 : DV) (h0 : Hp) : aG :=
 bnd (aP x0 h0) fun v1 h1 =>
 bnd (aB 3 v1 h1) fun v2 h2 =>
 bnd (aA v2 h2) fun v3 h3 =>
 bnd (aD .neq v3 (aH 0) h3) fun v4 h4 =>
 aU v4 (
 bnd (aK 6 x5 h4) fun v5 h5 =>
 bnd (aE 6 x2 v5 h5) fun _ h6 =>
 bnd (aK 6 x2 h6) fun v7 _ =>
 some (.t [v7, (.b false)], h6)) (
 bnd (r 270 [x0] h4) fun v8 h8 =>
 aU v8 (
 bnd (r 180 [x0] h8) fun v9 h9 =>
 bnd (r 180 [x0] h9) fun v10 h10 =>
 bnd (eX 2 v10 h10) fun v11 h11 =>
 bnd (fL .neg v11 h11) fun v12 h12 =>
 bnd (aX gX [(0, 1, (aH 1)), (2, 1, v12)] h12) fun v13 h13 =>
 bnd (aE 6 x2 v13 h13) fun _ h14 =>
 bnd (aK 6 x2 h14) fun v15 _ =>
 some (.t [v15, (.b true)], h14)) (
 bnd (aB 0 x4 h8) fun v16 h16 =>
 bnd (aA v16 h16) fun v17 h17 =>
 bnd (aD .eql v17 (aH 4) h17) fun v18 h18 =>
 aU v18 (
 bnd (aB 0 x5 h18) fun v19 h19 =>
 bnd (aE 1 v19 (aH 1) h19) fun _ h20 =>
    kW r n x0 x2 x5 h20) (
 bnd (aB 0 x4 h18) fun v21 h21 =>
 bnd (aA v21 h21) fun v22 h22 =>
 bnd (aD .eql v22 (aH 5) h22) fun v23 h23 =>
 aU v23 (
 bnd (aB 0 x5 h23) fun v24 h24 =>
 bnd (aE 1 v24 (aH 2) h24) fun _ h25 =>
     kW r n x0 x2 x5 h25) (
 bnd (aB 0 x4 h23) fun v26 h26 =>
 bnd (aA v26 h26) fun v27 h27 =>
 bnd (aD .eql v27 (aH 6) h27) fun v28 h28 =>
 aU v28 (
 bnd (aB 0 x5 h28) fun v29 h29 =>
 bnd (aE 1 v29 (aH 3) h29) fun _ h30 =>
      kW r n x0 x2 x5 h30) (
 bnd (aK 6 x5 h28) fun v31 h31 =>
 bnd (aE 6 x2 v31 h31) fun _ h32 =>
 bnd (aK 6 x2 h32) fun v33 _ =>
 some (.t [v33, (.b false)], h32))))))
noncomputable def qE (r : RT) (n : Nat) (x0 x2 x4 : DV) (h0 : Hp) : aG :=
 bnd (aB 1 x4 h0) fun v1 h1 =>
 bnd (aA v1 h1) fun v2 h2 =>
 bnd (aB 2 x4 h2) fun v3 h3 =>
 bnd (aA v3 h3) fun v4 h4 =>
 bnd (aX gX [(1, 1, v2), (2, 1, v4)] h4) fun v5 h5 =>
 bnd (bJ gX h5) fun v6 h6 =>
 bnd (aE 6 v6 v5 h6) fun _ h7 =>
  pM r n x0 x2 x4 v6 h7
noncomputable def pS (r : RT) (n : Nat) (x0 x2 : DV) (h0 : Hp) : aG :=
 bnd (r 183 [x0, (aH 0)] h0) fun v1 h1 =>
 bnd (bJ [(aH 0), (.s []), (aH 0), (aH 0)] h1) fun v2 h2 =>
 bnd (aE 4 v2 v1 h2) fun _ h3 =>
  qE r n x0 x2 v2 h3
noncomputable def s253 (r : RT) (n : Nat) (x0 : DV) (h0 : Hp) : aG :=
 bnd (bJ gX h0) fun v1 h1 =>
  pS r n x0 v1 h1
noncomputable abbrev c253 : Code := cf Tryz.f253
noncomputable abbrev aCf : Code := cR c253
noncomputable abbrev aAa : Code := cR aCf
noncomputable abbrev aDj : Code := cR aAa
noncomputable abbrev cOd : Code := cR aDj
noncomputable abbrev aLn : Code := cL aDj
noncomputable abbrev aLo : Code := cL aAa
noncomputable abbrev aMg : Code := cL aCf
noncomputable abbrev aKj : Code := cL c253
noncomputable abbrev r253 : K := aQ CF Tryz.f253
noncomputable def D253 (r : RT) (n : Nat) (c : Code) (X : Nat → K) (k : K) : K := aM CF r 49 n c X r253 k
theorem cEh : D253 r n cOd x0 r253 = (K3 (kW r n) 0 2 5) :=
 (by kernel_rfl)
theorem bKf : D253 r n aDj x0 r253 = D253 r n aLn x0 (K3 (kW r n) 0 2 5) :=
 congrArg (fun k => D253 r n aLn x0 k) (cEh r n)
theorem bBf (q0 : mE) : D253 r n aLn x0 (K3 q0 0 2 5) = fun (env : aS) (h : Hp) =>
 bnd (aP (env 0) h) fun v1 h1 =>
 bnd (aB 3 v1 h1) fun v2 h2 =>
 bnd (aA v2 h2) fun v3 h3 =>
 bnd (aD .neq v3 (aH 0) h3) fun v4 h4 =>
 aU v4 (
 bnd (aK 6 (env 5) h4) fun v5 h5 =>
 bnd (aE 6 (env 2) v5 h5) fun _ h6 =>
 bnd (aK 6 (env 2) h6) fun v7 _ =>
 some (.t [v7, (.b false)], h6)) (
 bnd (r 270 [(env 0)] h4) fun v8 h8 =>
 aU v8 (
 bnd (r 180 [(env 0)] h8) fun v9 h9 =>
 bnd (r 180 [(env 0)] h9) fun v10 h10 =>
 bnd (eX 2 v10 h10) fun v11 h11 =>
 bnd (fL .neg v11 h11) fun v12 h12 =>
 bnd (aX gX [(0, 1, (aH 1)), (2, 1, v12)] h12) fun v13 h13 =>
 bnd (aE 6 (env 2) v13 h13) fun _ h14 =>
 bnd (aK 6 (env 2) h14) fun v15 _ =>
 some (.t [v15, (.b true)], h14)) (
 bnd (aB 0 (env 4) h8) fun v16 h16 =>
 bnd (aA v16 h16) fun v17 h17 =>
 bnd (aD .eql v17 (aH 4) h17) fun v18 h18 =>
 aU v18 (
 bnd (aB 0 (env 5) h18) fun v19 h19 =>
 bnd (aE 1 v19 (aH 1) h19) fun _ h20 =>
     q0 (env 0) (env 2) (env 5) h20) (
 bnd (aB 0 (env 4) h18) fun v21 h21 =>
 bnd (aA v21 h21) fun v22 h22 =>
 bnd (aD .eql v22 (aH 5) h22) fun v23 h23 =>
 aU v23 (
 bnd (aB 0 (env 5) h23) fun v24 h24 =>
 bnd (aE 1 v24 (aH 2) h24) fun _ h25 =>
      q0 (env 0) (env 2) (env 5) h25) (
 bnd (aB 0 (env 4) h23) fun v26 h26 =>
 bnd (aA v26 h26) fun v27 h27 =>
 bnd (aD .eql v27 (aH 6) h27) fun v28 h28 =>
 aU v28 (
 bnd (aB 0 (env 5) h28) fun v29 h29 =>
 bnd (aE 1 v29 (aH 3) h29) fun _ h30 =>
       q0 (env 0) (env 2) (env 5) h30) (
 bnd (aK 6 (env 5) h28) fun v31 h31 =>
 bnd (aE 6 (env 2) v31 h31) fun _ h32 =>
 bnd (aK 6 (env 2) h32) fun v33 _ =>
 some (.t [v33, (.b false)], h32)))))) := by kernel_rfl
theorem aZr : (fun (env : aS) (h : Hp) =>
 bnd (aP (env 0) h) fun v1 h1 =>
 bnd (aB 3 v1 h1) fun v2 h2 =>
 bnd (aA v2 h2) fun v3 h3 =>
 bnd (aD .neq v3 (aH 0) h3) fun v4 h4 =>
 aU v4 (
 bnd (aK 6 (env 5) h4) fun v5 h5 =>
 bnd (aE 6 (env 2) v5 h5) fun _ h6 =>
 bnd (aK 6 (env 2) h6) fun v7 _ =>
 some (.t [v7, (.b false)], h6)) (
 bnd (r 270 [(env 0)] h4) fun v8 h8 =>
 aU v8 (
 bnd (r 180 [(env 0)] h8) fun v9 h9 =>
 bnd (r 180 [(env 0)] h9) fun v10 h10 =>
 bnd (eX 2 v10 h10) fun v11 h11 =>
 bnd (fL .neg v11 h11) fun v12 h12 =>
 bnd (aX gX [(0, 1, (aH 1)), (2, 1, v12)] h12) fun v13 h13 =>
 bnd (aE 6 (env 2) v13 h13) fun _ h14 =>
 bnd (aK 6 (env 2) h14) fun v15 _ =>
 some (.t [v15, (.b true)], h14)) (
 bnd (aB 0 (env 4) h8) fun v16 h16 =>
 bnd (aA v16 h16) fun v17 h17 =>
 bnd (aD .eql v17 (aH 4) h17) fun v18 h18 =>
 aU v18 (
 bnd (aB 0 (env 5) h18) fun v19 h19 =>
 bnd (aE 1 v19 (aH 1) h19) fun _ h20 =>
     kW r n (env 0) (env 2) (env 5) h20) (
 bnd (aB 0 (env 4) h18) fun v21 h21 =>
 bnd (aA v21 h21) fun v22 h22 =>
 bnd (aD .eql v22 (aH 5) h22) fun v23 h23 =>
 aU v23 (
 bnd (aB 0 (env 5) h23) fun v24 h24 =>
 bnd (aE 1 v24 (aH 2) h24) fun _ h25 =>
      kW r n (env 0) (env 2) (env 5) h25) (
 bnd (aB 0 (env 4) h23) fun v26 h26 =>
 bnd (aA v26 h26) fun v27 h27 =>
 bnd (aD .eql v27 (aH 6) h27) fun v28 h28 =>
 aU v28 (
 bnd (aB 0 (env 5) h28) fun v29 h29 =>
 bnd (aE 1 v29 (aH 3) h29) fun _ h30 =>
       kW r n (env 0) (env 2) (env 5) h30) (
 bnd (aK 6 (env 5) h28) fun v31 h31 =>
 bnd (aE 6 (env 2) v31 h31) fun _ h32 =>
 bnd (aK 6 (env 2) h32) fun v33 _ =>
 some (.t [v33, (.b false)], h32))))))) = (K4 (pM r n) 0 2 4 5) := by kernel_rfl
theorem bXx : D253 r n aDj x0 r253 = (K4 (pM r n) 0 2 4 5) :=
 (bKf r n).trans
 ((bBf r n (kW r n)).trans (aZr r n))
theorem bQm : D253 r n aAa x0 r253 = D253 r n aLo x0 (K4 (pM r n) 0 2 4 5) :=
 congrArg (fun k => D253 r n aLo x0 k) (bXx r n)
theorem bKg (q0 : dD) : D253 r n aLo x0 (K4 q0 0 2 4 5) = fun (env : aS) (h : Hp) =>
 bnd (aB 1 (env 4) h) fun v1 h1 =>
 bnd (aA v1 h1) fun v2 h2 =>
 bnd (aB 2 (env 4) h2) fun v3 h3 =>
 bnd (aA v3 h3) fun v4 h4 =>
 bnd (aX gX [(1, 1, v2), (2, 1, v4)] h4) fun v5 h5 =>
 bnd (bJ gX h5) fun v6 h6 =>
 bnd (aE 6 v6 v5 h6) fun _ h7 =>
  q0 (env 0) (env 2) (env 4) v6 h7 := by kernel_rfl
theorem aZu : (fun (env : aS) (h : Hp) =>
 bnd (aB 1 (env 4) h) fun v1 h1 =>
 bnd (aA v1 h1) fun v2 h2 =>
 bnd (aB 2 (env 4) h2) fun v3 h3 =>
 bnd (aA v3 h3) fun v4 h4 =>
 bnd (aX gX [(1, 1, v2), (2, 1, v4)] h4) fun v5 h5 =>
 bnd (bJ gX h5) fun v6 h6 =>
 bnd (aE 6 v6 v5 h6) fun _ h7 =>
  pM r n (env 0) (env 2) (env 4) v6 h7) = (K3 (qE r n) 0 2 4) := by kernel_rfl
theorem bWl : D253 r n aAa x0 r253 = (K3 (qE r n) 0 2 4) :=
 (bQm r n).trans
 ((bKg r n (pM r n)).trans (aZu r n))
theorem bRx : D253 r n aCf x0 r253 = D253 r n aMg x0 (K3 (qE r n) 0 2 4) :=
 congrArg (fun k => D253 r n aMg x0 k) (bWl r n)
theorem bBg (q0 : mE) : D253 r n aMg x0 (K3 q0 0 2 4) = fun (env : aS) (h : Hp) =>
 bnd (r 183 [(env 0), (aH 0)] h) fun v1 h1 =>
 bnd (bJ [(aH 0), (.s []), (aH 0), (aH 0)] h1) fun v2 h2 =>
 bnd (aE 4 v2 v1 h2) fun _ h3 =>
  q0 (env 0) (env 2) v2 h3 := by kernel_rfl
theorem bBc : (fun (env : aS) (h : Hp) =>
 bnd (r 183 [(env 0), (aH 0)] h) fun v1 h1 =>
 bnd (bJ [(aH 0), (.s []), (aH 0), (aH 0)] h1) fun v2 h2 =>
 bnd (aE 4 v2 v1 h2) fun _ h3 =>
  qE r n (env 0) (env 2) v2 h3) = (K2 (pS r n) 0 2) := by kernel_rfl
theorem cHg : D253 r n aCf x0 r253 = (K2 (pS r n) 0 2) :=
 (bRx r n).trans
 ((bBg r n (qE r n)).trans (bBc r n))
theorem cLq : D253 r n c253 x0 r253 = D253 r n aKj x0 (K2 (pS r n) 0 2) :=
 congrArg (fun k => D253 r n aKj x0 k) (cHg r n)
theorem cQq (q0 : gP) : D253 r n aKj x0 (K2 q0 0 2) = fun (env : aS) (h : Hp) =>
 bnd (bJ gX h) fun v1 h1 =>
  q0 (env 0) v1 h1 := by kernel_rfl
theorem bYy : (fun (env : aS) (h : Hp) =>
 bnd (bJ gX h) fun v1 h1 =>
  pS r n (env 0) v1 h1) = (K1 (s253 r n) 0) := by kernel_rfl
theorem dAf : D253 r n c253 x0 r253 = (K1 (s253 r n) 0) :=
 (cLq r n).trans
 ((cQq r n (pS r n)).trans (bYy r n))
theorem cLc : aF CF r n 253 args h = s253 r n (aT args 0) h :=
 (by kernel_rfl : aF CF r n 253 args h = D253 r n c253 x0 r253 (aJ args) h).trans ((congrFun (congrFun (dAf r n) (aJ args)) h).trans (by kernel_rfl))
noncomputable def s254 (r : RT) (n : Nat) (x0 x1 : DV) (h0 : Hp) : aG :=
 bnd (bJ gX h0) fun v1 h1 =>
 bnd (r 180 [x0] h1) fun v2 h2 =>
 bnd (bJ [(aH 0), (.s []), (aH 0), (aH 0)] h2) fun v3 h3 =>
 bnd (aE 4 v3 v2 h3) fun _ h4 =>
 bnd (aP x0 h4) fun v5 h5 =>
 bnd (aB 1 v5 h5) fun v6 h6 =>
 bnd (aA v6 h6) fun v7 h7 =>
 bnd (aD .eql v7 (aH 20) h7) fun v8 h8 =>
 aU v8 (
 bnd (aK 4 v3 h8) fun v9 h9 =>
 bnd (r 182 [x0, v9, (aH 14)] h9) fun v10 h10 =>
 bnd (aX gX [] h10) fun v11 h11 =>
 bnd (aE 6 v1 v11 h11) fun _ h12 =>
 bnd (aK 6 v1 h12) fun v13 _ =>
 some (v13, h12)) (
 bnd (aP x0 h8) fun v14 h14 =>
 bnd (aB 1 v14 h14) fun v15 h15 =>
 bnd (aA v15 h15) fun v16 h16 =>
 bnd (aD .add v16 (aH 1) h16) fun v17 h17 =>
 bnd (aP x0 h17) fun v18 h18 =>
 bnd (aB 1 v18 h18) fun v19 h19 =>
 bnd (aE 1 v19 v17 h19) fun _ h20 =>
 bnd (cY CF r x1 [] h20) fun v21 h21 =>
 bnd (bJ gX h21) fun v22 h22 =>
 bnd (aE 6 v22 v21 h22) fun _ h23 =>
 bnd (aP x0 h23) fun v24 h24 =>
 bnd (aB 1 v24 h24) fun v25 h25 =>
 bnd (aA v25 h25) fun v26 h26 =>
 bnd (aD .sub v26 (aH 1) h26) fun v27 h27 =>
 bnd (aP x0 h27) fun v28 h28 =>
 bnd (aB 1 v28 h28) fun v29 h29 =>
 bnd (aE 1 v29 v27 h29) fun _ h30 =>
 bnd (aK 6 v22 h30) fun v31 h31 =>
 bnd (aE 6 v1 v31 h31) fun _ h32 =>
 bnd (aK 6 v1 h32) fun v33 _ =>
 some (v33, h32))
noncomputable abbrev c254 : Code := cf Tryz.f254
noncomputable abbrev r254 : K := aQ CF Tryz.f254
noncomputable def D254 (r : RT) (n : Nat) (c : Code) (X : Nat → K) (k : K) : K := aM CF r 35 n c X r254 k
theorem cVf : D254 r n c254 x0 r254 = (K2 (s254 r n) 0 1) :=
 (by kernel_rfl)
theorem cMy : aF CF r n 254 args h = s254 r n (aT args 0) (aT args 1) h :=
 (by kernel_rfl : aF CF r n 254 args h = D254 r n c254 x0 r254 (aJ args) h).trans ((congrFun (congrFun (cVf r n) (aJ args)) h).trans (by kernel_rfl))
end Go.Dd

namespace Go.Dd
open Go.Proofs
variable (r : RT) (n : Nat) (args : List DV) (h : Hp)
noncomputable def s269 (r : RT) (n : Nat) (x0 : DV) (h0 : Hp) : aG :=
 bnd (bS x0 h0) fun v1 h1 =>
 bnd (aB 0 v1 h1) fun v2 h2 =>
 bnd (aA v2 h2) fun v3 h3 =>
 bnd (aD .eql v3 (aH 5) h3) fun v4 h4 =>
 bnd (gD v4 true (aB 1 v1 h4) h4) fun v5 h5 =>
 bnd (gD v4 true (aA v5 h5) h5) fun v6 h6 =>
 bnd (gD v4 true (fE .eql v6 (.s [115, 117, 112, 101, 114]) h6) h6) fun v7 h7 =>
 bnd (aO v4 v7 (.b false) h7) fun v8 h8 =>
 some (v8, h8)
noncomputable abbrev c269 : Code := cf Tryz.f269
noncomputable abbrev r269 : K := aQ CF Tryz.f269
noncomputable def D269 (r : RT) (n : Nat) (c : Code) (X : Nat → K) (k : K) : K := aM CF r 11 n c X r269 k
theorem dAw : D269 r n c269 x0 r269 = (K1 (s269 r n) 0) :=
 (by kernel_rfl)
theorem cPb : aF CF r n 269 args h = s269 r n (aT args 0) h :=
 (by kernel_rfl : aF CF r n 269 args h = D269 r n c269 x0 r269 (aJ args) h).trans ((congrFun (congrFun (dAw r n) (aJ args)) h).trans (by kernel_rfl))
noncomputable def s270 (r : RT) (n : Nat) (x0 : DV) (h0 : Hp) : aG :=
 bnd (r 183 [x0, (aH 1)] h0) fun v1 h1 =>
 bnd (bJ [(aH 0), (.s []), (aH 0), (aH 0)] h1) fun v2 h2 =>
 bnd (aE 4 v2 v1 h2) fun _ h3 =>
 bnd (r 179 [x0, (aH 3), (.s [45])] h3) fun v4 h4 =>
 bnd (gD v4 true (aB 0 v2 h4) h4) fun v5 h5 =>
 bnd (gD v4 true (aA v5 h5) h5) fun v6 h6 =>
 bnd (gD v4 true (aD .eql v6 (aH 4) h6) h6) fun v7 h7 =>
 bnd (aO v4 v7 (.b false) h7) fun v8 h8 =>
 bnd (gD v8 true (aB 3 v2 h8) h8) fun v9 h9 =>
 bnd (gD v8 true (aA v9 h9) h9) fun v10 h10 =>
 bnd (gD v8 true (some (x0, h10)) h10) fun v11 h11 =>
 bnd (gD v8 true (r 183 [v11, (aH 0)] h11) h11) fun v12 h12 =>
 cnd (bD (gD v8 true (aA v9 h12) h12) v10 && true) (
 bnd (gD v8 true (eX 3 v12 h12) h12) fun v13 h13 =>
 bnd (gD v8 true (aD .add v13 (aH 1) h13) h13) fun v14 h14 =>
 bnd (gD v8 true (aD .eql v10 v14 h14) h14) fun v15 h15 =>
 bnd (aO v8 v15 (.b false) h15) fun v16 h16 =>
 some (v16, h16))
noncomputable abbrev c270 : Code := cf Tryz.f270
noncomputable abbrev r270 : K := aQ CF Tryz.f270
noncomputable def D270 (r : RT) (n : Nat) (c : Code) (X : Nat → K) (k : K) : K := aM CF r 22 n c X r270 k
theorem dCe : D270 r n c270 x0 r270 = (K1 (s270 r n) 0) :=
 (by kernel_rfl)
theorem cSy : aF CF r n 270 args h = s270 r n (aT args 0) h :=
 (by kernel_rfl : aF CF r n 270 args h = D270 r n c270 x0 r270 (aJ args) h).trans ((congrFun (congrFun (dCe r n) (aJ args)) h).trans (by kernel_rfl))
end Go.Dd

namespace Go.Dd
open Go.Proofs
section
variable (ih : RT) (m : Nat) (f : FuncId) (args : List DV) (h : Hp)
theorem cW {i : Nat} {s r : aG} (e1 : s = aF CF ih m i args h) (e2 : r = aF CF ih m f args h) : (bif Nat.beq f i then s else r) = aF CF ih m f args h := by
 cases e : Nat.beq f i with
 | false => exact e2
 | true => cases Nat.eq_of_beq_eq_true e; exact e1
theorem ndC {i : Nat} {a b : aG} (e1 : a = aF CF ih m f args h) (e2 : b = aF CF ih m f args h) : (bif Nat.blt f i then a else b) = aF CF ih m f args h := by
 cases Nat.blt f i with
 | false => exact e2
 | true => exact e1
noncomputable def qg0 : aG := bif Nat.beq f 7 then s7 ih m (aT args 0) h else bif Nat.beq f 9 then s9 ih m h else bif Nat.beq f 10 then s10 ih m (aT args 0) (aT args 1) h else bif Nat.beq f 11 then s11 ih m (aT args 0) (aT args 1) h else bif Nat.beq f 17 then s17 ih m (aT args 0) h else bif Nat.beq f 25 then s25 ih m h else bif Nat.beq f 34 then s34 ih m (aT args 0) (aT args 1) h else bif Nat.beq f 36 then s36 ih m (aT args 0) (aT args 1) h else aF CF ih m f args h
theorem dGi : qg0 ih m f args h = aF CF ih m f args h := cW ih m f args h (dFm ih m args h).symm (cW ih m f args h (dEh ih m args h).symm (cW ih m f args h (dCc ih m args h).symm (cW ih m f args h (cYi ih m args h).symm (cW ih m f args h (cYu ih m args h).symm (cW ih m f args h (cJg ih m args h).symm (cW ih m f args h (cIu ih m args h).symm (cW ih m f args h (cZz ih m args h).symm rfl)))))))
noncomputable def qg1 : aG := bif Nat.beq f 37 then s37 ih m (aT args 0) h else bif Nat.beq f 39 then s39 ih m (aT args 0) (aT args 1) (aT args 2) h else bif Nat.beq f 41 then s41 ih m (aT args 0) (aT args 1) (aT args 2) h else bif Nat.beq f 43 then s43 ih m (aT args 0) (aT args 1) (aT args 2) h else bif Nat.beq f 56 then s56 ih m (aT args 0) (aT args 1) h else bif Nat.beq f 58 then s58 ih m (aT args 0) (aT args 1) h else bif Nat.beq f 60 then s60 ih m (aT args 0) (aT args 1) h else bif Nat.beq f 63 then s63 ih m (aT args 0) (aT args 1) h else aF CF ih m f args h
theorem dFs : qg1 ih m f args h = aF CF ih m f args h := cW ih m f args h (dBc ih m args h).symm (cW ih m f args h (cWp ih m args h).symm (cW ih m f args h (cVr ih m args h).symm (cW ih m f args h (dCx ih m args h).symm (cW ih m f args h (cXh ih m args h).symm (cW ih m f args h (cWe ih m args h).symm (cW ih m f args h (cXy ih m args h).symm (cW ih m f args h (dBi ih m args h).symm rfl)))))))
noncomputable def qg2 : aG := bif Nat.beq f 64 then s64 ih m (aT args 0) (aT args 1) h else bif Nat.beq f 71 then s71 ih m (aT args 0) (aT args 1) h else bif Nat.beq f 72 then s72 ih m (aT args 0) (aT args 1) h else bif Nat.beq f 77 then s77 ih m (aT args 0) (aT args 1) h else bif Nat.beq f 78 then s78 ih m (aT args 0) (aT args 1) h else bif Nat.beq f 79 then s79 ih m (aT args 0) h else bif Nat.beq f 80 then s80 ih m (aT args 0) h else bif Nat.beq f 81 then s81 ih m (aT args 0) h else aF CF ih m f args h
theorem dCz : qg2 ih m f args h = aF CF ih m f args h := cW ih m f args h (cVk ih m args h).symm (cW ih m f args h (dBf ih m args h).symm (cW ih m f args h (cIv ih m args h).symm (cW ih m f args h (cIm ih m args h).symm (cW ih m f args h (cJo ih m args h).symm (cW ih m f args h (cIf ih m args h).symm (cW ih m f args h (cJq ih m args h).symm (cW ih m f args h (cJt ih m args h).symm rfl)))))))
noncomputable def qg3 : aG := bif Nat.beq f 86 then s86 ih m (aT args 0) (aT args 1) h else bif Nat.beq f 87 then s87 ih m (aT args 0) (aT args 1) (aT args 2) (aT args 3) h else bif Nat.beq f 91 then s91 ih m (aT args 0) h else bif Nat.beq f 92 then s92 ih m (aT args 0) (aT args 1) h else bif Nat.beq f 93 then s93 ih m (aT args 0) (aT args 1) (aT args 2) h else bif Nat.beq f 96 then s96 ih m (aT args 0) (aT args 1) h else bif Nat.beq f 110 then s110 ih m (aT args 0) (aT args 1) h else bif Nat.beq f 111 then s111 ih m (aT args 0) (aT args 1) (aT args 2) h else aF CF ih m f args h
theorem dGs : qg3 ih m f args h = aF CF ih m f args h := cW ih m f args h (cXv ih m args h).symm (cW ih m f args h (cYv ih m args h).symm (cW ih m f args h (cYe ih m args h).symm (cW ih m f args h (cXx ih m args h).symm (cW ih m f args h (cXg ih m args h).symm (cW ih m f args h (dAz ih m args h).symm (cW ih m f args h (cNo ih m args h).symm (cW ih m f args h (bHi ih m args h).symm rfl)))))))
noncomputable def qg4 : aG := bif Nat.beq f 116 then s116 ih m (aT args 0) (aT args 1) h else bif Nat.beq f 123 then s123 ih m (aT args 0) (aT args 1) h else bif Nat.beq f 124 then s124 ih m (aT args 0) (aT args 1) h else bif Nat.beq f 132 then s132 ih m (aT args 0) (aT args 1) h else bif Nat.beq f 133 then s133 ih m (aT args 0) (aT args 1) h else bif Nat.beq f 134 then s134 ih m (aT args 0) h else bif Nat.beq f 135 then s135 ih m (aT args 0) (aT args 1) (aT args 2) h else bif Nat.beq f 136 then s136 ih m (aT args 0) (aT args 1) (aT args 2) h else aF CF ih m f args h
theorem dGl : qg4 ih m f args h = aF CF ih m f args h := cW ih m f args h (cSt ih m args h).symm (cW ih m f args h (bKc ih m args h).symm (cW ih m f args h (bGv ih m args h).symm (cW ih m f args h (cMx ih m args h).symm (cW ih m f args h (cQu ih m args h).symm (cW ih m f args h (cKv ih m args h).symm (cW ih m f args h (cTi ih m args h).symm (cW ih m f args h (cQn ih m args h).symm rfl)))))))
noncomputable def qg5 : aG := bif Nat.beq f 137 then s137 ih m (aT args 0) (aT args 1) (aT args 2) (aT args 3) h else bif Nat.beq f 141 then s141 ih m (aT args 0) (aT args 1) (aT args 2) h else bif Nat.beq f 142 then s142 ih m (aT args 0) (aT args 1) h else bif Nat.beq f 143 then s143 ih m (aT args 0) h else bif Nat.beq f 144 then s144 ih m (aT args 0) (aT args 1) h else bif Nat.beq f 145 then s145 ih m (aT args 0) h else bif Nat.beq f 146 then s146 ih m (aT args 0) (aT args 1) (aT args 2) h else bif Nat.beq f 147 then s147 ih m (aT args 0) h else aF CF ih m f args h
theorem dGc : qg5 ih m f args h = aF CF ih m f args h := cW ih m f args h (cUb ih m args h).symm (cW ih m f args h (cNc ih m args h).symm (cW ih m f args h (cKu ih m args h).symm (cW ih m f args h (cTe ih m args h).symm (cW ih m f args h (cNn ih m args h).symm (cW ih m f args h (cUv ih m args h).symm (cW ih m f args h (cQb ih m args h).symm (cW ih m f args h (cPd ih m args h).symm rfl)))))))
noncomputable def qg6 : aG := bif Nat.beq f 148 then s148 ih m (aT args 0) (aT args 1) h else bif Nat.beq f 149 then s149 ih m (aT args 0) (aT args 1) h else bif Nat.beq f 153 then s153 ih m (aT args 0) h else bif Nat.beq f 155 then s155 ih m (aT args 0) h else bif Nat.beq f 156 then s156 ih m (aT args 0) (aT args 1) (aT args 2) h else bif Nat.beq f 157 then s157 ih m (aT args 0) (aT args 1) h else bif Nat.beq f 159 then s159 ih m (aT args 0) (aT args 1) (aT args 2) h else bif Nat.beq f 160 then s160 ih m (aT args 0) h else aF CF ih m f args h
theorem dDt : qg6 ih m f args h = aF CF ih m f args h := cW ih m f args h (cQs ih m args h).symm (cW ih m f args h (cNz ih m args h).symm (cW ih m f args h (cKq ih m args h).symm (cW ih m f args h (cMo ih m args h).symm (cW ih m f args h (cTh ih m args h).symm (cW ih m f args h (cQr ih m args h).symm (cW ih m f args h (cRu ih m args h).symm (cW ih m f args h (cSl ih m args h).symm rfl)))))))
noncomputable def qg7 : aG := bif Nat.beq f 161 then s161 ih m (aT args 0) (aT args 1) h else bif Nat.beq f 163 then s163 ih m (aT args 0) (aT args 1) h else bif Nat.beq f 165 then s165 ih m (aT args 0) h else bif Nat.beq f 166 then s166 ih m (aT args 0) (aT args 1) h else bif Nat.beq f 167 then s167 ih m (aT args 0) (aT args 1) h else bif Nat.beq f 168 then s168 ih m (aT args 0) (aT args 1) h else bif Nat.beq f 169 then s169 ih m (aT args 0) h else bif Nat.beq f 170 then s170 ih m (aT args 0) (aT args 1) (aT args 2) (aT args 3) (aT args 4) (aT args 5) (aT args 6) (aT args 7) h else aF CF ih m f args h
theorem dDh : qg7 ih m f args h = aF CF ih m f args h := cW ih m f args h (cLn ih m args h).symm (cW ih m f args h (cKp ih m args h).symm (cW ih m f args h (cRt ih m args h).symm (cW ih m f args h (cRs ih m args h).symm (cW ih m f args h (cNh ih m args h).symm (cW ih m f args h (cNw ih m args h).symm (cW ih m f args h (cUq ih m args h).symm (cW ih m f args h (cMi ih m args h).symm rfl)))))))
noncomputable def qg8 : aG := bif Nat.beq f 171 then s171 ih m (aT args 0) h else bif Nat.beq f 172 then s172 ih m (aT args 0) h else bif Nat.beq f 175 then s175 ih m (aT args 0) (aT args 1) (aT args 2) h else bif Nat.beq f 176 then s176 ih m (aT args 0) h else bif Nat.beq f 177 then s177 ih m (aT args 0) (aT args 1) h else bif Nat.beq f 178 then s178 ih m (aT args 0) h else bif Nat.beq f 179 then s179 ih m (aT args 0) (aT args 1) (aT args 2) h else bif Nat.beq f 180 then s180 ih m (aT args 0) h else aF CF ih m f args h
theorem dGj : qg8 ih m f args h = aF CF ih m f args h := cW ih m f args h (cRm ih m args h).symm (cW ih m f args h (cNl ih m args h).symm (cW ih m f args h (cMf ih m args h).symm (cW ih m f args h (cUw ih m args h).symm (cW ih m f args h (cQk ih m args h).symm (cW ih m f args h (cLd ih m args h).symm (cW ih m f args h (cNk ih m args h).symm (cW ih m f args h (cSs ih m args h).symm rfl)))))))
noncomputable def qg9 : aG := bif Nat.beq f 181 then s181 ih m (aT args 0) h else bif Nat.beq f 183 then s183 ih m (aT args 0) (aT args 1) h else bif Nat.beq f 184 then s184 ih m (aT args 0) (aT args 1) (aT args 2) h else bif Nat.beq f 185 then s185 ih m (aT args 0) (aT args 1) (aT args 2) h else bif Nat.beq f 186 then s186 ih m (aT args 0) (aT args 1) h else bif Nat.beq f 187 then s187 ih m (aT args 0) (aT args 1) (aT args 2) (aT args 3) h else bif Nat.beq f 188 then s188 ih m (aT args 0) h else bif Nat.beq f 200 then s200 ih m (aT args 0) (aT args 1) h else aF CF ih m f args h
theorem dHl : qg9 ih m f args h = aF CF ih m f args h := cW ih m f args h (cTk ih m args h).symm (cW ih m f args h (cNe ih m args h).symm (cW ih m f args h (cKb ih m args h).symm (cW ih m f args h (cLk ih m args h).symm (cW ih m f args h (cSx ih m args h).symm (cW ih m f args h (cSr ih m args h).symm (cW ih m f args h (cUp ih m args h).symm (cW ih m f args h (cMv ih m args h).symm rfl)))))))
noncomputable def cZc : aG := bif Nat.beq f 201 then s201 ih m (aT args 0) (aT args 1) h else bif Nat.beq f 202 then s202 ih m (aT args 0) (aT args 1) h else bif Nat.beq f 203 then s203 ih m (aT args 0) h else bif Nat.beq f 204 then s204 ih m (aT args 0) h else bif Nat.beq f 205 then s205 ih m (aT args 0) h else bif Nat.beq f 206 then s206 ih m (aT args 0) h else bif Nat.beq f 207 then s207 ih m (aT args 0) h else bif Nat.beq f 211 then s211 ih m (aT args 0) (aT args 1) h else aF CF ih m f args h
theorem cZg : cZc ih m f args h = aF CF ih m f args h := cW ih m f args h (cOr ih m args h).symm (cW ih m f args h (cLa ih m args h).symm (cW ih m f args h (cKk ih m args h).symm (cW ih m f args h (cUh ih m args h).symm (cW ih m f args h (cPu ih m args h).symm (cW ih m f args h (cTr ih m args h).symm (cW ih m f args h (cUy ih m args h).symm (cW ih m f args h (cQv ih m args h).symm rfl)))))))
noncomputable def cWv : aG := bif Nat.beq f 212 then s212 ih m (aT args 0) h else bif Nat.beq f 216 then s216 ih m (aT args 0) (aT args 1) h else bif Nat.beq f 218 then s218 ih m (aT args 0) (aT args 1) h else bif Nat.beq f 222 then s222 ih m (aT args 0) (aT args 1) h else bif Nat.beq f 230 then s230 ih m (aT args 0) h else bif Nat.beq f 235 then s235 ih m (aT args 0) h else bif Nat.beq f 238 then s238 ih m (aT args 0) (aT args 1) h else bif Nat.beq f 239 then s239 ih m (aT args 0) (aT args 1) h else aF CF ih m f args h
theorem cYa : cWv ih m f args h = aF CF ih m f args h := cW ih m f args h (cLp ih m args h).symm (cW ih m f args h (cUr ih m args h).symm (cW ih m f args h (cPa ih m args h).symm (cW ih m f args h (cMp ih m args h).symm (cW ih m f args h (cPf ih m args h).symm (cW ih m f args h (cUc ih m args h).symm (cW ih m f args h (cNd ih m args h).symm (cW ih m f args h (cQg ih m args h).symm rfl)))))))
noncomputable def cWi : aG := bif Nat.beq f 243 then s243 ih m (aT args 0) (aT args 1) h else bif Nat.beq f 244 then s244 ih m (aT args 0) (aT args 1) h else bif Nat.beq f 247 then s247 ih m (aT args 0) (aT args 1) h else bif Nat.beq f 248 then s248 ih m (aT args 0) h else bif Nat.beq f 252 then s252 ih m (aT args 0) (aT args 1) h else bif Nat.beq f 253 then s253 ih m (aT args 0) h else bif Nat.beq f 254 then s254 ih m (aT args 0) (aT args 1) h else bif Nat.beq f 269 then s269 ih m (aT args 0) h else aF CF ih m f args h
theorem cVi : cWi ih m f args h = aF CF ih m f args h := cW ih m f args h (cLw ih m args h).symm (cW ih m f args h (cKl ih m args h).symm (cW ih m f args h (cUa ih m args h).symm (cW ih m f args h (cQp ih m args h).symm (cW ih m f args h (cOs ih m args h).symm (cW ih m f args h (cLc ih m args h).symm (cW ih m f args h (cMy ih m args h).symm (cW ih m f args h (cPb ih m args h).symm rfl)))))))
noncomputable def dBn : aG := bif Nat.beq f 270 then s270 ih m (aT args 0) h else aF CF ih m f args h
theorem dAa : dBn ih m f args h = aF CF ih m f args h := cW ih m f args h (cSy ih m args h).symm rfl
noncomputable def qd0 : aG := bif Nat.blt f 64 then qg1 ih m f args h else qg2 ih m f args h
theorem dDl : qd0 ih m f args h = aF CF ih m f args h := ndC ih m f args h (dFs ih m f args h) (dCz ih m f args h)
noncomputable def qd1 : aG := bif Nat.blt f 37 then qg0 ih m f args h else qd0 ih m f args h
theorem dFq : qd1 ih m f args h = aF CF ih m f args h := ndC ih m f args h (dGi ih m f args h) (dDl ih m f args h)
noncomputable def qd2 : aG := bif Nat.blt f 116 then qg3 ih m f args h else qg4 ih m f args h
theorem dHf : qd2 ih m f args h = aF CF ih m f args h := ndC ih m f args h (dGs ih m f args h) (dGl ih m f args h)
noncomputable def qd3 : aG := bif Nat.blt f 148 then qg5 ih m f args h else qg6 ih m f args h
theorem dHw : qd3 ih m f args h = aF CF ih m f args h := ndC ih m f args h (dGc ih m f args h) (dDt ih m f args h)
noncomputable def qd4 : aG := bif Nat.blt f 137 then qd2 ih m f args h else qd3 ih m f args h
theorem dEt : qd4 ih m f args h = aF CF ih m f args h := ndC ih m f args h (dHf ih m f args h) (dHw ih m f args h)
noncomputable def qd5 : aG := bif Nat.blt f 86 then qd1 ih m f args h else qd4 ih m f args h
theorem dFc : qd5 ih m f args h = aF CF ih m f args h := ndC ih m f args h (dFq ih m f args h) (dEt ih m f args h)
noncomputable def qd6 : aG := bif Nat.blt f 181 then qg8 ih m f args h else qg9 ih m f args h
theorem dDj : qd6 ih m f args h = aF CF ih m f args h := ndC ih m f args h (dGj ih m f args h) (dHl ih m f args h)
noncomputable def qd7 : aG := bif Nat.blt f 171 then qg7 ih m f args h else qd6 ih m f args h
theorem dFz : qd7 ih m f args h = aF CF ih m f args h := ndC ih m f args h (dDh ih m f args h) (dDj ih m f args h)
noncomputable def qd8 : aG := bif Nat.blt f 212 then cZc ih m f args h else cWv ih m f args h
theorem dHy : qd8 ih m f args h = aF CF ih m f args h := ndC ih m f args h (cZg ih m f args h) (cYa ih m f args h)
noncomputable def qd9 : aG := bif Nat.blt f 270 then cWi ih m f args h else dBn ih m f args h
theorem dHc : qd9 ih m f args h = aF CF ih m f args h := ndC ih m f args h (cVi ih m f args h) (dAa ih m f args h)
noncomputable def dCj : aG := bif Nat.blt f 243 then qd8 ih m f args h else qd9 ih m f args h
theorem cVz : dCj ih m f args h = aF CF ih m f args h := ndC ih m f args h (dHy ih m f args h) (dHc ih m f args h)
noncomputable def cXo : aG := bif Nat.blt f 201 then qd7 ih m f args h else dCj ih m f args h
theorem dCm : cXo ih m f args h = aF CF ih m f args h := ndC ih m f args h (dFz ih m f args h) (cVz ih m f args h)
noncomputable def dAl : aG := bif Nat.blt f 161 then qd5 ih m f args h else cXo ih m f args h
theorem dCq : dAl ih m f args h = aF CF ih m f args h := ndC ih m f args h (dFc ih m f args h) (dCm ih m f args h)
end
noncomputable def shB (ih : RT) (m : Nat) (f : FuncId) (args : List DV) (h : Hp) : aG := dAl ih m f args h
theorem bCq (ih : RT) (m : Nat) (f : FuncId) (args : List DV) (h : Hp) : shB ih m f args h = aF CF ih m f args h := dCq ih m f args h
noncomputable def fW (n : Nat) : FuncId → List DV → Hp → aG :=
 Nat.rec (motive := fun _ => FuncId → List DV → Hp → aG) (fun _ _ _ => none) (fun m ih => fun f args h => bif rgB f then iH CF ih m itm f args h else shB ih m f args h) n
theorem aHv (f : FuncId) (hf : rgB f = false) (n : Nat) (args : List DV) (h : Hp) : fW (n + 1) f args h = aF CF (fW n) n f args h := by
 show (bif rgB f then iH CF (fW n) n itm f args h else shB (fW n) n f args h) = _
 rw [hf, cond_false, bCq]
theorem aEe : ∀ n, fW n = eZ CF n
 | 0 => rfl
 | n + 1 => by
  funext f args h
  show (bif rgB f then iH CF (fW n) n itm f args h else shB (fW n) n f args h) = (bif rgB f then iH CF (eZ CF n) n itm f else aF CF (eZ CF n) n f) args h
  rw [← aEe n]
  cases rgB f with
  | true => rfl
  | false => exact bCq _ _ _ _ _
end Go.Dd

namespace Go.Dd
noncomputable section
def mkW (l : List Nat) : Nat → WT → WT := List.rec (motive := fun _ => Nat → WT → WT) (fun _ t => t) (fun x _ ih i t => ih (Nat.add i 1) (t.set i (.ofNat x))) l
def cTj (l : List (Nat × Nat)) : WT → WT := List.rec (motive := fun _ => WT → WT) (fun t => t) (fun x _ ih t => ih (t.set x.1 (.ofNat x.2))) l
def mkP (l : List Nat) : WT → WT := List.rec (motive := fun _ => WT → WT) (fun t => t) (fun x _ ih t => ih (t.set x (.ofNat 1))) l
def cJu (l : List Nat) : Nat → List Nat := List.rec (motive := fun _ => Nat → List Nat) (fun _ => []) (fun x _ ih n => bif Nat.beq n 0 then [] else x :: ih (Nat.sub n 1)) l
def dEs (f : Nat) : Nat → Pos := Nat.rec (motive := fun _ => Nat → Pos) (fun _ => .h) (fun _ ih n => bif Nat.beq n 1 then .h else bif Nat.beq (Nat.mod n 2) 0 then .o (ih (Nat.div n 2)) else .i (ih (Nat.div n 2))) f
def dH (n : Nat) : Pos := dEs 24 (Nat.add 1023 n)
def dY : List Nat := [79, 98, 106, 101, 99, 116]
def aFr : List Nat := [67, 108, 97, 115, 115]
def wH : List Nat := [84, 114, 117, 101]
def nA : List Nat := [70, 97, 108, 115, 101]
def dG : List Nat := [73, 110, 116, 101, 103, 101, 114]
def aBq : List Nat := [65, 114, 114, 97, 121]
def oP : List Nat := [83, 116, 114, 105, 110, 103]
def cCi : List Nat := [83, 121, 109, 98, 111, 108]
def pL : List Nat := [66, 108, 111, 99, 107]
def hU : List Nat := [67, 111, 110, 116, 101, 120, 116]
def aHy : List Nat := [77, 101, 115, 115, 97, 103, 101]
def cYz : List (List Nat × List Nat) := [
 (dY, [61, 32, 111, 116, 104, 101, 114, 32, 94, 115, 101, 108, 102, 32, 61, 61, 32, 111, 116, 104, 101, 114]),
 (dY, [61, 61, 32, 111, 116, 104, 101, 114, 32, 60, 112, 114, 105, 109, 105, 116, 105, 118, 101, 58, 32, 49, 48, 62]),
 (dY, [99, 108, 97, 115, 115, 32, 60, 112, 114, 105, 109, 105, 116, 105, 118, 101, 58, 32, 49, 49, 62]),
 (dY, [105, 115, 78, 105, 108, 32, 94, 115, 101, 108, 102, 32, 61, 61, 32, 110, 105, 108]),
 (dY, [110, 111, 116, 78, 105, 108, 32, 94, 40, 115, 101, 108, 102, 32, 61, 61, 32, 110, 105, 108, 41, 32, 61, 61, 32, 102, 97, 108, 115, 101]),
 (dY, [126, 61, 32, 111, 116, 104, 101, 114, 32, 94, 40, 115, 101, 108, 102, 32, 61, 32, 111, 116, 104, 101, 114, 41, 32, 61, 61, 32, 102, 97, 108, 115, 101]),
 (dY, [121, 111, 117, 114, 115, 101, 108, 102, 32, 94, 115, 101, 108, 102]),
 (dY, [105, 110, 115, 116, 86, 97, 114, 65, 116, 58, 32, 105, 32, 60, 112, 114, 105, 109, 105, 116, 105, 118, 101, 58, 32, 53, 48, 62]),
 (dY, [105, 110, 115, 116, 86, 97, 114, 65, 116, 58, 32, 105, 32, 112, 117, 116, 58, 32, 120, 32, 60, 112, 114, 105, 109, 105, 116, 105, 118, 101, 58, 32, 53, 49, 62]),
 (dY, [98, 101, 99, 111, 109, 101, 58, 32, 111, 116, 104, 101, 114, 32, 60, 112, 114, 105, 109, 105, 116, 105, 118, 101, 58, 32, 54, 48, 62]),
 (dY, [112, 101, 114, 102, 111, 114, 109, 58, 32, 115, 32, 60, 112, 114, 105, 109, 105, 116, 105, 118, 101, 58, 32, 51, 49, 62]),
 (dY, [112, 101, 114, 102, 111, 114, 109, 58, 32, 115, 32, 119, 105, 116, 104, 58, 32, 97, 32, 60, 112, 114, 105, 109, 105, 116, 105, 118, 101, 58, 32, 51, 50, 62]),
 (dY, [115, 104, 111, 119, 32, 60, 112, 114, 105, 109, 105, 116, 105, 118, 101, 58, 32, 55, 48, 62]),
 (dY, [101, 114, 114, 111, 114, 58, 32, 115, 32, 60, 112, 114, 105, 109, 105, 116, 105, 118, 101, 58, 32, 55, 49, 62]),
 (dY, [100, 111, 101, 115, 78, 111, 116, 85, 110, 100, 101, 114, 115, 116, 97, 110, 100, 58, 32, 109, 32, 60, 112, 114, 105, 109, 105, 116, 105, 118, 101, 58, 32, 55, 50, 62]),
 (dY, [109, 117, 115, 116, 66, 101, 66, 111, 111, 108, 101, 97, 110, 32, 60, 112, 114, 105, 109, 105, 116, 105, 118, 101, 58, 32, 55, 51, 62]),
 (aFr, [110, 101, 119, 32, 60, 112, 114, 105, 109, 105, 116, 105, 118, 101, 58, 32, 50, 51, 62]),
 (aFr, [110, 101, 119, 58, 32, 110, 32, 60, 112, 114, 105, 109, 105, 116, 105, 118, 101, 58, 32, 50, 52, 62]),
 (aFr, [110, 97, 109, 101, 32, 60, 112, 114, 105, 109, 105, 116, 105, 118, 101, 58, 32, 52, 48, 62]),
 (aFr, [115, 117, 112, 101, 114, 99, 108, 97, 115, 115, 32, 60, 112, 114, 105, 109, 105, 116, 105, 118, 101, 58, 32, 52, 49, 62]),
 (wH, [105, 102, 84, 114, 117, 101, 58, 32, 98, 32, 94, 98, 32, 118, 97, 108, 117, 101]),
 (wH, [105, 102, 70, 97, 108, 115, 101, 58, 32, 98, 32, 94, 110, 105, 108]),
 (wH, [105, 102, 84, 114, 117, 101, 58, 32, 97, 32, 105, 102, 70, 97, 108, 115, 101, 58, 32, 98, 32, 94, 97, 32, 118, 97, 108, 117, 101]),
 (wH, [105, 102, 70, 97, 108, 115, 101, 58, 32, 97, 32, 105, 102, 84, 114, 117, 101, 58, 32, 98, 32, 94, 98, 32, 118, 97, 108, 117, 101]),
 (wH, [97, 110, 100, 58, 32, 98, 32, 94, 98, 32, 118, 97, 108, 117, 101]),
 (wH, [111, 114, 58, 32, 98, 32, 94, 115, 101, 108, 102]),
 (wH, [110, 111, 116, 32, 94, 102, 97, 108, 115, 101]),
 (nA, [105, 102, 84, 114, 117, 101, 58, 32, 98, 32, 94, 110, 105, 108]),
 (nA, [105, 102, 70, 97, 108, 115, 101, 58, 32, 98, 32, 94, 98, 32, 118, 97, 108, 117, 101]),
 (nA, [105, 102, 84, 114, 117, 101, 58, 32, 97, 32, 105, 102, 70, 97, 108, 115, 101, 58, 32, 98, 32, 94, 98, 32, 118, 97, 108, 117, 101]),
 (nA, [105, 102, 70, 97, 108, 115, 101, 58, 32, 97, 32, 105, 102, 84, 114, 117, 101, 58, 32, 98, 32, 94, 97, 32, 118, 97, 108, 117, 101]),
 (nA, [97, 110, 100, 58, 32, 98, 32, 94, 115, 101, 108, 102]),
 (nA, [111, 114, 58, 32, 98, 32, 94, 98, 32, 118, 97, 108, 117, 101]),
 (nA, [110, 111, 116, 32, 94, 116, 114, 117, 101]),
 (dG, [43, 32, 110, 32, 60, 112, 114, 105, 109, 105, 116, 105, 118, 101, 58, 32, 49, 62, 32, 94, 115, 101, 108, 102, 32, 101, 114, 114, 111, 114, 58, 32, 35, 110, 117, 109, 98, 101, 114]),
 (dG, [45, 32, 110, 32, 60, 112, 114, 105, 109, 105, 116, 105, 118, 101, 58, 32, 50, 62, 32, 94, 115, 101, 108, 102, 32, 101, 114, 114, 111, 114, 58, 32, 35, 110, 117, 109, 98, 101, 114]),
 (dG, [42, 32, 110, 32, 60, 112, 114, 105, 109, 105, 116, 105, 118, 101, 58, 32, 51, 62, 32, 94, 115, 101, 108, 102, 32, 101, 114, 114, 111, 114, 58, 32, 35, 110, 117, 109, 98, 101, 114]),
 (dG, [47, 47, 32, 110, 32, 60, 112, 114, 105, 109, 105, 116, 105, 118, 101, 58, 32, 52, 62, 32, 94, 115, 101, 108, 102, 32, 101, 114, 114, 111, 114, 58, 32, 35, 110, 117, 109, 98, 101, 114]),
 (dG, [37, 32, 110, 32, 60, 112, 114, 105, 109, 105, 116, 105, 118, 101, 58, 32, 53, 62, 32, 94, 115, 101, 108, 102, 32, 101, 114, 114, 111, 114, 58, 32, 35, 110, 117, 109, 98, 101, 114]),
 (dG, [60, 32, 110, 32, 60, 112, 114, 105, 109, 105, 116, 105, 118, 101, 58, 32, 54, 62, 32, 94, 115, 101, 108, 102, 32, 101, 114, 114, 111, 114, 58, 32, 35, 110, 117, 109, 98, 101, 114]),
 (dG, [61, 32, 110, 32, 60, 112, 114, 105, 109, 105, 116, 105, 118, 101, 58, 32, 55, 62, 32, 94, 102, 97, 108, 115, 101]),
 (dG, [62, 32, 110, 32, 94, 110, 32, 60, 32, 115, 101, 108, 102]),
 (dG, [60, 61, 32, 110, 32, 94, 40, 110, 32, 60, 32, 115, 101, 108, 102, 41, 32, 110, 111, 116]),
 (dG, [62, 61, 32, 110, 32, 94, 40, 115, 101, 108, 102, 32, 60, 32, 110, 41, 32, 110, 111, 116]),
 (dG, [110, 101, 103, 97, 116, 101, 100, 32, 94, 48, 32, 45, 32, 115, 101, 108, 102]),
 (dG, [97, 98, 115, 32, 115, 101, 108, 102, 32, 60, 32, 48, 32, 105, 102, 84, 114, 117, 101, 58, 32, 91, 94, 115, 101, 108, 102, 32, 110, 101, 103, 97, 116, 101, 100, 93]),
 (dG, [109, 97, 120, 58, 32, 110, 32, 115, 101, 108, 102, 32, 60, 32, 110, 32, 105, 102, 84, 114, 117, 101, 58, 32, 91, 94, 110, 93]),
 (dG, [116, 105, 109, 101, 115, 82, 101, 112, 101, 97, 116, 58, 32, 98, 32, 124, 32, 105, 32, 124, 32, 105, 32, 58, 61, 32, 48, 46, 32, 91, 105, 32, 60, 32, 115, 101, 108, 102, 93, 32, 119, 104, 105, 108, 101, 84, 114, 117, 101, 58, 32, 91, 98, 32, 118, 97, 108, 117, 101, 46, 32, 105, 32, 58, 61, 32, 105, 32, 43, 32, 49, 93]),
 (dG, [116, 111, 58, 32, 110, 32, 100, 111, 58, 32, 98, 32, 124, 32, 105, 32, 124, 32, 105, 32, 58, 61, 32, 115, 101, 108, 102, 46, 32, 91, 105, 32, 60, 61, 32, 110, 93, 32, 119, 104, 105, 108, 101, 84, 114, 117, 101, 58, 32, 91, 98, 32, 118, 97, 108, 117, 101, 58, 32, 105, 46, 32, 105, 32, 58, 61, 32, 105, 32, 43, 32, 49, 93]),
 (aBq, [97, 116, 58, 32, 105, 32, 60, 112, 114, 105, 109, 105, 116, 105, 118, 101, 58, 32, 50, 48, 62, 32, 94, 115, 101, 108, 102, 32, 101, 114, 114, 111, 114, 58, 32, 35, 105, 110, 100, 101, 120]),
 (aBq, [97, 116, 58, 32, 105, 32, 112, 117, 116, 58, 32, 120, 32, 60, 112, 114, 105, 109, 105, 116, 105, 118, 101, 58, 32, 50, 49, 62, 32, 94, 115, 101, 108, 102, 32, 101, 114, 114, 111, 114, 58, 32, 35, 105, 110, 100, 101, 120]),
 (aBq, [115, 105, 122, 101, 32, 60, 112, 114, 105, 109, 105, 116, 105, 118, 101, 58, 32, 50, 50, 62]),
 (aBq, [100, 111, 58, 32, 98, 32, 49, 32, 116, 111, 58, 32, 115, 101, 108, 102, 32, 115, 105, 122, 101, 32, 100, 111, 58, 32, 91, 58, 105, 32, 124, 32, 98, 32, 118, 97, 108, 117, 101, 58, 32, 40, 115, 101, 108, 102, 32, 97, 116, 58, 32, 105, 41, 93]),
 (oP, [97, 116, 58, 32, 105, 32, 60, 112, 114, 105, 109, 105, 116, 105, 118, 101, 58, 32, 50, 48, 62, 32, 94, 115, 101, 108, 102, 32, 101, 114, 114, 111, 114, 58, 32, 35, 105, 110, 100, 101, 120]),
 (oP, [97, 116, 58, 32, 105, 32, 112, 117, 116, 58, 32, 120, 32, 60, 112, 114, 105, 109, 105, 116, 105, 118, 101, 58, 32, 50, 49, 62, 32, 94, 115, 101, 108, 102, 32, 101, 114, 114, 111, 114, 58, 32, 35, 105, 110, 100, 101, 120]),
 (oP, [115, 105, 122, 101, 32, 60, 112, 114, 105, 109, 105, 116, 105, 118, 101, 58, 32, 50, 50, 62]),
 (oP, [44, 32, 115, 32, 60, 112, 114, 105, 109, 105, 116, 105, 118, 101, 58, 32, 50, 53, 62, 32, 94, 115, 101, 108, 102, 32, 101, 114, 114, 111, 114, 58, 32, 35, 115, 116, 114, 105, 110, 103]),
 (oP, [61, 32, 115, 32, 60, 112, 114, 105, 109, 105, 116, 105, 118, 101, 58, 32, 50, 54, 62]),
 (cCi, [61, 32, 115, 32, 94, 115, 101, 108, 102, 32, 61, 61, 32, 115]),
 (pL, [118, 97, 108, 117, 101, 32, 60, 112, 114, 105, 109, 105, 116, 105, 118, 101, 58, 32, 51, 51, 62, 32, 94, 115, 101, 108, 102, 32, 101, 114, 114, 111, 114, 58, 32, 35, 97, 114, 103, 117, 109, 101, 110, 116, 115]),
 (pL, [118, 97, 108, 117, 101, 58, 32, 97, 32, 60, 112, 114, 105, 109, 105, 116, 105, 118, 101, 58, 32, 51, 52, 62, 32, 94, 115, 101, 108, 102, 32, 101, 114, 114, 111, 114, 58, 32, 35, 97, 114, 103, 117, 109, 101, 110, 116, 115]),
 (pL, [118, 97, 108, 117, 101, 58, 32, 97, 32, 118, 97, 108, 117, 101, 58, 32, 98, 32, 60, 112, 114, 105, 109, 105, 116, 105, 118, 101, 58, 32, 51, 53, 62, 32, 94, 115, 101, 108, 102, 32, 101, 114, 114, 111, 114, 58, 32, 35, 97, 114, 103, 117, 109, 101, 110, 116, 115]),
 (pL, [119, 104, 105, 108, 101, 84, 114, 117, 101, 58, 32, 98, 32, 91, 115, 101, 108, 102, 32, 118, 97, 108, 117, 101, 93, 32, 119, 104, 105, 108, 101, 84, 114, 117, 101, 58, 32, 91, 98, 32, 118, 97, 108, 117, 101, 93]),
 (pL, [101, 110, 115, 117, 114, 101, 58, 32, 98, 32, 60, 112, 114, 105, 109, 105, 116, 105, 118, 101, 58, 32, 57, 48, 62, 32, 124, 32, 118, 32, 100, 111, 110, 101, 32, 124, 32, 118, 32, 58, 61, 32, 115, 101, 108, 102, 32, 118, 97, 108, 117, 101, 46, 32, 100, 111, 110, 101, 32, 58, 61, 32, 116, 114, 117, 101, 46, 32, 98, 32, 118, 97, 108, 117, 101, 46, 32, 94, 118]),
 (pL, [105, 102, 67, 117, 114, 116, 97, 105, 108, 101, 100, 58, 32, 98, 32, 60, 112, 114, 105, 109, 105, 116, 105, 118, 101, 58, 32, 57, 49, 62, 32, 124, 32, 118, 32, 100, 111, 110, 101, 32, 124, 32, 118, 32, 58, 61, 32, 115, 101, 108, 102, 32, 118, 97, 108, 117, 101, 46, 32, 100, 111, 110, 101, 32, 58, 61, 32, 116, 114, 117, 101, 46, 32, 94, 118]),
 (hU, [115, 101, 110, 100, 101, 114, 32, 60, 112, 114, 105, 109, 105, 116, 105, 118, 101, 58, 32, 56, 48, 62]),
 (hU, [114, 101, 99, 101, 105, 118, 101, 114, 32, 60, 112, 114, 105, 109, 105, 116, 105, 118, 101, 58, 32, 56, 49, 62]),
 (hU, [115, 101, 108, 101, 99, 116, 111, 114, 32, 60, 112, 114, 105, 109, 105, 116, 105, 118, 101, 58, 32, 56, 50, 62]),
 (hU, [112, 99, 32, 60, 112, 114, 105, 109, 105, 116, 105, 118, 101, 58, 32, 56, 51, 62]),
 (hU, [116, 101, 109, 112, 65, 116, 58, 32, 105, 32, 60, 112, 114, 105, 109, 105, 116, 105, 118, 101, 58, 32, 56, 52, 62, 32, 94, 115, 101, 108, 102, 32, 101, 114, 114, 111, 114, 58, 32, 35, 105, 110, 100, 101, 120]),
 (hU, [116, 101, 109, 112, 65, 116, 58, 32, 105, 32, 112, 117, 116, 58, 32, 120, 32, 60, 112, 114, 105, 109, 105, 116, 105, 118, 101, 58, 32, 56, 53, 62, 32, 94, 115, 101, 108, 102, 32, 101, 114, 114, 111, 114, 58, 32, 35, 105, 110, 100, 101, 120]),
 (hU, [114, 101, 116, 117, 114, 110, 58, 32, 120, 32, 60, 112, 114, 105, 109, 105, 116, 105, 118, 101, 58, 32, 56, 54, 62, 32, 94, 115, 101, 108, 102, 32, 99, 97, 110, 110, 111, 116, 82, 101, 116, 117, 114, 110, 58, 32, 120]),
 (hU, [99, 97, 110, 110, 111, 116, 82, 101, 116, 117, 114, 110, 58, 32, 120, 32, 60, 112, 114, 105, 109, 105, 116, 105, 118, 101, 58, 32, 55, 52, 62]),
 (aHy, [115, 101, 108, 101, 99, 116, 111, 114, 32, 94, 115, 101, 108, 101, 99, 116, 111, 114]),
 (aHy, [97, 114, 103, 117, 109, 101, 110, 116, 115, 32, 94, 97, 114, 103, 117, 109, 101, 110, 116, 115])]
def dGd (l : List (List Nat × List Nat)) : Nat → List DV := List.rec (motive := fun _ => Nat → List DV) (fun _ => []) (fun _ _ ih p => .l (dH p) 0 2 2 :: ih (Nat.add p 1)) l
def cXk (l : List (List Nat × Nat)) : List (DV × DV) := List.rec (motive := fun _ => List (DV × DV)) [] (fun x _ ih => (.s x.1, .i .i64 (.ofNat x.2)) :: ih) l
def dFh (l : List Nat) : List DV := List.rec (motive := fun _ => List DV) [] (fun x _ ih => .i .i64 (.ofNat x) :: ih) l
def wsF : List Nat := [0, 0, 0, 24, 24, 1, 294, 0, 1, 322, 2670, 1, 24, 24, 2, 338, 6, 1, 364, 3024, 7, 24, 24, 3, 380, 6, 1, 426, 0, 7, 24, 24, 4, 442, 6, 1, 472, 0, 7, 24, 24, 5, 488, 60, 1, 512, 3738, 7, 24, 24, 6, 528, 60, 1, 554, 4204, 7, 24, 24, 7, 570, 6, 1, 600, 6046, 7, 24, 24, 8, 616, 114, 1, 656, 0, 7, 24, 24, 9, 672, 114, 1, 712, 0, 7, 24, 24, 10, 728, 6, 1, 754, 6538, 3, 24, 24, 11, 770, 6, 1, 798, 6942, 5, 24, 24, 12, 814, 186, 1, 842, 7018, 5, 24, 24, 13, 858, 6, 1, 884, 7746, 7, 24, 24, 14, 900, 6, 1, 930, 8508, 7, 24, 24, 15, 946, 6, 1, 974, 0, 7, 24, 24, 16, 990, 6, 5, 1086, 8632, 1, 26, 204, 17, 79, 98, 106, 101, 99, 116, 8, 168, 18, 294, 0, 0, 168, 19, 8, 168, 20, 6, 0, 22, 204, 21, 67, 108, 97, 115, 115, 8, 168, 22, 338, 312, 0, 168, 23, 8, 168, 24, 24, 328, 62, 204, 25, 85, 110, 100, 101, 102, 105, 110, 101, 100, 79, 98, 106, 101, 99, 116, 8, 168, 26, 380, 354, 0, 168, 27, 8, 168, 28, 42, 370, 30, 204, 29, 66, 111, 111, 108, 101, 97, 110, 8, 168, 30, 442, 416, 0, 168, 31, 8, 168, 32, 60, 432, 18, 204, 33, 84, 114, 117, 101, 8, 168, 34, 488, 462, 0, 168, 35, 8, 168, 36, 78, 478, 22, 204, 37, 70, 97, 108, 115, 101, 8, 168, 38, 528, 502, 0, 168, 39, 8, 168, 40, 96, 518, 30, 204, 41, 73, 110, 116, 101, 103, 101, 114, 8, 168, 42, 570, 544, 0, 168, 43, 8, 168, 44, 114, 560, 50, 204, 45, 83, 109, 97, 108, 108, 73, 110, 116, 101, 103, 101, 114, 8, 168, 46, 616, 590, 0, 168, 47, 8, 168, 48, 132, 606, 50, 204, 49, 76, 97, 114, 103, 101, 73, 110, 116, 101, 103, 101, 114, 8, 168, 50, 672, 646, 0, 168, 51, 8, 168, 52, 150, 662, 22, 204, 53, 65, 114, 114, 97, 121, 8, 168, 54, 728, 702, 0, 168, 55, 8, 168, 56, 168, 718, 26, 204, 57, 83, 116, 114, 105, 110, 103, 8, 168, 58, 770, 744, 0, 168, 59, 8, 168, 60, 186, 760, 26, 204, 61, 83, 121, 109, 98, 111, 108, 8, 168, 62, 814, 788, 0, 168, 63, 8, 168, 64, 204, 804, 22, 204, 65, 66, 108, 111, 99, 107, 8, 168, 66, 858, 832, 0, 168, 67, 8, 168, 68, 222, 848, 30, 204, 69, 67, 111, 110, 116, 101, 120, 116, 8, 168, 70, 900, 874, 0, 168, 71, 8, 168, 72, 240, 890, 26, 204, 73, 77, 101, 116, 104, 111, 100, 8, 168, 74, 946, 920, 0, 168, 75, 8, 168, 76, 258, 936, 30, 204, 77, 77, 101, 115, 115, 97, 103, 101, 8, 168, 78, 990, 964, 34, 204, 79, 115, 101, 108, 101, 99, 116, 111, 114, 8, 168, 80, 1020, 1010, 38, 204, 81, 97, 114, 103, 117, 109, 101, 110, 116, 115, 8, 168, 82, 1052, 1042, 8, 168, 83, 1020, 1052, 8, 168, 84, 276, 980, 6, 204, 85, 61, 8, 168, 86, 1106, 1076, 10, 204, 87, 61, 61, 8, 168, 88, 1124, 1114, 4, 168, 89, 1124, 50, 186, 90, 1, 0, 0, 7, 0, 0, 14, 0, 1, 20, 0, 0, 4, 168, 91, 1152, 28, 258, 92, 1106, 3, 3, 1, 1144, 1182, 6, 8, 168, 93, 1190, 0, 0, 168, 94, 26, 186, 95, 1, 0, 0, 20, 0, 0, 4, 168, 96, 1226, 28, 258, 97, 1124, 3, 3, 21, 1220, 1244, 6, 8, 168, 98, 1252, 1210, 22, 204, 99, 99, 108, 97, 115, 115, 8, 168, 100, 1282, 1134, 0, 168, 101, 26, 186, 102, 1, 0, 0, 20, 0, 0, 4, 168, 103, 1314, 28, 258, 104, 1282, 1, 1, 23, 1308, 1332, 6, 8, 168, 105, 1340, 1272, 22, 204, 106, 105, 115, 78, 105, 108, 8, 168, 107, 1370, 1298, 4, 168, 108, 1124, 50, 186, 109, 1, 0, 0, 2, 0, 0, 14, 0, 1, 20, 0, 0, 4, 168, 110, 1404, 28, 258, 111, 1370, 1, 1, 1, 1396, 1434, 6, 8, 168, 112, 1442, 1360, 26, 204, 113, 110, 111, 116, 78, 105, 108, 8, 168, 114, 1472, 1386, 4, 168, 115, 1124, 74, 186, 116, 1, 0, 0, 2, 0, 0, 14, 0, 1, 4, 0, 0, 14, 0, 1, 20, 0, 0, 4, 168, 117, 1508, 28, 258, 118, 1472, 1, 1, 1, 1500, 1550, 6, 8, 168, 119, 1558, 1462, 10, 204, 120, 126, 61, 8, 168, 121, 1588, 1490, 8, 168, 122, 1106, 1124, 74, 186, 123, 1, 0, 0, 7, 0, 0, 14, 0, 1, 4, 0, 0, 14, 1, 1, 20, 0, 0, 4, 168, 124, 1618, 28, 258, 125, 1588, 3, 3, 1, 1608, 1660, 6, 8, 168, 126, 1668, 1578, 34, 204, 127, 121, 111, 117, 114, 115, 101, 108, 102, 8, 168, 128, 1698, 1598, 0, 168, 129, 26, 186, 130, 1, 0, 0, 20, 0, 0, 4, 168, 131, 1736, 28, 258, 132, 1698, 1, 1, 1, 1730, 1754, 6, 8, 168, 133, 1762, 1688, 42, 204, 134, 105, 110, 115, 116, 86, 97, 114, 65, 116, 58, 8, 168, 135, 1792, 1720, 0, 168, 136, 26, 186, 137, 1, 0, 0, 20, 0, 0, 4, 168, 138, 1834, 28, 258, 139, 1792, 3, 3, 101, 1828, 1852, 6, 8, 168, 140, 1860, 1782, 58, 204, 141, 105, 110, 115, 116, 86, 97, 114, 65, 116, 58, 112, 117, 116, 58, 8, 168, 142, 1890, 1818, 0, 168, 143, 26, 186, 144, 1, 0, 0, 20, 0, 0, 4, 168, 145, 1940, 28, 258, 146, 1890, 5, 5, 103, 1934, 1958, 6, 8, 168, 147, 1966, 1880, 30, 204, 148, 98, 101, 99, 111, 109, 101, 58, 8, 168, 149, 1996, 1924, 0, 168, 150, 26, 186, 151, 1, 0, 0, 20, 0, 0, 4, 168, 152, 2032, 28, 258, 153, 1996, 3, 3, 121, 2026, 2050, 6, 8, 168, 154, 2058, 1986, 34, 204, 155, 112, 101, 114, 102, 111, 114, 109, 58, 8, 168, 156, 2088, 2016, 0, 168, 157, 26, 186, 158, 1, 0, 0, 20, 0, 0, 4, 168, 159, 2126, 28, 258, 160, 2088, 3, 3, 63, 2120, 2144, 6, 8, 168, 161, 2152, 2078, 54, 204, 162, 112, 101, 114, 102, 111, 114, 109, 58, 119, 105, 116, 104, 58, 8, 168, 163, 2182, 2110, 0, 168, 164, 26, 186, 165, 1, 0, 0, 20, 0, 0, 4, 168, 166, 2230, 28, 258, 167, 2182, 5, 5, 65, 2224, 2248, 6, 8, 168, 168, 2256, 2172, 18, 204, 169, 115, 104, 111, 119, 8, 168, 170, 2286, 2214, 0, 168, 171, 26, 186, 172, 1, 0, 0, 20, 0, 0, 4, 168, 173, 2316, 28, 258, 174, 2286, 1, 1, 141, 2310, 2334, 6, 8, 168, 175, 2342, 2276, 26, 204, 176, 101, 114, 114, 111, 114, 58, 8, 168, 177, 2372, 2300, 0, 168, 178, 26, 186, 179, 1, 0, 0, 20, 0, 0, 4, 168, 180, 2406, 28, 258, 181, 2372, 3, 3, 143, 2400, 2424, 6, 8, 168, 182, 2432, 2362, 74, 204, 183, 100, 111, 101, 115, 78, 111, 116, 85, 110, 100, 101, 114, 115, 116, 97, 110, 100, 58, 8, 168, 184, 2462, 2390, 0, 168, 185, 26, 186, 186, 1, 0, 0, 20, 0, 0, 4, 168, 187, 2520, 28, 258, 188, 2462, 3, 3, 145, 2514, 2538, 6, 8, 168, 189, 2546, 2452, 54, 204, 190, 109, 117, 115, 116, 66, 101, 66, 111, 111, 108, 101, 97, 110, 8, 168, 191, 2576, 2504, 0, 168, 192, 26, 186, 193, 1, 0, 0, 20, 0, 0, 4, 168, 194, 2624, 28, 258, 195, 2576, 1, 1, 147, 2618, 2642, 6, 8, 168, 196, 2650, 2566, 14, 204, 197, 110, 101, 119, 8, 168, 198, 2680, 2608, 0, 168, 199, 26, 186, 200, 1, 0, 0, 20, 0, 0, 4, 168, 201, 2708, 28, 258, 202, 2680, 1, 1, 47, 2702, 2726, 24, 8, 168, 203, 2734, 0, 18, 204, 204, 110, 101, 119, 58, 8, 168, 205, 2764, 2692, 0, 168, 206, 26, 186, 207, 1, 0, 0, 20, 0, 0, 4, 168, 208, 2794, 28, 258, 209, 2764, 3, 3, 49, 2788, 2812, 24, 8, 168, 210, 2820, 2754, 18, 204, 211, 110, 97, 109, 101, 8, 168, 212, 2850, 2778, 0, 168, 213, 26, 186, 214, 1, 0, 0, 20, 0, 0, 4, 168, 215, 2880, 28, 258, 216, 2850, 1, 1, 81, 2874, 2898, 24, 8, 168, 217, 2906, 2840, 42, 204, 218, 115, 117, 112, 101, 114, 99, 108, 97, 115, 115, 8, 168, 219, 2936, 2864, 0, 168, 220, 26, 186, 221, 1, 0, 0, 20, 0, 0, 4, 168, 222, 2978, 28, 258, 223, 2936, 1, 1, 83, 2972, 2996, 24, 8, 168, 224, 3004, 2926, 30, 204, 225, 105, 102, 84, 114, 117, 101, 58, 8, 168, 226, 3034, 2962, 22, 204, 227, 118, 97, 108, 117, 101, 8, 168, 228, 3064, 3054, 4, 168, 229, 3064, 38, 186, 230, 7, 0, 0, 14, 0, 0, 20, 0, 0, 4, 168, 231, 3098, 28, 258, 232, 3034, 3, 3, 1, 3090, 3122, 78, 8, 168, 233, 3130, 0, 34, 204, 234, 105, 102, 70, 97, 108, 115, 101, 58, 8, 168, 235, 3160, 3080, 0, 168, 236, 26, 186, 237, 2, 0, 0, 20, 0, 0, 4, 168, 238, 3198, 28, 258, 239, 3160, 3, 3, 1, 3192, 3216, 78, 8, 168, 240, 3224, 3150, 62, 204, 241, 105, 102, 84, 114, 117, 101, 58, 105, 102, 70, 97, 108, 115, 101, 58, 8, 168, 242, 3254, 3182, 4, 168, 243, 3064, 38, 186, 244, 7, 0, 0, 14, 0, 0, 20, 0, 0, 4, 168, 245, 3308, 28, 258, 246, 3254, 5, 5, 1, 3300, 3332, 78, 8, 168, 247, 3340, 3244, 62, 204, 248, 105, 102, 70, 97, 108, 115, 101, 58, 105, 102, 84, 114, 117, 101, 58, 8, 168, 249, 3370, 3290, 4, 168, 250, 3064, 38, 186, 251, 7, 1, 0, 14, 0, 0, 20, 0, 0, 4, 168, 252, 3424, 28, 258, 253, 3370, 5, 5, 1, 3416, 3448, 78, 8, 168, 254, 3456, 3360, 18, 204, 255, 97, 110, 100, 58, 8, 168, 256, 3486, 3406, 4, 168, 257, 3064, 38, 186, 258, 7, 0, 0, 14, 0, 0, 20, 0, 0, 4, 168, 259, 3518, 28, 258, 260, 3486, 3, 3, 1, 3510, 3542, 78, 8, 168, 261, 3550, 3476, 14, 204, 262, 111, 114, 58, 8, 168, 263, 3580, 3500, 0, 168, 264, 26, 186, 265, 1, 0, 0, 20, 0, 0, 4, 168, 266, 3608, 28, 258, 267, 3580, 3, 3, 1, 3602, 3626, 78, 8, 168, 268, 3634, 3570, 14, 204, 269, 110, 111, 116, 8, 168, 270, 3664, 3592, 0, 168, 271, 26, 186, 272, 4, 0, 0, 20, 0, 0, 4, 168, 273, 3692, 28, 258, 274, 3664, 1, 1, 1, 3686, 3710, 78, 8, 168, 275, 3718, 3654, 0, 168, 276, 26, 186, 277, 2, 0, 0, 20, 0, 0, 4, 168, 278, 3754, 28, 258, 279, 3034, 3, 3, 1, 3748, 3772, 96, 8, 168, 280, 3780, 0, 4, 168, 281, 3064, 38, 186, 282, 7, 0, 0, 14, 0, 0, 20, 0, 0, 4, 168, 283, 3818, 28, 258, 284, 3160, 3, 3, 1, 3810, 3842, 96, 8, 168, 285, 3850, 3800, 4, 168, 286, 3064, 38, 186, 287, 7, 1, 0, 14, 0, 0, 20, 0, 0, 4, 168, 288, 3888, 28, 258, 289, 3254, 5, 5, 1, 3880, 3912, 96, 8, 168, 290, 3920, 3870, 4, 168, 291, 3064, 38, 186, 292, 7, 0, 0, 14, 0, 0, 20, 0, 0, 4, 168, 293, 3958, 28, 258, 294, 3370, 5, 5, 1, 3950, 3982, 96, 8, 168, 295, 3990, 3940, 0, 168, 296, 26, 186, 297, 1, 0, 0, 20, 0, 0, 4, 168, 298, 4026, 28, 258, 299, 3486, 3, 3, 1, 4020, 4044, 96, 8, 168, 300, 4052, 4010, 4, 168, 301, 3064, 38, 186, 302, 7, 0, 0, 14, 0, 0, 20, 0, 0, 4, 168, 303, 4090, 28, 258, 304, 3580, 3, 3, 1, 4082, 4114, 96, 8, 168, 305, 4122, 4072, 0, 168, 306, 26, 186, 307, 3, 0, 0, 20, 0, 0, 4, 168, 308, 4158, 28, 258, 309, 3664, 1, 1, 1, 4152, 4176, 96, 8, 168, 310, 4184, 4142, 6, 204, 311, 43, 8, 168, 312, 4214, 3676, 26, 204, 313, 110, 117, 109, 98, 101, 114, 8, 168, 314, 4232, 4222, 8, 168, 315, 4232, 2372, 50, 186, 316, 1, 0, 0, 6, 0, 0, 14, 1, 1, 20, 0, 0, 4, 168, 317, 4270, 28, 258, 318, 4214, 3, 3, 3, 4260, 4300, 114, 8, 168, 319, 4308, 0, 6, 204, 320, 45, 8, 168, 321, 4338, 4250, 8, 168, 322, 4232, 2372, 50, 186, 323, 1, 0, 0, 6, 0, 0, 14, 1, 1, 20, 0, 0, 4, 168, 324, 4366, 28, 258, 325, 4338, 3, 3, 5, 4356, 4396, 114, 8, 168, 326, 4404, 4328, 6, 204, 327, 42, 8, 168, 328, 4434, 4346, 8, 168, 329, 4232, 2372, 50, 186, 330, 1, 0, 0, 6, 0, 0, 14, 1, 1, 20, 0, 0, 4, 168, 331, 4462, 28, 258, 332, 4434, 3, 3, 7, 4452, 4492, 114, 8, 168, 333, 4500, 4424, 10, 204, 334, 47, 47, 8, 168, 335, 4530, 4442, 8, 168, 336, 4232, 2372, 50, 186, 337, 1, 0, 0, 6, 0, 0, 14, 1, 1, 20, 0, 0, 4, 168, 338, 4560, 28, 258, 339, 4530, 3, 3, 9, 4550, 4590, 114, 8, 168, 340, 4598, 4520, 6, 204, 341, 37, 8, 168, 342, 4628, 4540, 8, 168, 343, 4232, 2372, 50, 186, 344, 1, 0, 0, 6, 0, 0, 14, 1, 1, 20, 0, 0, 4, 168, 345, 4656, 28, 258, 346, 4628, 3, 3, 11, 4646, 4686, 114, 8, 168, 347, 4694, 4618, 6, 204, 348, 60, 8, 168, 349, 4724, 4636, 8, 168, 350, 4232, 2372, 50, 186, 351, 1, 0, 0, 6, 0, 0, 14, 1, 1, 20, 0, 0, 4, 168, 352, 4752, 28, 258, 353, 4724, 3, 3, 13, 4742, 4782, 114, 8, 168, 354, 4790, 4714, 0, 168, 355, 26, 186, 356, 4, 0, 0, 20, 0, 0, 4, 168, 357, 4826, 28, 258, 358, 1106, 3, 3, 15, 4820, 4844, 114, 8, 168, 359, 4852, 4810, 6, 204, 360, 62, 8, 168, 361, 4882, 4732, 4, 168, 362, 4724, 50, 186, 363, 7, 0, 0, 1, 0, 0, 14, 0, 1, 20, 0, 0, 4, 168, 364, 4908, 28, 258, 365, 4882, 3, 3, 1, 4900, 4938, 114, 8, 168, 366, 4946, 4872, 10, 204, 367, 60, 61, 8, 168, 368, 4976, 4890, 8, 168, 369, 4724, 3664, 62, 186, 370, 7, 0, 0, 1, 0, 0, 14, 0, 1, 14, 1, 0, 20, 0, 0, 4, 168, 371, 5006, 28, 258, 372, 4976, 3, 3, 1, 4996, 5042, 114, 8, 168, 373, 5050, 4966, 10, 204, 374, 62, 61, 8, 168, 375, 5080, 4986, 8, 168, 376, 4724, 3664, 62, 186, 377, 1, 0, 0, 7, 0, 0, 14, 0, 1, 14, 1, 0, 20, 0, 0, 4, 168, 378, 5110, 28, 258, 379, 5080, 3, 3, 1, 5100, 5146, 114, 8, 168, 380, 5154, 5070, 30, 204, 381, 110, 101, 103, 97, 116, 101, 100, 8, 168, 382, 5184, 5090, 8, 168, 383, 1, 4338, 50, 186, 384, 6, 0, 0, 1, 0, 0, 14, 1, 1, 20, 0, 0, 4, 168, 385, 5224, 28, 258, 386, 5184, 1, 1, 1, 5214, 5254, 114, 8, 168, 387, 5262, 5174, 14, 204, 388, 97, 98, 115, 8, 168, 389, 5292, 5204, 12, 168, 390, 1, 4724, 5184, 158, 186, 391, 1, 0, 0, 6, 0, 0, 14, 1, 1, 17, 9, 0, 1, 0, 0, 14, 2, 0, 20, 0, 0, 2, 0, 0, 16, 10, 0, 2, 0, 0, 12, 0, 0, 1, 0, 0, 20, 0, 0, 4, 168, 392, 5326, 28, 258, 393, 5292, 1, 1, 1, 5314, 5410, 114, 8, 168, 394, 5418, 5282, 18, 204, 395, 109, 97, 120, 58, 8, 168, 396, 5448, 5304, 4, 168, 397, 4724, 146, 186, 398, 1, 0, 0, 7, 0, 0, 14, 0, 1, 17, 8, 0, 7, 0, 0, 20, 0, 0, 2, 0, 0, 16, 9, 0, 2, 0, 0, 12, 0, 0, 1, 0, 0, 20, 0, 0, 4, 168, 399, 5480, 28, 258, 400, 5448, 3, 3, 1, 5472, 5558, 114, 8, 168, 401, 5566, 5438, 50, 204, 402, 116, 105, 109, 101, 115, 82, 101, 112, 101, 97, 116, 58, 8, 168, 403, 5596, 5462, 20, 168, 404, 1, 4724, 3064, 3, 4214, 242, 186, 405, 6, 0, 0, 10, 1, 0, 12, 0, 0, 7, 1, 0, 1, 0, 0, 14, 1, 1, 17, 16, 0, 7, 0, 0, 14, 2, 0, 12, 0, 0, 7, 1, 0, 6, 3, 0, 14, 4, 1, 10, 1, 0, 12, 0, 0, 16, 3, 0, 2, 0, 0, 12, 0, 0, 1, 0, 0, 20, 0, 0, 4, 168, 406, 5652, 28, 258, 407, 5596, 3, 5, 1, 5636, 5778, 114, 8, 168, 408, 5786, 5586, 26, 204, 409, 116, 111, 58, 100, 111, 58, 8, 168, 410, 5816, 5626, 26, 204, 411, 118, 97, 108, 117, 101, 58, 8, 168, 412, 5844, 5834, 16, 168, 413, 4976, 5844, 3, 4214, 254, 186, 414, 1, 0, 0, 10, 2, 0, 12, 0, 0, 7, 2, 0, 7, 0, 0, 14, 0, 1, 17, 17, 0, 7, 1, 0, 7, 2, 0, 14, 1, 1, 12, 0, 0, 7, 2, 0, 6, 2, 0, 14, 3, 1, 10, 2, 0, 12, 0, 0, 16, 3, 0, 2, 0, 0, 12, 0, 0, 1, 0, 0, 20, 0, 0, 4, 168, 415, 5886, 28, 258, 416, 5816, 5, 7, 1, 5872, 6018, 114, 8, 168, 417, 6026, 5806, 14, 204, 418, 97, 116, 58, 8, 168, 419, 6056, 5862, 22, 204, 420, 105, 110, 100, 101, 120, 8, 168, 421, 6078, 6068, 8, 168, 422, 6078, 2372, 50, 186, 423, 1, 0, 0, 6, 0, 0, 14, 1, 1, 20, 0, 0, 4, 168, 424, 6114, 28, 258, 425, 6056, 3, 3, 41, 6104, 6144, 168, 8, 168, 426, 6152, 0, 30, 204, 427, 97, 116, 58, 112, 117, 116, 58, 8, 168, 428, 6182, 6094, 8, 168, 429, 6078, 2372, 50, 186, 430, 1, 0, 0, 6, 0, 0, 14, 1, 1, 20, 0, 0, 4, 168, 431, 6222, 28, 258, 432, 6182, 5, 5, 43, 6212, 6252, 168, 8, 168, 433, 6260, 6172, 18, 204, 434, 115, 105, 122, 101, 8, 168, 435, 6290, 6202, 0, 168, 436, 26, 186, 437, 1, 0, 0, 20, 0, 0, 4, 168, 438, 6320, 28, 258, 439, 6290, 1, 1, 45, 6314, 6338, 168, 8, 168, 440, 6346, 6280, 14, 204, 441, 100, 111, 58, 8, 168, 442, 6376, 6304, 20, 168, 443, 3, 6290, 6056, 5844, 5816, 182, 186, 444, 6, 0, 0, 1, 0, 0, 14, 1, 0, 18, 1, 1, 16, 11, 0, 7, 0, 0, 1, 0, 0, 7, 1, 0, 14, 2, 1, 14, 3, 1, 19, 0, 0, 14, 4, 2, 12, 0, 0, 1, 0, 0, 20, 0, 0, 4, 168, 445, 6414, 28, 258, 446, 6376, 3, 5, 1, 6398, 6510, 168, 8, 168, 447, 6518, 6366, 8, 168, 448, 6078, 2372, 50, 186, 449, 1, 0, 0, 6, 0, 0, 14, 1, 1, 20, 0, 0, 4, 168, 450, 6558, 28, 258, 451, 6056, 3, 3, 41, 6548, 6588, 186, 8, 168, 452, 6596, 0, 8, 168, 453, 6078, 2372, 50, 186, 454, 1, 0, 0, 6, 0, 0, 14, 1, 1, 20, 0, 0, 4, 168, 455, 6636, 28, 258, 456, 6182, 5, 5, 43, 6626, 6666, 186, 8, 168, 457, 6674, 6616, 0, 168, 458, 26, 186, 459, 1, 0, 0, 20, 0, 0, 4, 168, 460, 6710, 28, 258, 461, 6290, 1, 1, 45, 6704, 6728, 186, 8, 168, 462, 6736, 6694, 6, 204, 463, 44, 8, 168, 464, 6766, 6388, 26, 204, 465, 115, 116, 114, 105, 110, 103, 8, 168, 466, 6784, 6774, 8, 168, 467, 6784, 2372, 50, 186, 468, 1, 0, 0, 6, 0, 0, 14, 1, 1, 20, 0, 0, 4, 168, 469, 6822, 28, 258, 470, 6766, 3, 3, 51, 6812, 6852, 186, 8, 168, 471, 6860, 6756, 0, 168, 472, 26, 186, 473, 1, 0, 0, 20, 0, 0, 4, 168, 474, 6896, 28, 258, 475, 1106, 3, 3, 53, 6890, 6914, 186, 8, 168, 476, 6922, 6880, 4, 168, 477, 1124, 50, 186, 478, 1, 0, 0, 7, 0, 0, 14, 0, 1, 20, 0, 0, 4, 168, 479, 6960, 28, 258, 480, 1106, 3, 3, 1, 6952, 6990, 204, 8, 168, 481, 6998, 0, 8, 168, 482, 1052, 2372, 50, 186, 483, 1, 0, 0, 6, 0, 0, 14, 1, 1, 20, 0, 0, 4, 168, 484, 7038, 28, 258, 485, 3064, 1, 1, 67, 7028, 7068, 222, 8, 168, 486, 7076, 0, 8, 168, 487, 1052, 2372, 50, 186, 488, 1, 0, 0, 6, 0, 0, 14, 1, 1, 20, 0, 0, 4, 168, 489, 7116, 28, 258, 490, 5844, 3, 3, 69, 7106, 7146, 222, 8, 168, 491, 7154, 7096, 50, 204, 492, 118, 97, 108, 117, 101, 58, 118, 97, 108, 117, 101, 58, 8, 168, 493, 7184, 6802, 8, 168, 494, 1052, 2372, 50, 186, 495, 1, 0, 0, 6, 0, 0, 14, 1, 1, 20, 0, 0, 4, 168, 496, 7234, 28, 258, 497, 7184, 5, 5, 71, 7224, 7264, 222, 8, 168, 498, 7272, 7174, 42, 204, 499, 119, 104, 105, 108, 101, 84, 114, 117, 101, 58, 8, 168, 500, 7302, 7214, 4, 168, 501, 3064, 134, 186, 502, 1, 0, 0, 14, 0, 0, 17, 7, 0, 7, 0, 0, 14, 0, 0, 12, 0, 0, 16, 0, 0, 2, 0, 0, 12, 0, 0, 1, 0, 0, 20, 0, 0, 4, 168, 503, 7346, 28, 258, 504, 7302, 3, 3, 1, 7338, 7418, 222, 8, 168, 505, 7426, 7292, 30, 204, 506, 101, 110, 115, 117, 114, 101, 58, 8, 168, 507, 7456, 7328, 4, 168, 508, 3064, 146, 186, 509, 1, 0, 0, 14, 0, 0, 10, 1, 0, 12, 0, 0, 3, 0, 0, 10, 2, 0, 12, 0, 0, 7, 0, 0, 14, 0, 0, 12, 0, 0, 7, 1, 0, 20, 0, 0, 4, 168, 510, 7494, 28, 258, 511, 7456, 3, 7, 181, 7486, 7572, 222, 8, 168, 512, 7580, 7446, 50, 204, 513, 105, 102, 67, 117, 114, 116, 97, 105, 108, 101, 100, 58, 8, 168, 514, 7610, 7476, 4, 168, 515, 3064, 110, 186, 516, 1, 0, 0, 14, 0, 0, 10, 1, 0, 12, 0, 0, 3, 0, 0, 10, 2, 0, 12, 0, 0, 7, 1, 0, 20, 0, 0, 4, 168, 517, 7658, 28, 258, 518, 7610, 3, 7, 183, 7650, 7718, 222, 8, 168, 519, 7726, 7600, 26, 204, 520, 115, 101, 110, 100, 101, 114, 8, 168, 521, 7756, 7640, 0, 168, 522, 26, 186, 523, 1, 0, 0, 20, 0, 0, 4, 168, 524, 7790, 28, 258, 525, 7756, 1, 1, 161, 7784, 7808, 240, 8, 168, 526, 7816, 0, 34, 204, 527, 114, 101, 99, 101, 105, 118, 101, 114, 8, 168, 528, 7846, 7774, 0, 168, 529, 26, 186, 530, 1, 0, 0, 20, 0, 0, 4, 168, 531, 7884, 28, 258, 532, 7846, 1, 1, 163, 7878, 7902, 240, 8, 168, 533, 7910, 7836, 0, 168, 534, 26, 186, 535, 1, 0, 0, 20, 0, 0, 4, 168, 536, 7946, 28, 258, 537, 1020, 1, 1, 165, 7940, 7964, 240, 8, 168, 538, 7972, 7930, 10, 204, 539, 112, 99, 8, 168, 540, 8002, 7868, 0, 168, 541, 26, 186, 542, 1, 0, 0, 20, 0, 0, 4, 168, 543, 8028, 28, 258, 544, 8002, 1, 1, 167, 8022, 8046, 240, 8, 168, 545, 8054, 7992, 30, 204, 546, 116, 101, 109, 112, 65, 116, 58, 8, 168, 547, 8084, 8012, 8, 168, 548, 6078, 2372, 50, 186, 549, 1, 0, 0, 6, 0, 0, 14, 1, 1, 20, 0, 0, 4, 168, 550, 8124, 28, 258, 551, 8084, 3, 3, 169, 8114, 8154, 240, 8, 168, 552, 8162, 8074, 46, 204, 553, 116, 101, 109, 112, 65, 116, 58, 112, 117, 116, 58, 8, 168, 554, 8192, 8104, 8, 168, 555, 6078, 2372, 50, 186, 556, 1, 0, 0, 6, 0, 0, 14, 1, 1, 20, 0, 0, 4, 168, 557, 8240, 28, 258, 558, 8192, 5, 5, 171, 8230, 8270, 240, 8, 168, 559, 8278, 8182, 30, 204, 560, 114, 101, 116, 117, 114, 110, 58, 8, 168, 561, 8308, 8220, 54, 204, 562, 99, 97, 110, 110, 111, 116, 82, 101, 116, 117, 114, 110, 58, 8, 168, 563, 8338, 8328, 4, 168, 564, 8338, 50, 186, 565, 1, 0, 0, 7, 0, 0, 14, 0, 1, 20, 0, 0, 4, 168, 566, 8388, 28, 258, 567, 8308, 3, 3, 173, 8380, 8418, 240, 8, 168, 568, 8426, 8298, 0, 168, 569, 26, 186, 570, 1, 0, 0, 20, 0, 0, 4, 168, 571, 8462, 28, 258, 572, 8338, 3, 3, 149, 8456, 8480, 240, 8, 168, 573, 8488, 8446, 0, 168, 574, 26, 186, 575, 8, 0, 0, 20, 0, 0, 4, 168, 576, 8524, 28, 258, 577, 1020, 1, 1, 1, 8518, 8542, 276, 8, 168, 578, 8550, 0, 0, 168, 579, 26, 186, 580, 8, 1, 0, 20, 0, 0, 4, 168, 581, 8586, 28, 258, 582, 1052, 1, 1, 1, 8580, 8604, 276, 8, 168, 583, 8612, 8570]
def plF : List Nat := [3, 12, 21, 30, 39, 48, 57, 66, 75, 84, 93, 102, 111, 120, 129, 138, 147, 156, 161, 164, 169, 177, 182, 185, 190, 208, 213, 216, 221, 231, 236, 239, 244, 251, 256, 259, 264, 272, 277, 280, 285, 295, 300, 303, 308, 323, 328, 331, 336, 351, 356, 359, 364, 372, 377, 380, 385, 394, 399, 402, 407, 416, 421, 424, 429, 437, 442, 445, 450, 460, 465, 468, 473, 482, 487, 490, 495, 505, 510, 521, 526, 538, 543, 548, 553, 557, 562, 567, 572, 576, 591, 595, 605, 610, 613, 622, 626, 636, 641, 649, 654, 657, 666, 670, 680, 685, 693, 698, 702, 717, 721, 731, 736, 745, 750, 754, 775, 779, 789, 794, 799, 804, 809, 830, 834, 844, 849, 860, 865, 868, 877, 881, 891, 896, 909, 914, 917, 926, 930, 940, 945, 962, 967, 970, 979, 983, 993, 998, 1008, 1013, 1016, 1025, 1029, 1039, 1044, 1055, 1060, 1063, 1072, 1076, 1086, 1091, 1107, 1112, 1115, 1124, 1128, 1138, 1143, 1150, 1155, 1158, 1167, 1171, 1181, 1186, 1195, 1200, 1203, 1212, 1216, 1226, 1231, 1252, 1257, 1260, 1269, 1273, 1283, 1288, 1304, 1309, 1312, 1321, 1325, 1335, 1340, 1346, 1351, 1354, 1363, 1367, 1377, 1382, 1389, 1394, 1397, 1406, 1410, 1420, 1425, 1432, 1437, 1440, 1449, 1453, 1463, 1468, 1481, 1486, 1489, 1498, 1502, 1512, 1517, 1527, 1532, 1540, 1545, 1549, 1561, 1565, 1575, 1580, 1591, 1596, 1599, 1608, 1612, 1622, 1627, 1645, 1650, 1654, 1666, 1670, 1680, 1685, 1703, 1708, 1712, 1724, 1728, 1738, 1743, 1750, 1755, 1759, 1771, 1775, 1785, 1790, 1796, 1801, 1804, 1813, 1817, 1827, 1832, 1838, 1843, 1846, 1855, 1859, 1869, 1874, 1877, 1886, 1890, 1900, 1905, 1909, 1921, 1925, 1935, 1940, 1944, 1956, 1960, 1970, 1975, 1979, 1991, 1995, 2005, 2010, 2013, 2022, 2026, 2036, 2041, 2045, 2057, 2061, 2071, 2076, 2079, 2088, 2092, 2102, 2107, 2111, 2116, 2125, 2130, 2135, 2150, 2154, 2164, 2169, 2173, 2178, 2183, 2198, 2202, 2212, 2217, 2221, 2226, 2231, 2246, 2250, 2260, 2265, 2270, 2275, 2280, 2295, 2299, 2309, 2314, 2318, 2323, 2328, 2343, 2347, 2357, 2362, 2366, 2371, 2376, 2391, 2395, 2405, 2410, 2413, 2422, 2426, 2436, 2441, 2445, 2450, 2454, 2469, 2473, 2483, 2488, 2493, 2498, 2503, 2521, 2525, 2535, 2540, 2545, 2550, 2555, 2573, 2577, 2587, 2592, 2602, 2607, 2612, 2627, 2631, 2641, 2646, 2652, 2657, 2663, 2705, 2709, 2719, 2724, 2731, 2736, 2740, 2779, 2783, 2793, 2798, 2813, 2818, 2826, 2889, 2893, 2903, 2908, 2917, 2922, 2931, 2936, 2943, 3009, 3013, 3023, 3028, 3034, 3039, 3047, 3052, 3057, 3072, 3076, 3086, 3091, 3101, 3106, 3111, 3126, 3130, 3140, 3145, 3152, 3157, 3160, 3169, 3173, 3183, 3188, 3194, 3199, 3207, 3255, 3259, 3269, 3274, 3279, 3294, 3298, 3308, 3313, 3318, 3333, 3337, 3347, 3352, 3355, 3364, 3368, 3378, 3383, 3387, 3392, 3401, 3406, 3411, 3426, 3430, 3440, 3445, 3448, 3457, 3461, 3471, 3476, 3480, 3495, 3499, 3509, 3514, 3519, 3534, 3538, 3548, 3553, 3558, 3573, 3577, 3587, 3592, 3607, 3612, 3617, 3632, 3636, 3646, 3651, 3664, 3669, 3673, 3709, 3713, 3723, 3728, 3738, 3743, 3747, 3786, 3790, 3800, 3805, 3820, 3825, 3829, 3859, 3863, 3873, 3878, 3887, 3892, 3895, 3904, 3908, 3918, 3923, 3934, 3939, 3942, 3951, 3955, 3965, 3970, 3973, 3982, 3986, 3996, 4001, 4006, 4011, 4014, 4023, 4027, 4037, 4042, 4052, 4057, 4062, 4077, 4081, 4091, 4096, 4110, 4115, 4120, 4135, 4139, 4149, 4154, 4164, 4169, 4185, 4190, 4194, 4209, 4213, 4223, 4228, 4231, 4240, 4244, 4254, 4259, 4262, 4271, 4275, 4285, 4290, 4293, 4302, 4306, 4316]
def syF : List (List Nat × Nat) := [([79, 98, 106, 101, 99, 116], 294), ([67, 108, 97, 115, 115], 338), ([85, 110, 100, 101, 102, 105, 110, 101, 100, 79, 98, 106, 101, 99, 116], 380), ([66, 111, 111, 108, 101, 97, 110], 442), ([84, 114, 117, 101], 488), ([70, 97, 108, 115, 101], 528), ([73, 110, 116, 101, 103, 101, 114], 570), ([83, 109, 97, 108, 108, 73, 110, 116, 101, 103, 101, 114], 616), ([76, 97, 114, 103, 101, 73, 110, 116, 101, 103, 101, 114], 672), ([65, 114, 114, 97, 121], 728), ([83, 116, 114, 105, 110, 103], 770), ([83, 121, 109, 98, 111, 108], 814), ([66, 108, 111, 99, 107], 858), ([67, 111, 110, 116, 101, 120, 116], 900), ([77, 101, 116, 104, 111, 100], 946), ([77, 101, 115, 115, 97, 103, 101], 990), ([115, 101, 108, 101, 99, 116, 111, 114], 1020), ([97, 114, 103, 117, 109, 101, 110, 116, 115], 1052), ([61], 1106), ([61, 61], 1124), ([99, 108, 97, 115, 115], 1282), ([105, 115, 78, 105, 108], 1370), ([110, 111, 116, 78, 105, 108], 1472), ([126, 61], 1588), ([121, 111, 117, 114, 115, 101, 108, 102], 1698), ([105, 110, 115, 116, 86, 97, 114, 65, 116, 58], 1792), ([105, 110, 115, 116, 86, 97, 114, 65, 116, 58, 112, 117, 116, 58], 1890), ([98, 101, 99, 111, 109, 101, 58], 1996), ([112, 101, 114, 102, 111, 114, 109, 58], 2088), ([112, 101, 114, 102, 111, 114, 109, 58, 119, 105, 116, 104, 58], 2182), ([115, 104, 111, 119], 2286), ([101, 114, 114, 111, 114, 58], 2372), ([100, 111, 101, 115, 78, 111, 116, 85, 110, 100, 101, 114, 115, 116, 97, 110, 100, 58], 2462), ([109, 117, 115, 116, 66, 101, 66, 111, 111, 108, 101, 97, 110], 2576), ([110, 101, 119], 2680), ([110, 101, 119, 58], 2764), ([110, 97, 109, 101], 2850), ([115, 117, 112, 101, 114, 99, 108, 97, 115, 115], 2936), ([105, 102, 84, 114, 117, 101, 58], 3034), ([118, 97, 108, 117, 101], 3064), ([105, 102, 70, 97, 108, 115, 101, 58], 3160), ([105, 102, 84, 114, 117, 101, 58, 105, 102, 70, 97, 108, 115, 101, 58], 3254), ([105, 102, 70, 97, 108, 115, 101, 58, 105, 102, 84, 114, 117, 101, 58], 3370), ([97, 110, 100, 58], 3486), ([111, 114, 58], 3580), ([110, 111, 116], 3664), ([43], 4214), ([110, 117, 109, 98, 101, 114], 4232), ([45], 4338), ([42], 4434), ([47, 47], 4530), ([37], 4628), ([60], 4724), ([62], 4882), ([60, 61], 4976), ([62, 61], 5080), ([110, 101, 103, 97, 116, 101, 100], 5184), ([97, 98, 115], 5292), ([109, 97, 120, 58], 5448), ([116, 105, 109, 101, 115, 82, 101, 112, 101, 97, 116, 58], 5596), ([116, 111, 58, 100, 111, 58], 5816), ([118, 97, 108, 117, 101, 58], 5844), ([97, 116, 58], 6056), ([105, 110, 100, 101, 120], 6078), ([97, 116, 58, 112, 117, 116, 58], 6182), ([115, 105, 122, 101], 6290), ([100, 111, 58], 6376), ([44], 6766), ([115, 116, 114, 105, 110, 103], 6784), ([118, 97, 108, 117, 101, 58, 118, 97, 108, 117, 101, 58], 7184), ([119, 104, 105, 108, 101, 84, 114, 117, 101, 58], 7302), ([101, 110, 115, 117, 114, 101, 58], 7456), ([105, 102, 67, 117, 114, 116, 97, 105, 108, 101, 100, 58], 7610), ([115, 101, 110, 100, 101, 114], 7756), ([114, 101, 99, 101, 105, 118, 101, 114], 7846), ([112, 99], 8002), ([116, 101, 109, 112, 65, 116, 58], 8084), ([116, 101, 109, 112, 65, 116, 58, 112, 117, 116, 58], 8192), ([114, 101, 116, 117, 114, 110, 58], 8308), ([99, 97, 110, 110, 111, 116, 82, 101, 116, 117, 114, 110, 58], 8338)]
def clF : List (List Nat × Nat) := [([79, 98, 106, 101, 99, 116], 6), ([67, 108, 97, 115, 115], 24), ([85, 110, 100, 101, 102, 105, 110, 101, 100, 79, 98, 106, 101, 99, 116], 42), ([66, 111, 111, 108, 101, 97, 110], 60), ([84, 114, 117, 101], 78), ([70, 97, 108, 115, 101], 96), ([73, 110, 116, 101, 103, 101, 114], 114), ([83, 109, 97, 108, 108, 73, 110, 116, 101, 103, 101, 114], 132), ([76, 97, 114, 103, 101, 73, 110, 116, 101, 103, 101, 114], 150), ([65, 114, 114, 97, 121], 168), ([83, 116, 114, 105, 110, 103], 186), ([83, 121, 109, 98, 111, 108], 204), ([66, 108, 111, 99, 107], 222), ([67, 111, 110, 116, 101, 120, 116], 240), ([77, 101, 116, 104, 111, 100], 258), ([77, 101, 115, 115, 97, 103, 101], 276)]
def cXi (l : List (List Nat × Nat)) : Nat → List (List Nat × Nat) := List.rec (motive := fun _ => Nat → List (List Nat × Nat)) (fun _ => []) (fun x _ ih n => bif Nat.beq n 0 then [] else x :: ih (Nat.sub n 1)) l
def cWr (l : List (List Nat × List Nat)) : Nat → List (Pos × Ob) := List.rec (motive := fun _ => Nat → List (Pos × Ob)) (fun _ => []) (fun x _ ih p => (dH p, .row .ex [.s x.1, .s x.2]) :: ih (Nat.add p 1)) l
def cXq (l : List (List Nat × List Nat)) : Nat → List (List Nat × List Nat) := List.rec (motive := fun _ => Nat → List (List Nat × List Nat)) (fun _ => []) (fun x l ih n => bif Nat.beq n 0 then x :: l else ih (Nat.sub n 1)) l
def mK (N fin made ns : Nat) (roots : List Nat) (pt : List (Nat × Nat)) (k : Nat) : List (Pos × Ob) :=
 (dH 7, .row .ex [.p (dH 3) 0, .l (dH 4) 0 18 18, .m (dH 5), .m (dH 6)]) ::
 (dH 6, .mp (cXk clF)) :: (dH 5, .mp (cXk (cXi syF ns))) :: (dH 4, .row .ex (dFh roots)) ::
 (dH 3, .row .ex [.l (dH 1) 0 N N, .i .i64 (.ofNat fin), .i .i64 (.ofNat made), .m (dH 2)]) ::
 (dH 2, .mi (mkP (cJu plF made) .e)) :: (dH 1, .big N (cTj pt (mkW (cJu wsF fin) 0 .e))) ::
 (dH 431, .row .ex (dGd cYz 356)) :: cWr (cXq cYz k) (Nat.add 356 k)
def cVb (l : List (Pos × Ob)) : Tr Ob := List.rec (motive := fun _ => Tr Ob) .e (fun x _ ih => Tr.set x.2 x.1 ih) l
def hY (nx : Nat) (l : List (Pos × Ob)) : Hp := ⟨dH nx, cVb l⟩
def bOw (x y : Int) : Bool := match x, y with
 | .ofNat a, .ofNat b => Nat.beq a b
 | .negSucc a, .negSucc b => Nat.beq a b
 | _, _ => false
def wtE (t : WT) : WT → Bool := WT.rec (motive := fun _ => WT → Bool) (fun u => WT.rec (motive := fun _ => Bool) true (fun _ _ _ _ _ => false) u)
 (fun _ v _ ihl ihr u => WT.rec (motive := fun _ => Bool) false (fun l' v' r' _ _ => bOw v v' && (ihl l' && ihr r')) u) t
def dvE (x y : DV) : Bool := match x, y with
 | .i .i64 a, .i .i64 b => bOw a b
 | .s a, .s b => eqD a b
 | .p a o, .p b q => lJ a b && Nat.beq o q
 | .l a o n c, .l b q m d => lJ a b && (Nat.beq o q && (Nat.beq n m && Nat.beq c d))
 | .m a, .m b => lJ a b
 | .b a, .b b => a == b
 | .l0, .l0 => true
 | .p0, .p0 => true
 | .m0, .m0 => true
 | _, _ => false
def cBz (l : List DV) : List DV → Bool := List.rec (motive := fun _ => List DV → Bool) (fun m => List.rec (motive := fun _ => Bool) true (fun _ _ _ => false) m)
 (fun x _ ih m => List.rec (motive := fun _ => Bool) false (fun y m _ => dvE x y && ih m) m) l
def cSf (l : List (DV × DV)) : List (DV × DV) → Bool := List.rec (motive := fun _ => List (DV × DV) → Bool) (fun m => List.rec (motive := fun _ => Bool) true (fun _ _ _ => false) m)
 (fun x _ ih m => List.rec (motive := fun _ => Bool) false (fun y m _ => dvE x.1 y.1 && (dvE x.2 y.2 && ih m)) m) l
def obE (o p : Ob) : Bool := match o, p with
 | .row .ex l, .row .ex m => cBz l m
 | .mp l, .mp m => cSf l m
 | .big n t, .big m u => Nat.beq n m && wtE t u
 | .mi t, .mi u => wtE t u
 | _, _ => false
def bFy (g : Tr Ob) (l : List (Pos × Ob)) : Bool := List.rec (motive := fun _ => Bool) true (fun x _ ih => (match g.get x.1 with
 | some o => obE o x.2
 | none => false) && ih) l
def kQ (r : aG) (vs : List DV) (nx : Nat) (l : List (Pos × Ob)) : Bool := match r with
 | some (.t us, g) => cBz us vs && (lJ g.next (dH nx) && bFy g.bl l)
 | _ => false
def itN (n : Nat) (K : DV → DV → DV → DV → Hp → aG) : DV → DV → DV → DV → Hp → aG :=
 Nat.rec (motive := fun _ => DV → DV → DV → DV → Hp → aG) K (fun _ ih => mS (fW 899) 899 ih) n
def bRg : DV → DV → DV → DV → Hp → aG := fun a b c d h => some (.t [a, b, c, d], h)
def jX (k : Nat) : List DV := [.p (dH 7) 0, .l (dH 431) 0 75 75, .i .i64 (.ofNat 75), .i .i64 (.ofNat k)]
def mP (k n : Nat) (h : Hp) : aG := itN n bRg (.p (dH 7) 0) (.l (dH 431) 0 75 75) (.i .i64 (.ofNat 75)) (.i .i64 (.ofNat k)) h
end
end Go.Dd

