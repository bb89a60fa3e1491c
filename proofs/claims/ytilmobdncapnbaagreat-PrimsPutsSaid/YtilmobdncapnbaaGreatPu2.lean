/- A part of the proof: Q3 Q4 Q5 Q6 Q7 Q8: each text has a comment of its own. -/
import Derived.Test.YtilmobdncapnbaaGreatPu1
set_option linter.unusedVariables false
set_option linter.unusedSimpArgs false
set_option linter.constructorNameAsVariable false
set_option maxRecDepth 100000
namespace Go.Dd
open Go.Proofs
variable (r : RT) (n : Nat) (args : List DV) (h : Hp)
noncomputable def s95 (r : RT) (n : Nat) (x0 : DV) (h0 : Hp) : aH :=
 aT x0 (
 some (.t [(aE 2), (aE 0)], h0)) (
 some (.t [(aE 4), (aE 0)], h0))
noncomputable abbrev c95 : Code := cf Tryz.f95
noncomputable abbrev r95 : K := aR CF Tryz.f95
noncomputable def D95 (r : RT) (n : Nat) (c : Code) (X : Nat → K) (k : K) : K := aM CF r 5 n c X r95 k
theorem dPy : D95 r n c95 x0 r95 = (K1 (s95 r n) 0) :=
 (by kernel_rfl)
theorem dIj : aF CF r n 95 args h = s95 r n (aU args 0) h :=
 (by kernel_rfl : aF CF r n 95 args h = D95 r n c95 x0 r95 (aI args) h).trans ((congrFun (congrFun (dPy r n) (aI args)) h).trans (by kernel_rfl))
noncomputable def s96 (r : RT) (n : Nat) (x0 x1 : DV) (h0 : Hp) : aH :=
 bnd (bO x0 h0) fun v1 h1 =>
 bnd (aA v1 (resv 1 h1)) fun v2 h2 =>
 bnd (aN v2 h2) fun v3 h3 =>
 bnd (aB 0 v3 h3) fun v4 h4 =>
 bnd (aA v4 h4) fun v5 h5 =>
 bnd (aA v1 h5) fun v6 h6 =>
 bnd (aN v6 h6) fun v7 h7 =>
 bnd (aB 2 v7 h7) fun v8 h8 =>
 bnd (aA v8 h8) fun v9 h9 =>
 bnd (r 25 [v5, v9] h9) fun v10 h10 =>
 bnd (iY (bX 0 h1.next) [(.i .i64 (Int.ofNat 0))] h10) fun v11 h11 =>
 bnd (aG 1 v11 v10 h11) fun v12 h12 =>
 bnd (r 52 [x1, (.f 109 [] [v1, v11])] h12) fun v13 h13 =>
 some (v13, h13)
noncomputable abbrev c96 : Code := cf Tryz.f96
noncomputable abbrev r96 : K := aR CF Tryz.f96
noncomputable def D96 (r : RT) (n : Nat) (c : Code) (X : Nat → K) (k : K) : K := aM CF r 18 n c X r96 k
theorem dOk : D96 r n c96 x0 r96 = (K2 (s96 r n) 0 1) :=
 (by kernel_rfl)
theorem cSl : aF CF r n 96 args h = s96 r n (aU args 0) (aU args 1) h :=
 (by kernel_rfl : aF CF r n 96 args h = D96 r n c96 x0 r96 (aI args) h).trans ((congrFun (congrFun (dOk r n) (aI args)) h).trans (by kernel_rfl))
noncomputable def s97 (r : RT) (n : Nat) (x0 : DV) (h0 : Hp) : aH :=
 bnd (aN x0 h0) fun v1 h1 =>
 bnd (aB 0 v1 h1) fun v2 h2 =>
 bnd (aA v2 h2) fun v3 h3 =>
 bnd (aN x0 h3) fun v4 h4 =>
 bnd (aB 3 v4 h4) fun v5 h5 =>
 bnd (aA v5 h5) fun v6 h6 =>
 bnd (aJ 1 v6 (.i .i64 (Int.ofNat 0)) h6) fun v7 h7 =>
 bnd (aA v7 h7) fun v8 h8 =>
 bnd (r 15 [v3, v8] h8) fun v9 h9 =>
 bnd (aC 0 v9 h9) fun v10 h10 =>
 bnd (aC 1 v9 h10) fun v11 h11 =>
 bnd (aD .sub v10 (.i .i64 (Int.ofNat 1)) h11) fun v12 h12 =>
 bnd (gD v11 true (some (v10, h12)) h12) fun v13 h13 =>
 bnd (gD v11 true (aD .geq v13 (.i .i64 (Int.ofNat 1)) h13) h13) fun v14 h14 =>
 bnd (aP v11 v14 (.b false) h14) fun v15 h15 =>
 bnd (gD v15 true (some (v10, h15)) h15) fun v16 h16 =>
 bnd (gD v15 true (some (x0, h16)) h16) fun v17 h17 =>
 bnd (gD v15 true (aN v17 h17) h17) fun v18 h18 =>
 bnd (gD v15 true (aB 0 v18 h18) h18) fun v19 h19 =>
 bnd (gD v15 true (aA v19 h19) h19) fun v20 h20 =>
 bnd (gD v15 true (r 23 [v20] h20) h20) fun v21 h21 =>
 bnd (gD v15 true (some (x0, h21)) h21) fun v22 h22 =>
 bnd (gD v15 true (aN v22 h22) h22) fun v23 h23 =>
 bnd (gD v15 true (aB 2 v23 h23) h23) fun v24 h24 =>
 bnd (gD v15 true (aA v24 h24) h24) fun v25 h25 =>
 cnd (bG (gD v15 true (aA v24 h11) h11) v25 && true) (
 bnd (gD v15 true (fF [v21, v25] h25) h25) fun v26 h26 =>
 bnd (gD v15 true (aD .leq v16 v26 h26) h26) fun v27 h27 =>
 bnd (aP v15 v27 (.b false) h27) fun v28 h28 =>
 some (.t [v12, v28], h28))
noncomputable abbrev c97 : Code := cf Tryz.f97
noncomputable abbrev r97 : K := aR CF Tryz.f97
noncomputable def D97 (r : RT) (n : Nat) (c : Code) (X : Nat → K) (k : K) : K := aM CF r 41 n c X r97 k
theorem dRr : D97 r n c97 x0 r97 = (K1 (s97 r n) 0) :=
 (by kernel_rfl)
theorem cRo : aF CF r n 97 args h = s97 r n (aU args 0) h :=
 (by kernel_rfl : aF CF r n 97 args h = D97 r n c97 x0 r97 (aI args) h).trans ((congrFun (congrFun (dRr r n) (aI args)) h).trans (by kernel_rfl))
noncomputable def pS (r : RT) (n : Nat) (x0 x1 x6 : DV) (h0 : Hp) : aH :=
 bnd (bJ (bX 0 h0.next) [(.i .i64 (Int.ofNat 0))] 1 [(0, 1, (.i .i64 (Int.ofNat 11)))] (resv 1 h0)) fun v1 h1 =>
 bnd (r 96 [x0, v1] h1) fun v2 h2 =>
 bnd (gD v2 false (some (x0, h2)) h2) fun v3 h3 =>
 bnd (gD v2 false (aN v3 h3) h3) fun v4 h4 =>
 bnd (gD v2 false (aB 0 v4 h4) h4) fun v5 h5 =>
 bnd (gD v2 false (aA v5 h5) h5) fun v6 h6 =>
 bnd (gD v2 false (r 23 [v6] h6) h6) fun v7 h7 =>
 bnd (gD v2 false (some (x0, h7)) h7) fun v8 h8 =>
 bnd (gD v2 false (aN v8 h8) h8) fun v9 h9 =>
 bnd (gD v2 false (aB 2 v9 h9) h9) fun v10 h10 =>
 bnd (gD v2 false (aA v10 h10) h10) fun v11 h11 =>
 cnd (bG (gD v2 false (aA v10 h2) h2) v11 && true) (
 bnd (gD v2 false (some (x1, h11)) h11) fun v12 h12 =>
 bnd (gD v2 false (some (x6, h12)) h12) fun v13 h13 =>
 bnd (gD v2 false (nL [v7, v11, v12, v13] h13) h13) fun v14 h14 =>
 bnd (gD v2 false (aD .neq v14 (.i .i64 (Int.ofNat 0)) h14) h14) fun v15 h15 =>
 bnd (aP v2 (.b true) v15 h15) fun v16 h16 =>
 aT v16 (
 bnd (r 54 [] h16) fun v17 h17 =>
 bnd (aC 0 v17 h17) fun v18 h18 =>
 bnd (aC 1 v17 h18) fun v19 h19 =>
 some (.t [v18, v19], h19)) (
 bnd (aN x0 h16) fun v20 h20 =>
 bnd (aB 3 v20 h20) fun v21 h21 =>
 bnd (aA v21 h21) fun v22 h22 =>
 bnd (aJ 1 v22 (.i .i64 (Int.ofNat 1)) h22) fun v23 h23 =>
 bnd (aA v23 h23) fun v24 h24 =>
 some (.t [v24, (.i .i64 (Int.ofNat 0))], h24)))
noncomputable def aNl (r : RT) (n : Nat) (x0 x1 x6 : DV) (h0 : Hp) : aH :=
 bnd (aL [(.i .i64 (Int.ofNat 0))] 1 [(0, 1, (.i .i64 (Int.ofNat 10)))] h0) fun v1 h1 =>
 bnd (r 96 [x0, v1] h1) fun v2 h2 =>
 aT v2 (
 bnd (aN x0 h2) fun v3 h3 =>
 bnd (aB 0 v3 h3) fun v4 h4 =>
 bnd (aA v4 h4) fun v5 h5 =>
 bnd (r 15 [v5, x6] h5) fun v6 h6 =>
 bnd (aC 0 v6 h6) fun v7 h7 =>
 bnd (aC 1 v6 h7) fun v8 h8 =>
 bnd (gQ .not v8 h8) fun v9 h9 =>
 aT v9 (
 bnd (r 54 [] h9) fun v10 h10 =>
 bnd (aC 0 v10 h10) fun v11 h11 =>
 bnd (aC 1 v10 h11) fun v12 h12 =>
 some (.t [v11, v12], h12)) (
   pS r n x0 x1 v7 h9)) (
  pS r n x0 x1 x6 h2)
noncomputable def bAd (r : RT) (n : Nat) (x0 x1 : DV) (h0 : Hp) : aH :=
 bnd (aN x0 h0) fun v1 h1 =>
 bnd (aB 3 v1 h1) fun v2 h2 =>
 bnd (aA v2 h2) fun v3 h3 =>
 bnd (aJ 1 v3 (.i .i64 (Int.ofNat 1)) h3) fun v4 h4 =>
 bnd (aA v4 h4) fun v5 h5 =>
  aNl r n x0 x1 v5 h5
noncomputable def s98 (r : RT) (n : Nat) (x0 x1 : DV) (h0 : Hp) : aH :=
 bAd r n x0 x1 h0
noncomputable abbrev c98 : Code := cf Tryz.f98
noncomputable abbrev aWd : Code := cR c98
noncomputable abbrev bBk : Code := cR aWd
noncomputable abbrev dIc : Code := cR bBk
noncomputable abbrev bNg : Code := cL bBk
noncomputable abbrev cSf : Code := cL aWd
noncomputable abbrev cSm : Code := cL c98
noncomputable abbrev r98 : K := aR CF Tryz.f98
noncomputable def D98 (r : RT) (n : Nat) (c : Code) (X : Nat → K) (k : K) : K := aM CF r 60 n c X r98 k
theorem cUh : D98 r n dIc x0 r98 = (K3 (pS r n) 0 1 6) :=
 (by kernel_rfl)
theorem cPt : D98 r n bBk x0 r98 = D98 r n bNg x0 (K3 (pS r n) 0 1 6) :=
 congrArg (fun k => D98 r n bNg x0 k) (cUh r n)
theorem cBk (q0 : mF) : D98 r n bNg x0 (K3 q0 0 1 6) = fun (env : aV) (h : Hp) =>
 bnd (aL [(.i .i64 (Int.ofNat 0))] 1 [(0, 1, (.i .i64 (Int.ofNat 10)))] h) fun v1 h1 =>
 bnd (r 96 [(env 0), v1] h1) fun v2 h2 =>
 aT v2 (
 bnd (aN (env 0) h2) fun v3 h3 =>
 bnd (aB 0 v3 h3) fun v4 h4 =>
 bnd (aA v4 h4) fun v5 h5 =>
 bnd (r 15 [v5, (env 6)] h5) fun v6 h6 =>
 bnd (aC 0 v6 h6) fun v7 h7 =>
 bnd (aC 1 v6 h7) fun v8 h8 =>
 bnd (gQ .not v8 h8) fun v9 h9 =>
 aT v9 (
 bnd (r 54 [] h9) fun v10 h10 =>
 bnd (aC 0 v10 h10) fun v11 h11 =>
 bnd (aC 1 v10 h11) fun v12 h12 =>
 some (.t [v11, v12], h12)) (
    q0 (env 0) (env 1) v7 h9)) (
   q0 (env 0) (env 1) (env 6) h2) := by kernel_rfl
theorem bLa : (fun (env : aV) (h : Hp) =>
 bnd (aL [(.i .i64 (Int.ofNat 0))] 1 [(0, 1, (.i .i64 (Int.ofNat 10)))] h) fun v1 h1 =>
 bnd (r 96 [(env 0), v1] h1) fun v2 h2 =>
 aT v2 (
 bnd (aN (env 0) h2) fun v3 h3 =>
 bnd (aB 0 v3 h3) fun v4 h4 =>
 bnd (aA v4 h4) fun v5 h5 =>
 bnd (r 15 [v5, (env 6)] h5) fun v6 h6 =>
 bnd (aC 0 v6 h6) fun v7 h7 =>
 bnd (aC 1 v6 h7) fun v8 h8 =>
 bnd (gQ .not v8 h8) fun v9 h9 =>
 aT v9 (
 bnd (r 54 [] h9) fun v10 h10 =>
 bnd (aC 0 v10 h10) fun v11 h11 =>
 bnd (aC 1 v10 h11) fun v12 h12 =>
 some (.t [v11, v12], h12)) (
    pS r n (env 0) (env 1) v7 h9)) (
   pS r n (env 0) (env 1) (env 6) h2)) = (K3 (aNl r n) 0 1 6) := by kernel_rfl
theorem dDg : D98 r n bBk x0 r98 = (K3 (aNl r n) 0 1 6) :=
 (cPt r n).trans
 ((cBk r n (pS r n)).trans (bLa r n))
theorem cCe : D98 r n aWd x0 r98 = D98 r n cSf x0 (K3 (aNl r n) 0 1 6) :=
 congrArg (fun k => D98 r n cSf x0 k) (dDg r n)
theorem cZd : D98 r n aWd x0 r98 = (K2 (bAd r n) 0 1) :=
 (cCe r n).trans
 ((by kernel_rfl))
theorem dKp : D98 r n c98 x0 r98 = D98 r n cSm x0 (K2 (bAd r n) 0 1) :=
 congrArg (fun k => D98 r n cSm x0 k) (cZd r n)
theorem dOx : D98 r n c98 x0 r98 = (K2 (s98 r n) 0 1) :=
 (dKp r n).trans
 ((by kernel_rfl))
theorem cRz : aF CF r n 98 args h = s98 r n (aU args 0) (aU args 1) h :=
 (by kernel_rfl : aF CF r n 98 args h = D98 r n c98 x0 r98 (aI args) h).trans ((congrFun (congrFun (dOx r n) (aI args)) h).trans (by kernel_rfl))
noncomputable def s99 (r : RT) (n : Nat) (x0 : DV) (h0 : Hp) : aH :=
 bnd (bN kM h0) fun v1 h1 =>
 bnd (r 110 [x0, (.f 111 [] [])] h1) fun v2 h2 =>
 bnd (aC 0 v2 h2) fun v3 h3 =>
 bnd (aC 1 v2 h3) fun v4 h4 =>
 bnd (aC 2 v2 h4) fun v5 h5 =>
 bnd (aG 6 v1 v3 h5) fun _ h6 =>
 bnd (aK 6 v1 h6) fun v7 _ =>
 some (.t [v7, v4, v5], h6)
noncomputable abbrev c99 : Code := cf Tryz.f99
noncomputable abbrev r99 : K := aR CF Tryz.f99
noncomputable def D99 (r : RT) (n : Nat) (c : Code) (X : Nat → K) (k : K) : K := aM CF r 10 n c X r99 k
theorem dQr : D99 r n c99 x0 r99 = (K1 (s99 r n) 0) :=
 (by kernel_rfl)
theorem dKo : aF CF r n 99 args h = s99 r n (aU args 0) h :=
 (by kernel_rfl : aF CF r n 99 args h = D99 r n c99 x0 r99 (aI args) h).trans ((congrFun (congrFun (dQr r n) (aI args)) h).trans (by kernel_rfl))
noncomputable def s100 (r : RT) (n : Nat) (x0 x1 : DV) (h0 : Hp) : aH :=
 bnd (bO x0 h0) fun v1 h1 =>
 bnd (bN [(.s []), (aE 0), (aE 0), (aE 0), .l0, .l0] h1) fun v2 h2 =>
 bnd (aK 6 v1 h2) fun v3 h3 =>
 bnd (r 112 [v3, x1, (.b false)] h3) fun v4 h4 =>
 bnd (aC 0 v4 h4) fun v5 h5 =>
 bnd (aC 1 v4 h5) fun v6 h6 =>
 bnd (aC 2 v4 h6) fun v7 h7 =>
 bnd (aG 6 v2 v5 h7) fun _ h8 =>
 bnd (aK 6 v2 h8) fun v9 _ =>
 some (.t [v9, v6, v7], h8)
noncomputable abbrev c100 : Code := cf Tryz.f100
noncomputable abbrev r100 : K := aR CF Tryz.f100
noncomputable def D100 (r : RT) (n : Nat) (c : Code) (X : Nat → K) (k : K) : K := aM CF r 13 n c X r100 k
theorem dHy : D100 r n c100 x0 r100 = (K2 (s100 r n) 0 1) :=
 (by kernel_rfl)
theorem cXd : aF CF r n 100 args h = s100 r n (aU args 0) (aU args 1) h :=
 (by kernel_rfl : aF CF r n 100 args h = D100 r n c100 x0 r100 (aI args) h).trans ((congrFun (congrFun (dHy r n) (aI args)) h).trans (by kernel_rfl))
noncomputable def s101 (r : RT) (n : Nat) (x0 x1 x2 : DV) (h0 : Hp) : aH :=
 bnd (bO x2 h0) fun v1 h1 =>
 bnd (aK 6 v1 h1) fun v2 h2 =>
 bnd (r 113 [x0, x1, v2] h2) fun v3 h3 =>
 bnd (aC 0 v3 h3) fun v4 h4 =>
 bnd (aC 1 v3 h4) fun v5 h5 =>
 bnd (aD .neq v5 (aE 0) h5) fun v6 h6 =>
 aT v6 (
 some (.t [(aE 0), v5], h6)) (
 bnd (r 51 [x0, v4, (aE 0)] h6) fun v7 h7 =>
 bnd (r 114 [x0, x1, v7, v4] h7) fun v8 h8 =>
 bnd (aD .neq v8 (aE 0) h8) fun v9 h9 =>
 aT v9 (
 some (.t [(aE 0), v8], h9)) (
 some (.t [v4, (aE 0)], h9)))
noncomputable abbrev c101 : Code := cf Tryz.f101
noncomputable abbrev r101 : K := aR CF Tryz.f101
noncomputable def D101 (r : RT) (n : Nat) (c : Code) (X : Nat → K) (k : K) : K := aM CF r 32 n c X r101 k
theorem dJv : D101 r n c101 x0 r101 = (K3 (s101 r n) 0 1 2) :=
 (by kernel_rfl)
theorem cWg : aF CF r n 101 args h = s101 r n (aU args 0) (aU args 1) (aU args 2) h :=
 (by kernel_rfl : aF CF r n 101 args h = D101 r n c101 x0 r101 (aI args) h).trans ((congrFun (congrFun (dJv r n) (aI args)) h).trans (by kernel_rfl))
noncomputable def s109 (r : RT) (n : Nat) (x0 x1 x2 : DV) (h0 : Hp) : aH :=
 bnd (aA x1 h0) fun v1 h1 =>
 bnd (aN v1 h1) fun v2 h2 =>
 bnd (aB 0 v2 h2) fun v3 h3 =>
 bnd (aA v3 h3) fun v4 h4 =>
 bnd (r 30 [v4, x0] h4) fun v5 h5 =>
 bnd (aA x2 h5) fun v6 h6 =>
 cnd (bG (aA x2 h0) v6 && true) (
 bnd (aD .eql v5 v6 h6) fun v7 h7 =>
 some (v7, h7))
noncomputable abbrev c109 : Code := cf Tryz.f109
noncomputable abbrev r109 : K := aR CF Tryz.f109
noncomputable def D109 (r : RT) (n : Nat) (c : Code) (X : Nat → K) (k : K) : K := aM CF r 13 n c X r109 k
theorem dKa : D109 r n c109 x0 r109 = (K3 (s109 r n) 0 1 2) :=
 (by kernel_rfl)
theorem bKn : aF CF r n 109 args h = s109 r n (aU args 0) (aU args 1) (aU args 2) h :=
 (by kernel_rfl : aF CF r n 109 args h = D109 r n c109 x0 r109 (aI args) h).trans ((congrFun (congrFun (dKa r n) (aI args)) h).trans (by kernel_rfl))
noncomputable def s110 (r : RT) (n : Nat) (x0 x1 : DV) (h0 : Hp) : aH :=
 bnd (bN kM h0) fun v1 h1 =>
 bnd (r 117 [x0] h1) fun v2 h2 =>
 bnd (aC 0 v2 h2) fun v3 h3 =>
 bnd (aC 1 v2 h3) fun v4 h4 =>
 bnd (aC 2 v2 h4) fun v5 h5 =>
 bnd (aD .neq v5 (aE 0) h5) fun v6 h6 =>
 aT v6 (
 bnd (bB kM [] h6) fun v7 h7 =>
 bnd (aG 6 v1 v7 h7) fun _ h8 =>
 bnd (aK 6 v1 h8) fun v9 _ =>
 some (.t [v9, v4, v5], h8)) (
 bnd (bB [.l0, (aE 0), (aE 0), (aE 0)] [(0, 1, v3)] h6) fun v10 h10 =>
 bnd (bO v10 h10) fun v11 h11 =>
 bnd (cX CF r x1 [v11] h11) fun v12 h12 =>
 bnd (bN kM h12) fun v13 h13 =>
 bnd (aG 6 v13 v12 h13) fun _ h14 =>
 bnd (r 118 [v11] h14) fun v15 h15 =>
 bnd (aB 4 v13 h15) fun v16 h16 =>
 bnd (aG 1 v16 v15 h16) fun _ h17 =>
 bnd (r 119 [v11] h17) fun v18 h18 =>
 bnd (aB 5 v13 h18) fun v19 h19 =>
 bnd (aG 1 v19 v18 h19) fun _ h20 =>
 bnd (r 120 [v11, (aE 0), (.s [])] h20) fun v21 h21 =>
 bnd (aN v11 h21) fun v22 h22 =>
 bnd (aB 3 v22 h22) fun v23 h23 =>
 bnd (aA v23 h23) fun v24 h24 =>
 bnd (aD .neq v24 (aE 0) h24) fun v25 h25 =>
 aT v25 (
 bnd (bB kM [] h25) fun v26 h26 =>
 bnd (aN v11 h26) fun v27 h27 =>
 bnd (aB 2 v27 h27) fun v28 h28 =>
 bnd (aA v28 h28) fun v29 h29 =>
 bnd (aN v11 h29) fun v30 h30 =>
 bnd (aB 3 v30 h30) fun v31 h31 =>
 bnd (aA v31 h31) fun v32 h32 =>
 bnd (aG 6 v1 v26 h32) fun v33 h33 =>
 cnd (bG (aA v31 h33) v32 && (bG (aA v28 h33) v29 && true)) (
 bnd (aK 6 v1 h33) fun v34 _ =>
 some (.t [v34, v29, v32], h33))) (
 bnd (aK 6 v13 h25) fun v35 h35 =>
 bnd (aG 6 v1 v35 h35) fun _ h36 =>
 bnd (aK 6 v1 h36) fun v37 _ =>
 some (.t [v37, (aE 0), (aE 0)], h36)))
noncomputable abbrev c110 : Code := cf Tryz.f110
noncomputable abbrev r110 : K := aR CF Tryz.f110
noncomputable def D110 (r : RT) (n : Nat) (c : Code) (X : Nat → K) (k : K) : K := aM CF r 52 n c X r110 k
theorem dFq : D110 r n c110 x0 r110 = (K2 (s110 r n) 0 1) :=
 (by kernel_rfl)
theorem dEt : aF CF r n 110 args h = s110 r n (aU args 0) (aU args 1) h :=
 (by kernel_rfl : aF CF r n 110 args h = D110 r n c110 x0 r110 (aI args) h).trans ((congrFun (congrFun (dFq r n) (aI args)) h).trans (by kernel_rfl))
noncomputable def s111 (r : RT) (n : Nat) (x0 : DV) (h0 : Hp) : aH :=
 bnd (bN kM h0) fun v1 h1 =>
 bnd (bB kM [(0, 1, (aE 11))] h1) fun v2 h2 =>
 bnd (bN kM h2) fun v3 h3 =>
 bnd (aG 6 v3 v2 h3) fun _ h4 =>
 bnd (r 121 [x0, v3] h4) fun v5 h5 =>
 bnd (r 122 [x0] h5) fun v6 h6 =>
 bnd (aB 2 v3 h6) fun v7 h7 =>
 bnd (aG 1 v7 v6 h7) fun _ h8 =>
 bnd (aK 6 v3 h8) fun v9 h9 =>
 bnd (aG 6 v1 v9 h9) fun _ h10 =>
 bnd (aK 6 v1 h10) fun v11 _ =>
 some (v11, h10)
noncomputable abbrev c111 : Code := cf Tryz.f111
noncomputable abbrev r111 : K := aR CF Tryz.f111
noncomputable def D111 (r : RT) (n : Nat) (c : Code) (X : Nat → K) (k : K) : K := aM CF r 11 n c X r111 k
theorem dFt : D111 r n c111 x0 r111 = (K1 (s111 r n) 0) :=
 (by kernel_rfl)
theorem cTl : aF CF r n 111 args h = s111 r n (aU args 0) h :=
 (by kernel_rfl : aF CF r n 111 args h = D111 r n c111 x0 r111 (aI args) h).trans ((congrFun (congrFun (dFt r n) (aI args)) h).trans (by kernel_rfl))
noncomputable def eD (r : RT) (n : Nat) (x6 x9 : DV) (h0 : Hp) : aH :=
 bnd (aN x9 h0) fun v1 h1 =>
 bnd (aB 0 v1 h1) fun v2 h2 =>
 bnd (aK 6 v2 h2) fun v3 h3 =>
 bnd (aG 6 x6 v3 h3) fun _ h4 =>
 bnd (aK 6 x6 h4) fun v5 _ =>
 some (.t [v5, (.s []), (aE 0)], h4)
noncomputable def aIp (r : RT) (n : Nat) (kk9 : cH) (x6 x9 x94 x95 x96 : DV) (h0 : Hp) : aH :=
 bnd (aD .lss x96 x95 h0) fun v1 h1 =>
 aT v1 (
 bnd (aJ 3 x94 x96 h1) fun v2 h2 =>
 bnd (aK 3 v2 h2) fun v3 h3 =>
 bnd (bN [(aE 0), (aE 0), (aE 0)] h3) fun v4 h4 =>
 bnd (aG 3 v4 v3 h4) fun _ h5 =>
 bnd (aK 3 v4 h5) fun v6 h6 =>
 bnd (r 124 [v6] h6) fun v7 h7 =>
 bnd (gQ .not v7 h7) fun v8 h8 =>
 aT v8 (
 bnd (bB [(.s []), (aE 0), (aE 0), (aE 0), .l0, .l0] [] h8) fun v9 h9 =>
 bnd (aG 6 x6 v9 h9) fun _ h10 =>
 bnd (aK 6 x6 h10) fun v11 _ =>
 some (.t [v11, (.s []), (aE 12)], h10)) (
 bnd (aD .add x96 (aE 1) h8) fun v12 h12 =>
    kk9 x6 x9 x94 x95 v12 h12)) (
      eD r n x6 x9 h1)
noncomputable def tV (r : RT) (n : Nat) (m : Nat) : cH :=
 Nat.rec (motive := fun _ => cH) (fun _ _ _ _ _ _ => none) (fun _ ih => aIp r n ih) m
noncomputable def bLm (r : RT) (n : Nat) : cH := tV r n n
noncomputable def aRy (r : RT) (n : Nat) (x6 x9 x94 x95 x96 : DV) (h0 : Hp) : aH :=
 bLm r n x6 x9 x94 x95 x96 h0
noncomputable def xA (r : RT) (n : Nat) (x6 x9 : DV) (h0 : Hp) : aH :=
 bnd (aN x9 h0) fun v1 h1 =>
 bnd (aB 0 v1 h1) fun v2 h2 =>
 bnd (aB 5 v2 h2) fun v3 h3 =>
 bnd (aA v3 h3) fun v4 h4 =>
 bnd (cA v4 h4) fun v5 h5 =>
  aRy r n x6 x9 v4 v5 (aE 0) h5
noncomputable def aGd (r : RT) (n : Nat) (x6 x9 : DV) (h0 : Hp) : aH :=
 bnd (aN x9 h0) fun v1 h1 =>
 bnd (aB 8 v1 h1) fun v2 h2 =>
 bnd (aA v2 h2) fun v3 h3 =>
 bnd (aD .neq v3 (aE 0) h3) fun v4 h4 =>
 aT v4 (
 bnd (bB [(.s []), (aE 0), (aE 0), (aE 0), .l0, .l0] [] h4) fun v5 h5 =>
 bnd (aN x9 h5) fun v6 h6 =>
 bnd (aB 7 v6 h6) fun v7 h7 =>
 bnd (aA v7 h7) fun v8 h8 =>
 bnd (aN x9 h8) fun v9 h9 =>
 bnd (aB 8 v9 h9) fun v10 h10 =>
 bnd (aA v10 h10) fun v11 h11 =>
 bnd (aG 6 x6 v5 h11) fun v12 h12 =>
 cnd (bG (aA v10 h12) v11 && (bG (aA v7 h12) v8 && true)) (
 bnd (aK 6 x6 h12) fun v13 _ =>
 some (.t [v13, v8, v11], h12))) (
 bnd (aN x9 h4) fun v14 h14 =>
 bnd (aB 0 v14 h14) fun v15 h15 =>
 bnd (aB 4 v15 h15) fun v16 h16 =>
 bnd (aA v16 h16) fun v17 h17 =>
 bnd (cA v17 h17) fun v18 h18 =>
 bnd (aD .gtr v18 (aE 60) h18) fun v19 h19 =>
 aT v19 (
 bnd (bB [(.s []), (aE 0), (aE 0), (aE 0), .l0, .l0] [] h19) fun v20 h20 =>
 bnd (aG 6 x6 v20 h20) fun _ h21 =>
 bnd (aK 6 x6 h21) fun v22 _ =>
 some (.t [v22, (.s []), (aE 18)], h21)) (
 bnd (aN x9 h19) fun v23 h23 =>
 bnd (aB 0 v23 h23) fun v24 h24 =>
 bnd (aB 5 v24 h24) fun v25 h25 =>
 bnd (aA v25 h25) fun v26 h26 =>
 bnd (cA v26 h26) fun v27 h27 =>
 bnd (aD .gtr v27 (aE 400) h27) fun v28 h28 =>
 aT v28 (
 bnd (bB [(.s []), (aE 0), (aE 0), (aE 0), .l0, .l0] [] h28) fun v29 h29 =>
 bnd (aG 6 x6 v29 h29) fun _ h30 =>
 bnd (aK 6 x6 h30) fun v31 _ =>
 some (.t [v31, (.s []), (aE 12)], h30)) (
    xA r n x6 x9 h28)))
noncomputable def eB (r : RT) (n : Nat) (x2 x3 x6 x9 : DV) (h0 : Hp) : aH :=
 bnd (aK 6 x3 h0) fun v1 h1 =>
 bnd (r 123 [x9, v1, x2] h1) fun v2 h2 =>
  aGd r n x6 x9 h2
noncomputable def vJ (r : RT) (n : Nat) (kk11 : TT7) (x2 x3 x6 x9 x33 x34 x35 : DV) (h0 : Hp) : aH :=
 bnd (aD .lss x35 x34 h0) fun v1 h1 =>
 aT v1 (
 bnd (aJ 1 x33 x35 h1) fun v2 h2 =>
 bnd (aA v2 h2) fun v3 h3 =>
 bnd (aN x9 h3) fun v4 h4 =>
 bnd (aB 6 v4 h4) fun v5 h5 =>
 bnd (aA v5 h5) fun v6 h6 =>
 bnd (bB [(.s []), (.b false), (.b false), (aE 0)] [(0, 1, v3), (1, 1, (.b true)), (2, 1, (.b false)), (3, 1, x35)] h6) fun v7 h7 =>
 bnd (aL [(.s []), (.b false), (.b false), (aE 0)] 1 [(0, 4, v7)] h7) fun v8 h8 =>
 bnd (bA 4 32 v6 v8 h8) fun v9 h9 =>
 bnd (aN x9 h9) fun v10 h10 =>
 bnd (aB 6 v10 h10) fun v11 h11 =>
 bnd (aG 1 v11 v9 h11) fun _ h12 =>
 bnd (aD .add x35 (aE 1) h12) fun v13 h13 =>
      kk11 x2 x3 x6 x9 x33 x34 v13 h13) (
      eB r n x2 x3 x6 x9 h1)
noncomputable def pW (r : RT) (n : Nat) (m : Nat) : TT7 :=
 Nat.rec (motive := fun _ => TT7) (fun _ _ _ _ _ _ _ _ => none) (fun _ ih => vJ r n ih) m
noncomputable def aZl (r : RT) (n : Nat) : TT7 := pW r n n
noncomputable def aDm (r : RT) (n : Nat) (x2 x3 x6 x9 x33 x34 x35 : DV) (h0 : Hp) : aH :=
 aZl r n x2 x3 x6 x9 x33 x34 x35 h0
noncomputable def yY (r : RT) (n : Nat) (x1 x2 x3 x6 x9 : DV) (h0 : Hp) : aH :=
 bnd (cA x1 h0) fun v1 h1 =>
  aDm r n x2 x3 x6 x9 x1 v1 (aE 0) h1
noncomputable def qO (r : RT) (n : Nat) (x1 x2 x3 x6 : DV) (h0 : Hp) : aH :=
 bnd (aB 1 x3 h0) fun v1 h1 =>
 bnd (aA v1 h1) fun v2 h2 =>
 bnd (aB 3 x3 h2) fun v3 h3 =>
 bnd (aA v3 h3) fun v4 h4 =>
 bnd (cA v4 h4) fun v5 h5 =>
 bnd (aB 2 x3 h5) fun v6 h6 =>
 bnd (aA v6 h6) fun v7 h7 =>
 bnd (bB [(.s []), (aE 0), (aE 0), (aE 0), .l0, .l0] [(0, 1, v2), (1, 1, v5), (3, 1, v7)] h7) fun v8 h8 =>
 bnd (bB [(.s []), (aE 0), (aE 0), (aE 0), .l0, .l0, .l0, (.s []), (aE 0)] [(0, 6, v8)] h8) fun v9 h9 =>
 bnd (bO v9 h9) fun v10 h10 =>
  yY r n x1 x2 x3 x6 v10 h10
noncomputable def rN (r : RT) (n : Nat) (x1 x2 x3 x6 : DV) (h0 : Hp) : aH :=
 bnd (aB 0 x3 h0) fun v1 h1 =>
 bnd (aA v1 h1) fun v2 h2 =>
 bnd (aD .neq v2 (aE 11) h2) fun v3 h3 =>
 bnd (gD v3 false (some (x1, h3)) h3) fun v4 h4 =>
 bnd (gD v3 false (cA v4 h4) h4) fun v5 h5 =>
 bnd (gD v3 false (aD .gtr v5 (aE 8) h5) h5) fun v6 h6 =>
 bnd (aP v3 (.b true) v6 h6) fun v7 h7 =>
 aT v7 (
 bnd (bB [(.s []), (aE 0), (aE 0), (aE 0), .l0, .l0] [] h7) fun v8 h8 =>
 bnd (aG 6 x6 v8 h8) fun _ h9 =>
 bnd (aK 6 x6 h9) fun v10 _ =>
 some (.t [v10, (.s []), (aE 1)], h9)) (
  qO r n x1 x2 x3 x6 h7)
noncomputable def s112 (r : RT) (n : Nat) (x0 x1 x2 : DV) (h0 : Hp) : aH :=
 bnd (bO x0 h0) fun v1 h1 =>
 bnd (bN [(.s []), (aE 0), (aE 0), (aE 0), .l0, .l0] h1) fun v2 h2 =>
  rN r n x1 x2 v1 v2 h2
noncomputable abbrev c112 : Code := cf Tryz.f112
noncomputable abbrev aHh : Code := cR c112
noncomputable abbrev aEe : Code := cR aHh
noncomputable abbrev aDh : Code := cR aEe
noncomputable abbrev aEm : Code := cR aDh
noncomputable abbrev aEb : Code := cR aEm
noncomputable abbrev aKa : Code := cR aEb
noncomputable abbrev cXw : Code := cR aKa
noncomputable abbrev zH : Code := cL aKa
noncomputable abbrev aOy : Code := cR zH
noncomputable abbrev tR : Code := cL aOy
noncomputable abbrev kC : Code := cL tR
noncomputable abbrev aZz : Code := cL zH
noncomputable abbrev aIt : Code := cL aEb
noncomputable abbrev bBr : Code := cL aEm
noncomputable abbrev pP : Code := cL aDh
noncomputable abbrev aDa : Code := cR pP
noncomputable abbrev vH : Code := cL aDa
noncomputable abbrev jY : Code := cL vH
noncomputable abbrev aWe : Code := cL pP
noncomputable abbrev aFi : Code := cL aEe
noncomputable abbrev aHe : Code := cL aHh
noncomputable abbrev aBv : Code := cL c112
noncomputable abbrev r112 : K := aR CF Tryz.f112
noncomputable def D112 (r : RT) (n : Nat) (c : Code) (X : Nat → K) (k : K) : K := aM CF r 109 n c X r112 k
theorem cGz : D112 r n cXw x0 r112 = (K2 (eD r n) 6 9) :=
 (by kernel_rfl)
theorem bYi (kk9 : cH) (q0 : pB) : D112 r n kC (xs x0 3 (K2 q0 6 9)) (K5 kk9 6 9 94 95 96) = fun (env : aV) (h : Hp) =>
 bnd (aD .lss (env 96) (env 95) h) fun v1 h1 =>
 aT v1 (
 bnd (aJ 3 (env 94) (env 96) h1) fun v2 h2 =>
 bnd (aK 3 v2 h2) fun v3 h3 =>
 bnd (bN [(aE 0), (aE 0), (aE 0)] h3) fun v4 h4 =>
 bnd (aG 3 v4 v3 h4) fun _ h5 =>
 bnd (aK 3 v4 h5) fun v6 h6 =>
 bnd (r 124 [v6] h6) fun v7 h7 =>
 bnd (gQ .not v7 h7) fun v8 h8 =>
 aT v8 (
 bnd (bB [(.s []), (aE 0), (aE 0), (aE 0), .l0, .l0] [] h8) fun v9 h9 =>
 bnd (aG 6 (env 6) v9 h9) fun _ h10 =>
 bnd (aK 6 (env 6) h10) fun v11 _ =>
 some (.t [v11, (.s []), (aE 12)], h10)) (
 bnd (aD .add (env 96) (aE 1) h8) fun v12 h12 =>
    kk9 (env 6) (env 9) (env 94) (env 95) v12 h12)) (
      q0 (env 6) (env 9) h1) := by kernel_rfl
theorem bGd (kk9 : cH) : (fun (env : aV) (h : Hp) =>
 bnd (aD .lss (env 96) (env 95) h) fun v1 h1 =>
 aT v1 (
 bnd (aJ 3 (env 94) (env 96) h1) fun v2 h2 =>
 bnd (aK 3 v2 h2) fun v3 h3 =>
 bnd (bN [(aE 0), (aE 0), (aE 0)] h3) fun v4 h4 =>
 bnd (aG 3 v4 v3 h4) fun _ h5 =>
 bnd (aK 3 v4 h5) fun v6 h6 =>
 bnd (r 124 [v6] h6) fun v7 h7 =>
 bnd (gQ .not v7 h7) fun v8 h8 =>
 aT v8 (
 bnd (bB [(.s []), (aE 0), (aE 0), (aE 0), .l0, .l0] [] h8) fun v9 h9 =>
 bnd (aG 6 (env 6) v9 h9) fun _ h10 =>
 bnd (aK 6 (env 6) h10) fun v11 _ =>
 some (.t [v11, (.s []), (aE 12)], h10)) (
 bnd (aD .add (env 96) (aE 1) h8) fun v12 h12 =>
    kk9 (env 6) (env 9) (env 94) (env 95) v12 h12)) (
      eD r n (env 6) (env 9) h1)) = (K5 (aIp r n kk9) 6 9 94 95 96) := by kernel_rfl
theorem bQl (kk9 : cH) : D112 r n kC (xs x0 3 (K2 (eD r n) 6 9)) (K5 kk9 6 9 94 95 96) = (K5 (aIp r n kk9) 6 9 94 95 96) :=
 (bYi r n kk9 (eD r n)).trans (bGd r n kk9)
theorem bUx (m : Nat) : aO (fun kk => D112 r n kC (xs x0 3 (K2 (eD r n) 6 9)) kk) m = (K5 (tV r n m) 6 9 94 95 96) := by
 induction m with
 | zero => exact (by kernel_rfl : aO (fun kk => D112 r n kC (xs x0 3 (K2 (eD r n) 6 9)) kk) 0 = (K5 (tV r n 0) 6 9 94 95 96))
 | succ m ih =>
  refine (by kernel_rfl : aO (fun kk => D112 r n kC (xs x0 3 (K2 (eD r n) 6 9)) kk) (m + 1) = D112 r n kC (xs x0 3 (K2 (eD r n) 6 9)) (aO (fun kk => D112 r n kC (xs x0 3 (K2 (eD r n) 6 9)) kk) m)).trans ?_
  rw [ih]
  exact (bQl r n (tV r n m)).trans (by kernel_rfl)
theorem cQe : D112 r n tR (xs x0 3 (K2 (eD r n) 6 9)) (K2 (eD r n) 6 9) = (K5 (bLm r n) 6 9 94 95 96) :=
 (by kernel_rfl : D112 r n tR (xs x0 3 (K2 (eD r n) 6 9)) (K2 (eD r n) 6 9) = aO (fun kk => D112 r n kC (xs x0 3 (K2 (eD r n) 6 9)) kk) n).trans ((bUx r n n).trans (by kernel_rfl))
theorem cLh : D112 r n aOy x0 (K2 (eD r n) 6 9) = (K5 (aRy r n) 6 9 94 95 96) :=
 (by kernel_rfl : D112 r n aOy x0 (K2 (eD r n) 6 9) = D112 r n tR (xs x0 3 (K2 (eD r n) 6 9)) (K2 (eD r n) 6 9)).trans
 ((cQe r n).trans (by kernel_rfl))
theorem bWi : D112 r n aKa x0 r112 = D112 r n zH x0 (K2 (eD r n) 6 9) :=
 congrArg (fun k => D112 r n zH x0 k) (cGz r n)
theorem bKb : D112 r n zH x0 (K2 (eD r n) 6 9) = D112 r n aZz x0 (K5 (aRy r n) 6 9 94 95 96) :=
 congrArg (fun k => D112 r n aZz x0 k) (cLh r n)
theorem cHn : D112 r n aKa x0 r112 = (K2 (xA r n) 6 9) :=
 (bWi r n).trans
 ((bKb r n).trans
 ((by kernel_rfl)))
theorem bRy : D112 r n aEb x0 r112 = D112 r n aIt x0 (K2 (xA r n) 6 9) :=
 congrArg (fun k => D112 r n aIt x0 k) (cHn r n)
theorem bMl (q0 : pB) : D112 r n aIt x0 (K2 q0 6 9) = fun (env : aV) (h : Hp) =>
 bnd (aN (env 9) h) fun v1 h1 =>
 bnd (aB 8 v1 h1) fun v2 h2 =>
 bnd (aA v2 h2) fun v3 h3 =>
 bnd (aD .neq v3 (aE 0) h3) fun v4 h4 =>
 aT v4 (
 bnd (bB [(.s []), (aE 0), (aE 0), (aE 0), .l0, .l0] [] h4) fun v5 h5 =>
 bnd (aN (env 9) h5) fun v6 h6 =>
 bnd (aB 7 v6 h6) fun v7 h7 =>
 bnd (aA v7 h7) fun v8 h8 =>
 bnd (aN (env 9) h8) fun v9 h9 =>
 bnd (aB 8 v9 h9) fun v10 h10 =>
 bnd (aA v10 h10) fun v11 h11 =>
 bnd (aG 6 (env 6) v5 h11) fun v12 h12 =>
 cnd (bG (aA v10 h12) v11 && (bG (aA v7 h12) v8 && true)) (
 bnd (aK 6 (env 6) h12) fun v13 _ =>
 some (.t [v13, v8, v11], h12))) (
 bnd (aN (env 9) h4) fun v14 h14 =>
 bnd (aB 0 v14 h14) fun v15 h15 =>
 bnd (aB 4 v15 h15) fun v16 h16 =>
 bnd (aA v16 h16) fun v17 h17 =>
 bnd (cA v17 h17) fun v18 h18 =>
 bnd (aD .gtr v18 (aE 60) h18) fun v19 h19 =>
 aT v19 (
 bnd (bB [(.s []), (aE 0), (aE 0), (aE 0), .l0, .l0] [] h19) fun v20 h20 =>
 bnd (aG 6 (env 6) v20 h20) fun _ h21 =>
 bnd (aK 6 (env 6) h21) fun v22 _ =>
 some (.t [v22, (.s []), (aE 18)], h21)) (
 bnd (aN (env 9) h19) fun v23 h23 =>
 bnd (aB 0 v23 h23) fun v24 h24 =>
 bnd (aB 5 v24 h24) fun v25 h25 =>
 bnd (aA v25 h25) fun v26 h26 =>
 bnd (cA v26 h26) fun v27 h27 =>
 bnd (aD .gtr v27 (aE 400) h27) fun v28 h28 =>
 aT v28 (
 bnd (bB [(.s []), (aE 0), (aE 0), (aE 0), .l0, .l0] [] h28) fun v29 h29 =>
 bnd (aG 6 (env 6) v29 h29) fun _ h30 =>
 bnd (aK 6 (env 6) h30) fun v31 _ =>
 some (.t [v31, (.s []), (aE 12)], h30)) (
     q0 (env 6) (env 9) h28))) := by kernel_rfl
theorem bEg : (fun (env : aV) (h : Hp) =>
 bnd (aN (env 9) h) fun v1 h1 =>
 bnd (aB 8 v1 h1) fun v2 h2 =>
 bnd (aA v2 h2) fun v3 h3 =>
 bnd (aD .neq v3 (aE 0) h3) fun v4 h4 =>
 aT v4 (
 bnd (bB [(.s []), (aE 0), (aE 0), (aE 0), .l0, .l0] [] h4) fun v5 h5 =>
 bnd (aN (env 9) h5) fun v6 h6 =>
 bnd (aB 7 v6 h6) fun v7 h7 =>
 bnd (aA v7 h7) fun v8 h8 =>
 bnd (aN (env 9) h8) fun v9 h9 =>
 bnd (aB 8 v9 h9) fun v10 h10 =>
 bnd (aA v10 h10) fun v11 h11 =>
 bnd (aG 6 (env 6) v5 h11) fun v12 h12 =>
 cnd (bG (aA v10 h12) v11 && (bG (aA v7 h12) v8 && true)) (
 bnd (aK 6 (env 6) h12) fun v13 _ =>
 some (.t [v13, v8, v11], h12))) (
 bnd (aN (env 9) h4) fun v14 h14 =>
 bnd (aB 0 v14 h14) fun v15 h15 =>
 bnd (aB 4 v15 h15) fun v16 h16 =>
 bnd (aA v16 h16) fun v17 h17 =>
 bnd (cA v17 h17) fun v18 h18 =>
 bnd (aD .gtr v18 (aE 60) h18) fun v19 h19 =>
 aT v19 (
 bnd (bB [(.s []), (aE 0), (aE 0), (aE 0), .l0, .l0] [] h19) fun v20 h20 =>
 bnd (aG 6 (env 6) v20 h20) fun _ h21 =>
 bnd (aK 6 (env 6) h21) fun v22 _ =>
 some (.t [v22, (.s []), (aE 18)], h21)) (
 bnd (aN (env 9) h19) fun v23 h23 =>
 bnd (aB 0 v23 h23) fun v24 h24 =>
 bnd (aB 5 v24 h24) fun v25 h25 =>
 bnd (aA v25 h25) fun v26 h26 =>
 bnd (cA v26 h26) fun v27 h27 =>
 bnd (aD .gtr v27 (aE 400) h27) fun v28 h28 =>
 aT v28 (
 bnd (bB [(.s []), (aE 0), (aE 0), (aE 0), .l0, .l0] [] h28) fun v29 h29 =>
 bnd (aG 6 (env 6) v29 h29) fun _ h30 =>
 bnd (aK 6 (env 6) h30) fun v31 _ =>
 some (.t [v31, (.s []), (aE 12)], h30)) (
     xA r n (env 6) (env 9) h28)))) = (K2 (aGd r n) 6 9) := by kernel_rfl
theorem cPr : D112 r n aEb x0 r112 = (K2 (aGd r n) 6 9) :=
 (bRy r n).trans
 ((bMl r n (xA r n)).trans (bEg r n))
theorem bHw : D112 r n aEm x0 r112 = D112 r n bBr x0 (K2 (aGd r n) 6 9) :=
 congrArg (fun k => D112 r n bBr x0 k) (cPr r n)
theorem cMk : D112 r n aEm x0 r112 = (K4 (eB r n) 2 3 6 9) :=
 (bHw r n).trans
 ((by kernel_rfl))
theorem bGl (kk11 : TT7) (q0 : dN) : D112 r n jY (xs x0 0 (K4 q0 2 3 6 9)) (K7 kk11 2 3 6 9 33 34 35) = fun (env : aV) (h : Hp) =>
 bnd (aD .lss (env 35) (env 34) h) fun v1 h1 =>
 aT v1 (
 bnd (aJ 1 (env 33) (env 35) h1) fun v2 h2 =>
 bnd (aA v2 h2) fun v3 h3 =>
 bnd (aN (env 9) h3) fun v4 h4 =>
 bnd (aB 6 v4 h4) fun v5 h5 =>
 bnd (aA v5 h5) fun v6 h6 =>
 bnd (bB [(.s []), (.b false), (.b false), (aE 0)] [(0, 1, v3), (1, 1, (.b true)), (2, 1, (.b false)), (3, 1, (env 35))] h6) fun v7 h7 =>
 bnd (aL [(.s []), (.b false), (.b false), (aE 0)] 1 [(0, 4, v7)] h7) fun v8 h8 =>
 bnd (bA 4 32 v6 v8 h8) fun v9 h9 =>
 bnd (aN (env 9) h9) fun v10 h10 =>
 bnd (aB 6 v10 h10) fun v11 h11 =>
 bnd (aG 1 v11 v9 h11) fun _ h12 =>
 bnd (aD .add (env 35) (aE 1) h12) fun v13 h13 =>
      kk11 (env 2) (env 3) (env 6) (env 9) (env 33) (env 34) v13 h13) (
      q0 (env 2) (env 3) (env 6) (env 9) h1) := by kernel_rfl
theorem aTj (kk11 : TT7) : (fun (env : aV) (h : Hp) =>
 bnd (aD .lss (env 35) (env 34) h) fun v1 h1 =>
 aT v1 (
 bnd (aJ 1 (env 33) (env 35) h1) fun v2 h2 =>
 bnd (aA v2 h2) fun v3 h3 =>
 bnd (aN (env 9) h3) fun v4 h4 =>
 bnd (aB 6 v4 h4) fun v5 h5 =>
 bnd (aA v5 h5) fun v6 h6 =>
 bnd (bB [(.s []), (.b false), (.b false), (aE 0)] [(0, 1, v3), (1, 1, (.b true)), (2, 1, (.b false)), (3, 1, (env 35))] h6) fun v7 h7 =>
 bnd (aL [(.s []), (.b false), (.b false), (aE 0)] 1 [(0, 4, v7)] h7) fun v8 h8 =>
 bnd (bA 4 32 v6 v8 h8) fun v9 h9 =>
 bnd (aN (env 9) h9) fun v10 h10 =>
 bnd (aB 6 v10 h10) fun v11 h11 =>
 bnd (aG 1 v11 v9 h11) fun _ h12 =>
 bnd (aD .add (env 35) (aE 1) h12) fun v13 h13 =>
      kk11 (env 2) (env 3) (env 6) (env 9) (env 33) (env 34) v13 h13) (
      eB r n (env 2) (env 3) (env 6) (env 9) h1)) = (K7 (vJ r n kk11) 2 3 6 9 33 34 35) := by kernel_rfl
theorem bEx (kk11 : TT7) : D112 r n jY (xs x0 0 (K4 (eB r n) 2 3 6 9)) (K7 kk11 2 3 6 9 33 34 35) = (K7 (vJ r n kk11) 2 3 6 9 33 34 35) :=
 (bGl r n kk11 (eB r n)).trans (aTj r n kk11)
theorem bEp (m : Nat) : aO (fun kk => D112 r n jY (xs x0 0 (K4 (eB r n) 2 3 6 9)) kk) m = (K7 (pW r n m) 2 3 6 9 33 34 35) := by
 induction m with
 | zero => exact (by kernel_rfl : aO (fun kk => D112 r n jY (xs x0 0 (K4 (eB r n) 2 3 6 9)) kk) 0 = (K7 (pW r n 0) 2 3 6 9 33 34 35))
 | succ m ih =>
  refine (by kernel_rfl : aO (fun kk => D112 r n jY (xs x0 0 (K4 (eB r n) 2 3 6 9)) kk) (m + 1) = D112 r n jY (xs x0 0 (K4 (eB r n) 2 3 6 9)) (aO (fun kk => D112 r n jY (xs x0 0 (K4 (eB r n) 2 3 6 9)) kk) m)).trans ?_
  rw [ih]
  exact (bEx r n (pW r n m)).trans (by kernel_rfl)
theorem bIv : D112 r n vH (xs x0 0 (K4 (eB r n) 2 3 6 9)) (K4 (eB r n) 2 3 6 9) = (K7 (aZl r n) 2 3 6 9 33 34 35) :=
 (by kernel_rfl : D112 r n vH (xs x0 0 (K4 (eB r n) 2 3 6 9)) (K4 (eB r n) 2 3 6 9) = aO (fun kk => D112 r n jY (xs x0 0 (K4 (eB r n) 2 3 6 9)) kk) n).trans ((bEp r n n).trans (by kernel_rfl))
theorem bNt : D112 r n aDa x0 (K4 (eB r n) 2 3 6 9) = (K7 (aDm r n) 2 3 6 9 33 34 35) :=
 (by kernel_rfl : D112 r n aDa x0 (K4 (eB r n) 2 3 6 9) = D112 r n vH (xs x0 0 (K4 (eB r n) 2 3 6 9)) (K4 (eB r n) 2 3 6 9)).trans
 ((bIv r n).trans (by kernel_rfl))
theorem bHy : D112 r n aDh x0 r112 = D112 r n pP x0 (K4 (eB r n) 2 3 6 9) :=
 congrArg (fun k => D112 r n pP x0 k) (cMk r n)
theorem bUv : D112 r n pP x0 (K4 (eB r n) 2 3 6 9) = D112 r n aWe x0 (K7 (aDm r n) 2 3 6 9 33 34 35) :=
 congrArg (fun k => D112 r n aWe x0 k) (bNt r n)
theorem cIg : D112 r n aDh x0 r112 = (K5 (yY r n) 1 2 3 6 9) :=
 (bHy r n).trans
 ((bUv r n).trans
 ((by kernel_rfl)))
theorem bGa : D112 r n aEe x0 r112 = D112 r n aFi x0 (K5 (yY r n) 1 2 3 6 9) :=
 congrArg (fun k => D112 r n aFi x0 k) (cIg r n)
theorem bDq (q0 : cH) : D112 r n aFi x0 (K5 q0 1 2 3 6 9) = fun (env : aV) (h : Hp) =>
 bnd (aB 1 (env 3) h) fun v1 h1 =>
 bnd (aA v1 h1) fun v2 h2 =>
 bnd (aB 3 (env 3) h2) fun v3 h3 =>
 bnd (aA v3 h3) fun v4 h4 =>
 bnd (cA v4 h4) fun v5 h5 =>
 bnd (aB 2 (env 3) h5) fun v6 h6 =>
 bnd (aA v6 h6) fun v7 h7 =>
 bnd (bB [(.s []), (aE 0), (aE 0), (aE 0), .l0, .l0] [(0, 1, v2), (1, 1, v5), (3, 1, v7)] h7) fun v8 h8 =>
 bnd (bB [(.s []), (aE 0), (aE 0), (aE 0), .l0, .l0, .l0, (.s []), (aE 0)] [(0, 6, v8)] h8) fun v9 h9 =>
 bnd (bO v9 h9) fun v10 h10 =>
  q0 (env 1) (env 2) (env 3) (env 6) v10 h10 := by kernel_rfl
theorem aTq : (fun (env : aV) (h : Hp) =>
 bnd (aB 1 (env 3) h) fun v1 h1 =>
 bnd (aA v1 h1) fun v2 h2 =>
 bnd (aB 3 (env 3) h2) fun v3 h3 =>
 bnd (aA v3 h3) fun v4 h4 =>
 bnd (cA v4 h4) fun v5 h5 =>
 bnd (aB 2 (env 3) h5) fun v6 h6 =>
 bnd (aA v6 h6) fun v7 h7 =>
 bnd (bB [(.s []), (aE 0), (aE 0), (aE 0), .l0, .l0] [(0, 1, v2), (1, 1, v5), (3, 1, v7)] h7) fun v8 h8 =>
 bnd (bB [(.s []), (aE 0), (aE 0), (aE 0), .l0, .l0, .l0, (.s []), (aE 0)] [(0, 6, v8)] h8) fun v9 h9 =>
 bnd (bO v9 h9) fun v10 h10 =>
  yY r n (env 1) (env 2) (env 3) (env 6) v10 h10) = (K4 (qO r n) 1 2 3 6) := by kernel_rfl
theorem cGk : D112 r n aEe x0 r112 = (K4 (qO r n) 1 2 3 6) :=
 (bGa r n).trans
 ((bDq r n (yY r n)).trans (aTq r n))
theorem bEa : D112 r n aHh x0 r112 = D112 r n aHe x0 (K4 (qO r n) 1 2 3 6) :=
 congrArg (fun k => D112 r n aHe x0 k) (cGk r n)
theorem bFi (q0 : dN) : D112 r n aHe x0 (K4 q0 1 2 3 6) = fun (env : aV) (h : Hp) =>
 bnd (aB 0 (env 3) h) fun v1 h1 =>
 bnd (aA v1 h1) fun v2 h2 =>
 bnd (aD .neq v2 (aE 11) h2) fun v3 h3 =>
 bnd (gD v3 false (some ((env 1), h3)) h3) fun v4 h4 =>
 bnd (gD v3 false (cA v4 h4) h4) fun v5 h5 =>
 bnd (gD v3 false (aD .gtr v5 (aE 8) h5) h5) fun v6 h6 =>
 bnd (aP v3 (.b true) v6 h6) fun v7 h7 =>
 aT v7 (
 bnd (bB [(.s []), (aE 0), (aE 0), (aE 0), .l0, .l0] [] h7) fun v8 h8 =>
 bnd (aG 6 (env 6) v8 h8) fun _ h9 =>
 bnd (aK 6 (env 6) h9) fun v10 _ =>
 some (.t [v10, (.s []), (aE 1)], h9)) (
   q0 (env 1) (env 2) (env 3) (env 6) h7) := by kernel_rfl
theorem aUl : (fun (env : aV) (h : Hp) =>
 bnd (aB 0 (env 3) h) fun v1 h1 =>
 bnd (aA v1 h1) fun v2 h2 =>
 bnd (aD .neq v2 (aE 11) h2) fun v3 h3 =>
 bnd (gD v3 false (some ((env 1), h3)) h3) fun v4 h4 =>
 bnd (gD v3 false (cA v4 h4) h4) fun v5 h5 =>
 bnd (gD v3 false (aD .gtr v5 (aE 8) h5) h5) fun v6 h6 =>
 bnd (aP v3 (.b true) v6 h6) fun v7 h7 =>
 aT v7 (
 bnd (bB [(.s []), (aE 0), (aE 0), (aE 0), .l0, .l0] [] h7) fun v8 h8 =>
 bnd (aG 6 (env 6) v8 h8) fun _ h9 =>
 bnd (aK 6 (env 6) h9) fun v10 _ =>
 some (.t [v10, (.s []), (aE 1)], h9)) (
   qO r n (env 1) (env 2) (env 3) (env 6) h7)) = (K4 (rN r n) 1 2 3 6) := by kernel_rfl
theorem cEo : D112 r n aHh x0 r112 = (K4 (rN r n) 1 2 3 6) :=
 (bEa r n).trans
 ((bFi r n (qO r n)).trans (aUl r n))
theorem cHo : D112 r n c112 x0 r112 = D112 r n aBv x0 (K4 (rN r n) 1 2 3 6) :=
 congrArg (fun k => D112 r n aBv x0 k) (cEo r n)
theorem cHc (q0 : dN) : D112 r n aBv x0 (K4 q0 1 2 3 6) = fun (env : aV) (h : Hp) =>
 bnd (bO (env 0) h) fun v1 h1 =>
 bnd (bN [(.s []), (aE 0), (aE 0), (aE 0), .l0, .l0] h1) fun v2 h2 =>
  q0 (env 1) (env 2) v1 v2 h2 := by kernel_rfl
theorem bHt : (fun (env : aV) (h : Hp) =>
 bnd (bO (env 0) h) fun v1 h1 =>
 bnd (bN [(.s []), (aE 0), (aE 0), (aE 0), .l0, .l0] h1) fun v2 h2 =>
  rN r n (env 1) (env 2) v1 v2 h2) = (K3 (s112 r n) 0 1 2) := by kernel_rfl
theorem dLc : D112 r n c112 x0 r112 = (K3 (s112 r n) 0 1 2) :=
 (cHo r n).trans
 ((cHc r n (rN r n)).trans (bHt r n))
theorem cWk : aF CF r n 112 args h = s112 r n (aU args 0) (aU args 1) (aU args 2) h :=
 (by kernel_rfl : aF CF r n 112 args h = D112 r n c112 x0 r112 (aI args) h).trans ((congrFun (congrFun (dLc r n) (aI args)) h).trans (by kernel_rfl))
noncomputable def s113 (r : RT) (n : Nat) (x0 x1 x2 : DV) (h0 : Hp) : aH :=
 bnd (bO x2 h0) fun v1 h1 =>
 bnd (r 67 [x0, x1] h1) fun v2 h2 =>
 bnd (gQ .not v2 h2) fun v3 h3 =>
 aT v3 (
 some (.t [(aE 0), (aE 24)], h3)) (
 bnd (aK 6 v1 h3) fun v4 h4 =>
 bnd (r 37 [x0, x1] h4) fun v5 h5 =>
 cnd (bG (aK 6 v1 h5) v4 && true) (
 bnd (r 125 [v4, v5] h5) fun v6 h6 =>
 bnd (aD .neq v6 (aE 0) h6) fun v7 h7 =>
 aT v7 (
 some (.t [(aE 0), v6], h7)) (
 bnd (aB 0 v1 h7) fun v8 h8 =>
 bnd (aA v8 h8) fun v9 h9 =>
 bnd (r 44 [x0, v9] h9) fun v10 h10 =>
 bnd (aC 0 v10 h10) fun v11 h11 =>
 bnd (aC 1 v10 h11) fun v12 h12 =>
 bnd (aD .neq v12 (aE 0) h12) fun v13 h13 =>
 aT v13 (
 some (.t [(aE 0), v12], h13)) (
 bnd (aB 4 v1 h13) fun v14 h14 =>
 bnd (aA v14 h14) fun v15 h15 =>
 bnd (bB [(aE 0), (.s []), (aE 0), .l0] [(0, 1, (aE 4)), (3, 1, v15)] h15) fun v16 h16 =>
 bnd (r 126 [x0, v16] h16) fun v17 h17 =>
 bnd (aC 0 v17 h17) fun v18 h18 =>
 bnd (aC 1 v17 h18) fun v19 h19 =>
 bnd (aD .neq v19 (aE 0) h19) fun v20 h20 =>
 aT v20 (
 some (.t [(aE 0), v19], h20)) (
 bnd (aB 5 v1 h20) fun v21 h21 =>
 bnd (aA v21 h21) fun v22 h22 =>
 bnd (r 127 [v22] h22) fun v23 h23 =>
 bnd (aC 0 v23 h23) fun v24 h24 =>
 bnd (aC 1 v23 h24) fun v25 h25 =>
 bnd (r 128 [x0, v24] h25) fun v26 h26 =>
 bnd (aC 0 v26 h26) fun v27 h27 =>
 bnd (aC 1 v26 h27) fun v28 h28 =>
 bnd (aD .neq v28 (aE 0) h28) fun v29 h29 =>
 aT v29 (
 some (.t [(aE 0), v28], h29)) (
 bnd (r 30 [x0, (aE 14)] (resv 1 h29)) fun v30 h30 =>
 bnd (aB 1 v1 h30) fun v31 h31 =>
 bnd (aA v31 h31) fun v32 h32 =>
 cnd (bG (aA v31 (resv 1 h29)) v32 && true) (
 bnd (r 71 [v32] h32) fun v33 h33 =>
 bnd (aB 2 v1 h33) fun v34 h34 =>
 bnd (aA v34 h34) fun v35 h35 =>
 cnd (bG (aA v34 h30) v35 && (bG (aA v34 (resv 1 h29)) v35 && true)) (
 bnd (r 71 [v35] h35) fun v36 h36 =>
 bnd (aB 3 v1 h36) fun v37 h37 =>
 bnd (aA v37 h37) fun v38 h38 =>
 cnd (bG (aA v37 h33) v38 && (bG (aA v37 h30) v38 && (bG (aA v37 (resv 1 h29)) v38 && true))) (
 bnd (r 71 [v38] h38) fun v39 h39 =>
 bnd (bJ (bX 0 h29.next) [(aE 0), (aE 0), (aE 0), (aE 0), (aE 0), (aE 0), (aE 0)] 7 [(0, 1, v11), (1, 1, v33), (2, 1, v36), (3, 1, v39), (4, 1, v18), (5, 1, v27), (6, 1, x1)] h39) fun v40 h40 =>
 bnd (r 82 [x0, v30, (aE 0), v40] h40) fun v41 h41 =>
 bnd (aC 0 v41 h41) fun v42 h42 =>
 bnd (aC 1 v41 h42) fun v43 h43 =>
 some (.t [v42, v43], h43))))))))))
noncomputable abbrev c113 : Code := cf Tryz.f113
noncomputable abbrev r113 : K := aR CF Tryz.f113
noncomputable def D113 (r : RT) (n : Nat) (c : Code) (X : Nat → K) (k : K) : K := aM CF r 83 n c X r113 k
theorem dHs : D113 r n c113 x0 r113 = (K3 (s113 r n) 0 1 2) :=
 (by kernel_rfl)
theorem cTg : aF CF r n 113 args h = s113 r n (aU args 0) (aU args 1) (aU args 2) h :=
 (by kernel_rfl : aF CF r n 113 args h = D113 r n c113 x0 r113 (aI args) h).trans ((congrFun (congrFun (dHs r n) (aI args)) h).trans (by kernel_rfl))
noncomputable def eX (r : RT) (n : Nat) (x0 x1 x3 : DV) (h0 : Hp) : aH :=
 bnd (r 51 [x0, x1, (aE 4)] h0) fun v1 h1 =>
 bnd (r 73 [x0, x3, v1] h1) fun v2 h2 =>
 bnd (aC 0 v2 h2) fun v3 h3 =>
 bnd (aC 1 v2 h3) fun v4 h4 =>
 bnd (aD .neq v4 (aE 0) h4) fun v5 h5 =>
 aT v5 (
 some (v4, h5)) (
 bnd (aN x0 h5) fun v6 h6 =>
 bnd (aB 0 v6 h6) fun v7 h7 =>
 bnd (aA v7 h7) fun v8 h8 =>
 bnd (nL [v8, x1, (aE 4), v3] h8) fun v9 h9 =>
 some (v9, h9))
noncomputable def bAm (r : RT) (n : Nat) (kk5 : fI) (x0 x1 x2 x3 x9 x10 : DV) (h0 : Hp) : aH :=
 bnd (aD .gtr x10 (aE 0) h0) fun v1 h1 =>
 bnd (gD v1 true (some (x0, h1)) h1) fun v2 h2 =>
 bnd (gD v1 true (aN v2 h2) h2) fun v3 h3 =>
 bnd (gD v1 true (aB 0 v3 h3) h3) fun v4 h4 =>
 bnd (gD v1 true (aA v4 h4) h4) fun v5 h5 =>
 bnd (gD v1 true (some (x9, h5)) h5) fun v6 h6 =>
 bnd (gD v1 true (isF [v5, v6] h6) h6) fun v7 h7 =>
 bnd (aP v1 v7 (.b false) h7) fun v8 h8 =>
 aT v8 (
 bnd (r 51 [x0, x9, (aE 0)] h8) fun v9 h9 =>
 bnd (r 51 [x0, v9, (aE 0)] h9) fun v10 h10 =>
 bnd (aD .eql v10 x2 h10) fun v11 h11 =>
 aT v11 (
 bnd (aN x0 h11) fun v12 h12 =>
 bnd (aB 0 v12 h12) fun v13 h13 =>
 bnd (aA v13 h13) fun v14 h14 =>
 bnd (nL [v14, x9, (aE 0), x3] h14) fun v15 h15 =>
 some (v15, h15)) (
 bnd (r 51 [x0, x9, (aE 1)] h11) fun v16 h16 =>
 bnd (aD .sub x10 (aE 1) h16) fun v17 h17 =>
    kk5 x0 x1 x2 x3 v16 v17 h17)) (
      eX r n x0 x1 x3 h8)
noncomputable def uP (r : RT) (n : Nat) (m : Nat) : fI :=
 Nat.rec (motive := fun _ => fI) (fun _ _ _ _ _ _ _ => none) (fun _ ih => bAm r n ih) m
noncomputable def bIa (r : RT) (n : Nat) : fI := uP r n n
noncomputable def aRw (r : RT) (n : Nat) (x0 x1 x2 x3 x9 x10 : DV) (h0 : Hp) : aH :=
 bIa r n x0 x1 x2 x3 x9 x10 h0
noncomputable def aSg (r : RT) (n : Nat) (x0 x1 x2 x3 x9 : DV) (h0 : Hp) : aH :=
 bnd (aN x0 h0) fun v1 h1 =>
 bnd (aB 0 v1 h1) fun v2 h2 =>
 bnd (aA v2 h2) fun v3 h3 =>
 bnd (aBd [v3] h3) fun v4 h4 =>
  aRw r n x0 x1 x2 x3 x9 v4 h4
noncomputable def aPb (r : RT) (n : Nat) (x0 x1 x2 x3 : DV) (h0 : Hp) : aH :=
 bnd (r 51 [x0, x1, (aE 4)] h0) fun v1 h1 =>
  aSg r n x0 x1 x2 x3 v1 h1
noncomputable def s114 (r : RT) (n : Nat) (x0 x1 x2 x3 : DV) (h0 : Hp) : aH :=
 aPb r n x0 x1 x2 x3 h0
noncomputable abbrev c114 : Code := cf Tryz.f114
noncomputable abbrev aFy : Code := cR c114
noncomputable abbrev aIk : Code := cR aFy
noncomputable abbrev dBc : Code := cR aIk
noncomputable abbrev yU : Code := cL aIk
noncomputable abbrev aQj : Code := cR yU
noncomputable abbrev aFz : Code := cL aQj
noncomputable abbrev oJ : Code := cL aFz
noncomputable abbrev bYc : Code := cL yU
noncomputable abbrev bZv : Code := cL aFy
noncomputable abbrev bAw : Code := cL c114
noncomputable abbrev r114 : K := aR CF Tryz.f114
noncomputable def D114 (r : RT) (n : Nat) (c : Code) (X : Nat → K) (k : K) : K := aM CF r 69 n c X r114 k
theorem cQh : D114 r n dBc x0 r114 = (K3 (eX r n) 0 1 3) :=
 (by kernel_rfl)
theorem cAy (kk5 : fI) : D114 r n oJ (xs x0 0 (K3 (eX r n) 0 1 3)) (K6 kk5 0 1 2 3 9 10) = (K6 (bAm r n kk5) 0 1 2 3 9 10) :=
 (by kernel_rfl)
theorem bRa (m : Nat) : aO (fun kk => D114 r n oJ (xs x0 0 (K3 (eX r n) 0 1 3)) kk) m = (K6 (uP r n m) 0 1 2 3 9 10) := by
 induction m with
 | zero => exact (by kernel_rfl : aO (fun kk => D114 r n oJ (xs x0 0 (K3 (eX r n) 0 1 3)) kk) 0 = (K6 (uP r n 0) 0 1 2 3 9 10))
 | succ m ih =>
  refine (by kernel_rfl : aO (fun kk => D114 r n oJ (xs x0 0 (K3 (eX r n) 0 1 3)) kk) (m + 1) = D114 r n oJ (xs x0 0 (K3 (eX r n) 0 1 3)) (aO (fun kk => D114 r n oJ (xs x0 0 (K3 (eX r n) 0 1 3)) kk) m)).trans ?_
  rw [ih]
  exact (cAy r n (uP r n m)).trans (by kernel_rfl)
theorem cNr : D114 r n aFz (xs x0 0 (K3 (eX r n) 0 1 3)) (K3 (eX r n) 0 1 3) = (K6 (bIa r n) 0 1 2 3 9 10) :=
 (by kernel_rfl : D114 r n aFz (xs x0 0 (K3 (eX r n) 0 1 3)) (K3 (eX r n) 0 1 3) = aO (fun kk => D114 r n oJ (xs x0 0 (K3 (eX r n) 0 1 3)) kk) n).trans ((bRa r n n).trans (by kernel_rfl))
theorem cDy : D114 r n aQj x0 (K3 (eX r n) 0 1 3) = (K6 (aRw r n) 0 1 2 3 9 10) :=
 (by kernel_rfl : D114 r n aQj x0 (K3 (eX r n) 0 1 3) = D114 r n aFz (xs x0 0 (K3 (eX r n) 0 1 3)) (K3 (eX r n) 0 1 3)).trans
 ((cNr r n).trans (by kernel_rfl))
theorem bXw : D114 r n aIk x0 r114 = D114 r n yU x0 (K3 (eX r n) 0 1 3) :=
 congrArg (fun k => D114 r n yU x0 k) (cQh r n)
theorem bUq : D114 r n yU x0 (K3 (eX r n) 0 1 3) = D114 r n bYc x0 (K6 (aRw r n) 0 1 2 3 9 10) :=
 congrArg (fun k => D114 r n bYc x0 k) (cDy r n)
theorem cLg : D114 r n aIk x0 r114 = (K5 (aSg r n) 0 1 2 3 9) :=
 (bXw r n).trans
 ((bUq r n).trans
 ((by kernel_rfl)))
theorem bIi : D114 r n aFy x0 r114 = D114 r n bZv x0 (K5 (aSg r n) 0 1 2 3 9) :=
 congrArg (fun k => D114 r n bZv x0 k) (cLg r n)
theorem cId : D114 r n aFy x0 r114 = (K4 (aPb r n) 0 1 2 3) :=
 (bIi r n).trans
 ((by kernel_rfl))
theorem cUc : D114 r n c114 x0 r114 = D114 r n bAw x0 (K4 (aPb r n) 0 1 2 3) :=
 congrArg (fun k => D114 r n bAw x0 k) (cId r n)
theorem dFj : D114 r n c114 x0 r114 = (K4 (s114 r n) 0 1 2 3) :=
 (cUc r n).trans
 ((by kernel_rfl))
theorem dAx : aF CF r n 114 args h = s114 r n (aU args 0) (aU args 1) (aU args 2) (aU args 3) h :=
 (by kernel_rfl : aF CF r n 114 args h = D114 r n c114 x0 r114 (aI args) h).trans ((congrFun (congrFun (dFj r n) (aI args)) h).trans (by kernel_rfl))
noncomputable def eR (r : RT) (n : Nat) (x0 x6 : DV) (h0 : Hp) : aH :=
 bnd (dW x0 h0) fun v1 h1 =>
 bnd (bB [(aE 0), (.s []), (aE 0), (aE 0)] [(3, 1, v1)] h1) fun v2 h2 =>
 bnd (aL [(aE 0), (.s []), (aE 0), (aE 0)] 1 [(0, 4, v2)] h2) fun v3 h3 =>
 bnd (bA 4 40 x6 v3 h3) fun v4 h4 =>
 some (.t [v4, (aE 0), (aE 0)], h4)
noncomputable def aId (r : RT) (n : Nat) (kk7 : mF) (x0 x5 x6 : DV) (h0 : Hp) : aH :=
 bnd (r 130 [(.s [9, 10, 13, 32])] h0) fun v1 h1 =>
 bnd (dW x0 h1) fun v2 h2 =>
 bnd (r 129 [x5, v1, v2] h2) fun v3 h3 =>
 bnd (aN x5 h3) fun v4 h4 =>
 bnd (aB 1 v4 h4) fun v5 h5 =>
 bnd (aA v5 h5) fun v6 h6 =>
 bnd (dW x0 h6) fun v7 h7 =>
 bnd (aD .geq v6 v7 h7) fun v8 h8 =>
 aT v8 (
   eR r n x0 x6 h8) (
 bnd (aN x5 h8) fun v9 h9 =>
 bnd (aB 1 v9 h9) fun v10 h10 =>
 bnd (aA v10 h10) fun v11 h11 =>
 bnd (fK x0 v11 h11) fun v12 h12 =>
 bnd (aD .eql v12 (.i .u8 (Int.ofNat 34)) h12) fun v13 h13 =>
 aT v13 (
 bnd (aN x5 h13) fun v14 h14 =>
 bnd (aB 1 v14 h14) fun v15 h15 =>
 bnd (aA v15 h15) fun v16 h16 =>
 bnd (aD .add v16 (aE 1) h16) fun v17 h17 =>
 bnd (fG x0 (some v17) none h17) fun v18 h18 =>
 bnd (r 131 [v18, (.i .u8 (Int.ofNat 34))] h18) fun v19 h19 =>
 bnd (aD .lss v19 (aE 0) h19) fun v20 h20 =>
 aT v20 (
 bnd (aN x5 h20) fun v21 h21 =>
 bnd (aB 1 v21 h21) fun v22 h22 =>
 bnd (aA v22 h22) fun v23 h23 =>
 some (.t [.l0, v23, (aE 11)], h23)) (
 bnd (aN x5 h20) fun v24 h24 =>
 bnd (aB 1 v24 h24) fun v25 h25 =>
 bnd (aA v25 h25) fun v26 h26 =>
 bnd (aD .add v19 (aE 2) h26) fun v27 h27 =>
 bnd (aD .add v26 v27 h27) fun v28 h28 =>
 bnd (aN x5 h28) fun v29 h29 =>
 bnd (aB 1 v29 h29) fun v30 h30 =>
 bnd (aG 1 v30 v28 h30) fun _ h31 =>
     kk7 x0 x5 x6 h31)) (
 bnd (r 132 [x5] h13) fun v32 h32 =>
 bnd (aC 0 v32 h32) fun v33 h33 =>
 bnd (aC 1 v32 h33) fun v34 h34 =>
 bnd (bN [(aE 0), (.s []), (aE 0), (aE 0)] h34) fun v35 h35 =>
 bnd (aG 4 v35 v33 h35) fun _ h36 =>
 bnd (aD .neq v34 (aE 0) h36) fun v37 h37 =>
 aT v37 (
 bnd (aB 3 v35 h37) fun v38 h38 =>
 bnd (aA v38 h38) fun v39 h39 =>
 some (.t [.l0, v39, v34], h39)) (
 bnd (aK 4 v35 h37) fun v40 h40 =>
 bnd (aL [(aE 0), (.s []), (aE 0), (aE 0)] 1 [(0, 4, v40)] h40) fun v41 h41 =>
 bnd (bA 4 40 x6 v41 h41) fun v42 h42 =>
     kk7 x0 x5 v42 h42)))
noncomputable def uS (r : RT) (n : Nat) (m : Nat) : mF :=
 Nat.rec (motive := fun _ => mF) (fun _ _ _ _ => none) (fun _ ih => aId r n ih) m
noncomputable def bMa (r : RT) (n : Nat) : mF := uS r n n
noncomputable def aQs (r : RT) (n : Nat) (x0 x5 x6 : DV) (h0 : Hp) : aH :=
 bMa r n x0 x5 x6 h0
noncomputable def aSv (r : RT) (n : Nat) (x0 x5 x6 : DV) (h0 : Hp) : aH :=
 aQs r n x0 x5 x6 h0
noncomputable def zR (r : RT) (n : Nat) (x0 x5 : DV) (h0 : Hp) : aH :=
 aSv r n x0 x5 .l0 h0
noncomputable def aCm (r : RT) (n : Nat) (x0 : DV) (h0 : Hp) : aH :=
 bnd (bB [(.s []), (aE 0)] [(0, 1, x0)] h0) fun v1 h1 =>
 bnd (bO v1 h1) fun v2 h2 =>
  zR r n x0 v2 h2
noncomputable def aSk (r : RT) (n : Nat) (x0 : DV) (h0 : Hp) : aH :=
 bnd (dW x0 h0) fun v1 h1 =>
 bnd (aD .gtr v1 (aE 2000) h1) fun v2 h2 =>
 aT v2 (
 some (.t [.l0, (aE 0), (aE 12)], h2)) (
  aCm r n x0 h2)
noncomputable def s117 (r : RT) (n : Nat) (x0 : DV) (h0 : Hp) : aH :=
 aSk r n x0 h0
noncomputable abbrev c117 : Code := cf Tryz.f117
noncomputable abbrev aTm : Code := cR c117
noncomputable abbrev aKj : Code := cL aTm
noncomputable abbrev aHf : Code := cR aKj
noncomputable abbrev aIg : Code := cR aHf
noncomputable abbrev aEk : Code := cR aIg
noncomputable abbrev aGw : Code := cR aEk
noncomputable abbrev cZs : Code := cR aGw
noncomputable abbrev aJg : Code := cL aGw
noncomputable abbrev aHk : Code := cL aJg
noncomputable abbrev kD : Code := cL aHk
noncomputable abbrev aXl : Code := cL aEk
noncomputable abbrev aZe : Code := cL aIg
noncomputable abbrev aHa : Code := cL aHf
noncomputable abbrev aZi : Code := cL aKj
noncomputable abbrev aVu : Code := cL c117
noncomputable abbrev r117 : K := aR CF Tryz.f117
noncomputable def D117 (r : RT) (n : Nat) (c : Code) (X : Nat → K) (k : K) : K := aM CF r 80 n c X r117 k
theorem cHd : D117 r n cZs x0 r117 = (K2 (eR r n) 0 6) :=
 (by kernel_rfl)
theorem bTp (kk7 : mF) (q0 : pB) : D117 r n kD (xs x0 0 (K2 q0 0 6)) (K3 kk7 0 5 6) = fun (env : aV) (h : Hp) =>
 bnd (r 130 [(.s [9, 10, 13, 32])] h) fun v1 h1 =>
 bnd (dW (env 0) h1) fun v2 h2 =>
 bnd (r 129 [(env 5), v1, v2] h2) fun v3 h3 =>
 bnd (aN (env 5) h3) fun v4 h4 =>
 bnd (aB 1 v4 h4) fun v5 h5 =>
 bnd (aA v5 h5) fun v6 h6 =>
 bnd (dW (env 0) h6) fun v7 h7 =>
 bnd (aD .geq v6 v7 h7) fun v8 h8 =>
 aT v8 (
   q0 (env 0) (env 6) h8) (
 bnd (aN (env 5) h8) fun v9 h9 =>
 bnd (aB 1 v9 h9) fun v10 h10 =>
 bnd (aA v10 h10) fun v11 h11 =>
 bnd (fK (env 0) v11 h11) fun v12 h12 =>
 bnd (aD .eql v12 (.i .u8 (Int.ofNat 34)) h12) fun v13 h13 =>
 aT v13 (
 bnd (aN (env 5) h13) fun v14 h14 =>
 bnd (aB 1 v14 h14) fun v15 h15 =>
 bnd (aA v15 h15) fun v16 h16 =>
 bnd (aD .add v16 (aE 1) h16) fun v17 h17 =>
 bnd (fG (env 0) (some v17) none h17) fun v18 h18 =>
 bnd (r 131 [v18, (.i .u8 (Int.ofNat 34))] h18) fun v19 h19 =>
 bnd (aD .lss v19 (aE 0) h19) fun v20 h20 =>
 aT v20 (
 bnd (aN (env 5) h20) fun v21 h21 =>
 bnd (aB 1 v21 h21) fun v22 h22 =>
 bnd (aA v22 h22) fun v23 h23 =>
 some (.t [.l0, v23, (aE 11)], h23)) (
 bnd (aN (env 5) h20) fun v24 h24 =>
 bnd (aB 1 v24 h24) fun v25 h25 =>
 bnd (aA v25 h25) fun v26 h26 =>
 bnd (aD .add v19 (aE 2) h26) fun v27 h27 =>
 bnd (aD .add v26 v27 h27) fun v28 h28 =>
 bnd (aN (env 5) h28) fun v29 h29 =>
 bnd (aB 1 v29 h29) fun v30 h30 =>
 bnd (aG 1 v30 v28 h30) fun _ h31 =>
     kk7 (env 0) (env 5) (env 6) h31)) (
 bnd (r 132 [(env 5)] h13) fun v32 h32 =>
 bnd (aC 0 v32 h32) fun v33 h33 =>
 bnd (aC 1 v32 h33) fun v34 h34 =>
 bnd (bN [(aE 0), (.s []), (aE 0), (aE 0)] h34) fun v35 h35 =>
 bnd (aG 4 v35 v33 h35) fun _ h36 =>
 bnd (aD .neq v34 (aE 0) h36) fun v37 h37 =>
 aT v37 (
 bnd (aB 3 v35 h37) fun v38 h38 =>
 bnd (aA v38 h38) fun v39 h39 =>
 some (.t [.l0, v39, v34], h39)) (
 bnd (aK 4 v35 h37) fun v40 h40 =>
 bnd (aL [(aE 0), (.s []), (aE 0), (aE 0)] 1 [(0, 4, v40)] h40) fun v41 h41 =>
 bnd (bA 4 40 (env 6) v41 h41) fun v42 h42 =>
     kk7 (env 0) (env 5) v42 h42))) := by kernel_rfl
theorem bCw (kk7 : mF) : (fun (env : aV) (h : Hp) =>
 bnd (r 130 [(.s [9, 10, 13, 32])] h) fun v1 h1 =>
 bnd (dW (env 0) h1) fun v2 h2 =>
 bnd (r 129 [(env 5), v1, v2] h2) fun v3 h3 =>
 bnd (aN (env 5) h3) fun v4 h4 =>
 bnd (aB 1 v4 h4) fun v5 h5 =>
 bnd (aA v5 h5) fun v6 h6 =>
 bnd (dW (env 0) h6) fun v7 h7 =>
 bnd (aD .geq v6 v7 h7) fun v8 h8 =>
 aT v8 (
   eR r n (env 0) (env 6) h8) (
 bnd (aN (env 5) h8) fun v9 h9 =>
 bnd (aB 1 v9 h9) fun v10 h10 =>
 bnd (aA v10 h10) fun v11 h11 =>
 bnd (fK (env 0) v11 h11) fun v12 h12 =>
 bnd (aD .eql v12 (.i .u8 (Int.ofNat 34)) h12) fun v13 h13 =>
 aT v13 (
 bnd (aN (env 5) h13) fun v14 h14 =>
 bnd (aB 1 v14 h14) fun v15 h15 =>
 bnd (aA v15 h15) fun v16 h16 =>
 bnd (aD .add v16 (aE 1) h16) fun v17 h17 =>
 bnd (fG (env 0) (some v17) none h17) fun v18 h18 =>
 bnd (r 131 [v18, (.i .u8 (Int.ofNat 34))] h18) fun v19 h19 =>
 bnd (aD .lss v19 (aE 0) h19) fun v20 h20 =>
 aT v20 (
 bnd (aN (env 5) h20) fun v21 h21 =>
 bnd (aB 1 v21 h21) fun v22 h22 =>
 bnd (aA v22 h22) fun v23 h23 =>
 some (.t [.l0, v23, (aE 11)], h23)) (
 bnd (aN (env 5) h20) fun v24 h24 =>
 bnd (aB 1 v24 h24) fun v25 h25 =>
 bnd (aA v25 h25) fun v26 h26 =>
 bnd (aD .add v19 (aE 2) h26) fun v27 h27 =>
 bnd (aD .add v26 v27 h27) fun v28 h28 =>
 bnd (aN (env 5) h28) fun v29 h29 =>
 bnd (aB 1 v29 h29) fun v30 h30 =>
 bnd (aG 1 v30 v28 h30) fun _ h31 =>
     kk7 (env 0) (env 5) (env 6) h31)) (
 bnd (r 132 [(env 5)] h13) fun v32 h32 =>
 bnd (aC 0 v32 h32) fun v33 h33 =>
 bnd (aC 1 v32 h33) fun v34 h34 =>
 bnd (bN [(aE 0), (.s []), (aE 0), (aE 0)] h34) fun v35 h35 =>
 bnd (aG 4 v35 v33 h35) fun _ h36 =>
 bnd (aD .neq v34 (aE 0) h36) fun v37 h37 =>
 aT v37 (
 bnd (aB 3 v35 h37) fun v38 h38 =>
 bnd (aA v38 h38) fun v39 h39 =>
 some (.t [.l0, v39, v34], h39)) (
 bnd (aK 4 v35 h37) fun v40 h40 =>
 bnd (aL [(aE 0), (.s []), (aE 0), (aE 0)] 1 [(0, 4, v40)] h40) fun v41 h41 =>
 bnd (bA 4 40 (env 6) v41 h41) fun v42 h42 =>
     kk7 (env 0) (env 5) v42 h42)))) = (K3 (aId r n kk7) 0 5 6) := by kernel_rfl
theorem bLs (kk7 : mF) : D117 r n kD (xs x0 0 (K2 (eR r n) 0 6)) (K3 kk7 0 5 6) = (K3 (aId r n kk7) 0 5 6) :=
 (bTp r n kk7 (eR r n)).trans (bCw r n kk7)
theorem bHo (m : Nat) : aO (fun kk => D117 r n kD (xs x0 0 (K2 (eR r n) 0 6)) kk) m = (K3 (uS r n m) 0 5 6) := by
 induction m with
 | zero => exact (by kernel_rfl : aO (fun kk => D117 r n kD (xs x0 0 (K2 (eR r n) 0 6)) kk) 0 = (K3 (uS r n 0) 0 5 6))
 | succ m ih =>
  refine (by kernel_rfl : aO (fun kk => D117 r n kD (xs x0 0 (K2 (eR r n) 0 6)) kk) (m + 1) = D117 r n kD (xs x0 0 (K2 (eR r n) 0 6)) (aO (fun kk => D117 r n kD (xs x0 0 (K2 (eR r n) 0 6)) kk) m)).trans ?_
  rw [ih]
  exact (bLs r n (uS r n m)).trans (by kernel_rfl)
theorem cHk : D117 r n aHk (xs x0 0 (K2 (eR r n) 0 6)) (K2 (eR r n) 0 6) = (K3 (bMa r n) 0 5 6) :=
 (by kernel_rfl : D117 r n aHk (xs x0 0 (K2 (eR r n) 0 6)) (K2 (eR r n) 0 6) = aO (fun kk => D117 r n kD (xs x0 0 (K2 (eR r n) 0 6)) kk) n).trans ((bHo r n n).trans (by kernel_rfl))
theorem bVi : D117 r n aGw x0 r117 = D117 r n aJg x0 (K2 (eR r n) 0 6) :=
 congrArg (fun k => D117 r n aJg x0 k) (cHd r n)
theorem cDk : D117 r n aGw x0 r117 = (K3 (aQs r n) 0 5 6) :=
 (bVi r n).trans
 ((by kernel_rfl : D117 r n aJg x0 (K2 (eR r n) 0 6) = D117 r n aHk (xs x0 0 (K2 (eR r n) 0 6)) (K2 (eR r n) 0 6)).trans
 ((cHk r n).trans (by kernel_rfl)))
theorem bSz : D117 r n aEk x0 r117 = D117 r n aXl x0 (K3 (aQs r n) 0 5 6) :=
 congrArg (fun k => D117 r n aXl x0 k) (cDk r n)
theorem cMj : D117 r n aEk x0 r117 = (K3 (aSv r n) 0 5 6) :=
 (bSz r n).trans
 ((by kernel_rfl))
theorem cBc : D117 r n aIg x0 r117 = D117 r n aZe x0 (K3 (aSv r n) 0 5 6) :=
 congrArg (fun k => D117 r n aZe x0 k) (cMj r n)
theorem cOq : D117 r n aIg x0 r117 = (K2 (zR r n) 0 5) :=
 (cBc r n).trans
 ((by kernel_rfl))
theorem bXi : D117 r n aHf x0 r117 = D117 r n aHa x0 (K2 (zR r n) 0 5) :=
 congrArg (fun k => D117 r n aHa x0 k) (cOq r n)
theorem bZk (q0 : pB) : D117 r n aHa x0 (K2 q0 0 5) = fun (env : aV) (h : Hp) =>
 bnd (bB [(.s []), (aE 0)] [(0, 1, (env 0))] h) fun v1 h1 =>
 bnd (bO v1 h1) fun v2 h2 =>
  q0 (env 0) v2 h2 := by kernel_rfl
theorem bFu : (fun (env : aV) (h : Hp) =>
 bnd (bB [(.s []), (aE 0)] [(0, 1, (env 0))] h) fun v1 h1 =>
 bnd (bO v1 h1) fun v2 h2 =>
  zR r n (env 0) v2 h2) = (K1 (aCm r n) 0) := by kernel_rfl
theorem cOe : D117 r n aHf x0 r117 = (K1 (aCm r n) 0) :=
 (bXi r n).trans
 ((bZk r n (zR r n)).trans (bFu r n))
theorem bUn : D117 r n aKj x0 r117 = D117 r n aZi x0 (K1 (aCm r n) 0) :=
 congrArg (fun k => D117 r n aZi x0 k) (cOe r n)
theorem cJi : D117 r n aTm x0 r117 = (K1 (aSk r n) 0) :=
 (by kernel_rfl : D117 r n aTm x0 r117 = D117 r n aKj x0 r117).trans
 ((bUn r n).trans
 ((by kernel_rfl)))
theorem cVz : D117 r n c117 x0 r117 = D117 r n aVu x0 (K1 (aSk r n) 0) :=
 congrArg (fun k => D117 r n aVu x0 k) (cJi r n)
theorem dJl : D117 r n c117 x0 r117 = (K1 (s117 r n) 0) :=
 (cVz r n).trans
 ((by kernel_rfl))
theorem cXg : aF CF r n 117 args h = s117 r n (aU args 0) h :=
 (by kernel_rfl : aF CF r n 117 args h = D117 r n c117 x0 r117 (aI args) h).trans ((congrFun (congrFun (dJl r n) (aI args)) h).trans (by kernel_rfl))
end Go.Dd

namespace Go.Dd
open Go.Proofs
variable (r : RT) (n : Nat) (args : List DV) (h : Hp)
noncomputable def s120 (r : RT) (n : Nat) (x0 x1 x2 : DV) (h0 : Hp) : aH :=
 bnd (bN [(aE 0), (.s []), (aE 0), (aE 0)] h0) fun v1 h1 =>
 bnd (r 133 [x0, x1, x2] h1) fun v2 h2 =>
 bnd (gQ .not v2 h2) fun v3 h3 =>
 aT v3 (
 bnd (r 137 [x0, (aE 0)] h3) fun v4 h4 =>
 bnd (r 136 [x0, v4, (aE 13)] h4) fun v5 h5 =>
 bnd (bB [(aE 0), (.s []), (aE 0), (aE 0)] [] h5) fun v6 h6 =>
 bnd (aG 4 v1 v6 h6) fun _ h7 =>
 bnd (aK 4 v1 h7) fun v8 _ =>
 some (v8, h7)) (
 bnd (r 134 [x0] h3) fun v9 h9 =>
 bnd (aG 4 v1 v9 h9) fun _ h10 =>
 bnd (aK 4 v1 h10) fun v11 _ =>
 some (v11, h10))
noncomputable abbrev c120 : Code := cf Tryz.f120
noncomputable abbrev r120 : K := aR CF Tryz.f120
noncomputable def D120 (r : RT) (n : Nat) (c : Code) (X : Nat → K) (k : K) : K := aM CF r 19 n c X r120 k
theorem dFb : D120 r n c120 x0 r120 = (K3 (s120 r n) 0 1 2) :=
 (by kernel_rfl)
theorem cZr : aF CF r n 120 args h = s120 r n (aU args 0) (aU args 1) (aU args 2) h :=
 (by kernel_rfl : aF CF r n 120 args h = D120 r n c120 x0 r120 (aI args) h).trans ((congrFun (congrFun (dFb r n) (aI args)) h).trans (by kernel_rfl))
noncomputable def aYe (r : RT) (n : Nat) (kk6 : mF) (x0 x1 x4 : DV) (h0 : Hp) : aH :=
 bnd (gD x4 false (some (x0, h0)) h0) fun v1 h1 =>
 bnd (gD x4 false (r 133 [v1, (aE 2), (.s [])] h1) h1) fun v2 h2 =>
 bnd (aP x4 (.b true) v2 h2) fun v3 h3 =>
 aT v3 (
 bnd (aN x1 h3) fun v4 h4 =>
 bnd (aB 1 v4 h4) fun v5 h5 =>
 bnd (aA v5 h5) fun v6 h6 =>
 bnd (r 120 [x0, (aE 2), (.s [])] h6) fun v7 h7 =>
 cnd (bG (aA v5 h7) v6 && true) (
 bnd (fO 1 v7 h7) fun v8 h8 =>
 bnd (fN .add v6 v8 h8) fun v9 h9 =>
 bnd (aN x1 h9) fun v10 h10 =>
 bnd (aB 1 v10 h10) fun v11 h11 =>
 bnd (aG 1 v11 v9 h11) fun v12 h12 =>
 bnd (aN x1 (resv 1 h12)) fun v13 h13 =>
 bnd (aB 3 v13 h13) fun v14 h14 =>
 bnd (aA v14 h14) fun v15 h15 =>
 bnd (aN x1 h15) fun v16 h16 =>
 bnd (aB 3 v16 h16) fun v17 h17 =>
 bnd (aA v17 h17) fun v18 h18 =>
 bnd (r 138 [x0, (aE 1), v18] h18) fun v19 h19 =>
 cnd (bG (aA v14 h19) v15 && true) (
 bnd (bJ (bX 0 h12.next) [(.s [])] 1 [(0, 1, v19)] h19) fun v20 h20 =>
 bnd (bA 1 16 v15 v20 h20) fun v21 h21 =>
 bnd (aN x1 h21) fun v22 h22 =>
 bnd (aB 3 v22 h22) fun v23 h23 =>
 bnd (aG 1 v23 v21 h23) fun v24 h24 =>
      kk6 x0 x1 (.b false) h24))) (
 some (.t [], h3))
noncomputable def tU (r : RT) (n : Nat) (m : Nat) : mF :=
 Nat.rec (motive := fun _ => mF) (fun _ _ _ _ => none) (fun _ ih => aYe r n ih) m
noncomputable def bYg (r : RT) (n : Nat) : mF := tU r n n
noncomputable def aPf (r : RT) (n : Nat) (x0 x1 x4 : DV) (h0 : Hp) : aH :=
 bYg r n x0 x1 x4 h0
noncomputable def bPl (r : RT) (n : Nat) (x0 x1 : DV) (h0 : Hp) : aH :=
 aPf r n x0 x1 (.b true) h0
noncomputable def aRj (r : RT) (n : Nat) (x0 x1 x44 : DV) (h0 : Hp) : aH :=
 aT x44 (
 bnd (r 134 [x0] h0) fun v1 h1 =>
 bnd (fO 1 v1 h1) fun v2 h2 =>
 bnd (aN x1 h2) fun v3 h3 =>
 bnd (aB 1 v3 h3) fun v4 h4 =>
 bnd (aG 1 v4 v2 h4) fun _ h5 =>
 bnd (aN x1 (resv 1 h5)) fun v6 h6 =>
 bnd (aB 3 v6 h6) fun v7 h7 =>
 bnd (aA v7 h7) fun v8 h8 =>
 bnd (aN x1 h8) fun v9 h9 =>
 bnd (aB 3 v9 h9) fun v10 h10 =>
 bnd (aA v10 h10) fun v11 h11 =>
 bnd (r 138 [x0, (aE 1), v11] h11) fun v12 h12 =>
 cnd (bG (aA v7 h12) v8 && true) (
 bnd (bJ (bX 0 h5.next) [(.s [])] 1 [(0, 1, v12)] h12) fun v13 h13 =>
 bnd (bA 1 16 v8 v13 h13) fun v14 h14 =>
 bnd (aN x1 h14) fun v15 h15 =>
 bnd (aB 3 v15 h15) fun v16 h16 =>
 bnd (aG 1 v16 v14 h16) fun v17 h17 =>
 some (.t [], h17))) (
  bPl r n x0 x1 h0)
noncomputable def bUh (r : RT) (n : Nat) (x0 x1 : DV) (h0 : Hp) : aH :=
 bnd (r 133 [x0, (aE 3), (.s [])] h0) fun v1 h1 =>
  aRj r n x0 x1 v1 h1
noncomputable def aTu (r : RT) (n : Nat) (x0 x1 x35 : DV) (h0 : Hp) : aH :=
 aT x35 (
 bnd (r 134 [x0] h0) fun v1 h1 =>
 bnd (fO 1 v1 h1) fun v2 h2 =>
 bnd (aN x1 h2) fun v3 h3 =>
 bnd (aB 1 v3 h3) fun v4 h4 =>
 bnd (aG 1 v4 v2 h4) fun _ h5 =>
 some (.t [], h5)) (
  bUh r n x0 x1 h0)
noncomputable def s121 (r : RT) (n : Nat) (x0 x1 : DV) (h0 : Hp) : aH :=
 bnd (r 133 [x0, (aE 1), (.s [])] h0) fun v1 h1 =>
  aTu r n x0 x1 v1 h1
noncomputable abbrev c121 : Code := cf Tryz.f121
noncomputable abbrev aHj : Code := cL c121
noncomputable abbrev wN : Code := cR aHj
noncomputable abbrev wE : Code := cR wN
noncomputable abbrev yE : Code := cR wE
noncomputable abbrev aAa : Code := cR yE
noncomputable abbrev aQy : Code := cR aAa
noncomputable abbrev aDk : Code := cL aQy
noncomputable abbrev oL : Code := cL aDk
noncomputable abbrev bNu : Code := cL aAa
noncomputable abbrev cQk : Code := cL yE
noncomputable abbrev bAe : Code := cL wE
noncomputable abbrev cOv : Code := cL wN
noncomputable abbrev aYh : Code := cL aHj
noncomputable abbrev r121 : K := aR CF Tryz.f121
noncomputable def D121 (r : RT) (n : Nat) (c : Code) (X : Nat → K) (k : K) : K := aM CF r 68 n c X r121 k
theorem bMc (kk6 : mF) : D121 r n oL (xs (xs x0 0 r121) 1 r121) (K3 kk6 0 1 4) = (K3 (aYe r n kk6) 0 1 4) :=
 (by kernel_rfl)
theorem bNm (m : Nat) : aO (fun kk => D121 r n oL (xs (xs x0 0 r121) 1 r121) kk) m = (K3 (tU r n m) 0 1 4) := by
 induction m with
 | zero => exact (by kernel_rfl : aO (fun kk => D121 r n oL (xs (xs x0 0 r121) 1 r121) kk) 0 = (K3 (tU r n 0) 0 1 4))
 | succ m ih =>
  refine (by kernel_rfl : aO (fun kk => D121 r n oL (xs (xs x0 0 r121) 1 r121) kk) (m + 1) = D121 r n oL (xs (xs x0 0 r121) 1 r121) (aO (fun kk => D121 r n oL (xs (xs x0 0 r121) 1 r121) kk) m)).trans ?_
  rw [ih]
  exact (bMc r n (tU r n m)).trans (by kernel_rfl)
theorem cGi : D121 r n aDk (xs (xs x0 0 r121) 1 r121) r121 = (K3 (bYg r n) 0 1 4) :=
 (by kernel_rfl : D121 r n aDk (xs (xs x0 0 r121) 1 r121) r121 = aO (fun kk => D121 r n oL (xs (xs x0 0 r121) 1 r121) kk) n).trans ((bNm r n n).trans (by kernel_rfl))
theorem cKe : D121 r n aQy (xs x0 0 r121) r121 = (K3 (aPf r n) 0 1 4) :=
 (by kernel_rfl : D121 r n aQy (xs x0 0 r121) r121 = D121 r n aDk (xs (xs x0 0 r121) 1 r121) r121).trans
 ((cGi r n).trans (by kernel_rfl))
theorem bUe : D121 r n aAa (xs x0 0 r121) r121 = D121 r n bNu (xs x0 0 r121) (K3 (aPf r n) 0 1 4) :=
 congrArg (fun k => D121 r n bNu (xs x0 0 r121) k) (cKe r n)
theorem cPk : D121 r n aAa (xs x0 0 r121) r121 = (K2 (bPl r n) 0 1) :=
 (bUe r n).trans
 ((by kernel_rfl))
theorem cDv : D121 r n yE (xs x0 0 r121) r121 = (K3 (aRj r n) 0 1 44) :=
 (by kernel_rfl : D121 r n yE (xs x0 0 r121) r121 = (fun (env : aV) (h : Hp) => aT (opr env (cC yE)) (D121 r n cQk (xs x0 0 r121) r121 env h) (D121 r n aAa (xs x0 0 r121) r121 env h))).trans (by rw [cPk r n]; kernel_rfl)
theorem bSq : D121 r n wE (xs x0 0 r121) r121 = D121 r n bAe (xs x0 0 r121) (K3 (aRj r n) 0 1 44) :=
 congrArg (fun k => D121 r n bAe (xs x0 0 r121) k) (cDv r n)
theorem cQs : D121 r n wE (xs x0 0 r121) r121 = (K2 (bUh r n) 0 1) :=
 (bSq r n).trans
 ((by kernel_rfl))
theorem cBu : D121 r n wN (xs x0 0 r121) r121 = (K3 (aTu r n) 0 1 35) :=
 (by kernel_rfl : D121 r n wN (xs x0 0 r121) r121 = (fun (env : aV) (h : Hp) => aT (opr env (cC wN)) (D121 r n cOv (xs x0 0 r121) r121 env h) (D121 r n wE (xs x0 0 r121) r121 env h))).trans (by rw [cQs r n]; kernel_rfl)
theorem cTe : D121 r n aHj (xs x0 0 r121) r121 = D121 r n aYh (xs x0 0 r121) (K3 (aTu r n) 0 1 35) :=
 congrArg (fun k => D121 r n aYh (xs x0 0 r121) k) (cBu r n)
theorem dIa : D121 r n c121 x0 r121 = (K2 (s121 r n) 0 1) :=
 (by kernel_rfl : D121 r n c121 x0 r121 = D121 r n aHj (xs x0 0 r121) r121).trans
 ((cTe r n).trans
 ((by kernel_rfl)))
theorem cWi : aF CF r n 121 args h = s121 r n (aU args 0) (aU args 1) h :=
 (by kernel_rfl : aF CF r n 121 args h = D121 r n c121 x0 r121 (aI args) h).trans ((congrFun (congrFun (dIa r n) (aI args)) h).trans (by kernel_rfl))
noncomputable def aGe (r : RT) (n : Nat) (x0 : DV) (h0 : Hp) : aH :=
 bnd (r 141 [x0, (aE 20), (aE 0), (aE 0)] h0) fun v1 h1 =>
 some (.t [], h1)
noncomputable def cQ (r : RT) (n : Nat) (x0 x2 : DV) (h0 : Hp) : aH :=
 aT x2 (
 bnd (r 141 [x0, (aE 2), (aE 0), (aE 0)] h0) fun v1 h1 =>
  aGe r n x0 h1) (
 bnd (r 141 [x0, (aE 1), (aE 0), (aE 0)] h0) fun v2 h2 =>
  aGe r n x0 h2)
noncomputable def lV (r : RT) (n : Nat) (kk8 : fI) (x0 x2 x6 x22 x23 x24 : DV) (h0 : Hp) : aH :=
 bnd (aD .add x24 (aE 1) h0) fun v1 h1 =>
  kk8 x0 x2 x6 x22 x23 v1 h1
noncomputable def vC (r : RT) (n : Nat) (kk8 : fI) (x0 x2 x6 x22 x23 x24 : DV) (h0 : Hp) : aH :=
 bnd (aJ 6 x22 x24 h0) fun v1 h1 =>
 bnd (aK 6 v1 h1) fun v2 h2 =>
 bnd (bN kM h2) fun v3 h3 =>
 bnd (aG 6 v3 v2 h3) fun _ h4 =>
 bnd (aK 6 v3 h4) fun v5 h5 =>
 bnd (r 140 [x0, v5] h5) fun v6 h6 =>
 bnd (aD .eql x24 x6 h6) fun v7 h7 =>
 bnd (gD v7 true (aB 0 v3 h7) h7) fun v8 h8 =>
 bnd (gD v7 true (aA v8 h8) h8) fun v9 h9 =>
 bnd (gD v7 true (aD .eql v9 (aE 10) h9) h9) fun v10 h10 =>
 bnd (aP v7 v10 (.b false) h10) fun v11 h11 =>
 aT v11 (
 some (.t [], h11)) (
 bnd (aD .eql x24 x6 h11) fun v12 h12 =>
 bnd (gD v12 true (some (x2, h12)) h12) fun v13 h13 =>
 bnd (aP v12 v13 (.b false) h13) fun v14 h14 =>
 aT v14 (
 bnd (r 141 [x0, (aE 20), (aE 0), (aE 0)] h14) fun v15 h15 =>
 some (.t [], h15)) (
 bnd (aB 0 v3 h14) fun v16 h16 =>
 bnd (aA v16 h16) fun v17 h17 =>
 bnd (aD .eql v17 (aE 10) h17) fun v18 h18 =>
 aT v18 (
    lV r n kk8 x0 x2 x6 x22 x23 x24 h18) (
 bnd (r 141 [x0, (aE 12), (aE 0), (aE 0)] h18) fun v19 h19 =>
    lV r n kk8 x0 x2 x6 x22 x23 x24 h19)))
noncomputable def aOd (r : RT) (n : Nat) (kk8 : fI) (x0 x2 x6 x22 x23 x24 x25 : DV) (h0 : Hp) : aH :=
 aT x25 (
  vC r n kk8 x0 x2 x6 x22 x23 x24 h0) (
  cQ r n x0 x2 h0)
noncomputable def aXa (r : RT) (n : Nat) (kk8 : fI) (x0 x2 x6 x22 x23 x24 : DV) (h0 : Hp) : aH :=
 bnd (aD .lss x24 x23 h0) fun v1 h1 =>
  aOd r n kk8 x0 x2 x6 x22 x23 x24 v1 h1
noncomputable def tM (r : RT) (n : Nat) (m : Nat) : fI :=
 Nat.rec (motive := fun _ => fI) (fun _ _ _ _ _ _ _ => none) (fun _ ih => aXa r n ih) m
noncomputable def bSi (r : RT) (n : Nat) : fI := tM r n n
noncomputable def aQw (r : RT) (n : Nat) (x0 x2 x6 x22 x23 x24 : DV) (h0 : Hp) : aH :=
 bSi r n x0 x2 x6 x22 x23 x24 h0
noncomputable def aSe (r : RT) (n : Nat) (x0 x2 x4 x6 : DV) (h0 : Hp) : aH :=
 bnd (aB 5 x4 h0) fun v1 h1 =>
 bnd (aA v1 h1) fun v2 h2 =>
 bnd (cA v2 h2) fun v3 h3 =>
  aQw r n x0 x2 x6 v2 v3 (aE 0) h3
noncomputable def aRs (r : RT) (n : Nat) (x0 x2 x4 : DV) (h0 : Hp) : aH :=
 bnd (aB 5 x4 h0) fun v1 h1 =>
 bnd (aA v1 h1) fun v2 h2 =>
 bnd (cA v2 h2) fun v3 h3 =>
 bnd (aD .sub v3 (aE 1) h3) fun v4 h4 =>
  aSe r n x0 x2 x4 v4 h4
noncomputable def aPc (r : RT) (n : Nat) (x0 x2 x4 : DV) (h0 : Hp) : aH :=
 bnd (aB 4 x4 h0) fun v1 h1 =>
 bnd (aA v1 h1) fun v2 h2 =>
 bnd (r 139 [x0, v2, (.b false)] h2) fun v3 h3 =>
  aRs r n x0 x2 x4 h3
noncomputable def xV (r : RT) (n : Nat) (x0 x2 x4 : DV) (h0 : Hp) : aH :=
 bnd (aB 3 x4 h0) fun v1 h1 =>
 bnd (aA v1 h1) fun v2 h2 =>
 bnd (r 139 [x0, v2, (.b true)] h2) fun v3 h3 =>
  aPc r n x0 x2 x4 h3
noncomputable def s123 (r : RT) (n : Nat) (x0 x1 x2 : DV) (h0 : Hp) : aH :=
 bnd (bO x1 h0) fun v1 h1 =>
  xV r n x0 x2 v1 h1
noncomputable abbrev c123 : Code := cf Tryz.f123
noncomputable abbrev aBs : Code := cR c123
noncomputable abbrev aBp : Code := cR aBs
noncomputable abbrev aGa : Code := cR aBp
noncomputable abbrev aCa : Code := cR aGa
noncomputable abbrev aIb : Code := cR aCa
noncomputable abbrev dCu : Code := cR aIb
noncomputable abbrev bMt : Code := cL aIb
noncomputable abbrev aAf : Code := cL aCa
noncomputable abbrev aOh : Code := cR aAf
noncomputable abbrev tB : Code := cL aOh
noncomputable abbrev iK : Code := cL tB
noncomputable abbrev uF : Code := cR iK
noncomputable abbrev tI : Code := cR uF
noncomputable abbrev cIy : Code := cR tI
noncomputable abbrev aFq : Code := cL tI
noncomputable abbrev aUv : Code := cL uF
noncomputable abbrev bBf : Code := cL iK
noncomputable abbrev aYk : Code := cL aAf
noncomputable abbrev aVt : Code := cL aGa
noncomputable abbrev aZs : Code := cL aBp
noncomputable abbrev aUu : Code := cL aBs
noncomputable abbrev aFc : Code := cL c123
noncomputable abbrev r123 : K := aR CF Tryz.f123
noncomputable def D123 (r : RT) (n : Nat) (c : Code) (X : Nat → K) (k : K) : K := aM CF r 64 n c X r123 k
theorem cEg : D123 r n dCu x0 r123 = (K1 (aGe r n) 0) :=
 (by kernel_rfl)
theorem bOr : D123 r n aIb x0 r123 = D123 r n bMt x0 (K1 (aGe r n) 0) :=
 congrArg (fun k => D123 r n bMt x0 k) (cEg r n)
theorem cPa : D123 r n aIb x0 r123 = (K2 (cQ r n) 0 2) :=
 (bOr r n).trans
 ((by kernel_rfl))
theorem bRv (kk8 : fI) : D123 r n cIy (xs x0 0 (K2 (cQ r n) 0 2)) (K6 kk8 0 2 6 22 23 24) = (K6 (lV r n kk8) 0 2 6 22 23 24) :=
 (by kernel_rfl)
theorem bFo (kk8 : fI) : D123 r n tI (xs x0 0 (K2 (cQ r n) 0 2)) (K6 kk8 0 2 6 22 23 24) = D123 r n aFq (xs x0 0 (K2 (cQ r n) 0 2)) (K6 (lV r n kk8) 0 2 6 22 23 24) :=
 congrArg (fun k => D123 r n aFq (xs x0 0 (K2 (cQ r n) 0 2)) k) (bRv r n kk8)
theorem bFp (kk8 : fI) (q0 : fI) (q1 : pB) : D123 r n aFq (xs x0 0 (K2 q1 0 2)) (K6 q0 0 2 6 22 23 24) = fun (env : aV) (h : Hp) =>
 bnd (aJ 6 (env 22) (env 24) h) fun v1 h1 =>
 bnd (aK 6 v1 h1) fun v2 h2 =>
 bnd (bN kM h2) fun v3 h3 =>
 bnd (aG 6 v3 v2 h3) fun _ h4 =>
 bnd (aK 6 v3 h4) fun v5 h5 =>
 bnd (r 140 [(env 0), v5] h5) fun v6 h6 =>
 bnd (aD .eql (env 24) (env 6) h6) fun v7 h7 =>
 bnd (gD v7 true (aB 0 v3 h7) h7) fun v8 h8 =>
 bnd (gD v7 true (aA v8 h8) h8) fun v9 h9 =>
 bnd (gD v7 true (aD .eql v9 (aE 10) h9) h9) fun v10 h10 =>
 bnd (aP v7 v10 (.b false) h10) fun v11 h11 =>
 aT v11 (
 some (.t [], h11)) (
 bnd (aD .eql (env 24) (env 6) h11) fun v12 h12 =>
 bnd (gD v12 true (some ((env 2), h12)) h12) fun v13 h13 =>
 bnd (aP v12 v13 (.b false) h13) fun v14 h14 =>
 aT v14 (
 bnd (r 141 [(env 0), (aE 20), (aE 0), (aE 0)] h14) fun v15 h15 =>
 some (.t [], h15)) (
 bnd (aB 0 v3 h14) fun v16 h16 =>
 bnd (aA v16 h16) fun v17 h17 =>
 bnd (aD .eql v17 (aE 10) h17) fun v18 h18 =>
 aT v18 (
     q0 (env 0) (env 2) (env 6) (env 22) (env 23) (env 24) h18) (
 bnd (r 141 [(env 0), (aE 12), (aE 0), (aE 0)] h18) fun v19 h19 =>
     q0 (env 0) (env 2) (env 6) (env 22) (env 23) (env 24) h19))) := by kernel_rfl
theorem aUj (kk8 : fI) : (fun (env : aV) (h : Hp) =>
 bnd (aJ 6 (env 22) (env 24) h) fun v1 h1 =>
 bnd (aK 6 v1 h1) fun v2 h2 =>
 bnd (bN kM h2) fun v3 h3 =>
 bnd (aG 6 v3 v2 h3) fun _ h4 =>
 bnd (aK 6 v3 h4) fun v5 h5 =>
 bnd (r 140 [(env 0), v5] h5) fun v6 h6 =>
 bnd (aD .eql (env 24) (env 6) h6) fun v7 h7 =>
 bnd (gD v7 true (aB 0 v3 h7) h7) fun v8 h8 =>
 bnd (gD v7 true (aA v8 h8) h8) fun v9 h9 =>
 bnd (gD v7 true (aD .eql v9 (aE 10) h9) h9) fun v10 h10 =>
 bnd (aP v7 v10 (.b false) h10) fun v11 h11 =>
 aT v11 (
 some (.t [], h11)) (
 bnd (aD .eql (env 24) (env 6) h11) fun v12 h12 =>
 bnd (gD v12 true (some ((env 2), h12)) h12) fun v13 h13 =>
 bnd (aP v12 v13 (.b false) h13) fun v14 h14 =>
 aT v14 (
 bnd (r 141 [(env 0), (aE 20), (aE 0), (aE 0)] h14) fun v15 h15 =>
 some (.t [], h15)) (
 bnd (aB 0 v3 h14) fun v16 h16 =>
 bnd (aA v16 h16) fun v17 h17 =>
 bnd (aD .eql v17 (aE 10) h17) fun v18 h18 =>
 aT v18 (
     lV r n kk8 (env 0) (env 2) (env 6) (env 22) (env 23) (env 24) h18) (
 bnd (r 141 [(env 0), (aE 12), (aE 0), (aE 0)] h18) fun v19 h19 =>
     lV r n kk8 (env 0) (env 2) (env 6) (env 22) (env 23) (env 24) h19)))) = (K6 (vC r n kk8) 0 2 6 22 23 24) := by kernel_rfl
theorem cAv (kk8 : fI) : D123 r n tI (xs x0 0 (K2 (cQ r n) 0 2)) (K6 kk8 0 2 6 22 23 24) = (K6 (vC r n kk8) 0 2 6 22 23 24) :=
 (bFo r n kk8).trans
 ((bFp r n kk8 (lV r n kk8) (cQ r n)).trans (aUj r n kk8))
theorem bSb (kk8 : fI) : D123 r n uF (xs x0 0 (K2 (cQ r n) 0 2)) (K6 kk8 0 2 6 22 23 24) = D123 r n aUv (xs x0 0 (K2 (cQ r n) 0 2)) (K6 (vC r n kk8) 0 2 6 22 23 24) :=
 congrArg (fun k => D123 r n aUv (xs x0 0 (K2 (cQ r n) 0 2)) k) (cAv r n kk8)
theorem cFc (kk8 : fI) : D123 r n uF (xs x0 0 (K2 (cQ r n) 0 2)) (K6 kk8 0 2 6 22 23 24) = (K7 (aOd r n kk8) 0 2 6 22 23 24 25) :=
 (bSb r n kk8).trans
 ((by kernel_rfl))
theorem bQn (kk8 : fI) : D123 r n iK (xs x0 0 (K2 (cQ r n) 0 2)) (K6 kk8 0 2 6 22 23 24) = D123 r n bBf (xs x0 0 (K2 (cQ r n) 0 2)) (K7 (aOd r n kk8) 0 2 6 22 23 24 25) :=
 congrArg (fun k => D123 r n bBf (xs x0 0 (K2 (cQ r n) 0 2)) k) (cFc r n kk8)
theorem bJj (kk8 : fI) : D123 r n iK (xs x0 0 (K2 (cQ r n) 0 2)) (K6 kk8 0 2 6 22 23 24) = (K6 (aXa r n kk8) 0 2 6 22 23 24) :=
 (bQn r n kk8).trans
 ((by kernel_rfl))
theorem bHv (m : Nat) : aO (fun kk => D123 r n iK (xs x0 0 (K2 (cQ r n) 0 2)) kk) m = (K6 (tM r n m) 0 2 6 22 23 24) := by
 induction m with
 | zero => exact (by kernel_rfl : aO (fun kk => D123 r n iK (xs x0 0 (K2 (cQ r n) 0 2)) kk) 0 = (K6 (tM r n 0) 0 2 6 22 23 24))
 | succ m ih =>
  refine (by kernel_rfl : aO (fun kk => D123 r n iK (xs x0 0 (K2 (cQ r n) 0 2)) kk) (m + 1) = D123 r n iK (xs x0 0 (K2 (cQ r n) 0 2)) (aO (fun kk => D123 r n iK (xs x0 0 (K2 (cQ r n) 0 2)) kk) m)).trans ?_
  rw [ih]
  exact (bJj r n (tM r n m)).trans (by kernel_rfl)
theorem cIm : D123 r n tB (xs x0 0 (K2 (cQ r n) 0 2)) (K2 (cQ r n) 0 2) = (K6 (bSi r n) 0 2 6 22 23 24) :=
 (by kernel_rfl : D123 r n tB (xs x0 0 (K2 (cQ r n) 0 2)) (K2 (cQ r n) 0 2) = aO (fun kk => D123 r n iK (xs x0 0 (K2 (cQ r n) 0 2)) kk) n).trans ((bHv r n n).trans (by kernel_rfl))
theorem cNn : D123 r n aOh x0 (K2 (cQ r n) 0 2) = (K6 (aQw r n) 0 2 6 22 23 24) :=
 (by kernel_rfl : D123 r n aOh x0 (K2 (cQ r n) 0 2) = D123 r n tB (xs x0 0 (K2 (cQ r n) 0 2)) (K2 (cQ r n) 0 2)).trans
 ((cIm r n).trans (by kernel_rfl))
theorem bKw : D123 r n aCa x0 r123 = D123 r n aAf x0 (K2 (cQ r n) 0 2) :=
 congrArg (fun k => D123 r n aAf x0 k) (cPa r n)
theorem bKg : D123 r n aAf x0 (K2 (cQ r n) 0 2) = D123 r n aYk x0 (K6 (aQw r n) 0 2 6 22 23 24) :=
 congrArg (fun k => D123 r n aYk x0 k) (cNn r n)
theorem cNv : D123 r n aCa x0 r123 = (K4 (aSe r n) 0 2 4 6) :=
 (bKw r n).trans
 ((bKg r n).trans
 ((by kernel_rfl)))
theorem bQe : D123 r n aGa x0 r123 = D123 r n aVt x0 (K4 (aSe r n) 0 2 4 6) :=
 congrArg (fun k => D123 r n aVt x0 k) (cNv r n)
theorem cGp : D123 r n aGa x0 r123 = (K3 (aRs r n) 0 2 4) :=
 (bQe r n).trans
 ((by kernel_rfl))
theorem bNv : D123 r n aBp x0 r123 = D123 r n aZs x0 (K3 (aRs r n) 0 2 4) :=
 congrArg (fun k => D123 r n aZs x0 k) (cGp r n)
theorem cJb : D123 r n aBp x0 r123 = (K3 (aPc r n) 0 2 4) :=
 (bNv r n).trans
 ((by kernel_rfl))
theorem bCr : D123 r n aBs x0 r123 = D123 r n aUu x0 (K3 (aPc r n) 0 2 4) :=
 congrArg (fun k => D123 r n aUu x0 k) (cJb r n)
theorem cEh : D123 r n aBs x0 r123 = (K3 (xV r n) 0 2 4) :=
 (bCr r n).trans
 ((by kernel_rfl))
theorem cGl : D123 r n c123 x0 r123 = D123 r n aFc x0 (K3 (xV r n) 0 2 4) :=
 congrArg (fun k => D123 r n aFc x0 k) (cEh r n)
theorem cGc (q0 : mF) : D123 r n aFc x0 (K3 q0 0 2 4) = fun (env : aV) (h : Hp) =>
 bnd (bO (env 1) h) fun v1 h1 =>
  q0 (env 0) (env 2) v1 h1 := by kernel_rfl
theorem bIm : (fun (env : aV) (h : Hp) =>
 bnd (bO (env 1) h) fun v1 h1 =>
  xV r n (env 0) (env 2) v1 h1) = (K3 (s123 r n) 0 1 2) := by kernel_rfl
theorem dLe : D123 r n c123 x0 r123 = (K3 (s123 r n) 0 1 2) :=
 (cGl r n).trans
 ((cGc r n (xV r n)).trans (bIm r n))
theorem cUz : aF CF r n 123 args h = s123 r n (aU args 0) (aU args 1) (aU args 2) h :=
 (by kernel_rfl : aF CF r n 123 args h = D123 r n c123 x0 r123 (aI args) h).trans ((congrFun (congrFun (dLe r n) (aI args)) h).trans (by kernel_rfl))
noncomputable def s124 (r : RT) (n : Nat) (x0 : DV) (h0 : Hp) : aH :=
 bnd (bO x0 h0) fun v1 h1 =>
 bnd (aB 0 v1 h1) fun v2 h2 =>
 bnd (aA v2 h2) fun v3 h3 =>
 bnd (r 142 [v3] h3) fun v4 h4 =>
 bnd (aC 0 v4 h4) fun v5 h5 =>
 bnd (aC 1 v4 h5) fun v6 h6 =>
 bnd (aB 0 v1 h6) fun v7 h7 =>
 bnd (aA v7 h7) fun v8 h8 =>
 bnd (aD .geq v8 (aE 1) h8) fun v9 h9 =>
 bnd (gD v9 true (aB 0 v1 h9) h9) fun v10 h10 =>
 bnd (gD v9 true (aA v10 h10) h10) fun v11 h11 =>
 bnd (gD v9 true (aD .leq v11 (aE 20) h11) h11) fun v12 h12 =>
 bnd (aP v9 v12 (.b false) h12) fun v13 h13 =>
 bnd (gD v13 true (aB 1 v1 h13) h13) fun v14 h14 =>
 bnd (gD v13 true (aA v14 h14) h14) fun v15 h15 =>
 bnd (gD v13 true (some (v5, h15)) h15) fun v16 h16 =>
 bnd (gD v13 true (r 143 [v15, v16] h16) h16) fun v17 h17 =>
 bnd (aP v13 v17 (.b false) h17) fun v18 h18 =>
 bnd (gD v18 true (aB 2 v1 h18) h18) fun v19 h19 =>
 bnd (gD v18 true (aA v19 h19) h19) fun v20 h20 =>
 bnd (gD v18 true (some (v6, h20)) h20) fun v21 h21 =>
 bnd (gD v18 true (r 143 [v20, v21] h21) h21) fun v22 h22 =>
 bnd (aP v18 v22 (.b false) h22) fun v23 h23 =>
 some (v23, h23)
noncomputable abbrev c124 : Code := cf Tryz.f124
noncomputable abbrev r124 : K := aR CF Tryz.f124
noncomputable def D124 (r : RT) (n : Nat) (c : Code) (X : Nat → K) (k : K) : K := aM CF r 31 n c X r124 k
theorem dKc : D124 r n c124 x0 r124 = (K1 (s124 r n) 0) :=
 (by kernel_rfl)
theorem cZb : aF CF r n 124 args h = s124 r n (aU args 0) h :=
 (by kernel_rfl : aF CF r n 124 args h = D124 r n c124 x0 r124 (aI args) h).trans ((congrFun (congrFun (dKc r n) (aI args)) h).trans (by kernel_rfl))
noncomputable def s125 (r : RT) (n : Nat) (x0 x1 : DV) (h0 : Hp) : aH :=
 bnd (bO x0 h0) fun v1 h1 =>
 bnd (aK 6 v1 h1) fun v2 h2 =>
 bnd (r 144 [v2, x1] h2) fun v3 h3 =>
 bnd (aC 0 v3 h3) fun v4 h4 =>
 bnd (aC 1 v3 h4) fun v5 h5 =>
 some (v5, h5)
noncomputable abbrev c125 : Code := cf Tryz.f125
noncomputable abbrev r125 : K := aR CF Tryz.f125
noncomputable def D125 (r : RT) (n : Nat) (c : Code) (X : Nat → K) (k : K) : K := aM CF r 14 n c X r125 k
theorem dFn : D125 r n c125 x0 r125 = (K2 (s125 r n) 0 1) :=
 (by kernel_rfl)
theorem cYv : aF CF r n 125 args h = s125 r n (aU args 0) (aU args 1) h :=
 (by kernel_rfl : aF CF r n 125 args h = D125 r n c125 x0 r125 (aI args) h).trans ((congrFun (congrFun (dFn r n) (aI args)) h).trans (by kernel_rfl))
noncomputable def eH (r : RT) (n : Nat) (x0 x6 : DV) (h0 : Hp) : aH :=
 bnd (r 46 [x0, x6] h0) fun v1 h1 =>
 bnd (aC 0 v1 h1) fun v2 h2 =>
 bnd (aC 1 v1 h2) fun v3 h3 =>
 some (.t [v2, v3], h3)
noncomputable def aBn (r : RT) (n : Nat) (kk6 : cH) (x0 x6 x38 x39 x40 : DV) (h0 : Hp) : aH :=
 bnd (aD .lss x40 x39 h0) fun v1 h1 =>
 aT v1 (
 bnd (aJ 4 x38 x40 h1) fun v2 h2 =>
 bnd (aK 4 v2 h2) fun v3 h3 =>
 bnd (bN [(aE 0), (.s []), (aE 0), .l0] h3) fun v4 h4 =>
 bnd (aG 4 v4 v3 h4) fun _ h5 =>
 bnd (aK 4 v4 h5) fun v6 h6 =>
 bnd (r 126 [x0, v6] h6) fun v7 h7 =>
 bnd (aC 0 v7 h7) fun v8 h8 =>
 bnd (aC 1 v7 h8) fun v9 h9 =>
 bnd (aD .neq v9 (aE 0) h9) fun v10 h10 =>
 aT v10 (
 some (.t [(aE 0), v9], h10)) (
 bnd (aL [(aE 0)] 1 [(0, 1, v8)] h10) fun v11 h11 =>
 bnd (bA 1 8 x6 v11 h11) fun v12 h12 =>
 bnd (aD .add x40 (aE 1) h12) fun v13 h13 =>
    kk6 x0 v12 x38 x39 v13 h13)) (
      eH r n x0 x6 h1)
noncomputable def uX (r : RT) (n : Nat) (m : Nat) : cH :=
 Nat.rec (motive := fun _ => cH) (fun _ _ _ _ _ _ => none) (fun _ ih => aBn r n ih) m
noncomputable def bJb (r : RT) (n : Nat) : cH := uX r n n
noncomputable def aTc (r : RT) (n : Nat) (x0 x6 x38 x39 x40 : DV) (h0 : Hp) : aH :=
 bJb r n x0 x6 x38 x39 x40 h0
noncomputable def aQa (r : RT) (n : Nat) (x0 x3 x6 : DV) (h0 : Hp) : aH :=
 bnd (aB 3 x3 h0) fun v1 h1 =>
 bnd (aA v1 h1) fun v2 h2 =>
 bnd (cA v2 h2) fun v3 h3 =>
  aTc r n x0 x6 v2 v3 (aE 0) h3
noncomputable def aTn (r : RT) (n : Nat) (x0 x3 : DV) (h0 : Hp) : aH :=
 aQa r n x0 x3 .l0 h0
noncomputable def xI (r : RT) (n : Nat) (x0 x3 : DV) (h0 : Hp) : aH :=
 bnd (aB 0 x3 h0) fun v1 h1 =>
 bnd (aA v1 h1) fun v2 h2 =>
 bnd (aD .eql v2 (aE 1) h2) fun v3 h3 =>
 aT v3 (
 bnd (aB 2 x3 h3) fun v4 h4 =>
 bnd (aA v4 h4) fun v5 h5 =>
 bnd (r 42 [x0, v5] h5) fun v6 h6 =>
 bnd (aC 0 v6 h6) fun v7 h7 =>
 bnd (aC 1 v6 h7) fun v8 h8 =>
 some (.t [v7, v8], h8)) (
 bnd (aD .eql v2 (aE 2) h3) fun v9 h9 =>
 aT v9 (
 bnd (aB 1 x3 h9) fun v10 h10 =>
 bnd (aA v10 h10) fun v11 h11 =>
 bnd (r 43 [x0, v11] h11) fun v12 h12 =>
 bnd (aC 0 v12 h12) fun v13 h13 =>
 bnd (aC 1 v12 h13) fun v14 h14 =>
 some (.t [v13, v14], h14)) (
 bnd (aD .eql v2 (aE 3) h9) fun v15 h15 =>
 aT v15 (
 bnd (aB 1 x3 h15) fun v16 h16 =>
 bnd (aA v16 h16) fun v17 h17 =>
 bnd (r 44 [x0, v17] h17) fun v18 h18 =>
 bnd (aC 0 v18 h18) fun v19 h19 =>
 bnd (aC 1 v18 h19) fun v20 h20 =>
 some (.t [v19, v20], h20)) (
    aTn r n x0 x3 h15)))
noncomputable def s126 (r : RT) (n : Nat) (x0 x1 : DV) (h0 : Hp) : aH :=
 bnd (bO x1 h0) fun v1 h1 =>
  xI r n x0 v1 h1
noncomputable abbrev c126 : Code := cf Tryz.f126
noncomputable abbrev aCu : Code := cR c126
noncomputable abbrev aKq : Code := cR aCu
noncomputable abbrev aIh : Code := cR aKq
noncomputable abbrev cVc : Code := cR aIh
noncomputable abbrev xB : Code := cL aIh
noncomputable abbrev aQr : Code := cR xB
noncomputable abbrev aIr : Code := cL aQr
noncomputable abbrev mL : Code := cL aIr
noncomputable abbrev bSg : Code := cL xB
noncomputable abbrev aVn : Code := cL aKq
noncomputable abbrev aVl : Code := cL aCu
noncomputable abbrev aEi : Code := cL c126
noncomputable abbrev r126 : K := aR CF Tryz.f126
noncomputable def D126 (r : RT) (n : Nat) (c : Code) (X : Nat → K) (k : K) : K := aM CF r 63 n c X r126 k
theorem cCd : D126 r n cVc x0 r126 = (K2 (eH r n) 0 6) :=
 (by kernel_rfl)
theorem bSd (kk6 : cH) (q0 : pB) : D126 r n mL (xs x0 1 (K2 q0 0 6)) (K5 kk6 0 6 38 39 40) = fun (env : aV) (h : Hp) =>
 bnd (aD .lss (env 40) (env 39) h) fun v1 h1 =>
 aT v1 (
 bnd (aJ 4 (env 38) (env 40) h1) fun v2 h2 =>
 bnd (aK 4 v2 h2) fun v3 h3 =>
 bnd (bN [(aE 0), (.s []), (aE 0), .l0] h3) fun v4 h4 =>
 bnd (aG 4 v4 v3 h4) fun _ h5 =>
 bnd (aK 4 v4 h5) fun v6 h6 =>
 bnd (r 126 [(env 0), v6] h6) fun v7 h7 =>
 bnd (aC 0 v7 h7) fun v8 h8 =>
 bnd (aC 1 v7 h8) fun v9 h9 =>
 bnd (aD .neq v9 (aE 0) h9) fun v10 h10 =>
 aT v10 (
 some (.t [(aE 0), v9], h10)) (
 bnd (aL [(aE 0)] 1 [(0, 1, v8)] h10) fun v11 h11 =>
 bnd (bA 1 8 (env 6) v11 h11) fun v12 h12 =>
 bnd (aD .add (env 40) (aE 1) h12) fun v13 h13 =>
    kk6 (env 0) v12 (env 38) (env 39) v13 h13)) (
      q0 (env 0) (env 6) h1) := by kernel_rfl
theorem bFf (kk6 : cH) : (fun (env : aV) (h : Hp) =>
 bnd (aD .lss (env 40) (env 39) h) fun v1 h1 =>
 aT v1 (
 bnd (aJ 4 (env 38) (env 40) h1) fun v2 h2 =>
 bnd (aK 4 v2 h2) fun v3 h3 =>
 bnd (bN [(aE 0), (.s []), (aE 0), .l0] h3) fun v4 h4 =>
 bnd (aG 4 v4 v3 h4) fun _ h5 =>
 bnd (aK 4 v4 h5) fun v6 h6 =>
 bnd (r 126 [(env 0), v6] h6) fun v7 h7 =>
 bnd (aC 0 v7 h7) fun v8 h8 =>
 bnd (aC 1 v7 h8) fun v9 h9 =>
 bnd (aD .neq v9 (aE 0) h9) fun v10 h10 =>
 aT v10 (
 some (.t [(aE 0), v9], h10)) (
 bnd (aL [(aE 0)] 1 [(0, 1, v8)] h10) fun v11 h11 =>
 bnd (bA 1 8 (env 6) v11 h11) fun v12 h12 =>
 bnd (aD .add (env 40) (aE 1) h12) fun v13 h13 =>
    kk6 (env 0) v12 (env 38) (env 39) v13 h13)) (
      eH r n (env 0) (env 6) h1)) = (K5 (aBn r n kk6) 0 6 38 39 40) := by kernel_rfl
theorem bYk (kk6 : cH) : D126 r n mL (xs x0 1 (K2 (eH r n) 0 6)) (K5 kk6 0 6 38 39 40) = (K5 (aBn r n kk6) 0 6 38 39 40) :=
 (bSd r n kk6 (eH r n)).trans (bFf r n kk6)
theorem bKr (m : Nat) : aO (fun kk => D126 r n mL (xs x0 1 (K2 (eH r n) 0 6)) kk) m = (K5 (uX r n m) 0 6 38 39 40) := by
 induction m with
 | zero => exact (by kernel_rfl : aO (fun kk => D126 r n mL (xs x0 1 (K2 (eH r n) 0 6)) kk) 0 = (K5 (uX r n 0) 0 6 38 39 40))
 | succ m ih =>
  refine (by kernel_rfl : aO (fun kk => D126 r n mL (xs x0 1 (K2 (eH r n) 0 6)) kk) (m + 1) = D126 r n mL (xs x0 1 (K2 (eH r n) 0 6)) (aO (fun kk => D126 r n mL (xs x0 1 (K2 (eH r n) 0 6)) kk) m)).trans ?_
  rw [ih]
  exact (bYk r n (uX r n m)).trans (by kernel_rfl)
theorem cJr : D126 r n aIr (xs x0 1 (K2 (eH r n) 0 6)) (K2 (eH r n) 0 6) = (K5 (bJb r n) 0 6 38 39 40) :=
 (by kernel_rfl : D126 r n aIr (xs x0 1 (K2 (eH r n) 0 6)) (K2 (eH r n) 0 6) = aO (fun kk => D126 r n mL (xs x0 1 (K2 (eH r n) 0 6)) kk) n).trans ((bKr r n n).trans (by kernel_rfl))
theorem cNo : D126 r n aQr x0 (K2 (eH r n) 0 6) = (K5 (aTc r n) 0 6 38 39 40) :=
 (by kernel_rfl : D126 r n aQr x0 (K2 (eH r n) 0 6) = D126 r n aIr (xs x0 1 (K2 (eH r n) 0 6)) (K2 (eH r n) 0 6)).trans
 ((cJr r n).trans (by kernel_rfl))
theorem bTn : D126 r n aIh x0 r126 = D126 r n xB x0 (K2 (eH r n) 0 6) :=
 congrArg (fun k => D126 r n xB x0 k) (cCd r n)
theorem bXu : D126 r n xB x0 (K2 (eH r n) 0 6) = D126 r n bSg x0 (K5 (aTc r n) 0 6 38 39 40) :=
 congrArg (fun k => D126 r n bSg x0 k) (cNo r n)
theorem cCj : D126 r n aIh x0 r126 = (K3 (aQa r n) 0 3 6) :=
 (bTn r n).trans
 ((bXu r n).trans
 ((by kernel_rfl)))
theorem bTw : D126 r n aKq x0 r126 = D126 r n aVn x0 (K3 (aQa r n) 0 3 6) :=
 congrArg (fun k => D126 r n aVn x0 k) (cCj r n)
theorem cDw : D126 r n aKq x0 r126 = (K2 (aTn r n) 0 3) :=
 (bTw r n).trans
 ((by kernel_rfl))
theorem bOy : D126 r n aCu x0 r126 = D126 r n aVl x0 (K2 (aTn r n) 0 3) :=
 congrArg (fun k => D126 r n aVl x0 k) (cDw r n)
theorem cPs : D126 r n aCu x0 r126 = (K2 (xI r n) 0 3) :=
 (bOy r n).trans
 ((by kernel_rfl))
theorem cTm : D126 r n c126 x0 r126 = D126 r n aEi x0 (K2 (xI r n) 0 3) :=
 congrArg (fun k => D126 r n aEi x0 k) (cPs r n)
theorem cUs (q0 : pB) : D126 r n aEi x0 (K2 q0 0 3) = fun (env : aV) (h : Hp) =>
 bnd (bO (env 1) h) fun v1 h1 =>
  q0 (env 0) v1 h1 := by kernel_rfl
theorem cNa : (fun (env : aV) (h : Hp) =>
 bnd (bO (env 1) h) fun v1 h1 =>
  xI r n (env 0) v1 h1) = (K2 (s126 r n) 0 1) := by kernel_rfl
theorem dJx : D126 r n c126 x0 r126 = (K2 (s126 r n) 0 1) :=
 (cTm r n).trans
 ((cUs r n (xI r n)).trans (cNa r n))
theorem dEx : aF CF r n 126 args h = s126 r n (aU args 0) (aU args 1) h :=
 (by kernel_rfl : aF CF r n 126 args h = D126 r n c126 x0 r126 (aI args) h).trans ((congrFun (congrFun (dJx r n) (aI args)) h).trans (by kernel_rfl))
noncomputable def eC (r : RT) (n : Nat) (x4 : DV) (h0 : Hp) : aH :=
 some (.t [x4, (aE 0)], h0)
noncomputable def aDz (r : RT) (n : Nat) (kk6 : dN) (x4 x10 x11 x12 : DV) (h0 : Hp) : aH :=
 bnd (aD .lss x12 x11 h0) fun v1 h1 =>
 aT v1 (
 bnd (aJ 3 x10 x12 h1) fun v2 h2 =>
 bnd (aK 3 v2 h2) fun v3 h3 =>
 bnd (bN [(aE 0), (aE 0), (aE 0)] h3) fun v4 h4 =>
 bnd (aG 3 v4 v3 h4) fun _ h5 =>
 bnd (aK 3 v4 h5) fun v6 h6 =>
 bnd (r 124 [v6] h6) fun v7 h7 =>
 bnd (gQ .not v7 h7) fun v8 h8 =>
 aT v8 (
 some (.t [.l0, (aE 19)], h8)) (
 bnd (aB 0 v4 h8) fun v9 h9 =>
 bnd (aA v9 h9) fun v10 h10 =>
 bnd (eG .u8 v10 h10) fun v11 h11 =>
 bnd (aB 1 v4 h11) fun v12 h12 =>
 bnd (aA v12 h12) fun v13 h13 =>
 bnd (eG .u8 v13 h13) fun v14 h14 =>
 bnd (aB 2 v4 h14) fun v15 h15 =>
 bnd (aA v15 h15) fun v16 h16 =>
 bnd (eG .u8 v16 h16) fun v17 h17 =>
 bnd (aL [(.i .u8 (Int.ofNat 0)), (.i .u8 (Int.ofNat 0)), (.i .u8 (Int.ofNat 0))] 3 [(0, 1, v11), (1, 1, v14), (2, 1, v17)] h17) fun v18 h18 =>
 bnd (bA 1 1 x4 v18 h18) fun v19 h19 =>
 bnd (aD .add x12 (aE 1) h19) fun v20 h20 =>
    kk6 v19 x10 x11 v20 h20)) (
      eC r n x4 h1)
noncomputable def sZ (r : RT) (n : Nat) (m : Nat) : dN :=
 Nat.rec (motive := fun _ => dN) (fun _ _ _ _ _ => none) (fun _ ih => aDz r n ih) m
noncomputable def bRp (r : RT) (n : Nat) : dN := sZ r n n
noncomputable def aSx (r : RT) (n : Nat) (x4 x10 x11 x12 : DV) (h0 : Hp) : aH :=
 bRp r n x4 x10 x11 x12 h0
noncomputable def aSi (r : RT) (n : Nat) (x0 x4 : DV) (h0 : Hp) : aH :=
 bnd (cA x0 h0) fun v1 h1 =>
  aSx r n x4 x0 v1 (aE 0) h1
noncomputable def aTz (r : RT) (n : Nat) (x0 : DV) (h0 : Hp) : aH :=
 aSi r n x0 .l0 h0
noncomputable def aPt (r : RT) (n : Nat) (x0 : DV) (h0 : Hp) : aH :=
 bnd (cA x0 h0) fun v1 h1 =>
 bnd (aD .gtr v1 (aE 400) h1) fun v2 h2 =>
 aT v2 (
 some (.t [.l0, (aE 19)], h2)) (
  aTz r n x0 h2)
noncomputable def s127 (r : RT) (n : Nat) (x0 : DV) (h0 : Hp) : aH :=
 aPt r n x0 h0
noncomputable abbrev c127 : Code := cf Tryz.f127
noncomputable abbrev aCo : Code := cR c127
noncomputable abbrev aEq : Code := cR aCo
noncomputable abbrev aGt : Code := cR aEq
noncomputable abbrev dDe : Code := cR aGt
noncomputable abbrev yI : Code := cL aGt
noncomputable abbrev aOs : Code := cR yI
noncomputable abbrev aGp : Code := cL aOs
noncomputable abbrev mN : Code := cL aGp
noncomputable abbrev bIq : Code := cL yI
noncomputable abbrev aZn : Code := cL aEq
noncomputable abbrev bAx : Code := cL aCo
noncomputable abbrev aVg : Code := cL c127
noncomputable abbrev r127 : K := aR CF Tryz.f127
noncomputable def D127 (r : RT) (n : Nat) (c : Code) (X : Nat → K) (k : K) : K := aM CF r 33 n c X r127 k
theorem cLm : D127 r n dDe x0 r127 = (K1 (eC r n) 4) :=
 (by kernel_rfl)
theorem bPt (kk6 : dN) (q0 : TT1) : D127 r n mN (xs x0 0 (K1 q0 4)) (K4 kk6 4 10 11 12) = fun (env : aV) (h : Hp) =>
 bnd (aD .lss (env 12) (env 11) h) fun v1 h1 =>
 aT v1 (
 bnd (aJ 3 (env 10) (env 12) h1) fun v2 h2 =>
 bnd (aK 3 v2 h2) fun v3 h3 =>
 bnd (bN [(aE 0), (aE 0), (aE 0)] h3) fun v4 h4 =>
 bnd (aG 3 v4 v3 h4) fun _ h5 =>
 bnd (aK 3 v4 h5) fun v6 h6 =>
 bnd (r 124 [v6] h6) fun v7 h7 =>
 bnd (gQ .not v7 h7) fun v8 h8 =>
 aT v8 (
 some (.t [.l0, (aE 19)], h8)) (
 bnd (aB 0 v4 h8) fun v9 h9 =>
 bnd (aA v9 h9) fun v10 h10 =>
 bnd (eG .u8 v10 h10) fun v11 h11 =>
 bnd (aB 1 v4 h11) fun v12 h12 =>
 bnd (aA v12 h12) fun v13 h13 =>
 bnd (eG .u8 v13 h13) fun v14 h14 =>
 bnd (aB 2 v4 h14) fun v15 h15 =>
 bnd (aA v15 h15) fun v16 h16 =>
 bnd (eG .u8 v16 h16) fun v17 h17 =>
 bnd (aL [(.i .u8 (Int.ofNat 0)), (.i .u8 (Int.ofNat 0)), (.i .u8 (Int.ofNat 0))] 3 [(0, 1, v11), (1, 1, v14), (2, 1, v17)] h17) fun v18 h18 =>
 bnd (bA 1 1 (env 4) v18 h18) fun v19 h19 =>
 bnd (aD .add (env 12) (aE 1) h19) fun v20 h20 =>
    kk6 v19 (env 10) (env 11) v20 h20)) (
      q0 (env 4) h1) := by kernel_rfl
theorem bGm (kk6 : dN) : (fun (env : aV) (h : Hp) =>
 bnd (aD .lss (env 12) (env 11) h) fun v1 h1 =>
 aT v1 (
 bnd (aJ 3 (env 10) (env 12) h1) fun v2 h2 =>
 bnd (aK 3 v2 h2) fun v3 h3 =>
 bnd (bN [(aE 0), (aE 0), (aE 0)] h3) fun v4 h4 =>
 bnd (aG 3 v4 v3 h4) fun _ h5 =>
 bnd (aK 3 v4 h5) fun v6 h6 =>
 bnd (r 124 [v6] h6) fun v7 h7 =>
 bnd (gQ .not v7 h7) fun v8 h8 =>
 aT v8 (
 some (.t [.l0, (aE 19)], h8)) (
 bnd (aB 0 v4 h8) fun v9 h9 =>
 bnd (aA v9 h9) fun v10 h10 =>
 bnd (eG .u8 v10 h10) fun v11 h11 =>
 bnd (aB 1 v4 h11) fun v12 h12 =>
 bnd (aA v12 h12) fun v13 h13 =>
 bnd (eG .u8 v13 h13) fun v14 h14 =>
 bnd (aB 2 v4 h14) fun v15 h15 =>
 bnd (aA v15 h15) fun v16 h16 =>
 bnd (eG .u8 v16 h16) fun v17 h17 =>
 bnd (aL [(.i .u8 (Int.ofNat 0)), (.i .u8 (Int.ofNat 0)), (.i .u8 (Int.ofNat 0))] 3 [(0, 1, v11), (1, 1, v14), (2, 1, v17)] h17) fun v18 h18 =>
 bnd (bA 1 1 (env 4) v18 h18) fun v19 h19 =>
 bnd (aD .add (env 12) (aE 1) h19) fun v20 h20 =>
    kk6 v19 (env 10) (env 11) v20 h20)) (
      eC r n (env 4) h1)) = (K4 (aDz r n kk6) 4 10 11 12) := by kernel_rfl
theorem bIy (kk6 : dN) : D127 r n mN (xs x0 0 (K1 (eC r n) 4)) (K4 kk6 4 10 11 12) = (K4 (aDz r n kk6) 4 10 11 12) :=
 (bPt r n kk6 (eC r n)).trans (bGm r n kk6)
theorem bWc (m : Nat) : aO (fun kk => D127 r n mN (xs x0 0 (K1 (eC r n) 4)) kk) m = (K4 (sZ r n m) 4 10 11 12) := by
 induction m with
 | zero => exact (by kernel_rfl : aO (fun kk => D127 r n mN (xs x0 0 (K1 (eC r n) 4)) kk) 0 = (K4 (sZ r n 0) 4 10 11 12))
 | succ m ih =>
  refine (by kernel_rfl : aO (fun kk => D127 r n mN (xs x0 0 (K1 (eC r n) 4)) kk) (m + 1) = D127 r n mN (xs x0 0 (K1 (eC r n) 4)) (aO (fun kk => D127 r n mN (xs x0 0 (K1 (eC r n) 4)) kk) m)).trans ?_
  rw [ih]
  exact (bIy r n (sZ r n m)).trans (by kernel_rfl)
theorem cMt : D127 r n aGp (xs x0 0 (K1 (eC r n) 4)) (K1 (eC r n) 4) = (K4 (bRp r n) 4 10 11 12) :=
 (by kernel_rfl : D127 r n aGp (xs x0 0 (K1 (eC r n) 4)) (K1 (eC r n) 4) = aO (fun kk => D127 r n mN (xs x0 0 (K1 (eC r n) 4)) kk) n).trans ((bWc r n n).trans (by kernel_rfl))
theorem cFq : D127 r n aOs x0 (K1 (eC r n) 4) = (K4 (aSx r n) 4 10 11 12) :=
 (by kernel_rfl : D127 r n aOs x0 (K1 (eC r n) 4) = D127 r n aGp (xs x0 0 (K1 (eC r n) 4)) (K1 (eC r n) 4)).trans
 ((cMt r n).trans (by kernel_rfl))
theorem bSj : D127 r n aGt x0 r127 = D127 r n yI x0 (K1 (eC r n) 4) :=
 congrArg (fun k => D127 r n yI x0 k) (cLm r n)
theorem bZy : D127 r n yI x0 (K1 (eC r n) 4) = D127 r n bIq x0 (K4 (aSx r n) 4 10 11 12) :=
 congrArg (fun k => D127 r n bIq x0 k) (cFq r n)
theorem cJh : D127 r n aGt x0 r127 = (K2 (aSi r n) 0 4) :=
 (bSj r n).trans
 ((bZy r n).trans
 ((by kernel_rfl)))
theorem bVu : D127 r n aEq x0 r127 = D127 r n aZn x0 (K2 (aSi r n) 0 4) :=
 congrArg (fun k => D127 r n aZn x0 k) (cJh r n)
theorem cFm : D127 r n aEq x0 r127 = (K1 (aTz r n) 0) :=
 (bVu r n).trans
 ((by kernel_rfl))
theorem cAi : D127 r n aCo x0 r127 = D127 r n bAx x0 (K1 (aTz r n) 0) :=
 congrArg (fun k => D127 r n bAx x0 k) (cFm r n)
theorem cPe : D127 r n aCo x0 r127 = (K1 (aPt r n) 0) :=
 (cAi r n).trans
 ((by kernel_rfl))
theorem dBi : D127 r n c127 x0 r127 = D127 r n aVg x0 (K1 (aPt r n) 0) :=
 congrArg (fun k => D127 r n aVg x0 k) (cPe r n)
theorem dGj : D127 r n c127 x0 r127 = (K1 (s127 r n) 0) :=
 (dBi r n).trans
 ((by kernel_rfl))
theorem dEm : aF CF r n 127 args h = s127 r n (aU args 0) h :=
 (by kernel_rfl : aF CF r n 127 args h = D127 r n c127 x0 r127 (aI args) h).trans ((congrFun (congrFun (dGj r n) (aI args)) h).trans (by kernel_rfl))
noncomputable def eV (r : RT) (n : Nat) (x0 x6 : DV) (h0 : Hp) : aH :=
 bnd (r 46 [x0, x6] h0) fun v1 h1 =>
 bnd (aC 0 v1 h1) fun v2 h2 =>
 bnd (aC 1 v1 h2) fun v3 h3 =>
 some (.t [v2, v3], h3)
noncomputable def aEr (r : RT) (n : Nat) (kk4 : mF) (x0 x1 x6 : DV) (h0 : Hp) : aH :=
 bnd (cA x1 h0) fun v1 h1 =>
 bnd (aD .gtr v1 (aE 0) h1) fun v2 h2 =>
 aT v2 (
 bnd (cA x1 h2) fun v3 h3 =>
 bnd (aNy v3 (aE 240) h3) fun v4 h4 =>
 bnd (r 30 [x0, (aE 10)] h4) fun v5 h5 =>
 bnd (cT 1 x1 none (some v4) h5) fun v6 h6 =>
 cnd (bG (cT 1 x1 none (some v4) h4) v6 && true) (
 bnd (hU v6 h6) fun v7 h7 =>
 cnd (bG (hU v6 h4) v7 && true) (
 bnd (r 83 [x0, v5, v7] h7) fun v8 h8 =>
 bnd (aC 0 v8 h8) fun v9 h9 =>
 bnd (aC 1 v8 h9) fun v10 h10 =>
 bnd (aD .neq v10 (aE 0) h10) fun v11 h11 =>
 aT v11 (
 some (.t [(aE 0), v10], h11)) (
 bnd (bJ (bX 0 h11.next) [(aE 0)] 1 [(0, 1, v9)] (resv 1 h11)) fun v12 h12 =>
 bnd (bA 1 8 x6 v12 h12) fun v13 h13 =>
 bnd (cT 1 x1 (some v4) none h13) fun v14 h14 =>
 cnd (bG (cT 1 x1 (some v4) none (resv 1 h11)) v14 && true) (
    kk4 x0 v14 v13 h14))))) (
      eV r n x0 x6 h2)
noncomputable def vE (r : RT) (n : Nat) (m : Nat) : mF :=
 Nat.rec (motive := fun _ => mF) (fun _ _ _ _ => none) (fun _ ih => aEr r n ih) m
noncomputable def bWl (r : RT) (n : Nat) : mF := vE r n n
noncomputable def aUe (r : RT) (n : Nat) (x0 x1 x6 : DV) (h0 : Hp) : aH :=
 bWl r n x0 x1 x6 h0
noncomputable def aSn (r : RT) (n : Nat) (x0 x1 : DV) (h0 : Hp) : aH :=
 aUe r n x0 x1 .l0 h0
noncomputable def s128 (r : RT) (n : Nat) (x0 x1 : DV) (h0 : Hp) : aH :=
 aSn r n x0 x1 h0
noncomputable abbrev c128 : Code := cf Tryz.f128
noncomputable abbrev aFm : Code := cR c128
noncomputable abbrev aJj : Code := cR aFm
noncomputable abbrev cZu : Code := cR aJj
noncomputable abbrev aJb : Code := cL aJj
noncomputable abbrev aKl : Code := cL aJb
noncomputable abbrev mS : Code := cL aKl
noncomputable abbrev bRx : Code := cL aFm
noncomputable abbrev bQq : Code := cL c128
noncomputable abbrev r128 : K := aR CF Tryz.f128
noncomputable def D128 (r : RT) (n : Nat) (c : Code) (X : Nat → K) (k : K) : K := aM CF r 42 n c X r128 k
theorem cEc : D128 r n cZu x0 r128 = (K2 (eV r n) 0 6) :=
 (by kernel_rfl)
theorem bZx (kk4 : mF) (q0 : pB) : D128 r n mS (xs x0 0 (K2 q0 0 6)) (K3 kk4 0 1 6) = fun (env : aV) (h : Hp) =>
 bnd (cA (env 1) h) fun v1 h1 =>
 bnd (aD .gtr v1 (aE 0) h1) fun v2 h2 =>
 aT v2 (
 bnd (cA (env 1) h2) fun v3 h3 =>
 bnd (aNy v3 (aE 240) h3) fun v4 h4 =>
 bnd (r 30 [(env 0), (aE 10)] h4) fun v5 h5 =>
 bnd (cT 1 (env 1) none (some v4) h5) fun v6 h6 =>
 cnd (bG (cT 1 (env 1) none (some v4) h4) v6 && true) (
 bnd (hU v6 h6) fun v7 h7 =>
 cnd (bG (hU v6 h4) v7 && true) (
 bnd (r 83 [(env 0), v5, v7] h7) fun v8 h8 =>
 bnd (aC 0 v8 h8) fun v9 h9 =>
 bnd (aC 1 v8 h9) fun v10 h10 =>
 bnd (aD .neq v10 (aE 0) h10) fun v11 h11 =>
 aT v11 (
 some (.t [(aE 0), v10], h11)) (
 bnd (bJ (bX 0 h11.next) [(aE 0)] 1 [(0, 1, v9)] (resv 1 h11)) fun v12 h12 =>
 bnd (bA 1 8 (env 6) v12 h12) fun v13 h13 =>
 bnd (cT 1 (env 1) (some v4) none h13) fun v14 h14 =>
 cnd (bG (cT 1 (env 1) (some v4) none (resv 1 h11)) v14 && true) (
    kk4 (env 0) v14 v13 h14))))) (
      q0 (env 0) (env 6) h2) := by kernel_rfl
theorem bDu (kk4 : mF) : (fun (env : aV) (h : Hp) =>
 bnd (cA (env 1) h) fun v1 h1 =>
 bnd (aD .gtr v1 (aE 0) h1) fun v2 h2 =>
 aT v2 (
 bnd (cA (env 1) h2) fun v3 h3 =>
 bnd (aNy v3 (aE 240) h3) fun v4 h4 =>
 bnd (r 30 [(env 0), (aE 10)] h4) fun v5 h5 =>
 bnd (cT 1 (env 1) none (some v4) h5) fun v6 h6 =>
 cnd (bG (cT 1 (env 1) none (some v4) h4) v6 && true) (
 bnd (hU v6 h6) fun v7 h7 =>
 cnd (bG (hU v6 h4) v7 && true) (
 bnd (r 83 [(env 0), v5, v7] h7) fun v8 h8 =>
 bnd (aC 0 v8 h8) fun v9 h9 =>
 bnd (aC 1 v8 h9) fun v10 h10 =>
 bnd (aD .neq v10 (aE 0) h10) fun v11 h11 =>
 aT v11 (
 some (.t [(aE 0), v10], h11)) (
 bnd (bJ (bX 0 h11.next) [(aE 0)] 1 [(0, 1, v9)] (resv 1 h11)) fun v12 h12 =>
 bnd (bA 1 8 (env 6) v12 h12) fun v13 h13 =>
 bnd (cT 1 (env 1) (some v4) none h13) fun v14 h14 =>
 cnd (bG (cT 1 (env 1) (some v4) none (resv 1 h11)) v14 && true) (
    kk4 (env 0) v14 v13 h14))))) (
      eV r n (env 0) (env 6) h2)) = (K3 (aEr r n kk4) 0 1 6) := by kernel_rfl
theorem bSt (kk4 : mF) : D128 r n mS (xs x0 0 (K2 (eV r n) 0 6)) (K3 kk4 0 1 6) = (K3 (aEr r n kk4) 0 1 6) :=
 (bZx r n kk4 (eV r n)).trans (bDu r n kk4)
theorem bPn (m : Nat) : aO (fun kk => D128 r n mS (xs x0 0 (K2 (eV r n) 0 6)) kk) m = (K3 (vE r n m) 0 1 6) := by
 induction m with
 | zero => exact (by kernel_rfl : aO (fun kk => D128 r n mS (xs x0 0 (K2 (eV r n) 0 6)) kk) 0 = (K3 (vE r n 0) 0 1 6))
 | succ m ih =>
  refine (by kernel_rfl : aO (fun kk => D128 r n mS (xs x0 0 (K2 (eV r n) 0 6)) kk) (m + 1) = D128 r n mS (xs x0 0 (K2 (eV r n) 0 6)) (aO (fun kk => D128 r n mS (xs x0 0 (K2 (eV r n) 0 6)) kk) m)).trans ?_
  rw [ih]
  exact (bSt r n (vE r n m)).trans (by kernel_rfl)
theorem cLf : D128 r n aKl (xs x0 0 (K2 (eV r n) 0 6)) (K2 (eV r n) 0 6) = (K3 (bWl r n) 0 1 6) :=
 (by kernel_rfl : D128 r n aKl (xs x0 0 (K2 (eV r n) 0 6)) (K2 (eV r n) 0 6) = aO (fun kk => D128 r n mS (xs x0 0 (K2 (eV r n) 0 6)) kk) n).trans ((bPn r n n).trans (by kernel_rfl))
theorem bKu : D128 r n aJj x0 r128 = D128 r n aJb x0 (K2 (eV r n) 0 6) :=
 congrArg (fun k => D128 r n aJb x0 k) (cEc r n)
theorem cIf : D128 r n aJj x0 r128 = (K3 (aUe r n) 0 1 6) :=
 (bKu r n).trans
 ((by kernel_rfl : D128 r n aJb x0 (K2 (eV r n) 0 6) = D128 r n aKl (xs x0 0 (K2 (eV r n) 0 6)) (K2 (eV r n) 0 6)).trans
 ((cLf r n).trans (by kernel_rfl)))
theorem bLk : D128 r n aFm x0 r128 = D128 r n bRx x0 (K3 (aUe r n) 0 1 6) :=
 congrArg (fun k => D128 r n bRx x0 k) (cIf r n)
theorem cPh : D128 r n aFm x0 r128 = (K2 (aSn r n) 0 1) :=
 (bLk r n).trans
 ((by kernel_rfl))
theorem dEc : D128 r n c128 x0 r128 = D128 r n bQq x0 (K2 (aSn r n) 0 1) :=
 congrArg (fun k => D128 r n bQq x0 k) (cPh r n)
theorem dFp : D128 r n c128 x0 r128 = (K2 (s128 r n) 0 1) :=
 (dEc r n).trans
 ((by kernel_rfl))
theorem cXf : aF CF r n 128 args h = s128 r n (aU args 0) (aU args 1) h :=
 (by kernel_rfl : aF CF r n 128 args h = D128 r n c128 x0 r128 (aI args) h).trans ((congrFun (congrFun (dFp r n) (aI args)) h).trans (by kernel_rfl))
noncomputable def fR (r : RT) (n : Nat) (x0 x7 : DV) (h0 : Hp) : aH :=
 bnd (aN x0 h0) fun v1 h1 =>
 bnd (aB 0 v1 h1) fun v2 h2 =>
 bnd (aA v2 h2) fun v3 h3 =>
 bnd (aN x0 h3) fun v4 h4 =>
 bnd (aB 1 v4 h4) fun v5 h5 =>
 bnd (aA v5 h5) fun v6 h6 =>
 bnd (fG v3 (some x7) (some v6) h6) fun v7 h7 =>
 some (v7, h7)
noncomputable def aUw (r : RT) (n : Nat) (kk4 : dN) (x0 x1 x2 x7 : DV) (h0 : Hp) : aH :=
 bnd (aN x0 h0) fun v1 h1 =>
 bnd (aB 1 v1 h1) fun v2 h2 =>
 bnd (aA v2 h2) fun v3 h3 =>
 bnd (aN x0 h3) fun v4 h4 =>
 bnd (aB 0 v4 h4) fun v5 h5 =>
 bnd (aA v5 h5) fun v6 h6 =>
 bnd (dW v6 h6) fun v7 h7 =>
 bnd (aD .lss v3 v7 h7) fun v8 h8 =>
 bnd (gD v8 true (some (x0, h8)) h8) fun v9 h9 =>
 bnd (gD v8 true (aN v9 h9) h9) fun v10 h10 =>
 bnd (gD v8 true (aB 1 v10 h10) h10) fun v11 h11 =>
 bnd (gD v8 true (aA v11 h11) h11) fun v12 h12 =>
 bnd (gD v8 true (some (x7, h12)) h12) fun v13 h13 =>
 bnd (gD v8 true (aD .sub v12 v13 h13) h13) fun v14 h14 =>
 bnd (gD v8 true (some (x2, h14)) h14) fun v15 h15 =>
 bnd (gD v8 true (aD .lss v14 v15 h15) h15) fun v16 h16 =>
 bnd (aP v8 v16 (.b false) h16) fun v17 h17 =>
 bnd (gD v17 true (some (x1, h17)) h17) fun v18 h18 =>
 bnd (gD v17 true (some (x0, h18)) h18) fun v19 h19 =>
 bnd (gD v17 true (aN v19 h19) h19) fun v20 h20 =>
 bnd (gD v17 true (aB 0 v20 h20) h20) fun v21 h21 =>
 bnd (gD v17 true (aA v21 h21) h21) fun v22 h22 =>
 bnd (gD v17 true (some (x0, h22)) h22) fun v23 h23 =>
 bnd (gD v17 true (aN v23 h23) h23) fun v24 h24 =>
 bnd (gD v17 true (aB 1 v24 h24) h24) fun v25 h25 =>
 bnd (gD v17 true (aA v25 h25) h25) fun v26 h26 =>
 bnd (gD v17 true (fK v22 v26 h26) h26) fun v27 h27 =>
 bnd (gD v17 true (cX CF r v18 [v27] h27) h27) fun v28 h28 =>
 bnd (aP v17 v28 (.b false) h28) fun v29 h29 =>
 aT v29 (
 bnd (aN x0 h29) fun v30 h30 =>
 bnd (aB 1 v30 h30) fun v31 h31 =>
 bnd (aA v31 h31) fun v32 h32 =>
 bnd (aD .add v32 (aE 1) h32) fun v33 h33 =>
 bnd (aN x0 h33) fun v34 h34 =>
 bnd (aB 1 v34 h34) fun v35 h35 =>
 bnd (aG 1 v35 v33 h35) fun _ h36 =>
      kk4 x0 x1 x2 x7 h36) (
      fR r n x0 x7 h29)
noncomputable def uI (r : RT) (n : Nat) (m : Nat) : dN :=
 Nat.rec (motive := fun _ => dN) (fun _ _ _ _ _ => none) (fun _ ih => aUw r n ih) m
noncomputable def bVa (r : RT) (n : Nat) : dN := uI r n n
noncomputable def aTo (r : RT) (n : Nat) (x0 x1 x2 x7 : DV) (h0 : Hp) : aH :=
 bVa r n x0 x1 x2 x7 h0
noncomputable def aRq (r : RT) (n : Nat) (x0 x1 x2 : DV) (h0 : Hp) : aH :=
 bnd (aN x0 h0) fun v1 h1 =>
 bnd (aB 1 v1 h1) fun v2 h2 =>
 bnd (aA v2 h2) fun v3 h3 =>
  aTo r n x0 x1 x2 v3 h3
noncomputable def s129 (r : RT) (n : Nat) (x0 x1 x2 : DV) (h0 : Hp) : aH :=
 aRq r n x0 x1 x2 h0
noncomputable abbrev c129 : Code := cf Tryz.f129
noncomputable abbrev aIw : Code := cR c129
noncomputable abbrev aEo : Code := cR aIw
noncomputable abbrev cYm : Code := cR aEo
noncomputable abbrev aFe : Code := cL aEo
noncomputable abbrev aGq : Code := cL aFe
noncomputable abbrev oV : Code := cL aGq
noncomputable abbrev bZg : Code := cL aIw
noncomputable abbrev bVq : Code := cL c129
noncomputable abbrev r129 : K := aR CF Tryz.f129
noncomputable def D129 (r : RT) (n : Nat) (c : Code) (X : Nat → K) (k : K) : K := aM CF r 62 n c X r129 k
theorem cKj : D129 r n cYm x0 r129 = (K2 (fR r n) 0 7) :=
 (by kernel_rfl)
theorem bMw (kk4 : dN) : D129 r n oV (xs x0 0 (K2 (fR r n) 0 7)) (K4 kk4 0 1 2 7) = (K4 (aUw r n kk4) 0 1 2 7) :=
 (by kernel_rfl)
theorem bTh (m : Nat) : aO (fun kk => D129 r n oV (xs x0 0 (K2 (fR r n) 0 7)) kk) m = (K4 (uI r n m) 0 1 2 7) := by
 induction m with
 | zero => exact (by kernel_rfl : aO (fun kk => D129 r n oV (xs x0 0 (K2 (fR r n) 0 7)) kk) 0 = (K4 (uI r n 0) 0 1 2 7))
 | succ m ih =>
  refine (by kernel_rfl : aO (fun kk => D129 r n oV (xs x0 0 (K2 (fR r n) 0 7)) kk) (m + 1) = D129 r n oV (xs x0 0 (K2 (fR r n) 0 7)) (aO (fun kk => D129 r n oV (xs x0 0 (K2 (fR r n) 0 7)) kk) m)).trans ?_
  rw [ih]
  exact (bMw r n (uI r n m)).trans (by kernel_rfl)
theorem cQw : D129 r n aGq (xs x0 0 (K2 (fR r n) 0 7)) (K2 (fR r n) 0 7) = (K4 (bVa r n) 0 1 2 7) :=
 (by kernel_rfl : D129 r n aGq (xs x0 0 (K2 (fR r n) 0 7)) (K2 (fR r n) 0 7) = aO (fun kk => D129 r n oV (xs x0 0 (K2 (fR r n) 0 7)) kk) n).trans ((bTh r n n).trans (by kernel_rfl))
theorem bIz : D129 r n aEo x0 r129 = D129 r n aFe x0 (K2 (fR r n) 0 7) :=
 congrArg (fun k => D129 r n aFe x0 k) (cKj r n)
theorem cMq : D129 r n aEo x0 r129 = (K4 (aTo r n) 0 1 2 7) :=
 (bIz r n).trans
 ((by kernel_rfl : D129 r n aFe x0 (K2 (fR r n) 0 7) = D129 r n aGq (xs x0 0 (K2 (fR r n) 0 7)) (K2 (fR r n) 0 7)).trans
 ((cQw r n).trans (by kernel_rfl)))
theorem bGy : D129 r n aIw x0 r129 = D129 r n bZg x0 (K4 (aTo r n) 0 1 2 7) :=
 congrArg (fun k => D129 r n bZg x0 k) (cMq r n)
theorem cBp : D129 r n aIw x0 r129 = (K3 (aRq r n) 0 1 2) :=
 (bGy r n).trans
 ((by kernel_rfl))
theorem cTw : D129 r n c129 x0 r129 = D129 r n bVq x0 (K3 (aRq r n) 0 1 2) :=
 congrArg (fun k => D129 r n bVq x0 k) (cBp r n)
theorem dLg : D129 r n c129 x0 r129 = (K3 (s129 r n) 0 1 2) :=
 (cTw r n).trans
 ((by kernel_rfl))
theorem cTr : aF CF r n 129 args h = s129 r n (aU args 0) (aU args 1) (aU args 2) h :=
 (by kernel_rfl : aF CF r n 129 args h = D129 r n c129 x0 r129 (aI args) h).trans ((congrFun (congrFun (dLg r n) (aI args)) h).trans (by kernel_rfl))
noncomputable def s130 (r : RT) (n : Nat) (x0 : DV) (h0 : Hp) : aH :=
 bnd (bO x0 h0) fun v1 h1 =>
 some ((.f 145 [] [v1]), h1)
noncomputable abbrev c130 : Code := cf Tryz.f130
noncomputable abbrev r130 : K := aR CF Tryz.f130
noncomputable def D130 (r : RT) (n : Nat) (c : Code) (X : Nat → K) (k : K) : K := aM CF r 4 n c X r130 k
theorem dHu : D130 r n c130 x0 r130 = (K1 (s130 r n) 0) :=
 (by kernel_rfl)
theorem cWw : aF CF r n 130 args h = s130 r n (aU args 0) h :=
 (by kernel_rfl : aF CF r n 130 args h = D130 r n c130 x0 r130 (aI args) h).trans ((congrFun (congrFun (dHu r n) (aI args)) h).trans (by kernel_rfl))
noncomputable def s131 (r : RT) (n : Nat) (x0 x1 : DV) (h0 : Hp) : aH :=
 bnd (r 146 [x0, x1] h0) fun v1 h1 =>
 some (v1, h1)
noncomputable abbrev c131 : Code := cf Tryz.f131
noncomputable abbrev r131 : K := aR CF Tryz.f131
noncomputable def D131 (r : RT) (n : Nat) (c : Code) (X : Nat → K) (k : K) : K := aM CF r 8 n c X r131 k
theorem dHj : D131 r n c131 x0 r131 = (K2 (s131 r n) 0 1) :=
 (by kernel_rfl)
theorem cTu : aF CF r n 131 args h = s131 r n (aU args 0) (aU args 1) h :=
 (by kernel_rfl : aF CF r n 131 args h = D131 r n c131 x0 r131 (aI args) h).trans ((congrFun (congrFun (dHj r n) (aI args)) h).trans (by kernel_rfl))
end Go.Dd

namespace Go.Dd
open Go.Proofs
variable (r : RT) (n : Nat) (args : List DV) (h : Hp)
noncomputable def iE (r : RT) (n : Nat) (x2 x4 x5 : DV) (h0 : Hp) : aH :=
 bnd (aK 4 x4 h0) fun v1 h1 =>
 bnd (aG 4 x2 v1 h1) fun _ h2 =>
 bnd (aK 4 x2 h2) fun v3 _ =>
 some (.t [v3, x5], h2)
noncomputable def aPo (r : RT) (n : Nat) (x0 x2 x4 x5 x6 : DV) (h0 : Hp) : aH :=
 bnd (r 148 [x6] h0) fun v1 h1 =>
 aT v1 (
 bnd (aB 0 x4 h1) fun v2 h2 =>
 bnd (aG 1 v2 (aE 1) h2) fun _ h3 =>
 bnd (r 149 [x0] h3) fun v4 h4 =>
 bnd (aC 0 v4 h4) fun v5 h5 =>
 bnd (aC 1 v4 h5) fun v6 h6 =>
 bnd (aB 1 x4 h6) fun v7 h7 =>
 bnd (aG 1 v7 v5 h7) fun _ h8 =>
 bnd (aD .eql v6 (aE 0) h8) fun v9 h9 =>
 bnd (gD v9 true (some (x0, h9)) h9) fun v10 h10 =>
 bnd (gD v9 true (r 150 [v10] h10) h10) fun v11 h11 =>
 bnd (aP v9 v11 (.b false) h11) fun v12 h12 =>
 aT v12 (
 bnd (aB 1 x4 h12) fun v13 h13 =>
 bnd (aA v13 h13) fun v14 h14 =>
 bnd (fN .add v14 (.s [58]) h14) fun v15 h15 =>
 bnd (aB 0 x4 h15) fun v16 h16 =>
 bnd (aG 1 v16 (aE 2) h16) fun _ h17 =>
 bnd (aB 1 x4 h17) fun v18 h18 =>
 bnd (aG 1 v18 v15 h18) fun _ h19 =>
      iE r n x2 x4 v6 h19) (
      iE r n x2 x4 v6 h12)) (
 bnd (r 151 [x6] h1) fun v20 h20 =>
 aT v20 (
 bnd (aB 0 x4 h20) fun v21 h21 =>
 bnd (aG 1 v21 (aE 4) h21) fun _ h22 =>
 bnd (r 152 [x0] h22) fun v23 h23 =>
 bnd (aC 0 v23 h23) fun v24 h24 =>
 bnd (aC 1 v23 h24) fun v25 h25 =>
 bnd (aB 2 x4 h25) fun v26 h26 =>
 bnd (aG 1 v26 v24 h26) fun _ h27 =>
      iE r n x2 x4 v25 h27) (
 bnd (aD .eql x6 (.i .u8 (Int.ofNat 39)) h20) fun v28 h28 =>
 aT v28 (
 bnd (aN x0 h28) fun v29 h29 =>
 bnd (aB 1 v29 h29) fun v30 h30 =>
 bnd (aA v30 h30) fun v31 h31 =>
 bnd (aD .add v31 (aE 1) h31) fun v32 h32 =>
 bnd (aN x0 h32) fun v33 h33 =>
 bnd (aB 1 v33 h33) fun v34 h34 =>
 bnd (aG 1 v34 v32 h34) fun _ h35 =>
 bnd (aB 0 x4 h35) fun v36 h36 =>
 bnd (aG 1 v36 (aE 5) h36) fun _ h37 =>
 bnd (r 153 [x0] h37) fun v38 h38 =>
 bnd (aC 0 v38 h38) fun v39 h39 =>
 bnd (aC 1 v38 h39) fun v40 h40 =>
 bnd (aB 1 x4 h40) fun v41 h41 =>
 bnd (aG 1 v41 v39 h41) fun _ h42 =>
    iE r n x2 x4 v40 h42) (
 bnd (aD .eql x6 (.i .u8 (Int.ofNat 35)) h28) fun v43 h43 =>
 bnd (gD v43 true (some (x0, h43)) h43) fun v44 h44 =>
 bnd (gD v43 true (r 147 [v44, (aE 1)] h44) h44) fun v45 h45 =>
 bnd (gD v43 true (aD .eql v45 (.i .u8 (Int.ofNat 40)) h45) h45) fun v46 h46 =>
 bnd (aP v43 v46 (.b false) h46) fun v47 h47 =>
 aT v47 (
 bnd (aN x0 h47) fun v48 h48 =>
 bnd (aB 1 v48 h48) fun v49 h49 =>
 bnd (aA v49 h49) fun v50 h50 =>
 bnd (aD .add v50 (aE 2) h50) fun v51 h51 =>
 bnd (aN x0 h51) fun v52 h52 =>
 bnd (aB 1 v52 h52) fun v53 h53 =>
 bnd (aG 1 v53 v51 h53) fun _ h54 =>
 bnd (aB 0 x4 h54) fun v55 h55 =>
 bnd (aG 1 v55 (aE 7) h55) fun _ h56 =>
     iE r n x2 x4 x5 h56) (
 bnd (aD .eql x6 (.i .u8 (Int.ofNat 35)) h47) fun v57 h57 =>
 aT v57 (
 bnd (aN x0 h57) fun v58 h58 =>
 bnd (aB 1 v58 h58) fun v59 h59 =>
 bnd (aA v59 h59) fun v60 h60 =>
 bnd (aD .add v60 (aE 1) h60) fun v61 h61 =>
 bnd (aN x0 h61) fun v62 h62 =>
 bnd (aB 1 v62 h62) fun v63 h63 =>
 bnd (aG 1 v63 v61 h63) fun _ h64 =>
 bnd (aB 0 x4 h64) fun v65 h65 =>
 bnd (aG 1 v65 (aE 6) h65) fun _ h66 =>
 bnd (r 154 [x0] h66) fun v67 h67 =>
 bnd (aC 0 v67 h67) fun v68 h68 =>
 bnd (aC 1 v67 h68) fun v69 h69 =>
 bnd (aB 1 x4 h69) fun v70 h70 =>
 bnd (aG 1 v70 v68 h70) fun _ h71 =>
      iE r n x2 x4 v69 h71) (
 bnd (aD .eql x6 (.i .u8 (Int.ofNat 58)) h57) fun v72 h72 =>
 bnd (gD v72 true (some (x0, h72)) h72) fun v73 h73 =>
 bnd (gD v72 true (r 147 [v73, (aE 1)] h73) h73) fun v74 h74 =>
 bnd (gD v72 true (aD .eql v74 (.i .u8 (Int.ofNat 61)) h74) h74) fun v75 h75 =>
 bnd (aP v72 v75 (.b false) h75) fun v76 h76 =>
 aT v76 (
 bnd (aN x0 h76) fun v77 h77 =>
 bnd (aB 1 v77 h77) fun v78 h78 =>
 bnd (aA v78 h78) fun v79 h79 =>
 bnd (aD .add v79 (aE 2) h79) fun v80 h80 =>
 bnd (aN x0 h80) fun v81 h81 =>
 bnd (aB 1 v81 h81) fun v82 h82 =>
 bnd (aG 1 v82 v80 h82) fun _ h83 =>
 bnd (aB 0 x4 h83) fun v84 h84 =>
 bnd (aG 1 v84 (aE 9) h84) fun _ h85 =>
       iE r n x2 x4 x5 h85) (
 bnd (aD .eql x6 (.i .u8 (Int.ofNat 58)) h76) fun v86 h86 =>
 bnd (gD v86 true (some (x0, h86)) h86) fun v87 h87 =>
 bnd (gD v86 true (r 147 [v87, (aE 1)] h87) h87) fun v88 h88 =>
 bnd (gD v86 true (r 148 [v88] h88) h88) fun v89 h89 =>
 bnd (aP v86 v89 (.b false) h89) fun v90 h90 =>
 aT v90 (
 bnd (aN x0 h90) fun v91 h91 =>
 bnd (aB 1 v91 h91) fun v92 h92 =>
 bnd (aA v92 h92) fun v93 h93 =>
 bnd (aD .add v93 (aE 1) h93) fun v94 h94 =>
 bnd (aN x0 h94) fun v95 h95 =>
 bnd (aB 1 v95 h95) fun v96 h96 =>
 bnd (aG 1 v96 v94 h96) fun _ h97 =>
 bnd (aB 0 x4 h97) fun v98 h98 =>
 bnd (aG 1 v98 (aE 8) h98) fun _ h99 =>
 bnd (r 149 [x0] h99) fun v100 h100 =>
 bnd (aC 0 v100 h100) fun v101 h101 =>
 bnd (aC 1 v100 h101) fun v102 h102 =>
 bnd (aB 1 x4 h102) fun v103 h103 =>
 bnd (aG 1 v103 v101 h103) fun _ h104 =>
        iE r n x2 x4 v102 h104) (
 bnd (r 130 [(.s [43, 45, 42, 47, 60, 62, 61, 126, 44, 64, 38, 37])] h90) fun v105 h105 =>
 bnd (cX CF r v105 [x6] h105) fun v106 h106 =>
 aT v106 (
 bnd (r 130 [(.s [43, 45, 42, 47, 60, 62, 61, 126, 44, 64, 38, 37])] h106) fun v107 h107 =>
 bnd (r 129 [x0, v107, (aE 2)] h107) fun v108 h108 =>
 bnd (aB 0 x4 h108) fun v109 h109 =>
 bnd (aG 1 v109 (aE 3) h109) fun _ h110 =>
 bnd (aB 1 x4 h110) fun v111 h111 =>
 bnd (aG 1 v111 v108 h111) fun _ h112 =>
         iE r n x2 x4 x5 h112) (
 bnd (r 130 [(.s [94, 46, 59, 40, 41, 91, 93, 124])] h106) fun v113 h113 =>
 bnd (cX CF r v113 [x6] h113) fun v114 h114 =>
 aT v114 (
 bnd (r 130 [(.s [94, 46, 59, 40, 41, 91, 93, 124])] h114) fun v115 h115 =>
 bnd (r 129 [x0, v115, (aE 1)] h115) fun v116 h116 =>
 bnd (aB 0 x4 h116) fun v117 h117 =>
 bnd (aG 1 v117 (aE 10) h117) fun _ h118 =>
 bnd (aB 1 x4 h118) fun v119 h119 =>
 bnd (aG 1 v119 v116 h119) fun _ h120 =>
          iE r n x2 x4 x5 h120) (
          iE r n x2 x4 (aE 10) h114)))))))))
noncomputable def aOj (r : RT) (n : Nat) (x0 x2 x4 x5 : DV) (h0 : Hp) : aH :=
 bnd (r 147 [x0, (aE 0)] h0) fun v1 h1 =>
  aPo r n x0 x2 x4 x5 v1 h1
noncomputable def zT (r : RT) (n : Nat) (x0 x2 x4 : DV) (h0 : Hp) : aH :=
 aOj r n x0 x2 x4 (aE 0) h0
noncomputable def rH (r : RT) (n : Nat) (x0 x2 : DV) (h0 : Hp) : aH :=
 bnd (aN x0 h0) fun v1 h1 =>
 bnd (aB 1 v1 h1) fun v2 h2 =>
 bnd (aA v2 h2) fun v3 h3 =>
 bnd (bB [(aE 0), (.s []), (aE 0), (aE 0)] [(3, 1, v3)] h3) fun v4 h4 =>
 bnd (bN [(aE 0), (.s []), (aE 0), (aE 0)] h4) fun v5 h5 =>
 bnd (aG 4 v5 v4 h5) fun _ h6 =>
  zT r n x0 x2 v5 h6
noncomputable def s132 (r : RT) (n : Nat) (x0 : DV) (h0 : Hp) : aH :=
 bnd (bN [(aE 0), (.s []), (aE 0), (aE 0)] h0) fun v1 h1 =>
  rH r n x0 v1 h1
noncomputable abbrev c132 : Code := cf Tryz.f132
noncomputable abbrev aHd : Code := cR c132
noncomputable abbrev aJv : Code := cR aHd
noncomputable abbrev aDd : Code := cR aJv
noncomputable abbrev aIn : Code := cR aDd
noncomputable abbrev dDn : Code := cR aIn
noncomputable abbrev bJf : Code := cL aIn
noncomputable abbrev bXq : Code := cL aDd
noncomputable abbrev bMy : Code := cL aJv
noncomputable abbrev aUm : Code := cL aHd
noncomputable abbrev aFk : Code := cL c132
noncomputable abbrev r132 : K := aR CF Tryz.f132
noncomputable def D132 (r : RT) (n : Nat) (c : Code) (X : Nat → K) (k : K) : K := aM CF r 153 n c X r132 k
theorem cNe : D132 r n dDn x0 r132 = (K3 (iE r n) 2 4 5) :=
 (by kernel_rfl)
theorem bZq : D132 r n aIn x0 r132 = D132 r n bJf x0 (K3 (iE r n) 2 4 5) :=
 congrArg (fun k => D132 r n bJf x0 k) (cNe r n)
theorem cNd : D132 r n aIn x0 r132 = (K5 (aPo r n) 0 2 4 5 6) :=
 (bZq r n).trans
 ((by kernel_rfl))
theorem bNb : D132 r n aDd x0 r132 = D132 r n bXq x0 (K5 (aPo r n) 0 2 4 5 6) :=
 congrArg (fun k => D132 r n bXq x0 k) (cNd r n)
theorem cLn : D132 r n aDd x0 r132 = (K4 (aOj r n) 0 2 4 5) :=
 (bNb r n).trans
 ((by kernel_rfl))
theorem bHe : D132 r n aJv x0 r132 = D132 r n bMy x0 (K4 (aOj r n) 0 2 4 5) :=
 congrArg (fun k => D132 r n bMy x0 k) (cLn r n)
theorem cIz : D132 r n aJv x0 r132 = (K3 (zT r n) 0 2 4) :=
 (bHe r n).trans
 ((by kernel_rfl))
theorem bJq : D132 r n aHd x0 r132 = D132 r n aUm x0 (K3 (zT r n) 0 2 4) :=
 congrArg (fun k => D132 r n aUm x0 k) (cIz r n)
theorem bJa (q0 : mF) : D132 r n aUm x0 (K3 q0 0 2 4) = fun (env : aV) (h : Hp) =>
 bnd (aN (env 0) h) fun v1 h1 =>
 bnd (aB 1 v1 h1) fun v2 h2 =>
 bnd (aA v2 h2) fun v3 h3 =>
 bnd (bB [(aE 0), (.s []), (aE 0), (aE 0)] [(3, 1, v3)] h3) fun v4 h4 =>
 bnd (bN [(aE 0), (.s []), (aE 0), (aE 0)] h4) fun v5 h5 =>
 bnd (aG 4 v5 v4 h5) fun _ h6 =>
  q0 (env 0) (env 2) v5 h6 := by kernel_rfl
theorem bEv : (fun (env : aV) (h : Hp) =>
 bnd (aN (env 0) h) fun v1 h1 =>
 bnd (aB 1 v1 h1) fun v2 h2 =>
 bnd (aA v2 h2) fun v3 h3 =>
 bnd (bB [(aE 0), (.s []), (aE 0), (aE 0)] [(3, 1, v3)] h3) fun v4 h4 =>
 bnd (bN [(aE 0), (.s []), (aE 0), (aE 0)] h4) fun v5 h5 =>
 bnd (aG 4 v5 v4 h5) fun _ h6 =>
  zT r n (env 0) (env 2) v5 h6) = (K2 (rH r n) 0 2) := by kernel_rfl
theorem cGd : D132 r n aHd x0 r132 = (K2 (rH r n) 0 2) :=
 (bJq r n).trans
 ((bJa r n (zT r n)).trans (bEv r n))
theorem cUi : D132 r n c132 x0 r132 = D132 r n aFk x0 (K2 (rH r n) 0 2) :=
 congrArg (fun k => D132 r n aFk x0 k) (cGd r n)
theorem cUf (q0 : pB) : D132 r n aFk x0 (K2 q0 0 2) = fun (env : aV) (h : Hp) =>
 bnd (bN [(aE 0), (.s []), (aE 0), (aE 0)] h) fun v1 h1 =>
  q0 (env 0) v1 h1 := by kernel_rfl
theorem cQn : (fun (env : aV) (h : Hp) =>
 bnd (bN [(aE 0), (.s []), (aE 0), (aE 0)] h) fun v1 h1 =>
  rH r n (env 0) v1 h1) = (K1 (s132 r n) 0) := by kernel_rfl
theorem dLk : D132 r n c132 x0 r132 = (K1 (s132 r n) 0) :=
 (cUi r n).trans
 ((cUf r n (rH r n)).trans (cQn r n))
theorem cYc : aF CF r n 132 args h = s132 r n (aU args 0) h :=
 (by kernel_rfl : aF CF r n 132 args h = D132 r n c132 x0 r132 (aI args) h).trans ((congrFun (congrFun (dLk r n) (aI args)) h).trans (by kernel_rfl))
noncomputable def s133 (r : RT) (n : Nat) (x0 x1 x2 : DV) (h0 : Hp) : aH :=
 bnd (r 137 [x0, (aE 0)] h0) fun v1 h1 =>
 bnd (bN [(aE 0), (.s []), (aE 0), (aE 0)] h1) fun v2 h2 =>
 bnd (aG 4 v2 v1 h2) fun _ h3 =>
 bnd (aN x0 h3) fun v4 h4 =>
 bnd (aB 3 v4 h4) fun v5 h5 =>
 bnd (aA v5 h5) fun v6 h6 =>
 bnd (aD .eql v6 (aE 0) h6) fun v7 h7 =>
 bnd (gD v7 true (aB 0 v2 h7) h7) fun v8 h8 =>
 bnd (gD v7 true (aA v8 h8) h8) fun v9 h9 =>
 bnd (gD v7 true (some (x1, h9)) h9) fun v10 h10 =>
 bnd (gD v7 true (aD .eql v9 v10 h10) h10) fun v11 h11 =>
 bnd (aP v7 v11 (.b false) h11) fun v12 h12 =>
 bnd (gD v12 true (some (x2, h12)) h12) fun v13 h13 =>
 bnd (gD v12 true (fN .eql v13 (.s []) h13) h13) fun v14 h14 =>
 bnd (gD v12 true (some (v14, h14)) h14) fun v15 h15 =>
 bnd (gD v15 false (aB 1 v2 h15) h15) fun v16 h16 =>
 bnd (gD v15 false (aA v16 h16) h16) fun v17 h17 =>
 bnd (gD v15 false (some (x2, h17)) h17) fun v18 h18 =>
 bnd (gD v15 false (fN .eql v17 v18 h18) h18) fun v19 h19 =>
 bnd (gD v12 true (aP v15 (.b true) v19 h19) h19) fun v20 h20 =>
 bnd (aP v12 v20 (.b false) h20) fun v21 h21 =>
 some (v21, h21)
noncomputable abbrev c133 : Code := cf Tryz.f133
noncomputable abbrev r133 : K := aR CF Tryz.f133
noncomputable def D133 (r : RT) (n : Nat) (c : Code) (X : Nat → K) (k : K) : K := aM CF r 31 n c X r133 k
theorem dFs : D133 r n c133 x0 r133 = (K3 (s133 r n) 0 1 2) :=
 (by kernel_rfl)
theorem dEi : aF CF r n 133 args h = s133 r n (aU args 0) (aU args 1) (aU args 2) h :=
 (by kernel_rfl : aF CF r n 133 args h = D133 r n c133 x0 r133 (aI args) h).trans ((congrFun (congrFun (dFs r n) (aI args)) h).trans (by kernel_rfl))
noncomputable def aHt (r : RT) (n : Nat) (x2 x3 : DV) (h0 : Hp) : aH :=
 bnd (aK 4 x3 h0) fun v1 h1 =>
 bnd (aG 4 x2 v1 h1) fun _ h2 =>
 bnd (aK 4 x2 h2) fun v3 _ =>
 some (v3, h2)
noncomputable def wS (r : RT) (n : Nat) (x0 x2 x3 : DV) (h0 : Hp) : aH :=
 bnd (aB 0 x3 h0) fun v1 h1 =>
 bnd (aA v1 h1) fun v2 h2 =>
 bnd (aD .neq v2 (aE 0) h2) fun v3 h3 =>
 aT v3 (
 bnd (aN x0 h3) fun v4 h4 =>
 bnd (aB 0 v4 h4) fun v5 h5 =>
 bnd (aA v5 h5) fun v6 h6 =>
 bnd (cT 4 v6 (some (aE 1)) none h6) fun v7 h7 =>
 bnd (aN x0 h7) fun v8 h8 =>
 bnd (aB 0 v8 h8) fun v9 h9 =>
 bnd (aG 1 v9 v7 h9) fun _ h10 =>
  aHt r n x2 x3 h10) (
  aHt r n x2 x3 h3)
noncomputable def rJ (r : RT) (n : Nat) (x0 x2 : DV) (h0 : Hp) : aH :=
 bnd (r 137 [x0, (aE 0)] h0) fun v1 h1 =>
 bnd (bN [(aE 0), (.s []), (aE 0), (aE 0)] h1) fun v2 h2 =>
 bnd (aG 4 v2 v1 h2) fun _ h3 =>
  wS r n x0 x2 v2 h3
noncomputable def s134 (r : RT) (n : Nat) (x0 : DV) (h0 : Hp) : aH :=
 bnd (bN [(aE 0), (.s []), (aE 0), (aE 0)] h0) fun v1 h1 =>
  rJ r n x0 v1 h1
noncomputable abbrev c134 : Code := cf Tryz.f134
noncomputable abbrev aBu : Code := cR c134
noncomputable abbrev aIz : Code := cR aBu
noncomputable abbrev dAv : Code := cR aIz
noncomputable abbrev bRn : Code := cL aIz
noncomputable abbrev aSb : Code := cL aBu
noncomputable abbrev aOr : Code := cL c134
noncomputable abbrev r134 : K := aR CF Tryz.f134
noncomputable def D134 (r : RT) (n : Nat) (c : Code) (X : Nat → K) (k : K) : K := aM CF r 18 n c X r134 k
theorem cCh : D134 r n dAv x0 r134 = (K2 (aHt r n) 2 3) :=
 (by kernel_rfl)
theorem bVz : D134 r n aIz x0 r134 = D134 r n bRn x0 (K2 (aHt r n) 2 3) :=
 congrArg (fun k => D134 r n bRn x0 k) (cCh r n)
theorem cLq : D134 r n aIz x0 r134 = (K3 (wS r n) 0 2 3) :=
 (bVz r n).trans
 ((by kernel_rfl))
theorem bVf : D134 r n aBu x0 r134 = D134 r n aSb x0 (K3 (wS r n) 0 2 3) :=
 congrArg (fun k => D134 r n aSb x0 k) (cLq r n)
theorem bIl (q0 : mF) : D134 r n aSb x0 (K3 q0 0 2 3) = fun (env : aV) (h : Hp) =>
 bnd (r 137 [(env 0), (aE 0)] h) fun v1 h1 =>
 bnd (bN [(aE 0), (.s []), (aE 0), (aE 0)] h1) fun v2 h2 =>
 bnd (aG 4 v2 v1 h2) fun _ h3 =>
  q0 (env 0) (env 2) v2 h3 := by kernel_rfl
theorem bEl : (fun (env : aV) (h : Hp) =>
 bnd (r 137 [(env 0), (aE 0)] h) fun v1 h1 =>
 bnd (bN [(aE 0), (.s []), (aE 0), (aE 0)] h1) fun v2 h2 =>
 bnd (aG 4 v2 v1 h2) fun _ h3 =>
  wS r n (env 0) (env 2) v2 h3) = (K2 (rJ r n) 0 2) := by kernel_rfl
theorem cJz : D134 r n aBu x0 r134 = (K2 (rJ r n) 0 2) :=
 (bVf r n).trans
 ((bIl r n (wS r n)).trans (bEl r n))
theorem dAb : D134 r n c134 x0 r134 = D134 r n aOr x0 (K2 (rJ r n) 0 2) :=
 congrArg (fun k => D134 r n aOr x0 k) (cJz r n)
theorem dEb (q0 : pB) : D134 r n aOr x0 (K2 q0 0 2) = fun (env : aV) (h : Hp) =>
 bnd (bN [(aE 0), (.s []), (aE 0), (aE 0)] h) fun v1 h1 =>
  q0 (env 0) v1 h1 := by kernel_rfl
theorem cIn : (fun (env : aV) (h : Hp) =>
 bnd (bN [(aE 0), (.s []), (aE 0), (aE 0)] h) fun v1 h1 =>
  rJ r n (env 0) v1 h1) = (K1 (s134 r n) 0) := by kernel_rfl
theorem dHw : D134 r n c134 x0 r134 = (K1 (s134 r n) 0) :=
 (dAb r n).trans
 ((dEb r n (rJ r n)).trans (cIn r n))
theorem cUm : aF CF r n 134 args h = s134 r n (aU args 0) h :=
 (by kernel_rfl : aF CF r n 134 args h = D134 r n c134 x0 r134 (aI args) h).trans ((congrFun (congrFun (dHw r n) (aI args)) h).trans (by kernel_rfl))
noncomputable def s135 (r : RT) (n : Nat) (x0 : DV) (h0 : Hp) : aH :=
 bnd (bN kM h0) fun v1 h1 =>
 bnd (r 133 [x0, (aE 1), (.s [])] h1) fun v2 h2 =>
 bnd (gD v2 true (some (x0, h2)) h2) fun v3 h3 =>
 bnd (gD v2 true (r 137 [v3, (aE 1)] h3) h3) fun v4 h4 =>
 bnd (gD v2 true (fO 0 v4 h4) h4) fun v5 h5 =>
 bnd (gD v2 true (aD .eql v5 (aE 9) h5) h5) fun v6 h6 =>
 bnd (aP v2 v6 (.b false) h6) fun v7 h7 =>
 aT v7 (
 bnd (r 134 [x0] h7) fun v8 h8 =>
 bnd (fO 1 v8 h8) fun v9 h9 =>
 bnd (bB kM [(0, 1, (aE 6)), (1, 1, v9)] h9) fun v10 h10 =>
 bnd (bN kM h10) fun v11 h11 =>
 bnd (aG 6 v11 v10 h11) fun _ h12 =>
 bnd (r 134 [x0] h12) fun v13 h13 =>
 bnd (r 135 [x0] h13) fun v14 h14 =>
 bnd (aL kM 1 [(0, 6, v14)] h14) fun v15 h15 =>
 bnd (aB 5 v11 h15) fun v16 h16 =>
 bnd (aG 1 v16 v15 h16) fun _ h17 =>
 bnd (aK 6 v11 h17) fun v18 h18 =>
 bnd (aG 6 v1 v18 h18) fun _ h19 =>
 bnd (aK 6 v1 h19) fun v20 _ =>
 some (v20, h19)) (
 bnd (r 155 [x0] h7) fun v21 h21 =>
 bnd (aG 6 v1 v21 h21) fun _ h22 =>
 bnd (aK 6 v1 h22) fun v23 _ =>
 some (v23, h22))
noncomputable abbrev c135 : Code := cf Tryz.f135
noncomputable abbrev r135 : K := aR CF Tryz.f135
noncomputable def D135 (r : RT) (n : Nat) (c : Code) (X : Nat → K) (k : K) : K := aM CF r 25 n c X r135 k
theorem dMw : D135 r n c135 x0 r135 = (K1 (s135 r n) 0) :=
 (by kernel_rfl)
theorem cTh : aF CF r n 135 args h = s135 r n (aU args 0) h :=
 (by kernel_rfl : aF CF r n 135 args h = D135 r n c135 x0 r135 (aI args) h).trans ((congrFun (congrFun (dMw r n) (aI args)) h).trans (by kernel_rfl))
noncomputable def s137 (r : RT) (n : Nat) (x0 x1 : DV) (h0 : Hp) : aH :=
 bnd (bN [(aE 0), (.s []), (aE 0), (aE 0)] h0) fun v1 h1 =>
 bnd (aN x0 h1) fun v2 h2 =>
 bnd (aB 0 v2 h2) fun v3 h3 =>
 bnd (aA v3 h3) fun v4 h4 =>
 bnd (aN x0 h4) fun v5 h5 =>
 bnd (aB 0 v5 h5) fun v6 h6 =>
 bnd (aA v6 h6) fun v7 h7 =>
 bnd (cA v7 h7) fun v8 h8 =>
 bnd (aD .sub v8 (aE 1) h8) fun v9 h9 =>
 bnd (aNy x1 v9 h9) fun v10 h10 =>
 bnd (aJ 4 v4 v10 h10) fun v11 h11 =>
 bnd (aK 4 v11 h11) fun v12 h12 =>
 bnd (aG 4 v1 v12 h12) fun v13 h13 =>
 bnd (aK 4 v1 h13) fun v14 _ =>
 some (v14, h13)
noncomputable abbrev c137 : Code := cf Tryz.f137
noncomputable abbrev r137 : K := aR CF Tryz.f137
noncomputable def D137 (r : RT) (n : Nat) (c : Code) (X : Nat → K) (k : K) : K := aM CF r 19 n c X r137 k
theorem dFh : D137 r n c137 x0 r137 = (K2 (s137 r n) 0 1) :=
 (by kernel_rfl)
theorem dBk : aF CF r n 137 args h = s137 r n (aU args 0) (aU args 1) h :=
 (by kernel_rfl : aF CF r n 137 args h = D137 r n c137 x0 r137 (aI args) h).trans ((congrFun (congrFun (dFh r n) (aI args)) h).trans (by kernel_rfl))
noncomputable def aEd (r : RT) (n : Nat) (x7 : DV) (h0 : Hp) : aH :=
 bnd (aB 1 x7 h0) fun v1 h1 =>
 bnd (aA v1 h1) fun v2 h2 =>
 some (v2, h2)
noncomputable def wL (r : RT) (n : Nat) (x0 x2 x7 : DV) (h0 : Hp) : aH :=
 bnd (cA x2 h0) fun v1 h1 =>
 bnd (aD .eql v1 (aE 4) h1) fun v2 h2 =>
 aT v2 (
 bnd (aK 4 x7 h2) fun v3 h3 =>
 bnd (r 136 [x0, v3, (aE 18)] h3) fun v4 h4 =>
  aEd r n x7 h4) (
  aEd r n x7 h2)
noncomputable def aHo (r : RT) (n : Nat) (x0 x1 x2 : DV) (h0 : Hp) : aH :=
 bnd (r 120 [x0, x1, (.s [])] h0) fun v1 h1 =>
 bnd (bN [(aE 0), (.s []), (aE 0), (aE 0)] h1) fun v2 h2 =>
 bnd (aG 4 v2 v1 h2) fun _ h3 =>
  wL r n x0 x2 v2 h3
noncomputable def s138 (r : RT) (n : Nat) (x0 x1 x2 : DV) (h0 : Hp) : aH :=
 aHo r n x0 x1 x2 h0
noncomputable abbrev c138 : Code := cf Tryz.f138
noncomputable abbrev aFa : Code := cR c138
noncomputable abbrev aHv : Code := cR aFa
noncomputable abbrev dAm : Code := cR aHv
noncomputable abbrev bOm : Code := cL aHv
noncomputable abbrev aTh : Code := cL aFa
noncomputable abbrev bMq : Code := cL c138
noncomputable abbrev r138 : K := aR CF Tryz.f138
noncomputable def D138 (r : RT) (n : Nat) (c : Code) (X : Nat → K) (k : K) : K := aM CF r 19 n c X r138 k
theorem cHr : D138 r n dAm x0 r138 = (K1 (aEd r n) 7) :=
 (by kernel_rfl)
theorem bHb : D138 r n aHv x0 r138 = D138 r n bOm x0 (K1 (aEd r n) 7) :=
 congrArg (fun k => D138 r n bOm x0 k) (cHr r n)
theorem cOz : D138 r n aHv x0 r138 = (K3 (wL r n) 0 2 7) :=
 (bHb r n).trans
 ((by kernel_rfl))
theorem bPc : D138 r n aFa x0 r138 = D138 r n aTh x0 (K3 (wL r n) 0 2 7) :=
 congrArg (fun k => D138 r n aTh x0 k) (cOz r n)
theorem bYv (q0 : mF) : D138 r n aTh x0 (K3 q0 0 2 7) = fun (env : aV) (h : Hp) =>
 bnd (r 120 [(env 0), (env 1), (.s [])] h) fun v1 h1 =>
 bnd (bN [(aE 0), (.s []), (aE 0), (aE 0)] h1) fun v2 h2 =>
 bnd (aG 4 v2 v1 h2) fun _ h3 =>
  q0 (env 0) (env 2) v2 h3 := by kernel_rfl
theorem bEs : (fun (env : aV) (h : Hp) =>
 bnd (r 120 [(env 0), (env 1), (.s [])] h) fun v1 h1 =>
 bnd (bN [(aE 0), (.s []), (aE 0), (aE 0)] h1) fun v2 h2 =>
 bnd (aG 4 v2 v1 h2) fun _ h3 =>
  wL r n (env 0) (env 2) v2 h3) = (K3 (aHo r n) 0 1 2) := by kernel_rfl
theorem cEi : D138 r n aFa x0 r138 = (K3 (aHo r n) 0 1 2) :=
 (bPc r n).trans
 ((bYv r n (wL r n)).trans (bEs r n))
theorem dCo : D138 r n c138 x0 r138 = D138 r n bMq x0 (K3 (aHo r n) 0 1 2) :=
 congrArg (fun k => D138 r n bMq x0 k) (cEi r n)
theorem dGt : D138 r n c138 x0 r138 = (K3 (s138 r n) 0 1 2) :=
 (dCo r n).trans
 ((by kernel_rfl))
theorem dDt : aF CF r n 138 args h = s138 r n (aU args 0) (aU args 1) (aU args 2) h :=
 (by kernel_rfl : aF CF r n 138 args h = D138 r n c138 x0 r138 (aI args) h).trans ((congrFun (congrFun (dGt r n) (aI args)) h).trans (by kernel_rfl))
noncomputable def dH (r : RT) (n : Nat) (kk2 : cH) (x0 x2 x10 x11 x12 : DV) (h0 : Hp) : aH :=
 bnd (aD .add x12 (aE 1) h0) fun v1 h1 =>
  kk2 x0 x2 x10 x11 v1 h1
noncomputable def yJ (r : RT) (n : Nat) (kk2 : cH) (x0 x2 x7 x10 x11 x12 : DV) (h0 : Hp) : aH :=
 bnd (aN x0 h0) fun v1 h1 =>
 bnd (aB 8 v1 h1) fun v2 h2 =>
 bnd (aA v2 h2) fun v3 h3 =>
 bnd (aD .neq v3 (aE 0) h3) fun v4 h4 =>
 aT v4 (
 some (.t [], h4)) (
 bnd (aN x0 (resv 1 h4)) fun v5 h5 =>
 bnd (aB 6 v5 h5) fun v6 h6 =>
 bnd (aA v6 h6) fun v7 h7 =>
 bnd (aN x0 h7) fun v8 h8 =>
 bnd (aB 0 v8 h8) fun v9 h9 =>
 bnd (aB 2 v9 h9) fun v10 h10 =>
 bnd (aA v10 h10) fun v11 h11 =>
 bnd (bB [(.s []), (.b false), (.b false), (aE 0)] [(0, 1, x7), (1, 1, (.b false)), (2, 1, x2), (3, 1, v11)] h11) fun v12 h12 =>
 bnd (bJ (bX 0 h4.next) [(.s []), (.b false), (.b false), (aE 0)] 1 [(0, 4, v12)] h12) fun v13 h13 =>
 bnd (bA 4 32 v7 v13 h13) fun v14 h14 =>
 bnd (aN x0 h14) fun v15 h15 =>
 bnd (aB 6 v15 h15) fun v16 h16 =>
 bnd (aG 1 v16 v14 h16) fun v17 h17 =>
 bnd (aN x0 h17) fun v18 h18 =>
 bnd (aB 0 v18 h18) fun v19 h19 =>
 bnd (aB 2 v19 h19) fun v20 h20 =>
 bnd (aA v20 h20) fun v21 h21 =>
 bnd (aD .add v21 (aE 1) h21) fun v22 h22 =>
 bnd (aN x0 h22) fun v23 h23 =>
 bnd (aB 0 v23 h23) fun v24 h24 =>
 bnd (aB 2 v24 h24) fun v25 h25 =>
 bnd (aG 1 v25 v22 h25) fun _ h26 =>
  dH r n kk2 x0 x2 x10 x11 x12 h26)
noncomputable def oR (r : RT) (n : Nat) (kk2 : cH) (x0 x2 x7 x10 x11 x12 : DV) (h0 : Hp) : aH :=
 bnd (aN x0 h0) fun v1 h1 =>
 bnd (aB 0 v1 h1) fun v2 h2 =>
 bnd (aB 2 v2 h2) fun v3 h3 =>
 bnd (aA v3 h3) fun v4 h4 =>
 bnd (aD .eql v4 (aE 24) h4) fun v5 h5 =>
 aT v5 (
 bnd (r 158 [x0, x7, (aE 18)] h5) fun v6 h6 =>
  yJ r n kk2 x0 x2 x7 x10 x11 x12 h6) (
  yJ r n kk2 x0 x2 x7 x10 x11 x12 h5)
noncomputable def aFg (r : RT) (n : Nat) (kk2 : cH) (x0 x2 x7 x10 x11 x12 : DV) (h0 : Hp) : aH :=
 bnd (r 156 [x0, x7] h0) fun v1 h1 =>
 bnd (aC 0 v1 h1) fun v2 h2 =>
 bnd (aC 1 v1 h2) fun v3 h3 =>
 bnd (bN [(.s []), (.b false), (.b false), (aE 0)] h3) fun v4 h4 =>
 bnd (aG 4 v4 v2 h4) fun _ h5 =>
 bnd (gD v3 false (some (x7, h5)) h5) fun v6 h6 =>
 bnd (gD v3 false (r 157 [v6] h6) h6) fun v7 h7 =>
 bnd (aP v3 (.b true) v7 h7) fun v8 h8 =>
 aT v8 (
 bnd (r 158 [x0, x7, (aE 16)] h8) fun v9 h9 =>
  oR r n kk2 x0 x2 x7 x10 x11 x12 h9) (
  oR r n kk2 x0 x2 x7 x10 x11 x12 h8)
noncomputable def aSc (r : RT) (n : Nat) (kk2 : cH) (x0 x2 x10 x11 x12 : DV) (h0 : Hp) : aH :=
 bnd (aJ 1 x10 x12 h0) fun v1 h1 =>
 bnd (aA v1 h1) fun v2 h2 =>
  aFg r n kk2 x0 x2 v2 x10 x11 x12 h2
noncomputable def aTx (r : RT) (n : Nat) (kk2 : cH) (x0 x2 x10 x11 x12 x13 : DV) (h0 : Hp) : aH :=
 aT x13 (
  aSc r n kk2 x0 x2 x10 x11 x12 h0) (
 some (.t [], h0))
noncomputable def aVc (r : RT) (n : Nat) (kk2 : cH) (x0 x2 x10 x11 x12 : DV) (h0 : Hp) : aH :=
 bnd (aD .lss x12 x11 h0) fun v1 h1 =>
  aTx r n kk2 x0 x2 x10 x11 x12 v1 h1
noncomputable def uY (r : RT) (n : Nat) (m : Nat) : cH :=
 Nat.rec (motive := fun _ => cH) (fun _ _ _ _ _ _ => none) (fun _ ih => aVc r n ih) m
noncomputable def bOt (r : RT) (n : Nat) : cH := uY r n n
noncomputable def aQd (r : RT) (n : Nat) (x0 x2 x10 x11 x12 : DV) (h0 : Hp) : aH :=
 bOt r n x0 x2 x10 x11 x12 h0
noncomputable def s139 (r : RT) (n : Nat) (x0 x1 x2 : DV) (h0 : Hp) : aH :=
 bnd (cA x1 h0) fun v1 h1 =>
  aQd r n x0 x2 x1 v1 (aE 0) h1
noncomputable abbrev c139 : Code := cf Tryz.f139
noncomputable abbrev aTs : Code := cR c139
noncomputable abbrev aDy : Code := cL aTs
noncomputable abbrev kE : Code := cL aDy
noncomputable abbrev aBz : Code := cR kE
noncomputable abbrev aFb : Code := cR aBz
noncomputable abbrev cTp : Code := cR aFb
noncomputable abbrev aIo : Code := cL aFb
noncomputable abbrev aIs : Code := cL aIo
noncomputable abbrev aCt : Code := cR aIs
noncomputable abbrev vD : Code := cR aCt
noncomputable abbrev bBb : Code := cR vD
noncomputable abbrev aZq : Code := cL vD
noncomputable abbrev aDs : Code := cL aCt
noncomputable abbrev bAf : Code := cL aIs
noncomputable abbrev bBs : Code := cL aBz
noncomputable abbrev aXe : Code := cL kE
noncomputable abbrev aYf : Code := cL c139
noncomputable abbrev r139 : K := aR CF Tryz.f139
noncomputable def D139 (r : RT) (n : Nat) (c : Code) (X : Nat → K) (k : K) : K := aM CF r 71 n c X r139 k
theorem cOh (kk2 : cH) : D139 r n cTp (xs x0 0 r139) (K5 kk2 0 2 10 11 12) = (K5 (dH r n kk2) 0 2 10 11 12) :=
 (by kernel_rfl)
theorem cAs (kk2 : cH) (q0 : cH) : D139 r n bBb (xs (xs x0 0 r139) 1 (K5 q0 0 2 10 11 12)) (K5 q0 0 2 10 11 12) = fun (env : aV) (h : Hp) =>
 bnd (aN (env 0) h) fun v1 h1 =>
 bnd (aB 8 v1 h1) fun v2 h2 =>
 bnd (aA v2 h2) fun v3 h3 =>
 bnd (aD .neq v3 (aE 0) h3) fun v4 h4 =>
 aT v4 (
 some (.t [], h4)) (
 bnd (aN (env 0) (resv 1 h4)) fun v5 h5 =>
 bnd (aB 6 v5 h5) fun v6 h6 =>
 bnd (aA v6 h6) fun v7 h7 =>
 bnd (aN (env 0) h7) fun v8 h8 =>
 bnd (aB 0 v8 h8) fun v9 h9 =>
 bnd (aB 2 v9 h9) fun v10 h10 =>
 bnd (aA v10 h10) fun v11 h11 =>
 bnd (bB [(.s []), (.b false), (.b false), (aE 0)] [(0, 1, (env 7)), (1, 1, (.b false)), (2, 1, (env 2)), (3, 1, v11)] h11) fun v12 h12 =>
 bnd (bJ (bX 0 h4.next) [(.s []), (.b false), (.b false), (aE 0)] 1 [(0, 4, v12)] h12) fun v13 h13 =>
 bnd (bA 4 32 v7 v13 h13) fun v14 h14 =>
 bnd (aN (env 0) h14) fun v15 h15 =>
 bnd (aB 6 v15 h15) fun v16 h16 =>
 bnd (aG 1 v16 v14 h16) fun v17 h17 =>
 bnd (aN (env 0) h17) fun v18 h18 =>
 bnd (aB 0 v18 h18) fun v19 h19 =>
 bnd (aB 2 v19 h19) fun v20 h20 =>
 bnd (aA v20 h20) fun v21 h21 =>
 bnd (aD .add v21 (aE 1) h21) fun v22 h22 =>
 bnd (aN (env 0) h22) fun v23 h23 =>
 bnd (aB 0 v23 h23) fun v24 h24 =>
 bnd (aB 2 v24 h24) fun v25 h25 =>
 bnd (aG 1 v25 v22 h25) fun _ h26 =>
      q0 (env 0) (env 2) (env 10) (env 11) (env 12) h26) := by kernel_rfl
theorem bCv (kk2 : cH) : (fun (env : aV) (h : Hp) =>
 bnd (aN (env 0) h) fun v1 h1 =>
 bnd (aB 8 v1 h1) fun v2 h2 =>
 bnd (aA v2 h2) fun v3 h3 =>
 bnd (aD .neq v3 (aE 0) h3) fun v4 h4 =>
 aT v4 (
 some (.t [], h4)) (
 bnd (aN (env 0) (resv 1 h4)) fun v5 h5 =>
 bnd (aB 6 v5 h5) fun v6 h6 =>
 bnd (aA v6 h6) fun v7 h7 =>
 bnd (aN (env 0) h7) fun v8 h8 =>
 bnd (aB 0 v8 h8) fun v9 h9 =>
 bnd (aB 2 v9 h9) fun v10 h10 =>
 bnd (aA v10 h10) fun v11 h11 =>
 bnd (bB [(.s []), (.b false), (.b false), (aE 0)] [(0, 1, (env 7)), (1, 1, (.b false)), (2, 1, (env 2)), (3, 1, v11)] h11) fun v12 h12 =>
 bnd (bJ (bX 0 h4.next) [(.s []), (.b false), (.b false), (aE 0)] 1 [(0, 4, v12)] h12) fun v13 h13 =>
 bnd (bA 4 32 v7 v13 h13) fun v14 h14 =>
 bnd (aN (env 0) h14) fun v15 h15 =>
 bnd (aB 6 v15 h15) fun v16 h16 =>
 bnd (aG 1 v16 v14 h16) fun v17 h17 =>
 bnd (aN (env 0) h17) fun v18 h18 =>
 bnd (aB 0 v18 h18) fun v19 h19 =>
 bnd (aB 2 v19 h19) fun v20 h20 =>
 bnd (aA v20 h20) fun v21 h21 =>
 bnd (aD .add v21 (aE 1) h21) fun v22 h22 =>
 bnd (aN (env 0) h22) fun v23 h23 =>
 bnd (aB 0 v23 h23) fun v24 h24 =>
 bnd (aB 2 v24 h24) fun v25 h25 =>
 bnd (aG 1 v25 v22 h25) fun _ h26 =>
      dH r n kk2 (env 0) (env 2) (env 10) (env 11) (env 12) h26)) = (K6 (yJ r n kk2) 0 2 7 10 11 12) := by kernel_rfl
theorem cJj (kk2 : cH) : D139 r n bBb (xs (xs x0 0 r139) 1 (K5 (dH r n kk2) 0 2 10 11 12)) (K5 (dH r n kk2) 0 2 10 11 12) = (K6 (yJ r n kk2) 0 2 7 10 11 12) :=
 (cAs r n kk2 (dH r n kk2)).trans (bCv r n kk2)
theorem bHj (kk2 : cH) : D139 r n vD (xs (xs x0 0 r139) 1 (K5 (dH r n kk2) 0 2 10 11 12)) (K5 (dH r n kk2) 0 2 10 11 12) = D139 r n aZq (xs (xs x0 0 r139) 1 (K5 (dH r n kk2) 0 2 10 11 12)) (K6 (yJ r n kk2) 0 2 7 10 11 12) :=
 congrArg (fun k => D139 r n aZq (xs (xs x0 0 r139) 1 (K5 (dH r n kk2) 0 2 10 11 12)) k) (cJj r n kk2)
theorem cPp (kk2 : cH) : D139 r n vD (xs (xs x0 0 r139) 1 (K5 (dH r n kk2) 0 2 10 11 12)) (K5 (dH r n kk2) 0 2 10 11 12) = (K6 (oR r n kk2) 0 2 7 10 11 12) :=
 (bHj r n kk2).trans
 ((by kernel_rfl))
theorem bSv (kk2 : cH) : D139 r n aCt (xs (xs x0 0 r139) 1 (K5 (dH r n kk2) 0 2 10 11 12)) (K5 (dH r n kk2) 0 2 10 11 12) = D139 r n aDs (xs (xs x0 0 r139) 1 (K5 (dH r n kk2) 0 2 10 11 12)) (K6 (oR r n kk2) 0 2 7 10 11 12) :=
 congrArg (fun k => D139 r n aDs (xs (xs x0 0 r139) 1 (K5 (dH r n kk2) 0 2 10 11 12)) k) (cPp r n kk2)
theorem bOx (kk2 : cH) (q0 : fI) (q1 : cH) : D139 r n aDs (xs (xs x0 0 r139) 1 (K5 q1 0 2 10 11 12)) (K6 q0 0 2 7 10 11 12) = fun (env : aV) (h : Hp) =>
 bnd (r 156 [(env 0), (env 7)] h) fun v1 h1 =>
 bnd (aC 0 v1 h1) fun v2 h2 =>
 bnd (aC 1 v1 h2) fun v3 h3 =>
 bnd (bN [(.s []), (.b false), (.b false), (aE 0)] h3) fun v4 h4 =>
 bnd (aG 4 v4 v2 h4) fun _ h5 =>
 bnd (gD v3 false (some ((env 7), h5)) h5) fun v6 h6 =>
 bnd (gD v3 false (r 157 [v6] h6) h6) fun v7 h7 =>
 bnd (aP v3 (.b true) v7 h7) fun v8 h8 =>
 aT v8 (
 bnd (r 158 [(env 0), (env 7), (aE 16)] h8) fun v9 h9 =>
      q0 (env 0) (env 2) (env 7) (env 10) (env 11) (env 12) h9) (
      q0 (env 0) (env 2) (env 7) (env 10) (env 11) (env 12) h8) := by kernel_rfl
theorem bGb (kk2 : cH) : (fun (env : aV) (h : Hp) =>
 bnd (r 156 [(env 0), (env 7)] h) fun v1 h1 =>
 bnd (aC 0 v1 h1) fun v2 h2 =>
 bnd (aC 1 v1 h2) fun v3 h3 =>
 bnd (bN [(.s []), (.b false), (.b false), (aE 0)] h3) fun v4 h4 =>
 bnd (aG 4 v4 v2 h4) fun _ h5 =>
 bnd (gD v3 false (some ((env 7), h5)) h5) fun v6 h6 =>
 bnd (gD v3 false (r 157 [v6] h6) h6) fun v7 h7 =>
 bnd (aP v3 (.b true) v7 h7) fun v8 h8 =>
 aT v8 (
 bnd (r 158 [(env 0), (env 7), (aE 16)] h8) fun v9 h9 =>
      oR r n kk2 (env 0) (env 2) (env 7) (env 10) (env 11) (env 12) h9) (
      oR r n kk2 (env 0) (env 2) (env 7) (env 10) (env 11) (env 12) h8)) = (K6 (aFg r n kk2) 0 2 7 10 11 12) := by kernel_rfl
theorem cQp (kk2 : cH) : D139 r n aCt (xs (xs x0 0 r139) 1 (K5 (dH r n kk2) 0 2 10 11 12)) (K5 (dH r n kk2) 0 2 10 11 12) = (K6 (aFg r n kk2) 0 2 7 10 11 12) :=
 (bSv r n kk2).trans
 ((bOx r n kk2 (oR r n kk2) (dH r n kk2)).trans (bGb r n kk2))
theorem bHu (kk2 : cH) : D139 r n aFb (xs x0 0 r139) (K5 kk2 0 2 10 11 12) = D139 r n aIo (xs x0 0 r139) (K5 (dH r n kk2) 0 2 10 11 12) :=
 congrArg (fun k => D139 r n aIo (xs x0 0 r139) k) (cOh r n kk2)
theorem bSe (kk2 : cH) : D139 r n aIs (xs (xs x0 0 r139) 1 (K5 (dH r n kk2) 0 2 10 11 12)) (K5 (dH r n kk2) 0 2 10 11 12) = D139 r n bAf (xs (xs x0 0 r139) 1 (K5 (dH r n kk2) 0 2 10 11 12)) (K6 (aFg r n kk2) 0 2 7 10 11 12) :=
 congrArg (fun k => D139 r n bAf (xs (xs x0 0 r139) 1 (K5 (dH r n kk2) 0 2 10 11 12)) k) (cQp r n kk2)
theorem cNq (kk2 : cH) : D139 r n aFb (xs x0 0 r139) (K5 kk2 0 2 10 11 12) = (K5 (aSc r n kk2) 0 2 10 11 12) :=
 (bHu r n kk2).trans
 ((by kernel_rfl : D139 r n aIo (xs x0 0 r139) (K5 (dH r n kk2) 0 2 10 11 12) = D139 r n aIs (xs (xs x0 0 r139) 1 (K5 (dH r n kk2) 0 2 10 11 12)) (K5 (dH r n kk2) 0 2 10 11 12)).trans
 ((bSe r n kk2).trans
 ((by kernel_rfl))))
theorem bNs (kk2 : cH) : D139 r n aBz (xs x0 0 r139) (K5 kk2 0 2 10 11 12) = D139 r n bBs (xs x0 0 r139) (K5 (aSc r n kk2) 0 2 10 11 12) :=
 congrArg (fun k => D139 r n bBs (xs x0 0 r139) k) (cNq r n kk2)
theorem cGe (kk2 : cH) : D139 r n aBz (xs x0 0 r139) (K5 kk2 0 2 10 11 12) = (K6 (aTx r n kk2) 0 2 10 11 12 13) :=
 (bNs r n kk2).trans
 ((by kernel_rfl))
theorem bHp (kk2 : cH) : D139 r n kE (xs x0 0 r139) (K5 kk2 0 2 10 11 12) = D139 r n aXe (xs x0 0 r139) (K6 (aTx r n kk2) 0 2 10 11 12 13) :=
 congrArg (fun k => D139 r n aXe (xs x0 0 r139) k) (cGe r n kk2)
theorem bWs (kk2 : cH) : D139 r n kE (xs x0 0 r139) (K5 kk2 0 2 10 11 12) = (K5 (aVc r n kk2) 0 2 10 11 12) :=
 (bHp r n kk2).trans
 ((by kernel_rfl))
theorem cAe (m : Nat) : aO (fun kk => D139 r n kE (xs x0 0 r139) kk) m = (K5 (uY r n m) 0 2 10 11 12) := by
 induction m with
 | zero => exact (by kernel_rfl : aO (fun kk => D139 r n kE (xs x0 0 r139) kk) 0 = (K5 (uY r n 0) 0 2 10 11 12))
 | succ m ih =>
  refine (by kernel_rfl : aO (fun kk => D139 r n kE (xs x0 0 r139) kk) (m + 1) = D139 r n kE (xs x0 0 r139) (aO (fun kk => D139 r n kE (xs x0 0 r139) kk) m)).trans ?_
  rw [ih]
  exact (bWs r n (uY r n m)).trans (by kernel_rfl)
theorem cEx : D139 r n aDy (xs x0 0 r139) r139 = (K5 (bOt r n) 0 2 10 11 12) :=
 (by kernel_rfl : D139 r n aDy (xs x0 0 r139) r139 = aO (fun kk => D139 r n kE (xs x0 0 r139) kk) n).trans ((cAe r n n).trans (by kernel_rfl))
theorem cBg : D139 r n aTs x0 r139 = (K5 (aQd r n) 0 2 10 11 12) :=
 (by kernel_rfl : D139 r n aTs x0 r139 = D139 r n aDy (xs x0 0 r139) r139).trans
 ((cEx r n).trans (by kernel_rfl))
theorem cUk : D139 r n c139 x0 r139 = D139 r n aYf x0 (K5 (aQd r n) 0 2 10 11 12) :=
 congrArg (fun k => D139 r n aYf x0 k) (cBg r n)
theorem dLr : D139 r n c139 x0 r139 = (K3 (s139 r n) 0 1 2) :=
 (cUk r n).trans
 ((by kernel_rfl))
theorem dCz : aF CF r n 139 args h = s139 r n (aU args 0) (aU args 1) (aU args 2) h :=
 (by kernel_rfl : aF CF r n 139 args h = D139 r n c139 x0 r139 (aI args) h).trans ((congrFun (congrFun (dLr r n) (aI args)) h).trans (by kernel_rfl))
noncomputable def qM (r : RT) (n : Nat) (x0 x3 x11 x14 : DV) (h0 : Hp) : aH :=
 aT x14 (
 bnd (aK 6 x3 h0) fun v1 h1 =>
 bnd (r 160 [x0, v1] h1) fun v2 h2 =>
 bnd (lN [x0, v2] h2) fun v3 h3 =>
 bnd (r 141 [x0, (aE 6), v3, (aE 0)] h3) fun v4 h4 =>
 some (.t [], h4)) (
 bnd (aD .eql x11 (aE 5) h0) fun v5 h5 =>
 aT v5 (
 bnd (aB 1 x3 h5) fun v6 h6 =>
 bnd (aA v6 h6) fun v7 h7 =>
 bnd (r 161 [x0, v7] h7) fun v8 h8 =>
 some (.t [], h8)) (
 bnd (aD .eql x11 (aE 6) h5) fun v9 h9 =>
 aT v9 (
 bnd (aK 6 x3 h9) fun v10 h10 =>
 bnd (r 162 [x0, v10] h10) fun v11 h11 =>
 some (.t [], h11)) (
 bnd (aD .eql x11 (aE 7) h9) fun v12 h12 =>
 aT v12 (
 bnd (aK 6 x3 h12) fun v13 h13 =>
 bnd (r 163 [x0, v13] h13) fun v14 h14 =>
 some (.t [], h14)) (
 bnd (aD .eql x11 (aE 8) h12) fun v15 h15 =>
 aT v15 (
 bnd (aK 6 x3 h15) fun v16 h16 =>
 bnd (r 164 [x0, v16] h16) fun v17 h17 =>
 some (.t [], h17)) (
 bnd (aD .eql x11 (aE 9) h15) fun v18 h18 =>
 aT v18 (
 bnd (aN x0 h18) fun v19 h19 =>
 bnd (aB 0 v19 h19) fun v20 h20 =>
 bnd (aB 2 v20 h20) fun v21 h21 =>
 bnd (aA v21 h21) fun v22 h22 =>
 bnd (aB 3 x3 h22) fun v23 h23 =>
 bnd (aA v23 h23) fun v24 h24 =>
 bnd (cA v24 h24) fun v25 h25 =>
 bnd (r 141 [x0, (aE 18), v22, v25] h25) fun v26 h26 =>
 bnd (r 165 [x0, (aE 16)] h26) fun v27 h27 =>
 bnd (aK 6 x3 h27) fun v28 h28 =>
 bnd (r 166 [x0, v28] h28) fun v29 h29 =>
 bnd (r 141 [x0, (aE 19), (aE 0), (aE 0)] h29) fun v30 h30 =>
 bnd (cX CF r v27 [] h30) fun v31 h31 =>
 some (.t [], h31)) (
 bnd (aD .eql x11 (aE 10) h18) fun v32 h32 =>
 aT v32 (
 bnd (aK 6 x3 h32) fun v33 h33 =>
 bnd (r 167 [x0, v33] h33) fun v34 h34 =>
 aT v34 (
 bnd (aB 5 x3 h34) fun v35 h35 =>
 bnd (aA v35 h35) fun v36 h36 =>
 bnd (aJ 6 v36 (aE 0) h36) fun v37 h37 =>
 bnd (aK 6 v37 h37) fun v38 h38 =>
 bnd (r 140 [x0, v38] h38) fun v39 h39 =>
 bnd (r 141 [x0, (aE 20), (aE 0), (aE 0)] h39) fun v40 h40 =>
 some (.t [], h40)) (
 some (.t [], h34))) (
 bnd (r 158 [x0, (.s []), (aE 1)] h32) fun v41 h41 =>
 some (.t [], h41))))))))
noncomputable def aSm (r : RT) (n : Nat) (x0 x3 x11 : DV) (h0 : Hp) : aH :=
 bnd (aD .eql x11 (aE 1) h0) fun v1 h1 =>
 aT v1 (
  qM r n x0 x3 x11 v1 h1) (
 bnd (aD .eql x11 (aE 2) h1) fun v2 h2 =>
 aT v2 (
   qM r n x0 x3 x11 v2 h2) (
 bnd (aD .eql x11 (aE 3) h2) fun v3 h3 =>
 aT v3 (
    qM r n x0 x3 x11 v3 h3) (
 bnd (aD .eql x11 (aE 4) h3) fun v4 h4 =>
    qM r n x0 x3 x11 v4 h4)))
noncomputable def aPl (r : RT) (n : Nat) (x0 x3 : DV) (h0 : Hp) : aH :=
 bnd (aB 0 x3 h0) fun v1 h1 =>
 bnd (aA v1 h1) fun v2 h2 =>
  aSm r n x0 x3 v2 h2
noncomputable def yG (r : RT) (n : Nat) (x0 x3 : DV) (h0 : Hp) : aH :=
 bnd (aN x0 h0) fun v1 h1 =>
 bnd (aB 8 v1 h1) fun v2 h2 =>
 bnd (aA v2 h2) fun v3 h3 =>
 bnd (aD .neq v3 (aE 0) h3) fun v4 h4 =>
 aT v4 (
 some (.t [], h4)) (
  aPl r n x0 x3 h4)
noncomputable def s140 (r : RT) (n : Nat) (x0 x1 : DV) (h0 : Hp) : aH :=
 bnd (bO x1 h0) fun v1 h1 =>
  yG r n x0 v1 h1
noncomputable abbrev c140 : Code := cf Tryz.f140
noncomputable abbrev aFt : Code := cR c140
noncomputable abbrev aCc : Code := cR aFt
noncomputable abbrev aRb : Code := cR aCc
noncomputable abbrev aHb : Code := cL aRb
noncomputable abbrev dEn : Code := cR aHb
noncomputable abbrev cBd : Code := cL aHb
noncomputable abbrev bZe : Code := cL aCc
noncomputable abbrev bQy : Code := cL aFt
noncomputable abbrev aSr : Code := cL c140
noncomputable abbrev r140 : K := aR CF Tryz.f140
noncomputable def D140 (r : RT) (n : Nat) (c : Code) (X : Nat → K) (k : K) : K := aM CF r 81 n c X r140 k
theorem cBl : D140 r n dEn (xs x0 0 r140) r140 = (K4 (qM r n) 0 3 11 14) :=
 (by kernel_rfl)
theorem bQk : D140 r n aHb (xs x0 0 r140) r140 = D140 r n cBd (xs x0 0 r140) (K4 (qM r n) 0 3 11 14) :=
 congrArg (fun k => D140 r n cBd (xs x0 0 r140) k) (cBl r n)
theorem cDo : D140 r n aRb x0 r140 = (K3 (aSm r n) 0 3 11) :=
 (by kernel_rfl : D140 r n aRb x0 r140 = D140 r n aHb (xs x0 0 r140) r140).trans
 ((bQk r n).trans
 ((by kernel_rfl)))
theorem bNz : D140 r n aCc x0 r140 = D140 r n bZe x0 (K3 (aSm r n) 0 3 11) :=
 congrArg (fun k => D140 r n bZe x0 k) (cDo r n)
theorem cHh : D140 r n aCc x0 r140 = (K2 (aPl r n) 0 3) :=
 (bNz r n).trans
 ((by kernel_rfl))
theorem bXf : D140 r n aFt x0 r140 = D140 r n bQy x0 (K2 (aPl r n) 0 3) :=
 congrArg (fun k => D140 r n bQy x0 k) (cHh r n)
theorem cFb : D140 r n aFt x0 r140 = (K2 (yG r n) 0 3) :=
 (bXf r n).trans
 ((by kernel_rfl))
theorem cXy : D140 r n c140 x0 r140 = D140 r n aSr x0 (K2 (yG r n) 0 3) :=
 congrArg (fun k => D140 r n aSr x0 k) (cFb r n)
theorem cZh (q0 : pB) : D140 r n aSr x0 (K2 q0 0 3) = fun (env : aV) (h : Hp) =>
 bnd (bO (env 1) h) fun v1 h1 =>
  q0 (env 0) v1 h1 := by kernel_rfl
theorem cMb : (fun (env : aV) (h : Hp) =>
 bnd (bO (env 1) h) fun v1 h1 =>
  yG r n (env 0) v1 h1) = (K2 (s140 r n) 0 1) := by kernel_rfl
theorem dFi : D140 r n c140 x0 r140 = (K2 (s140 r n) 0 1) :=
 (cXy r n).trans
 ((cZh r n (yG r n)).trans (cMb r n))
theorem cUv : aF CF r n 140 args h = s140 r n (aU args 0) (aU args 1) h :=
 (by kernel_rfl : aF CF r n 140 args h = D140 r n c140 x0 r140 (aI args) h).trans ((congrFun (congrFun (dFi r n) (aI args)) h).trans (by kernel_rfl))
noncomputable def s141 (r : RT) (n : Nat) (x0 x1 x2 x3 : DV) (h0 : Hp) : aH :=
 bnd (aN x0 h0) fun v1 h1 =>
 bnd (aB 0 v1 h1) fun v2 h2 =>
 bnd (aB 5 v2 h2) fun v3 h3 =>
 bnd (aA v3 h3) fun v4 h4 =>
 bnd (bB [(aE 0), (aE 0), (aE 0)] [(0, 1, x1), (1, 1, x2), (2, 1, x3)] h4) fun v5 h5 =>
 bnd (aL [(aE 0), (aE 0), (aE 0)] 1 [(0, 3, v5)] h5) fun v6 h6 =>
 bnd (bA 3 24 v4 v6 h6) fun v7 h7 =>
 bnd (aN x0 h7) fun v8 h8 =>
 bnd (aB 0 v8 h8) fun v9 h9 =>
 bnd (aB 5 v9 h9) fun v10 h10 =>
 bnd (aG 1 v10 v7 h10) fun _ h11 =>
 some (.t [], h11)
noncomputable abbrev c141 : Code := cf Tryz.f141
noncomputable abbrev r141 : K := aR CF Tryz.f141
noncomputable def D141 (r : RT) (n : Nat) (c : Code) (X : Nat → K) (k : K) : K := aM CF r 23 n c X r141 k
theorem dHc : D141 r n c141 x0 r141 = (K4 (s141 r n) 0 1 2 3) :=
 (by kernel_rfl)
theorem cYh : aF CF r n 141 args h = s141 r n (aU args 0) (aU args 1) (aU args 2) (aU args 3) h :=
 (by kernel_rfl : aF CF r n 141 args h = D141 r n c141 x0 r141 (aI args) h).trans ((congrFun (congrFun (dHc r n) (aI args)) h).trans (by kernel_rfl))
noncomputable def cK (r : RT) (n : Nat) (x2 x3 : DV) (h0 : Hp) : aH :=
 some (.t [x2, x3], h0)
noncomputable def cS (r : RT) (n : Nat) (x3 : DV) (h0 : Hp) : aH :=
 cK r n (.b true) x3 h0
noncomputable def dP (r : RT) (n : Nat) (h0 : Hp) : aH :=
 cS r n (.b true) h0
noncomputable def oC (r : RT) (n : Nat) (x2 x3 : DV) (h0 : Hp) : aH :=
 cK r n x2 x3 h0
noncomputable def mG (r : RT) (n : Nat) (x2 x3 x11 : DV) (h0 : Hp) : aH :=
 aT x11 (
  cS r n x3 h0) (
  oC r n x2 x3 h0)
noncomputable def yZ (r : RT) (n : Nat) (x2 x3 x4 : DV) (h0 : Hp) : aH :=
 bnd (aD .eql x4 (aE 6) h0) fun v1 h1 =>
 aT v1 (
  mG r n x2 x3 v1 h1) (
 bnd (aD .eql x4 (aE 7) h1) fun v2 h2 =>
 aT v2 (
   mG r n x2 x3 v2 h2) (
 bnd (aD .eql x4 (aE 8) h2) fun v3 h3 =>
 aT v3 (
    mG r n x2 x3 v3 h3) (
 bnd (aD .eql x4 (aE 9) h3) fun v4 h4 =>
 aT v4 (
     mG r n x2 x3 v4 h4) (
 bnd (aD .eql x4 (aE 10) h4) fun v5 h5 =>
 aT v5 (
      mG r n x2 x3 v5 h5) (
 bnd (aD .eql x4 (aE 11) h5) fun v6 h6 =>
      mG r n x2 x3 v6 h6)))))
noncomputable def pA (r : RT) (n : Nat) (x2 x3 x4 x5 : DV) (h0 : Hp) : aH :=
 aT x5 (
  dP r n h0) (
  yZ r n x2 x3 x4 h0)
noncomputable def aRv (r : RT) (n : Nat) (x2 x3 x4 : DV) (h0 : Hp) : aH :=
 bnd (aD .eql x4 (aE 14) h0) fun v1 h1 =>
 aT v1 (
  pA r n x2 x3 x4 v1 h1) (
 bnd (aD .eql x4 (aE 15) h1) fun v2 h2 =>
 aT v2 (
   pA r n x2 x3 x4 v2 h2) (
 bnd (aD .eql x4 (aE 16) h2) fun v3 h3 =>
 aT v3 (
    pA r n x2 x3 x4 v3 h3) (
 bnd (aD .eql x4 (aE 17) h3) fun v4 h4 =>
 aT v4 (
     pA r n x2 x3 x4 v4 h4) (
 bnd (aD .eql x4 (aE 18) h4) fun v5 h5 =>
     pA r n x2 x3 x4 v5 h5))))
noncomputable def aUd (r : RT) (n : Nat) (x0 x2 x3 : DV) (h0 : Hp) : aH :=
 aRv r n x2 x3 x0 h0
noncomputable def s142 (r : RT) (n : Nat) (x0 : DV) (h0 : Hp) : aH :=
 aUd r n x0 (.b false) (.b false) h0
noncomputable abbrev c142 : Code := cf Tryz.f142
noncomputable abbrev aIx : Code := cR c142
noncomputable abbrev cTa : Code := cR aIx
noncomputable abbrev vX : Code := cL aIx
noncomputable abbrev aUk : Code := cR vX
noncomputable abbrev aKc : Code := cL aUk
noncomputable abbrev cUt : Code := cR aKc
noncomputable abbrev aJk : Code := cL aKc
noncomputable abbrev aJn : Code := cL aJk
noncomputable abbrev dCr : Code := cR aJn
noncomputable abbrev tQ : Code := cL aJn
noncomputable abbrev uH : Code := cL tQ
noncomputable abbrev cKl : Code := cR uH
noncomputable abbrev pZ : Code := cL uH
noncomputable abbrev vG : Code := cR pZ
noncomputable abbrev cHx : Code := cR vG
noncomputable abbrev bAr : Code := cL vG
noncomputable abbrev pF : Code := cL pZ
noncomputable abbrev cKg : Code := cR pF
noncomputable abbrev bAt : Code := cL pF
noncomputable abbrev aVw : Code := cL vX
noncomputable abbrev bBn : Code := cL c142
noncomputable abbrev r142 : K := aR CF Tryz.f142
noncomputable def D142 (r : RT) (n : Nat) (c : Code) (X : Nat → K) (k : K) : K := aM CF r 20 n c X r142 k
theorem cNf : D142 r n cTa x0 r142 = (K2 (cK r n) 2 3) :=
 (by kernel_rfl)
theorem cPu : D142 r n cUt (xs x0 0 (K2 (cK r n) 2 3)) (K2 (cK r n) 2 3) = (K1 (cS r n) 3) :=
 (by kernel_rfl)
theorem cFo : D142 r n dCr (xs (xs x0 0 (K2 (cK r n) 2 3)) 2 (K1 (cS r n) 3)) (K1 (cS r n) 3) = (K0 (dP r n)) :=
 (by kernel_rfl)
theorem cIx : D142 r n cKl (xs (xs (xs x0 0 (K2 (cK r n) 2 3)) 2 (K1 (cS r n) 3)) 1 (K0 (dP r n))) (K0 (dP r n)) = (K2 (oC r n) 2 3) :=
 (by kernel_rfl)
theorem cKx : D142 r n cHx (xs (xs (xs x0 0 (K2 (cK r n) 2 3)) 2 (K1 (cS r n) 3)) 1 (K0 (dP r n))) (K2 (oC r n) 2 3) = (K3 (mG r n) 2 3 11) :=
 (by kernel_rfl)
theorem bPw : D142 r n vG (xs (xs (xs x0 0 (K2 (cK r n) 2 3)) 2 (K1 (cS r n) 3)) 1 (K0 (dP r n))) (K2 (oC r n) 2 3) = D142 r n bAr (xs (xs (xs x0 0 (K2 (cK r n) 2 3)) 2 (K1 (cS r n) 3)) 1 (K0 (dP r n))) (K3 (mG r n) 2 3 11) :=
 congrArg (fun k => D142 r n bAr (xs (xs (xs x0 0 (K2 (cK r n) 2 3)) 2 (K1 (cS r n) 3)) 1 (K0 (dP r n))) k) (cKx r n)
theorem cEb : D142 r n vG (xs (xs (xs x0 0 (K2 (cK r n) 2 3)) 2 (K1 (cS r n) 3)) 1 (K0 (dP r n))) (K2 (oC r n) 2 3) = (K3 (yZ r n) 2 3 4) :=
 (bPw r n).trans
 ((by kernel_rfl))
theorem cGt : D142 r n cKg (xs (xs (xs x0 0 (K2 (cK r n) 2 3)) 2 (K1 (cS r n) 3)) 1 (K0 (dP r n))) (K3 (yZ r n) 2 3 4) = (K4 (pA r n) 2 3 4 5) :=
 (by kernel_rfl)
theorem bXx : D142 r n aKc (xs x0 0 (K2 (cK r n) 2 3)) (K2 (cK r n) 2 3) = D142 r n aJk (xs x0 0 (K2 (cK r n) 2 3)) (K1 (cS r n) 3) :=
 congrArg (fun k => D142 r n aJk (xs x0 0 (K2 (cK r n) 2 3)) k) (cPu r n)
theorem bYf : D142 r n aJn (xs (xs x0 0 (K2 (cK r n) 2 3)) 2 (K1 (cS r n) 3)) (K1 (cS r n) 3) = D142 r n tQ (xs (xs x0 0 (K2 (cK r n) 2 3)) 2 (K1 (cS r n) 3)) (K0 (dP r n)) :=
 congrArg (fun k => D142 r n tQ (xs (xs x0 0 (K2 (cK r n) 2 3)) 2 (K1 (cS r n) 3)) k) (cFo r n)
theorem bLv : D142 r n uH (xs (xs (xs x0 0 (K2 (cK r n) 2 3)) 2 (K1 (cS r n) 3)) 1 (K0 (dP r n))) (K0 (dP r n)) = D142 r n pZ (xs (xs (xs x0 0 (K2 (cK r n) 2 3)) 2 (K1 (cS r n) 3)) 1 (K0 (dP r n))) (K2 (oC r n) 2 3) :=
 congrArg (fun k => D142 r n pZ (xs (xs (xs x0 0 (K2 (cK r n) 2 3)) 2 (K1 (cS r n) 3)) 1 (K0 (dP r n))) k) (cIx r n)
theorem bTq : D142 r n pZ (xs (xs (xs x0 0 (K2 (cK r n) 2 3)) 2 (K1 (cS r n) 3)) 1 (K0 (dP r n))) (K2 (oC r n) 2 3) = D142 r n pF (xs (xs (xs x0 0 (K2 (cK r n) 2 3)) 2 (K1 (cS r n) 3)) 1 (K0 (dP r n))) (K3 (yZ r n) 2 3 4) :=
 congrArg (fun k => D142 r n pF (xs (xs (xs x0 0 (K2 (cK r n) 2 3)) 2 (K1 (cS r n) 3)) 1 (K0 (dP r n))) k) (cEb r n)
theorem bVo : D142 r n pF (xs (xs (xs x0 0 (K2 (cK r n) 2 3)) 2 (K1 (cS r n) 3)) 1 (K0 (dP r n))) (K3 (yZ r n) 2 3 4) = D142 r n bAt (xs (xs (xs x0 0 (K2 (cK r n) 2 3)) 2 (K1 (cS r n) 3)) 1 (K0 (dP r n))) (K4 (pA r n) 2 3 4 5) :=
 congrArg (fun k => D142 r n bAt (xs (xs (xs x0 0 (K2 (cK r n) 2 3)) 2 (K1 (cS r n) 3)) 1 (K0 (dP r n))) k) (cGt r n)
theorem cLl : D142 r n aUk x0 (K2 (cK r n) 2 3) = (K3 (aRv r n) 2 3 4) :=
 (by kernel_rfl : D142 r n aUk x0 (K2 (cK r n) 2 3) = D142 r n aKc (xs x0 0 (K2 (cK r n) 2 3)) (K2 (cK r n) 2 3)).trans
 ((bXx r n).trans
 ((by kernel_rfl : D142 r n aJk (xs x0 0 (K2 (cK r n) 2 3)) (K1 (cS r n) 3) = D142 r n aJn (xs (xs x0 0 (K2 (cK r n) 2 3)) 2 (K1 (cS r n) 3)) (K1 (cS r n) 3)).trans
 ((bYf r n).trans
 ((by kernel_rfl : D142 r n tQ (xs (xs x0 0 (K2 (cK r n) 2 3)) 2 (K1 (cS r n) 3)) (K0 (dP r n)) = D142 r n uH (xs (xs (xs x0 0 (K2 (cK r n) 2 3)) 2 (K1 (cS r n) 3)) 1 (K0 (dP r n))) (K0 (dP r n))).trans
 ((bLv r n).trans
 ((bTq r n).trans
 ((bVo r n).trans
 ((by kernel_rfl)))))))))
theorem bRl : D142 r n aIx x0 r142 = D142 r n vX x0 (K2 (cK r n) 2 3) :=
 congrArg (fun k => D142 r n vX x0 k) (cNf r n)
theorem bRw : D142 r n vX x0 (K2 (cK r n) 2 3) = D142 r n aVw x0 (K3 (aRv r n) 2 3 4) :=
 congrArg (fun k => D142 r n aVw x0 k) (cLl r n)
theorem cFv : D142 r n aIx x0 r142 = (K3 (aUd r n) 0 2 3) :=
 (bRl r n).trans
 ((bRw r n).trans
 ((by kernel_rfl)))
theorem dCq : D142 r n c142 x0 r142 = D142 r n bBn x0 (K3 (aUd r n) 0 2 3) :=
 congrArg (fun k => D142 r n bBn x0 k) (cFv r n)
theorem dIn : D142 r n c142 x0 r142 = (K1 (s142 r n) 0) :=
 (dCq r n).trans
 ((by kernel_rfl))
theorem dCf : aF CF r n 142 args h = s142 r n (aU args 0) h :=
 (by kernel_rfl : aF CF r n 142 args h = D142 r n c142 x0 r142 (aI args) h).trans ((congrFun (congrFun (dIn r n) (aI args)) h).trans (by kernel_rfl))
noncomputable def s143 (r : RT) (n : Nat) (x0 x1 : DV) (h0 : Hp) : aH :=
 bnd (aD .eql x0 (aE 0) h0) fun v1 h1 =>
 bnd (gD v1 false (some (x1, h1)) h1) fun v2 h2 =>
 bnd (gD v1 false (some (v2, h2)) h2) fun v3 h3 =>
 bnd (gD v3 true (some (x0, h3)) h3) fun v4 h4 =>
 bnd (gD v3 true (aD .gtr v4 (aE 0) h4) h4) fun v5 h5 =>
 bnd (gD v1 false (aP v3 v5 (.b false) h5) h5) fun v6 h6 =>
 bnd (gD v1 false (some (v6, h6)) h6) fun v7 h7 =>
 bnd (gD v7 true (some (x0, h7)) h7) fun v8 h8 =>
 bnd (gD v7 true (aD .leq v8 (aE 255) h8) h8) fun v9 h9 =>
 bnd (gD v1 false (aP v7 v9 (.b false) h9) h9) fun v10 h10 =>
 bnd (aP v1 (.b true) v10 h10) fun v11 h11 =>
 some (v11, h11)
noncomputable abbrev c143 : Code := cf Tryz.f143
noncomputable abbrev r143 : K := aR CF Tryz.f143
noncomputable def D143 (r : RT) (n : Nat) (c : Code) (X : Nat → K) (k : K) : K := aM CF r 18 n c X r143 k
theorem dGn : D143 r n c143 x0 r143 = (K2 (s143 r n) 0 1) :=
 (by kernel_rfl)
theorem dDw : aF CF r n 143 args h = s143 r n (aU args 0) (aU args 1) h :=
 (by kernel_rfl : aF CF r n 143 args h = D143 r n c143 x0 r143 (aI args) h).trans ((congrFun (congrFun (dGn r n) (aI args)) h).trans (by kernel_rfl))
noncomputable def eE (r : RT) (n : Nat) (x2 : DV) (h0 : Hp) : aH :=
 bnd (aB 5 x2 h0) fun v1 h1 =>
 bnd (aA v1 h1) fun v2 h2 =>
 bnd (r 173 [v2] h2) fun v3 h3 =>
 bnd (aB 5 x2 h3) fun v4 h4 =>
 bnd (aA v4 h4) fun v5 h5 =>
 bnd (r 174 [v5, v3] h5) fun v6 h6 =>
 bnd (gQ .not v6 h6) fun v7 h7 =>
 aT v7 (
 some (.t [.l0, (aE 19)], h7)) (
 bnd (aB 5 x2 h7) fun v8 h8 =>
 bnd (aA v8 h8) fun v9 h9 =>
 bnd (r 175 [v9, v3] h9) fun v10 h10 =>
 bnd (aC 0 v10 h10) fun v11 h11 =>
 bnd (aC 1 v10 h11) fun v12 h12 =>
 bnd (gQ .not v12 h12) fun v13 h13 =>
 aT v13 (
 some (.t [.l0, (aE 19)], h13)) (
 some (.t [v11, (aE 0)], h13)))
noncomputable def aGb (r : RT) (n : Nat) (kk7 : cH) (x1 x2 x60 x61 x62 : DV) (h0 : Hp) : aH :=
 bnd (aD .lss x62 x61 h0) fun v1 h1 =>
 aT v1 (
 bnd (aJ 3 x60 x62 h1) fun v2 h2 =>
 bnd (aK 3 v2 h2) fun v3 h3 =>
 bnd (bN [(aE 0), (aE 0), (aE 0)] h3) fun v4 h4 =>
 bnd (aG 3 v4 v3 h4) fun _ h5 =>
 bnd (aK 3 v4 h5) fun v6 h6 =>
 bnd (r 124 [v6] h6) fun v7 h7 =>
 bnd (gQ .not v7 h7) fun v8 h8 =>
 bnd (gD v8 false (aK 6 x2 h8) h8) fun v9 h9 =>
 bnd (gD v8 false (aK 3 v4 h9) h9) fun v10 h10 =>
 bnd (gD v8 false (some (x1, h10)) h10) fun v11 h11 =>
 bnd (gD v8 false (r 172 [v9, v10, v11] h11) h11) fun v12 h12 =>
 bnd (gD v8 false (gQ .not v12 h12) h12) fun v13 h13 =>
 bnd (aP v8 (.b true) v13 h13) fun v14 h14 =>
 aT v14 (
 some (.t [.l0, (aE 19)], h14)) (
 bnd (aD .add x62 (aE 1) h14) fun v15 h15 =>
    kk7 x1 x2 x60 x61 v15 h15)) (
      eE r n x2 h1)
noncomputable def sX (r : RT) (n : Nat) (m : Nat) : cH :=
 Nat.rec (motive := fun _ => cH) (fun _ _ _ _ _ _ => none) (fun _ ih => aGb r n ih) m
noncomputable def cAu (r : RT) (n : Nat) : cH := sX r n n
noncomputable def aNw (r : RT) (n : Nat) (x1 x2 x60 x61 x62 : DV) (h0 : Hp) : aH :=
 cAu r n x1 x2 x60 x61 x62 h0
noncomputable def aRi (r : RT) (n : Nat) (x1 x2 : DV) (h0 : Hp) : aH :=
 bnd (aB 5 x2 h0) fun v1 h1 =>
 bnd (aA v1 h1) fun v2 h2 =>
 bnd (cA v2 h2) fun v3 h3 =>
  aNw r n x1 x2 v2 v3 (aE 0) h3
noncomputable def aPx (r : RT) (n : Nat) (x1 x2 x6 x7 : DV) (h0 : Hp) : aH :=
 bnd (gQ .not x6 h0) fun v1 h1 =>
 bnd (gD v1 false (some (x7, h1)) h1) fun v2 h2 =>
 bnd (aP v1 (.b true) v2 h2) fun v3 h3 =>
 bnd (gD v3 false (aB 4 x2 h3) h3) fun v4 h4 =>
 bnd (gD v3 false (aA v4 h4) h4) fun v5 h5 =>
 bnd (gD v3 false (cA v5 h5) h5) fun v6 h6 =>
 bnd (gD v3 false (aD .gtr v6 (aE 60) h6) h6) fun v7 h7 =>
 bnd (aP v3 (.b true) v7 h7) fun v8 h8 =>
 bnd (gD v8 false (aB 5 x2 h8) h8) fun v9 h9 =>
 bnd (gD v8 false (aA v9 h9) h9) fun v10 h10 =>
 bnd (gD v8 false (cA v10 h10) h10) fun v11 h11 =>
 bnd (gD v8 false (r 168 [v11, (aE 1), (aE 400)] h11) h11) fun v12 h12 =>
 bnd (gD v8 false (gQ .not v12 h12) h12) fun v13 h13 =>
 bnd (aP v8 (.b true) v13 h13) fun v14 h14 =>
 aT v14 (
 some (.t [.l0, (aE 19)], h14)) (
  aRi r n x1 x2 h14)
noncomputable def aPz (r : RT) (n : Nat) (x1 x2 x6 : DV) (h0 : Hp) : aH :=
 bnd (aB 4 x2 h0) fun v1 h1 =>
 bnd (aA v1 h1) fun v2 h2 =>
 bnd (r 169 [v2, (.f 170 [] [])] h2) fun v3 h3 =>
  aPx r n x1 x2 x6 v3 h3
noncomputable def yA (r : RT) (n : Nat) (x1 x2 : DV) (h0 : Hp) : aH :=
 bnd (r 168 [x1, (aE 0), (aE 8)] h0) fun v1 h1 =>
 bnd (gD v1 true (aB 0 x2 h1) h1) fun v2 h2 =>
 bnd (gD v1 true (aA v2 h2) h2) fun v3 h3 =>
 bnd (gD v1 true (dW v3 h3) h3) fun v4 h4 =>
 bnd (gD v1 true (r 168 [v4, (aE 1), (aE 60)] h4) h4) fun v5 h5 =>
 bnd (aP v1 v5 (.b false) h5) fun v6 h6 =>
 bnd (gD v6 true (aB 1 x2 h6) h6) fun v7 h7 =>
 bnd (gD v6 true (aA v7 h7) h7) fun v8 h8 =>
 bnd (gD v6 true (r 168 [v8, (aE 0), (aE 4)] h8) h8) fun v9 h9 =>
 bnd (aP v6 v9 (.b false) h9) fun v10 h10 =>
 bnd (gD v10 true (aB 2 x2 h10) h10) fun v11 h11 =>
 bnd (gD v10 true (aA v11 h11) h11) fun v12 h12 =>
 bnd (gD v10 true (aB 1 x2 h12) h12) fun v13 h13 =>
 bnd (gD v10 true (aA v13 h13) h13) fun v14 h14 =>
 bnd (gD v10 true (r 168 [v12, v14, (aE 24)] h14) h14) fun v15 h15 =>
 bnd (aP v10 v15 (.b false) h15) fun v16 h16 =>
 bnd (gD v16 true (aB 3 x2 h16) h16) fun v17 h17 =>
 bnd (gD v16 true (aA v17 h17) h17) fun v18 h18 =>
 bnd (gD v16 true (r 168 [v18, (aE 0), (aE 255)] h18) h18) fun v19 h19 =>
 bnd (aP v16 v19 (.b false) h19) fun v20 h20 =>
  aPz r n x1 x2 v20 h20
noncomputable def s144 (r : RT) (n : Nat) (x0 x1 : DV) (h0 : Hp) : aH :=
 bnd (bO x0 h0) fun v1 h1 =>
  yA r n x1 v1 h1
noncomputable abbrev c144 : Code := cf Tryz.f144
noncomputable abbrev aGx : Code := cR c144
noncomputable abbrev aEx : Code := cR aGx
noncomputable abbrev aJr : Code := cR aEx
noncomputable abbrev aBk : Code := cR aJr
noncomputable abbrev dDu : Code := cR aBk
noncomputable abbrev aAb : Code := cL aBk
noncomputable abbrev aRr : Code := cR aAb
noncomputable abbrev aDf : Code := cL aRr
noncomputable abbrev mQ : Code := cL aDf
noncomputable abbrev bAc : Code := cL aAb
noncomputable abbrev aWb : Code := cL aJr
noncomputable abbrev aXg : Code := cL aEx
noncomputable abbrev bCa : Code := cL aGx
noncomputable abbrev aCh : Code := cL c144
noncomputable abbrev r144 : K := aR CF Tryz.f144
noncomputable def D144 (r : RT) (n : Nat) (c : Code) (X : Nat → K) (k : K) : K := aM CF r 95 n c X r144 k
theorem cOp : D144 r n dDu x0 r144 = (K1 (eE r n) 2) :=
 (by kernel_rfl)
theorem bUo (kk7 : cH) (q0 : TT1) : D144 r n mQ (xs x0 0 (K1 q0 2)) (K5 kk7 1 2 60 61 62) = fun (env : aV) (h : Hp) =>
 bnd (aD .lss (env 62) (env 61) h) fun v1 h1 =>
 aT v1 (
 bnd (aJ 3 (env 60) (env 62) h1) fun v2 h2 =>
 bnd (aK 3 v2 h2) fun v3 h3 =>
 bnd (bN [(aE 0), (aE 0), (aE 0)] h3) fun v4 h4 =>
 bnd (aG 3 v4 v3 h4) fun _ h5 =>
 bnd (aK 3 v4 h5) fun v6 h6 =>
 bnd (r 124 [v6] h6) fun v7 h7 =>
 bnd (gQ .not v7 h7) fun v8 h8 =>
 bnd (gD v8 false (aK 6 (env 2) h8) h8) fun v9 h9 =>
 bnd (gD v8 false (aK 3 v4 h9) h9) fun v10 h10 =>
 bnd (gD v8 false (some ((env 1), h10)) h10) fun v11 h11 =>
 bnd (gD v8 false (r 172 [v9, v10, v11] h11) h11) fun v12 h12 =>
 bnd (gD v8 false (gQ .not v12 h12) h12) fun v13 h13 =>
 bnd (aP v8 (.b true) v13 h13) fun v14 h14 =>
 aT v14 (
 some (.t [.l0, (aE 19)], h14)) (
 bnd (aD .add (env 62) (aE 1) h14) fun v15 h15 =>
    kk7 (env 1) (env 2) (env 60) (env 61) v15 h15)) (
      q0 (env 2) h1) := by kernel_rfl
theorem bEo (kk7 : cH) : (fun (env : aV) (h : Hp) =>
 bnd (aD .lss (env 62) (env 61) h) fun v1 h1 =>
 aT v1 (
 bnd (aJ 3 (env 60) (env 62) h1) fun v2 h2 =>
 bnd (aK 3 v2 h2) fun v3 h3 =>
 bnd (bN [(aE 0), (aE 0), (aE 0)] h3) fun v4 h4 =>
 bnd (aG 3 v4 v3 h4) fun _ h5 =>
 bnd (aK 3 v4 h5) fun v6 h6 =>
 bnd (r 124 [v6] h6) fun v7 h7 =>
 bnd (gQ .not v7 h7) fun v8 h8 =>
 bnd (gD v8 false (aK 6 (env 2) h8) h8) fun v9 h9 =>
 bnd (gD v8 false (aK 3 v4 h9) h9) fun v10 h10 =>
 bnd (gD v8 false (some ((env 1), h10)) h10) fun v11 h11 =>
 bnd (gD v8 false (r 172 [v9, v10, v11] h11) h11) fun v12 h12 =>
 bnd (gD v8 false (gQ .not v12 h12) h12) fun v13 h13 =>
 bnd (aP v8 (.b true) v13 h13) fun v14 h14 =>
 aT v14 (
 some (.t [.l0, (aE 19)], h14)) (
 bnd (aD .add (env 62) (aE 1) h14) fun v15 h15 =>
    kk7 (env 1) (env 2) (env 60) (env 61) v15 h15)) (
      eE r n (env 2) h1)) = (K5 (aGb r n kk7) 1 2 60 61 62) := by kernel_rfl
theorem bKa (kk7 : cH) : D144 r n mQ (xs x0 0 (K1 (eE r n) 2)) (K5 kk7 1 2 60 61 62) = (K5 (aGb r n kk7) 1 2 60 61 62) :=
 (bUo r n kk7 (eE r n)).trans (bEo r n kk7)
theorem bWp (m : Nat) : aO (fun kk => D144 r n mQ (xs x0 0 (K1 (eE r n) 2)) kk) m = (K5 (sX r n m) 1 2 60 61 62) := by
 induction m with
 | zero => exact (by kernel_rfl : aO (fun kk => D144 r n mQ (xs x0 0 (K1 (eE r n) 2)) kk) 0 = (K5 (sX r n 0) 1 2 60 61 62))
 | succ m ih =>
  refine (by kernel_rfl : aO (fun kk => D144 r n mQ (xs x0 0 (K1 (eE r n) 2)) kk) (m + 1) = D144 r n mQ (xs x0 0 (K1 (eE r n) 2)) (aO (fun kk => D144 r n mQ (xs x0 0 (K1 (eE r n) 2)) kk) m)).trans ?_
  rw [ih]
  exact (bKa r n (sX r n m)).trans (by kernel_rfl)
theorem cJc : D144 r n aDf (xs x0 0 (K1 (eE r n) 2)) (K1 (eE r n) 2) = (K5 (cAu r n) 1 2 60 61 62) :=
 (by kernel_rfl : D144 r n aDf (xs x0 0 (K1 (eE r n) 2)) (K1 (eE r n) 2) = aO (fun kk => D144 r n mQ (xs x0 0 (K1 (eE r n) 2)) kk) n).trans ((bWp r n n).trans (by kernel_rfl))
theorem cLs : D144 r n aRr x0 (K1 (eE r n) 2) = (K5 (aNw r n) 1 2 60 61 62) :=
 (by kernel_rfl : D144 r n aRr x0 (K1 (eE r n) 2) = D144 r n aDf (xs x0 0 (K1 (eE r n) 2)) (K1 (eE r n) 2)).trans
 ((cJc r n).trans (by kernel_rfl))
theorem bUy : D144 r n aBk x0 r144 = D144 r n aAb x0 (K1 (eE r n) 2) :=
 congrArg (fun k => D144 r n aAb x0 k) (cOp r n)
theorem bVx : D144 r n aAb x0 (K1 (eE r n) 2) = D144 r n bAc x0 (K5 (aNw r n) 1 2 60 61 62) :=
 congrArg (fun k => D144 r n bAc x0 k) (cLs r n)
theorem cHq : D144 r n aBk x0 r144 = (K2 (aRi r n) 1 2) :=
 (bUy r n).trans
 ((bVx r n).trans
 ((by kernel_rfl)))
theorem bTr : D144 r n aJr x0 r144 = D144 r n aWb x0 (K2 (aRi r n) 1 2) :=
 congrArg (fun k => D144 r n aWb x0 k) (cHq r n)
theorem cRa : D144 r n aJr x0 r144 = (K4 (aPx r n) 1 2 6 7) :=
 (bTr r n).trans
 ((by kernel_rfl))
theorem bTd : D144 r n aEx x0 r144 = D144 r n aXg x0 (K4 (aPx r n) 1 2 6 7) :=
 congrArg (fun k => D144 r n aXg x0 k) (cRa r n)
theorem cCo : D144 r n aEx x0 r144 = (K3 (aPz r n) 1 2 6) :=
 (bTd r n).trans
 ((by kernel_rfl))
theorem bNk : D144 r n aGx x0 r144 = D144 r n bCa x0 (K3 (aPz r n) 1 2 6) :=
 congrArg (fun k => D144 r n bCa x0 k) (cCo r n)
theorem cMl : D144 r n aGx x0 r144 = (K2 (yA r n) 1 2) :=
 (bNk r n).trans
 ((by kernel_rfl))
theorem cYa : D144 r n c144 x0 r144 = D144 r n aCh x0 (K2 (yA r n) 1 2) :=
 congrArg (fun k => D144 r n aCh x0 k) (cMl r n)
theorem dEa (q0 : pB) : D144 r n aCh x0 (K2 q0 1 2) = fun (env : aV) (h : Hp) =>
 bnd (bO (env 0) h) fun v1 h1 =>
  q0 (env 1) v1 h1 := by kernel_rfl
theorem cGa : (fun (env : aV) (h : Hp) =>
 bnd (bO (env 0) h) fun v1 h1 =>
  yA r n (env 1) v1 h1) = (K2 (s144 r n) 0 1) := by kernel_rfl
theorem dMk : D144 r n c144 x0 r144 = (K2 (s144 r n) 0 1) :=
 (cYa r n).trans
 ((dEa r n (yA r n)).trans (cGa r n))
theorem dCl : aF CF r n 144 args h = s144 r n (aU args 0) (aU args 1) h :=
 (by kernel_rfl : aF CF r n 144 args h = D144 r n c144 x0 r144 (aI args) h).trans ((congrFun (congrFun (dMk r n) (aI args)) h).trans (by kernel_rfl))
noncomputable def s145 (r : RT) (n : Nat) (x0 x1 : DV) (h0 : Hp) : aH :=
 bnd (aA x1 h0) fun v1 h1 =>
 bnd (r 131 [v1, x0] h1) fun v2 h2 =>
 bnd (aD .geq v2 (aE 0) h2) fun v3 h3 =>
 some (v3, h3)
noncomputable abbrev c145 : Code := cf Tryz.f145
noncomputable abbrev r145 : K := aR CF Tryz.f145
noncomputable def D145 (r : RT) (n : Nat) (c : Code) (X : Nat → K) (k : K) : K := aM CF r 8 n c X r145 k
theorem dMs : D145 r n c145 x0 r145 = (K2 (s145 r n) 0 1) :=
 (by kernel_rfl)
theorem cXp : aF CF r n 145 args h = s145 r n (aU args 0) (aU args 1) h :=
 (by kernel_rfl : aF CF r n 145 args h = D145 r n c145 x0 r145 (aI args) h).trans ((congrFun (congrFun (dMs r n) (aI args)) h).trans (by kernel_rfl))
noncomputable def s146 (r : RT) (n : Nat) (x0 x1 : DV) (h0 : Hp) : aH :=
 bnd (lZ [x0, x1] h0) fun v1 h1 =>
 some (v1, h1)
noncomputable abbrev c146 : Code := cf Tryz.f146
noncomputable abbrev r146 : K := aR CF Tryz.f146
noncomputable def D146 (r : RT) (n : Nat) (c : Code) (X : Nat → K) (k : K) : K := aM CF r 8 n c X r146 k
theorem dHv : D146 r n c146 x0 r146 = (K2 (s146 r n) 0 1) :=
 (by kernel_rfl)
theorem dAh : aF CF r n 146 args h = s146 r n (aU args 0) (aU args 1) h :=
 (by kernel_rfl : aF CF r n 146 args h = D146 r n c146 x0 r146 (aI args) h).trans ((congrFun (congrFun (dHv r n) (aI args)) h).trans (by kernel_rfl))
noncomputable def s147 (r : RT) (n : Nat) (x0 x1 : DV) (h0 : Hp) : aH :=
 bnd (aN x0 h0) fun v1 h1 =>
 bnd (aB 1 v1 h1) fun v2 h2 =>
 bnd (aA v2 h2) fun v3 h3 =>
 bnd (aD .add v3 x1 h3) fun v4 h4 =>
 bnd (aN x0 h4) fun v5 h5 =>
 bnd (aB 0 v5 h5) fun v6 h6 =>
 bnd (aA v6 h6) fun v7 h7 =>
 bnd (dW v7 h7) fun v8 h8 =>
 bnd (aD .geq v4 v8 h8) fun v9 h9 =>
 aT v9 (
 some ((.i .u8 (Int.ofNat 0)), h9)) (
 bnd (aN x0 h9) fun v10 h10 =>
 bnd (aB 0 v10 h10) fun v11 h11 =>
 bnd (aA v11 h11) fun v12 h12 =>
 bnd (aN x0 h12) fun v13 h13 =>
 bnd (aB 1 v13 h13) fun v14 h14 =>
 bnd (aA v14 h14) fun v15 h15 =>
 bnd (aD .add v15 x1 h15) fun v16 h16 =>
 bnd (fK v12 v16 h16) fun v17 h17 =>
 some (v17, h17))
noncomputable abbrev c147 : Code := cf Tryz.f147
noncomputable abbrev r147 : K := aR CF Tryz.f147
noncomputable def D147 (r : RT) (n : Nat) (c : Code) (X : Nat → K) (k : K) : K := aM CF r 28 n c X r147 k
theorem dMa : D147 r n c147 x0 r147 = (K2 (s147 r n) 0 1) :=
 (by kernel_rfl)
theorem cWd : aF CF r n 147 args h = s147 r n (aU args 0) (aU args 1) h :=
 (by kernel_rfl : aF CF r n 147 args h = D147 r n c147 x0 r147 (aI args) h).trans ((congrFun (congrFun (dMa r n) (aI args)) h).trans (by kernel_rfl))
noncomputable def s148 (r : RT) (n : Nat) (x0 : DV) (h0 : Hp) : aH :=
 bnd (aD .geq x0 (.i .u8 (Int.ofNat 97)) h0) fun v1 h1 =>
 bnd (gD v1 true (some (x0, h1)) h1) fun v2 h2 =>
 bnd (gD v1 true (aD .leq v2 (.i .u8 (Int.ofNat 122)) h2) h2) fun v3 h3 =>
 bnd (aP v1 v3 (.b false) h3) fun v4 h4 =>
 bnd (gD v4 false (some (x0, h4)) h4) fun v5 h5 =>
 bnd (gD v4 false (aD .geq v5 (.i .u8 (Int.ofNat 65)) h5) h5) fun v6 h6 =>
 bnd (gD v4 false (some (v6, h6)) h6) fun v7 h7 =>
 bnd (gD v7 true (some (x0, h7)) h7) fun v8 h8 =>
 bnd (gD v7 true (aD .leq v8 (.i .u8 (Int.ofNat 90)) h8) h8) fun v9 h9 =>
 bnd (gD v4 false (aP v7 v9 (.b false) h9) h9) fun v10 h10 =>
 bnd (aP v4 (.b true) v10 h10) fun v11 h11 =>
 some (v11, h11)
noncomputable abbrev c148 : Code := cf Tryz.f148
noncomputable abbrev r148 : K := aR CF Tryz.f148
noncomputable def D148 (r : RT) (n : Nat) (c : Code) (X : Nat → K) (k : K) : K := aM CF r 17 n c X r148 k
theorem dMm : D148 r n c148 x0 r148 = (K1 (s148 r n) 0) :=
 (by kernel_rfl)
theorem cTq : aF CF r n 148 args h = s148 r n (aU args 0) h :=
 (by kernel_rfl : aF CF r n 148 args h = D148 r n c148 x0 r148 (aI args) h).trans ((congrFun (congrFun (dMm r n) (aI args)) h).trans (by kernel_rfl))
noncomputable def s149 (r : RT) (n : Nat) (x0 : DV) (h0 : Hp) : aH :=
 bnd (aN x0 h0) fun v1 h1 =>
 bnd (aB 0 v1 h1) fun v2 h2 =>
 bnd (aA v2 h2) fun v3 h3 =>
 bnd (dW v3 h3) fun v4 h4 =>
 bnd (r 129 [x0, (.f 177 [] []), v4] h4) fun v5 h5 =>
 bnd (dW v5 h5) fun v6 h6 =>
 bnd (aD .gtr v6 (aE 24) h6) fun v7 h7 =>
 aT v7 (
 some (.t [(.s []), (aE 12)], h7)) (
 some (.t [v5, (aE 0)], h7))
noncomputable abbrev c149 : Code := cf Tryz.f149
noncomputable abbrev r149 : K := aR CF Tryz.f149
noncomputable def D149 (r : RT) (n : Nat) (c : Code) (X : Nat → K) (k : K) : K := aM CF r 16 n c X r149 k
theorem dIk : D149 r n c149 x0 r149 = (K1 (s149 r n) 0) :=
 (by kernel_rfl)
theorem dBu : aF CF r n 149 args h = s149 r n (aU args 0) h :=
 (by kernel_rfl : aF CF r n 149 args h = D149 r n c149 x0 r149 (aI args) h).trans ((congrFun (congrFun (dIk r n) (aI args)) h).trans (by kernel_rfl))
noncomputable def s150 (r : RT) (n : Nat) (x0 : DV) (h0 : Hp) : aH :=
 bnd (r 147 [x0, (aE 0)] h0) fun v1 h1 =>
 bnd (aD .neq v1 (.i .u8 (Int.ofNat 58)) h1) fun v2 h2 =>
 bnd (gD v2 false (some (x0, h2)) h2) fun v3 h3 =>
 bnd (gD v2 false (r 147 [v3, (aE 1)] h3) h3) fun v4 h4 =>
 bnd (gD v2 false (aD .eql v4 (.i .u8 (Int.ofNat 61)) h4) h4) fun v5 h5 =>
 bnd (aP v2 (.b true) v5 h5) fun v6 h6 =>
 aT v6 (
 some ((.b false), h6)) (
 bnd (aN x0 h6) fun v7 h7 =>
 bnd (aB 1 v7 h7) fun v8 h8 =>
 bnd (aA v8 h8) fun v9 h9 =>
 bnd (aD .add v9 (aE 1) h9) fun v10 h10 =>
 bnd (aN x0 h10) fun v11 h11 =>
 bnd (aB 1 v11 h11) fun v12 h12 =>
 bnd (aG 1 v12 v10 h12) fun _ h13 =>
 some ((.b true), h13))
noncomputable abbrev c150 : Code := cf Tryz.f150
noncomputable abbrev r150 : K := aR CF Tryz.f150
noncomputable def D150 (r : RT) (n : Nat) (c : Code) (X : Nat → K) (k : K) : K := aM CF r 18 n c X r150 k
theorem dMx : D150 r n c150 x0 r150 = (K1 (s150 r n) 0) :=
 (by kernel_rfl)
theorem dBv : aF CF r n 150 args h = s150 r n (aU args 0) h :=
 (by kernel_rfl : aF CF r n 150 args h = D150 r n c150 x0 r150 (aI args) h).trans ((congrFun (congrFun (dMx r n) (aI args)) h).trans (by kernel_rfl))
noncomputable def s151 (r : RT) (n : Nat) (x0 : DV) (h0 : Hp) : aH :=
 bnd (aD .geq x0 (.i .u8 (Int.ofNat 48)) h0) fun v1 h1 =>
 bnd (gD v1 true (some (x0, h1)) h1) fun v2 h2 =>
 bnd (gD v1 true (aD .leq v2 (.i .u8 (Int.ofNat 57)) h2) h2) fun v3 h3 =>
 bnd (aP v1 v3 (.b false) h3) fun v4 h4 =>
 some (v4, h4)
noncomputable abbrev c151 : Code := cf Tryz.f151
noncomputable abbrev r151 : K := aR CF Tryz.f151
noncomputable def D151 (r : RT) (n : Nat) (c : Code) (X : Nat → K) (k : K) : K := aM CF r 9 n c X r151 k
theorem dIv : D151 r n c151 x0 r151 = (K1 (s151 r n) 0) :=
 (by kernel_rfl)
theorem cZq : aF CF r n 151 args h = s151 r n (aU args 0) h :=
 (by kernel_rfl : aF CF r n 151 args h = D151 r n c151 x0 r151 (aI args) h).trans ((congrFun (congrFun (dIv r n) (aI args)) h).trans (by kernel_rfl))
noncomputable def eS (r : RT) (n : Nat) (x4 : DV) (h0 : Hp) : aH :=
 some (.t [x4, (aE 0)], h0)
noncomputable def bCk (r : RT) (n : Nat) (kk5 : pB) (x4 x14 : DV) (h0 : Hp) : aH :=
 bnd (wJ x14 h0) fun v1 h1 =>
 bnd (aC 0 v1 h1) fun v2 h2 =>
 aT v2 (
 bnd (aC 2 v1 h2) fun v3 h3 =>
 bnd (aD .gtr x4 (aE 115292150460684697) h3) fun v4 h4 =>
 aT v4 (
 some (.t [(aE 0), (aE 2)], h4)) (
 bnd (aD .mul x4 (aE 10) h4) fun v5 h5 =>
 bnd (aD .sub v3 (.i .i32 (Int.ofNat 48)) h5) fun v6 h6 =>
 bnd (eG .i64 v6 h6) fun v7 h7 =>
 bnd (aD .add v5 v7 h7) fun v8 h8 =>
 bnd (aD .gtr v8 (aE 1152921504606846976) h8) fun v9 h9 =>
 aT v9 (
 some (.t [(aE 0), (aE 2)], h9)) (
     kk5 v8 x14 h9))) (
   eS r n x4 h2)
noncomputable def uO (r : RT) (n : Nat) (m : Nat) : pB :=
 Nat.rec (motive := fun _ => pB) (fun _ _ _ => none) (fun _ ih => bCk r n ih) m
noncomputable def cAt (r : RT) (n : Nat) : pB := uO r n n
noncomputable def aTb (r : RT) (n : Nat) (x4 x14 : DV) (h0 : Hp) : aH :=
 cAt r n x4 x14 h0
noncomputable def aOq (r : RT) (n : Nat) (x0 x4 : DV) (h0 : Hp) : aH :=
 bnd (aN x0 h0) fun v1 h1 =>
 bnd (aB 0 v1 h1) fun v2 h2 =>
 bnd (aA v2 h2) fun v3 h3 =>
 bnd (dW v3 h3) fun v4 h4 =>
 bnd (r 129 [x0, (.f 151 [] []), v4] h4) fun v5 h5 =>
 bnd (oT v5 h5) fun v6 h6 =>
  aTb r n x4 v6 h6
noncomputable def aUg (r : RT) (n : Nat) (x0 : DV) (h0 : Hp) : aH :=
 aOq r n x0 (aE 0) h0
noncomputable def s152 (r : RT) (n : Nat) (x0 : DV) (h0 : Hp) : aH :=
 aUg r n x0 h0
noncomputable abbrev c152 : Code := cf Tryz.f152
noncomputable abbrev aEa : Code := cR c152
noncomputable abbrev aDx : Code := cR aEa
noncomputable abbrev cYp : Code := cR aDx
noncomputable abbrev xS : Code := cL aDx
noncomputable abbrev aTt : Code := cR xS
noncomputable abbrev aBy : Code := cL aTt
noncomputable abbrev oB : Code := cL aBy
noncomputable abbrev bNc : Code := cL xS
noncomputable abbrev bMd : Code := cL aEa
noncomputable abbrev aZt : Code := cL c152
noncomputable abbrev r152 : K := aR CF Tryz.f152
noncomputable def D152 (r : RT) (n : Nat) (c : Code) (X : Nat → K) (k : K) : K := aM CF r 29 n c X r152 k
theorem cFz : D152 r n cYp x0 r152 = (K1 (eS r n) 4) :=
 (by kernel_rfl)
theorem bNf (kk5 : pB) : D152 r n oB (xs x0 0 (K1 (eS r n) 4)) (K2 kk5 4 14) = (K2 (bCk r n kk5) 4 14) :=
 (by kernel_rfl)
theorem bMr (m : Nat) : aO (fun kk => D152 r n oB (xs x0 0 (K1 (eS r n) 4)) kk) m = (K2 (uO r n m) 4 14) := by
 induction m with
 | zero => exact (by kernel_rfl : aO (fun kk => D152 r n oB (xs x0 0 (K1 (eS r n) 4)) kk) 0 = (K2 (uO r n 0) 4 14))
 | succ m ih =>
  refine (by kernel_rfl : aO (fun kk => D152 r n oB (xs x0 0 (K1 (eS r n) 4)) kk) (m + 1) = D152 r n oB (xs x0 0 (K1 (eS r n) 4)) (aO (fun kk => D152 r n oB (xs x0 0 (K1 (eS r n) 4)) kk) m)).trans ?_
  rw [ih]
  exact (bNf r n (uO r n m)).trans (by kernel_rfl)
theorem cFy : D152 r n aBy (xs x0 0 (K1 (eS r n) 4)) (K1 (eS r n) 4) = (K2 (cAt r n) 4 14) :=
 (by kernel_rfl : D152 r n aBy (xs x0 0 (K1 (eS r n) 4)) (K1 (eS r n) 4) = aO (fun kk => D152 r n oB (xs x0 0 (K1 (eS r n) 4)) kk) n).trans ((bMr r n n).trans (by kernel_rfl))
theorem cDi : D152 r n aTt x0 (K1 (eS r n) 4) = (K2 (aTb r n) 4 14) :=
 (by kernel_rfl : D152 r n aTt x0 (K1 (eS r n) 4) = D152 r n aBy (xs x0 0 (K1 (eS r n) 4)) (K1 (eS r n) 4)).trans
 ((cFy r n).trans (by kernel_rfl))
theorem bPi : D152 r n aDx x0 r152 = D152 r n xS x0 (K1 (eS r n) 4) :=
 congrArg (fun k => D152 r n xS x0 k) (cFz r n)
theorem bVc : D152 r n xS x0 (K1 (eS r n) 4) = D152 r n bNc x0 (K2 (aTb r n) 4 14) :=
 congrArg (fun k => D152 r n bNc x0 k) (cDi r n)
theorem cJw : D152 r n aDx x0 r152 = (K2 (aOq r n) 0 4) :=
 (bPi r n).trans
 ((bVc r n).trans
 ((by kernel_rfl)))
theorem bNw : D152 r n aEa x0 r152 = D152 r n bMd x0 (K2 (aOq r n) 0 4) :=
 congrArg (fun k => D152 r n bMd x0 k) (cJw r n)
theorem cOj : D152 r n aEa x0 r152 = (K1 (aUg r n) 0) :=
 (bNw r n).trans
 ((by kernel_rfl))
theorem cUe : D152 r n c152 x0 r152 = D152 r n aZt x0 (K1 (aUg r n) 0) :=
 congrArg (fun k => D152 r n aZt x0 k) (cOj r n)
theorem dKy : D152 r n c152 x0 r152 = (K1 (s152 r n) 0) :=
 (cUe r n).trans
 ((by kernel_rfl))
theorem cWs : aF CF r n 152 args h = s152 r n (aU args 0) h :=
 (by kernel_rfl : aF CF r n 152 args h = D152 r n c152 x0 r152 (aI args) h).trans ((congrFun (congrFun (dKy r n) (aI args)) h).trans (by kernel_rfl))
end Go.Dd

namespace Go.Dd
open Go.Proofs
variable (r : RT) (n : Nat) (args : List DV) (h : Hp)
noncomputable def s156 (r : RT) (n : Nat) (x0 x1 : DV) (h0 : Hp) : aH :=
 bnd (bO x1 h0) fun v1 h1 =>
 bnd (bN [(.s []), (.b false), (.b false), (aE 0)] h1) fun v2 h2 =>
 bnd (aN x0 h2) fun v3 h3 =>
 bnd (aB 6 v3 h3) fun v4 h4 =>
 bnd (aA v4 h4) fun v5 h5 =>
 bnd (r 185 [v5, (.f 186 [] [v1])] h5) fun v6 h6 =>
 bnd (aD .lss v6 (aE 0) h6) fun v7 h7 =>
 aT v7 (
 bnd (bB [(.s []), (.b false), (.b false), (aE 0)] [] h7) fun v8 h8 =>
 bnd (aG 4 v2 v8 h8) fun _ h9 =>
 bnd (aK 4 v2 h9) fun v10 _ =>
 some (.t [v10, (.b false)], h9)) (
 bnd (aN x0 h7) fun v11 h11 =>
 bnd (aB 6 v11 h11) fun v12 h12 =>
 bnd (aA v12 h12) fun v13 h13 =>
 bnd (aJ 4 v13 v6 h13) fun v14 h14 =>
 bnd (aK 4 v14 h14) fun v15 h15 =>
 bnd (aG 4 v2 v15 h15) fun _ h16 =>
 bnd (aK 4 v2 h16) fun v17 _ =>
 some (.t [v17, (.b true)], h16))
noncomputable abbrev c156 : Code := cf Tryz.f156
noncomputable abbrev r156 : K := aR CF Tryz.f156
noncomputable def D156 (r : RT) (n : Nat) (c : Code) (X : Nat → K) (k : K) : K := aM CF r 23 n c X r156 k
theorem dFu : D156 r n c156 x0 r156 = (K2 (s156 r n) 0 1) :=
 (by kernel_rfl)
theorem cZt : aF CF r n 156 args h = s156 r n (aU args 0) (aU args 1) h :=
 (by kernel_rfl : aF CF r n 156 args h = D156 r n c156 x0 r156 (aI args) h).trans ((congrFun (congrFun (dFu r n) (aI args)) h).trans (by kernel_rfl))
noncomputable def hD (r : RT) (n : Nat) (h0 : Hp) : aH :=
 some ((.b false), h0)
noncomputable def mM (r : RT) (n : Nat) (x4 : DV) (h0 : Hp) : aH :=
 aT x4 (
 some ((.b true), h0)) (
  hD r n h0)
noncomputable def aNx (r : RT) (n : Nat) (x3 : DV) (h0 : Hp) : aH :=
 bnd (fN .eql x3 (.s [115, 101, 108, 102]) h0) fun v1 h1 =>
 aT v1 (
  mM r n v1 h1) (
 bnd (fN .eql x3 (.s [115, 117, 112, 101, 114]) h1) fun v2 h2 =>
 aT v2 (
   mM r n v2 h2) (
 bnd (fN .eql x3 (.s [110, 105, 108]) h2) fun v3 h3 =>
 aT v3 (
    mM r n v3 h3) (
 bnd (fN .eql x3 (.s [116, 114, 117, 101]) h3) fun v4 h4 =>
 aT v4 (
     mM r n v4 h4) (
 bnd (fN .eql x3 (.s [102, 97, 108, 115, 101]) h4) fun v5 h5 =>
 aT v5 (
      mM r n v5 h5) (
 bnd (fN .eql x3 (.s [116, 104, 105, 115, 67, 111, 110, 116, 101, 120, 116]) h5) fun v6 h6 =>
      mM r n v6 h6)))))
noncomputable def aOw (r : RT) (n : Nat) (x0 : DV) (h0 : Hp) : aH :=
 aNx r n x0 h0
noncomputable def s157 (r : RT) (n : Nat) (x0 : DV) (h0 : Hp) : aH :=
 aOw r n x0 h0
noncomputable abbrev c157 : Code := cf Tryz.f157
noncomputable abbrev aBo : Code := cR c157
noncomputable abbrev cZk : Code := cR aBo
noncomputable abbrev vN : Code := cL aBo
noncomputable abbrev aTw : Code := cR vN
noncomputable abbrev aHi : Code := cL aTw
noncomputable abbrev cYw : Code := cR aHi
noncomputable abbrev bXd : Code := cL aHi
noncomputable abbrev bYn : Code := cL vN
noncomputable abbrev bSs : Code := cL c157
noncomputable abbrev r157 : K := aR CF Tryz.f157
noncomputable def D157 (r : RT) (n : Nat) (c : Code) (X : Nat → K) (k : K) : K := aM CF r 11 n c X r157 k
theorem cMm : D157 r n cZk x0 r157 = (K0 (hD r n)) :=
 (by kernel_rfl)
theorem cNb : D157 r n cYw (xs x0 0 (K0 (hD r n))) (K0 (hD r n)) = (K1 (mM r n) 4) :=
 (by kernel_rfl)
theorem bUj : D157 r n aHi (xs x0 0 (K0 (hD r n))) (K0 (hD r n)) = D157 r n bXd (xs x0 0 (K0 (hD r n))) (K1 (mM r n) 4) :=
 congrArg (fun k => D157 r n bXd (xs x0 0 (K0 (hD r n))) k) (cNb r n)
theorem cDh : D157 r n aTw x0 (K0 (hD r n)) = (K1 (aNx r n) 3) :=
 (by kernel_rfl : D157 r n aTw x0 (K0 (hD r n)) = D157 r n aHi (xs x0 0 (K0 (hD r n))) (K0 (hD r n))).trans
 ((bUj r n).trans
 ((by kernel_rfl)))
theorem bJk : D157 r n aBo x0 r157 = D157 r n vN x0 (K0 (hD r n)) :=
 congrArg (fun k => D157 r n vN x0 k) (cMm r n)
theorem bXs : D157 r n vN x0 (K0 (hD r n)) = D157 r n bYn x0 (K1 (aNx r n) 3) :=
 congrArg (fun k => D157 r n bYn x0 k) (cDh r n)
theorem cGh : D157 r n aBo x0 r157 = (K1 (aOw r n) 0) :=
 (bJk r n).trans
 ((bXs r n).trans
 ((by kernel_rfl)))
theorem cZj : D157 r n c157 x0 r157 = D157 r n bSs x0 (K1 (aOw r n) 0) :=
 congrArg (fun k => D157 r n bSs x0 k) (cGh r n)
theorem dJr : D157 r n c157 x0 r157 = (K1 (s157 r n) 0) :=
 (cZj r n).trans
 ((by kernel_rfl))
theorem dBf : aF CF r n 157 args h = s157 r n (aU args 0) h :=
 (by kernel_rfl : aF CF r n 157 args h = D157 r n c157 x0 r157 (aI args) h).trans ((congrFun (congrFun (dJr r n) (aI args)) h).trans (by kernel_rfl))
noncomputable def aGv (r : RT) (n : Nat) (x0 x1 : DV) (h0 : Hp) : aH :=
 bnd (r 156 [x0, x1] h0) fun v1 h1 =>
 bnd (aC 0 v1 h1) fun v2 h2 =>
 bnd (aC 1 v1 h2) fun v3 h3 =>
 bnd (bN [(.s []), (.b false), (.b false), (aE 0)] h3) fun v4 h4 =>
 bnd (aG 4 v4 v2 h4) fun _ h5 =>
 bnd (gD v3 true (aB 1 v4 h5) h5) fun v6 h6 =>
 bnd (gD v3 true (aA v6 h6) h6) fun v7 h7 =>
 bnd (aP v3 v7 (.b false) h7) fun v8 h8 =>
 aT v8 (
 bnd (aB 3 v4 h8) fun v9 h9 =>
 bnd (aA v9 h9) fun v10 h10 =>
 bnd (r 141 [x0, (aE 8), v10, (aE 0)] h10) fun v11 h11 =>
 some (.t [], h11)) (
 aT v3 (
 bnd (aB 3 v4 h8) fun v12 h12 =>
 bnd (aA v12 h12) fun v13 h13 =>
 bnd (r 141 [x0, (aE 7), v13, (aE 0)] h13) fun v14 h14 =>
 some (.t [], h14)) (
 bnd (r 190 [x1] h8) fun v15 h15 =>
 aT v15 (
 bnd (r 191 [x0, x1] h15) fun v16 h16 =>
 bnd (r 141 [x0, (aE 9), v16, (aE 0)] h16) fun v17 h17 =>
 some (.t [], h17)) (
 bnd (r 158 [x0, x1, (aE 15)] h15) fun v18 h18 =>
 some (.t [], h18))))
noncomputable def s161 (r : RT) (n : Nat) (x0 x1 : DV) (h0 : Hp) : aH :=
 bnd (fN .eql x1 (.s [115, 101, 108, 102]) h0) fun v1 h1 =>
 aT v1 (
 bnd (r 141 [x0, (aE 1), (aE 0), (aE 0)] h1) fun v2 h2 =>
 some (.t [], h2)) (
 bnd (fN .eql x1 (.s [110, 105, 108]) h1) fun v3 h3 =>
 aT v3 (
 bnd (r 141 [x0, (aE 2), (aE 0), (aE 0)] h3) fun v4 h4 =>
 some (.t [], h4)) (
 bnd (fN .eql x1 (.s [116, 114, 117, 101]) h3) fun v5 h5 =>
 aT v5 (
 bnd (r 141 [x0, (aE 3), (aE 0), (aE 0)] h5) fun v6 h6 =>
 some (.t [], h6)) (
 bnd (fN .eql x1 (.s [102, 97, 108, 115, 101]) h5) fun v7 h7 =>
 aT v7 (
 bnd (r 141 [x0, (aE 4), (aE 0), (aE 0)] h7) fun v8 h8 =>
 some (.t [], h8)) (
 bnd (fN .eql x1 (.s [116, 104, 105, 115, 67, 111, 110, 116, 101, 120, 116]) h7) fun v9 h9 =>
 aT v9 (
 bnd (r 141 [x0, (aE 5), (aE 0), (aE 0)] h9) fun v10 h10 =>
 some (.t [], h10)) (
 bnd (fN .eql x1 (.s [115, 117, 112, 101, 114]) h9) fun v11 h11 =>
 aT v11 (
 bnd (r 158 [x0, x1, (aE 15)] h11) fun v12 h12 =>
       aGv r n x0 x1 h12) (
       aGv r n x0 x1 h11))))))
noncomputable abbrev c161 : Code := cf Tryz.f161
noncomputable abbrev dEp : Code := cR c161
noncomputable abbrev bPy : Code := cL c161
noncomputable abbrev r161 : K := aR CF Tryz.f161
noncomputable def D161 (r : RT) (n : Nat) (c : Code) (X : Nat → K) (k : K) : K := aM CF r 65 n c X r161 k
theorem cBj : D161 r n dEp x0 r161 = (K2 (aGv r n) 0 1) :=
 (by kernel_rfl)
theorem cSy : D161 r n c161 x0 r161 = D161 r n bPy x0 (K2 (aGv r n) 0 1) :=
 congrArg (fun k => D161 r n bPy x0 k) (cBj r n)
theorem dGa : D161 r n c161 x0 r161 = (K2 (s161 r n) 0 1) :=
 (cSy r n).trans
 ((by kernel_rfl))
theorem cWt : aF CF r n 161 args h = s161 r n (aU args 0) (aU args 1) h :=
 (by kernel_rfl : aF CF r n 161 args h = D161 r n c161 x0 r161 (aI args) h).trans ((congrFun (congrFun (dGa r n) (aI args)) h).trans (by kernel_rfl))
noncomputable def s163 (r : RT) (n : Nat) (x0 x1 : DV) (h0 : Hp) : aH :=
 bnd (bO x1 h0) fun v1 h1 =>
 bnd (aB 5 v1 h1) fun v2 h2 =>
 bnd (aA v2 h2) fun v3 h3 =>
 bnd (cA v3 h3) fun v4 h4 =>
 bnd (aD .eql v4 (aE 0) h4) fun v5 h5 =>
 aT v5 (
 bnd (r 158 [x0, (.s []), (aE 1)] h5) fun v6 h6 =>
 some (.t [], h6)) (
 bnd (aK 6 v1 h5) fun v7 h7 =>
 bnd (r 192 [x0, v7] h7) fun v8 h8 =>
 bnd (gD v8 false (some (x0, h8)) h8) fun v9 h9 =>
 bnd (gD v8 false (aK 6 v1 h9) h9) fun v10 h10 =>
 bnd (gD v8 false (r 193 [v9, v10] h10) h10) fun v11 h11 =>
 bnd (aP v8 (.b true) v11 h11) fun v12 h12 =>
 aT v12 (
 some (.t [], h12)) (
 bnd (aB 5 v1 h12) fun v13 h13 =>
 bnd (aA v13 h13) fun v14 h14 =>
 bnd (aJ 6 v14 (aE 0) h14) fun v15 h15 =>
 bnd (aK 6 v15 h15) fun v16 h16 =>
 bnd (r 195 [x0, v16] h16) fun v17 h17 =>
 bnd (aB 1 v1 h17) fun v18 h18 =>
 bnd (aA v18 h18) fun v19 h19 =>
 cnd (bG (aA v18 h12) v19 && true) (
 bnd (aB 5 v1 h19) fun v20 h20 =>
 bnd (aA v20 h20) fun v21 h21 =>
 cnd (bG (aA v20 h12) v21 && true) (
 bnd (cT 6 v21 (some (aE 1)) none h21) fun v22 h22 =>
 cnd (bG (cT 6 v21 (some (aE 1)) none h12) v22 && true) (
 bnd (r 194 [x0, v17, v19, v22] h22) fun v23 h23 =>
 some (.t [], h23))))))
noncomputable abbrev c163 : Code := cf Tryz.f163
noncomputable abbrev r163 : K := aR CF Tryz.f163
noncomputable def D163 (r : RT) (n : Nat) (c : Code) (X : Nat → K) (k : K) : K := aM CF r 31 n c X r163 k
theorem dGk : D163 r n c163 x0 r163 = (K2 (s163 r n) 0 1) :=
 (by kernel_rfl)
theorem dDv : aF CF r n 163 args h = s163 r n (aU args 0) (aU args 1) h :=
 (by kernel_rfl : aF CF r n 163 args h = D163 r n c163 x0 r163 (aI args) h).trans ((congrFun (congrFun (dGk r n) (aI args)) h).trans (by kernel_rfl))
noncomputable def aFx (r : RT) (n : Nat) (x3 : DV) (h0 : Hp) : aH :=
 bnd (aB 5 x3 h0) fun v1 h1 =>
 bnd (aA v1 h1) fun v2 h2 =>
 bnd (cA v2 h2) fun v3 h3 =>
 bnd (aD .eql v3 (aE 1) h3) fun v4 h4 =>
 some (v4, h4)
noncomputable def zM (r : RT) (n : Nat) (x0 x3 : DV) (h0 : Hp) : aH :=
 bnd (aB 5 x3 h0) fun v1 h1 =>
 bnd (aA v1 h1) fun v2 h2 =>
 bnd (cA v2 h2) fun v3 h3 =>
 bnd (aD .neq v3 (aE 1) h3) fun v4 h4 =>
 aT v4 (
 bnd (r 158 [x0, (.s []), (aE 1)] h4) fun v5 h5 =>
  aFx r n x3 h5) (
  aFx r n x3 h4)
noncomputable def s167 (r : RT) (n : Nat) (x0 x1 : DV) (h0 : Hp) : aH :=
 bnd (bO x1 h0) fun v1 h1 =>
  zM r n x0 v1 h1
noncomputable abbrev c167 : Code := cf Tryz.f167
noncomputable abbrev aCp : Code := cR c167
noncomputable abbrev cTt : Code := cR aCp
noncomputable abbrev bJw : Code := cL aCp
noncomputable abbrev aRc : Code := cL c167
noncomputable abbrev r167 : K := aR CF Tryz.f167
noncomputable def D167 (r : RT) (n : Nat) (c : Code) (X : Nat → K) (k : K) : K := aM CF r 15 n c X r167 k
theorem cEq : D167 r n cTt x0 r167 = (K1 (aFx r n) 3) :=
 (by kernel_rfl)
theorem bHx : D167 r n aCp x0 r167 = D167 r n bJw x0 (K1 (aFx r n) 3) :=
 congrArg (fun k => D167 r n bJw x0 k) (cEq r n)
theorem cFn : D167 r n aCp x0 r167 = (K2 (zM r n) 0 3) :=
 (bHx r n).trans
 ((by kernel_rfl))
theorem cSz : D167 r n c167 x0 r167 = D167 r n aRc x0 (K2 (zM r n) 0 3) :=
 congrArg (fun k => D167 r n aRc x0 k) (cFn r n)
theorem dBh (q0 : pB) : D167 r n aRc x0 (K2 q0 0 3) = fun (env : aV) (h : Hp) =>
 bnd (bO (env 1) h) fun v1 h1 =>
  q0 (env 0) v1 h1 := by kernel_rfl
theorem cQg : (fun (env : aV) (h : Hp) =>
 bnd (bO (env 1) h) fun v1 h1 =>
  zM r n (env 0) v1 h1) = (K2 (s167 r n) 0 1) := by kernel_rfl
theorem dLt : D167 r n c167 x0 r167 = (K2 (s167 r n) 0 1) :=
 (cSz r n).trans
 ((dBh r n (zM r n)).trans (cQg r n))
theorem cTv : aF CF r n 167 args h = s167 r n (aU args 0) (aU args 1) h :=
 (by kernel_rfl : aF CF r n 167 args h = D167 r n c167 x0 r167 (aI args) h).trans ((congrFun (congrFun (dLt r n) (aI args)) h).trans (by kernel_rfl))
noncomputable def s168 (r : RT) (n : Nat) (x0 x1 x2 : DV) (h0 : Hp) : aH :=
 bnd (aD .geq x0 x1 h0) fun v1 h1 =>
 bnd (gD v1 true (some (x0, h1)) h1) fun v2 h2 =>
 bnd (gD v1 true (some (x2, h2)) h2) fun v3 h3 =>
 bnd (gD v1 true (aD .leq v2 v3 h3) h3) fun v4 h4 =>
 bnd (aP v1 v4 (.b false) h4) fun v5 h5 =>
 some (v5, h5)
noncomputable abbrev c168 : Code := cf Tryz.f168
noncomputable abbrev r168 : K := aR CF Tryz.f168
noncomputable def D168 (r : RT) (n : Nat) (c : Code) (X : Nat → K) (k : K) : K := aM CF r 15 n c X r168 k
theorem dHh : D168 r n c168 x0 r168 = (K3 (s168 r n) 0 1 2) :=
 (by kernel_rfl)
theorem dBd : aF CF r n 168 args h = s168 r n (aU args 0) (aU args 1) (aU args 2) h :=
 (by kernel_rfl : aF CF r n 168 args h = D168 r n c168 x0 r168 (aI args) h).trans ((congrFun (congrFun (dHh r n) (aI args)) h).trans (by kernel_rfl))
noncomputable def s169 (r : RT) (n : Nat) (x0 x1 : DV) (h0 : Hp) : aH :=
 bnd (r 187 [x0, x1] h0) fun v1 h1 =>
 bnd (aD .geq v1 (aE 0) h1) fun v2 h2 =>
 some (v2, h2)
noncomputable abbrev c169 : Code := cf Tryz.f169
noncomputable abbrev r169 : K := aR CF Tryz.f169
noncomputable def D169 (r : RT) (n : Nat) (c : Code) (X : Nat → K) (k : K) : K := aM CF r 9 n c X r169 k
theorem dFz : D169 r n c169 x0 r169 = (K2 (s169 r n) 0 1) :=
 (by kernel_rfl)
theorem dAg : aF CF r n 169 args h = s169 r n (aU args 0) (aU args 1) h :=
 (by kernel_rfl : aF CF r n 169 args h = D169 r n c169 x0 r169 (aI args) h).trans ((congrFun (congrFun (dFz r n) (aI args)) h).trans (by kernel_rfl))
noncomputable def s170 (r : RT) (n : Nat) (x0 : DV) (h0 : Hp) : aH :=
 bnd (bO x0 h0) fun v1 h1 =>
 bnd (aK 4 v1 h1) fun v2 h2 =>
 bnd (r 171 [v2, (aE 20)] h2) fun v3 h3 =>
 bnd (gQ .not v3 h3) fun v4 h4 =>
 some (v4, h4)
noncomputable abbrev c170 : Code := cf Tryz.f170
noncomputable abbrev r170 : K := aR CF Tryz.f170
noncomputable def D170 (r : RT) (n : Nat) (c : Code) (X : Nat → K) (k : K) : K := aM CF r 6 n c X r170 k
theorem dKi : D170 r n c170 x0 r170 = (K1 (s170 r n) 0) :=
 (by kernel_rfl)
theorem cVy : aF CF r n 170 args h = s170 r n (aU args 0) h :=
 (by kernel_rfl : aF CF r n 170 args h = D170 r n c170 x0 r170 (aI args) h).trans ((congrFun (congrFun (dKi r n) (aI args)) h).trans (by kernel_rfl))
noncomputable def s171 (r : RT) (n : Nat) (x0 x1 : DV) (h0 : Hp) : aH :=
 bnd (bO x0 h0) fun v1 h1 =>
 bnd (bO x1 h1) fun v2 h2 =>
 bnd (aB 0 v1 h2) fun v3 h3 =>
 bnd (aA v3 h3) fun v4 h4 =>
 bnd (aD .eql v4 (aE 1) h4) fun v5 h5 =>
 aT v5 (
 bnd (aB 1 v1 h5) fun v6 h6 =>
 bnd (aA v6 h6) fun v7 h7 =>
 bnd (fN .eql v7 (.s []) h7) fun v8 h8 =>
 bnd (gD v8 true (aB 3 v1 h8) h8) fun v9 h9 =>
 bnd (gD v8 true (aA v9 h9) h9) fun v10 h10 =>
 bnd (gD v8 true (cA v10 h10) h10) fun v11 h11 =>
 bnd (gD v8 true (aD .eql v11 (aE 0) h11) h11) fun v12 h12 =>
 bnd (aP v8 v12 (.b false) h12) fun v13 h13 =>
 bnd (gD v13 true (aB 2 v1 h13) h13) fun v14 h14 =>
 bnd (gD v13 true (aA v14 h14) h14) fun v15 h15 =>
 bnd (gD v13 true (r 168 [v15, (.i .i64 (Int.negSucc 1152921504606846975)), (aE 1152921504606846976)] h15) h15) fun v16 h16 =>
 bnd (aP v13 v16 (.b false) h16) fun v17 h17 =>
 some (v17, h17)) (
 bnd (aD .eql v4 (aE 2) h5) fun v18 h18 =>
 aT v18 (
 bnd (aB 2 v1 h18) fun v19 h19 =>
 bnd (aA v19 h19) fun v20 h20 =>
 bnd (aD .eql v20 (aE 0) h20) fun v21 h21 =>
 bnd (gD v21 true (aB 3 v1 h21) h21) fun v22 h22 =>
 bnd (gD v21 true (aA v22 h22) h22) fun v23 h23 =>
 bnd (gD v21 true (cA v23 h23) h23) fun v24 h24 =>
 bnd (gD v21 true (aD .eql v24 (aE 0) h24) h24) fun v25 h25 =>
 bnd (aP v21 v25 (.b false) h25) fun v26 h26 =>
 bnd (gD v26 true (aB 1 v1 h26) h26) fun v27 h27 =>
 bnd (gD v26 true (aA v27 h27) h27) fun v28 h28 =>
 bnd (gD v26 true (dW v28 h28) h28) fun v29 h29 =>
 bnd (gD v26 true (aD .leq v29 (aE 250) h29) h29) fun v30 h30 =>
 bnd (aP v26 v30 (.b false) h30) fun v31 h31 =>
 some (v31, h31)) (
 bnd (aD .eql v4 (aE 3) h18) fun v32 h32 =>
 aT v32 (
 bnd (aB 2 v1 h32) fun v33 h33 =>
 bnd (aA v33 h33) fun v34 h34 =>
 bnd (aD .eql v34 (aE 0) h34) fun v35 h35 =>
 bnd (gD v35 true (aB 3 v1 h35) h35) fun v36 h36 =>
 bnd (gD v35 true (aA v36 h36) h36) fun v37 h37 =>
 bnd (gD v35 true (cA v37 h37) h37) fun v38 h38 =>
 bnd (gD v35 true (aD .eql v38 (aE 0) h38) h38) fun v39 h39 =>
 bnd (aP v35 v39 (.b false) h39) fun v40 h40 =>
 bnd (gD v40 true (aB 1 v1 h40) h40) fun v41 h41 =>
 bnd (gD v40 true (aA v41 h41) h41) fun v42 h42 =>
 bnd (gD v40 true (dW v42 h42) h42) fun v43 h43 =>
 bnd (gD v40 true (r 168 [v43, (aE 1), (aE 60)] h43) h43) fun v44 h44 =>
 bnd (aP v40 v44 (.b false) h44) fun v45 h45 =>
 some (v45, h45)) (
 bnd (aD .eql v4 (aE 4) h32) fun v46 h46 =>
 aT v46 (
 bnd (aB 3 v1 h46) fun v47 h47 =>
 bnd (aA v47 h47) fun v48 h48 =>
 bnd (r 169 [v48, (.f 199 [] [v2])] h48) fun v49 h49 =>
 bnd (aB 2 v1 h49) fun v50 h50 =>
 bnd (aA v50 h50) fun v51 h51 =>
 bnd (aD .eql v51 (aE 0) h51) fun v52 h52 =>
 bnd (gD v52 true (aB 1 v1 h52) h52) fun v53 h53 =>
 bnd (gD v52 true (aA v53 h53) h53) fun v54 h54 =>
 bnd (gD v52 true (fN .eql v54 (.s []) h54) h54) fun v55 h55 =>
 bnd (aP v52 v55 (.b false) h55) fun v56 h56 =>
 bnd (gD v56 true (aA v2 h56) h56) fun v57 h57 =>
 bnd (gD v56 true (aD .gtr v57 (aE 0) h57) h57) fun v58 h58 =>
 bnd (aP v56 v58 (.b false) h58) fun v59 h59 =>
 bnd (gD v59 true (aB 3 v1 h59) h59) fun v60 h60 =>
 bnd (gD v59 true (aA v60 h60) h60) fun v61 h61 =>
 bnd (gD v59 true (cA v61 h61) h61) fun v62 h62 =>
 bnd (gD v59 true (aD .leq v62 (aE 250) h62) h62) fun v63 h63 =>
 bnd (aP v59 v63 (.b false) h63) fun v64 h64 =>
 bnd (gD v64 true (some (v49, h64)) h64) fun v65 h65 =>
 bnd (gD v64 true (gQ .not v65 h65) h65) fun v66 h66 =>
 bnd (aP v64 v66 (.b false) h66) fun v67 h67 =>
 some (v67, h67)) (
 some ((.b false), h46)))))
noncomputable abbrev c171 : Code := cf Tryz.f171
noncomputable abbrev r171 : K := aR CF Tryz.f171
noncomputable def D171 (r : RT) (n : Nat) (c : Code) (X : Nat → K) (k : K) : K := aM CF r 86 n c X r171 k
theorem dLa : D171 r n c171 x0 r171 = (K2 (s171 r n) 0 1) :=
 (by kernel_rfl)
theorem cTc : aF CF r n 171 args h = s171 r n (aU args 0) (aU args 1) h :=
 (by kernel_rfl : aF CF r n 171 args h = D171 r n c171 x0 r171 (aI args) h).trans ((congrFun (congrFun (dLa r n) (aI args)) h).trans (by kernel_rfl))
end Go.Dd

namespace Go.Dd
open Go.Proofs
variable (r : RT) (n : Nat) (args : List DV) (h : Hp)
noncomputable def bC (r : RT) (n : Nat) (h0 : Hp) : aH :=
 some ((.b true), h0)
noncomputable def uU (r : RT) (n : Nat) (x2 x3 x4 x27 x51 : DV) (h0 : Hp) : aH :=
 aT x51 (
 bnd (aB 1 x4 h0) fun v1 h1 =>
 bnd (aA v1 h1) fun v2 h2 =>
 bnd (aD .lss v2 x2 h2) fun v3 h3 =>
 some (v3, h3)) (
 bnd (aD .eql x27 (aE 18) h0) fun v4 h4 =>
 aT v4 (
 bnd (aB 2 x4 h4) fun v5 h5 =>
 bnd (aA v5 h5) fun v6 h6 =>
 bnd (aD .leq v6 (aE 4) h6) fun v7 h7 =>
 bnd (gD v7 true (aB 1 x4 h7) h7) fun v8 h8 =>
 bnd (gD v7 true (aA v8 h8) h8) fun v9 h9 =>
 bnd (gD v7 true (aB 2 x4 h9) h9) fun v10 h10 =>
 bnd (gD v7 true (aA v10 h10) h10) fun v11 h11 =>
 bnd (gD v7 true (aD .add v9 v11 h11) h11) fun v12 h12 =>
 bnd (gD v7 true (aB 2 x3 h12) h12) fun v13 h13 =>
 bnd (gD v7 true (aA v13 h13) h13) fun v14 h14 =>
 bnd (gD v7 true (aD .leq v12 v14 h14) h14) fun v15 h15 =>
 bnd (aP v7 v15 (.b false) h15) fun v16 h16 =>
 some (v16, h16)) (
   bC r n h4))
noncomputable def aVi (r : RT) (n : Nat) (x2 x3 x4 x27 : DV) (h0 : Hp) : aH :=
 bnd (aD .eql x27 (aE 8) h0) fun v1 h1 =>
 aT v1 (
  uU r n x2 x3 x4 x27 v1 h1) (
 bnd (aD .eql x27 (aE 11) h1) fun v2 h2 =>
  uU r n x2 x3 x4 x27 v2 h2)
noncomputable def tT (r : RT) (n : Nat) (x2 x3 x4 x27 x43 : DV) (h0 : Hp) : aH :=
 aT x43 (
 bnd (aB 1 x4 h0) fun v1 h1 =>
 bnd (aA v1 h1) fun v2 h2 =>
 bnd (aB 2 x3 h2) fun v3 h3 =>
 bnd (aA v3 h3) fun v4 h4 =>
 bnd (aD .lss v2 v4 h4) fun v5 h5 =>
 some (v5, h5)) (
  aVi r n x2 x3 x4 x27 h0)
noncomputable def aXt (r : RT) (n : Nat) (x2 x3 x4 x27 : DV) (h0 : Hp) : aH :=
 bnd (aD .eql x27 (aE 7) h0) fun v1 h1 =>
 aT v1 (
  tT r n x2 x3 x4 x27 v1 h1) (
 bnd (aD .eql x27 (aE 10) h1) fun v2 h2 =>
  tT r n x2 x3 x4 x27 v2 h2)
noncomputable def tW (r : RT) (n : Nat) (x2 x3 x4 x8 x27 x34 : DV) (h0 : Hp) : aH :=
 aT x34 (
 bnd (gD x8 true (aB 2 x4 h0) h0) fun v1 h1 =>
 bnd (gD x8 true (aA v1 h1) h1) fun v2 h2 =>
 bnd (gD x8 true (aD .leq v2 (aE 4) h2) h2) fun v3 h3 =>
 bnd (aP x8 v3 (.b false) h3) fun v4 h4 =>
 some (v4, h4)) (
  aXt r n x2 x3 x4 x27 h0)
noncomputable def bYy (r : RT) (n : Nat) (x2 x3 x4 x8 x27 : DV) (h0 : Hp) : aH :=
 bnd (aD .eql x27 (aE 14) h0) fun v1 h1 =>
 aT v1 (
  tW r n x2 x3 x4 x8 x27 v1 h1) (
 bnd (aD .eql x27 (aE 15) h1) fun v2 h2 =>
  tW r n x2 x3 x4 x8 x27 v2 h2)
noncomputable def aSq (r : RT) (n : Nat) (x2 x3 x4 x8 x27 x31 : DV) (h0 : Hp) : aH :=
 aT x31 (
 some (x8, h0)) (
  bYy r n x2 x3 x4 x8 x27 h0)
noncomputable def bUw (r : RT) (n : Nat) (x2 x3 x4 x8 x27 : DV) (h0 : Hp) : aH :=
 bnd (aD .eql x27 (aE 9) h0) fun v1 h1 =>
  aSq r n x2 x3 x4 x8 x27 v1 h1
noncomputable def aQu (r : RT) (n : Nat) (x2 x3 x4 x7 x8 x27 x28 : DV) (h0 : Hp) : aH :=
 aT x28 (
 some (x7, h0)) (
  bUw r n x2 x3 x4 x8 x27 h0)
noncomputable def aTa (r : RT) (n : Nat) (x2 x3 x4 x7 x8 x27 : DV) (h0 : Hp) : aH :=
 bnd (aD .eql x27 (aE 6) h0) fun v1 h1 =>
  aQu r n x2 x3 x4 x7 x8 x27 v1 h1
noncomputable def aRa (r : RT) (n : Nat) (x2 x3 x4 x7 x8 : DV) (h0 : Hp) : aH :=
 bnd (aB 0 x4 h0) fun v1 h1 =>
 bnd (aA v1 h1) fun v2 h2 =>
  aTa r n x2 x3 x4 x7 x8 v2 h2
noncomputable def aQf (r : RT) (n : Nat) (x2 x3 x4 x7 : DV) (h0 : Hp) : aH :=
 bnd (gD x7 true (aB 4 x3 h0) h0) fun v1 h1 =>
 bnd (gD x7 true (aA v1 h1) h1) fun v2 h2 =>
 bnd (gD x7 true (aB 1 x4 h2) h2) fun v3 h3 =>
 bnd (gD x7 true (aA v3 h3) h3) fun v4 h4 =>
 bnd (gD x7 true (aJ 4 v2 v4 h4) h4) fun v5 h5 =>
 bnd (gD x7 true (aB 0 v5 h5) h5) fun v6 h6 =>
 bnd (gD x7 true (aA v6 h6) h6) fun v7 h7 =>
 bnd (gD x7 true (aD .eql v7 (aE 3) h7) h7) fun v8 h8 =>
 bnd (aP x7 v8 (.b false) h8) fun v9 h9 =>
  aRa r n x2 x3 x4 x7 v9 h9
noncomputable def yH (r : RT) (n : Nat) (x2 x3 x4 : DV) (h0 : Hp) : aH :=
 bnd (aB 1 x4 h0) fun v1 h1 =>
 bnd (aA v1 h1) fun v2 h2 =>
 bnd (aB 4 x3 h2) fun v3 h3 =>
 bnd (aA v3 h3) fun v4 h4 =>
 bnd (cA v4 h4) fun v5 h5 =>
 bnd (aD .lss v2 v5 h5) fun v6 h6 =>
  aQf r n x2 x3 x4 v6 h6
noncomputable def s172 (r : RT) (n : Nat) (x0 x1 x2 : DV) (h0 : Hp) : aH :=
 bnd (bO x0 h0) fun v1 h1 =>
 bnd (bO x1 h1) fun v2 h2 =>
  yH r n x2 v1 v2 h2
noncomputable abbrev c172 : Code := cf Tryz.f172
noncomputable abbrev aIc : Code := cR c172
noncomputable abbrev aIl : Code := cR aIc
noncomputable abbrev aHw : Code := cR aIl
noncomputable abbrev dCj : Code := cR aHw
noncomputable abbrev xL : Code := cL aHw
noncomputable abbrev aOn : Code := cR xL
noncomputable abbrev aEz : Code := cL aOn
noncomputable abbrev xX : Code := cR aEz
noncomputable abbrev wR : Code := cR xX
noncomputable abbrev pH : Code := cR wR
noncomputable abbrev pE : Code := cR pH
noncomputable abbrev pX : Code := cR pE
noncomputable abbrev pN : Code := cR pX
noncomputable abbrev qD : Code := cR pN
noncomputable abbrev pD : Code := cR qD
noncomputable abbrev cGx : Code := cR pD
noncomputable abbrev aXq : Code := cL pD
noncomputable abbrev cEt : Code := cL qD
noncomputable abbrev bAa : Code := cL pN
noncomputable abbrev cNh : Code := cL pX
noncomputable abbrev bBd : Code := cL pE
noncomputable abbrev cLx : Code := cL pH
noncomputable abbrev aVe : Code := cL wR
noncomputable abbrev cIq : Code := cL xX
noncomputable abbrev aVs : Code := cL aEz
noncomputable abbrev aYm : Code := cL xL
noncomputable abbrev aWk : Code := cL aIl
noncomputable abbrev aVf : Code := cL aIc
noncomputable abbrev aKi : Code := cL c172
noncomputable abbrev r172 : K := aR CF Tryz.f172
noncomputable def D172 (r : RT) (n : Nat) (c : Code) (X : Nat → K) (k : K) : K := aM CF r 73 n c X r172 k
theorem cKn : D172 r n dCj x0 r172 = (K0 (bC r n)) :=
 (by kernel_rfl)
theorem bVg : D172 r n cGx (xs x0 0 (K0 (bC r n))) (K0 (bC r n)) = (K5 (uU r n) 2 3 4 27 51) :=
 (by kernel_rfl)
theorem bGe : D172 r n pD (xs x0 0 (K0 (bC r n))) (K0 (bC r n)) = D172 r n aXq (xs x0 0 (K0 (bC r n))) (K5 (uU r n) 2 3 4 27 51) :=
 congrArg (fun k => D172 r n aXq (xs x0 0 (K0 (bC r n))) k) (bVg r n)
theorem bMj : D172 r n pD (xs x0 0 (K0 (bC r n))) (K0 (bC r n)) = (K4 (aVi r n) 2 3 4 27) :=
 (bGe r n).trans
 ((by kernel_rfl))
theorem bVb : D172 r n qD (xs x0 0 (K0 (bC r n))) (K0 (bC r n)) = (K5 (tT r n) 2 3 4 27 43) :=
 (by kernel_rfl : D172 r n qD (xs x0 0 (K0 (bC r n))) (K0 (bC r n)) = (fun (env : aV) (h : Hp) => aT (opr env (cC qD)) (D172 r n cEt (xs x0 0 (K0 (bC r n))) (K0 (bC r n)) env h) (D172 r n pD (xs x0 0 (K0 (bC r n))) (K0 (bC r n)) env h))).trans (by rw [bMj r n]; kernel_rfl)
theorem bFb : D172 r n pN (xs x0 0 (K0 (bC r n))) (K0 (bC r n)) = D172 r n bAa (xs x0 0 (K0 (bC r n))) (K5 (tT r n) 2 3 4 27 43) :=
 congrArg (fun k => D172 r n bAa (xs x0 0 (K0 (bC r n))) k) (bVb r n)
theorem bSl : D172 r n pN (xs x0 0 (K0 (bC r n))) (K0 (bC r n)) = (K4 (aXt r n) 2 3 4 27) :=
 (bFb r n).trans
 ((by kernel_rfl))
theorem bVw : D172 r n pX (xs x0 0 (K0 (bC r n))) (K0 (bC r n)) = (K6 (tW r n) 2 3 4 8 27 34) :=
 (by kernel_rfl : D172 r n pX (xs x0 0 (K0 (bC r n))) (K0 (bC r n)) = (fun (env : aV) (h : Hp) => aT (opr env (cC pX)) (D172 r n cNh (xs x0 0 (K0 (bC r n))) (K0 (bC r n)) env h) (D172 r n pN (xs x0 0 (K0 (bC r n))) (K0 (bC r n)) env h))).trans (by rw [bSl r n]; kernel_rfl)
theorem bPb : D172 r n pE (xs x0 0 (K0 (bC r n))) (K0 (bC r n)) = D172 r n bBd (xs x0 0 (K0 (bC r n))) (K6 (tW r n) 2 3 4 8 27 34) :=
 congrArg (fun k => D172 r n bBd (xs x0 0 (K0 (bC r n))) k) (bVw r n)
theorem cEk : D172 r n pE (xs x0 0 (K0 (bC r n))) (K0 (bC r n)) = (K5 (bYy r n) 2 3 4 8 27) :=
 (bPb r n).trans
 ((by kernel_rfl))
theorem cKm : D172 r n pH (xs x0 0 (K0 (bC r n))) (K0 (bC r n)) = (K6 (aSq r n) 2 3 4 8 27 31) :=
 (by kernel_rfl : D172 r n pH (xs x0 0 (K0 (bC r n))) (K0 (bC r n)) = (fun (env : aV) (h : Hp) => aT (opr env (cC pH)) (D172 r n cLx (xs x0 0 (K0 (bC r n))) (K0 (bC r n)) env h) (D172 r n pE (xs x0 0 (K0 (bC r n))) (K0 (bC r n)) env h))).trans (by rw [cEk r n]; kernel_rfl)
theorem bTm : D172 r n wR (xs x0 0 (K0 (bC r n))) (K0 (bC r n)) = D172 r n aVe (xs x0 0 (K0 (bC r n))) (K6 (aSq r n) 2 3 4 8 27 31) :=
 congrArg (fun k => D172 r n aVe (xs x0 0 (K0 (bC r n))) k) (cKm r n)
theorem cBz : D172 r n wR (xs x0 0 (K0 (bC r n))) (K0 (bC r n)) = (K5 (bUw r n) 2 3 4 8 27) :=
 (bTm r n).trans
 ((by kernel_rfl))
theorem cNz : D172 r n xX (xs x0 0 (K0 (bC r n))) (K0 (bC r n)) = (K7 (aQu r n) 2 3 4 7 8 27 28) :=
 (by kernel_rfl : D172 r n xX (xs x0 0 (K0 (bC r n))) (K0 (bC r n)) = (fun (env : aV) (h : Hp) => aT (opr env (cC xX)) (D172 r n cIq (xs x0 0 (K0 (bC r n))) (K0 (bC r n)) env h) (D172 r n wR (xs x0 0 (K0 (bC r n))) (K0 (bC r n)) env h))).trans (by rw [cBz r n]; kernel_rfl)
theorem bOg : D172 r n aEz (xs x0 0 (K0 (bC r n))) (K0 (bC r n)) = D172 r n aVs (xs x0 0 (K0 (bC r n))) (K7 (aQu r n) 2 3 4 7 8 27 28) :=
 congrArg (fun k => D172 r n aVs (xs x0 0 (K0 (bC r n))) k) (cNz r n)
theorem cIu : D172 r n aOn x0 (K0 (bC r n)) = (K6 (aTa r n) 2 3 4 7 8 27) :=
 (by kernel_rfl : D172 r n aOn x0 (K0 (bC r n)) = D172 r n aEz (xs x0 0 (K0 (bC r n))) (K0 (bC r n))).trans
 ((bOg r n).trans
 ((by kernel_rfl)))
theorem bSw : D172 r n aHw x0 r172 = D172 r n xL x0 (K0 (bC r n)) :=
 congrArg (fun k => D172 r n xL x0 k) (cKn r n)
theorem bOd : D172 r n xL x0 (K0 (bC r n)) = D172 r n aYm x0 (K6 (aTa r n) 2 3 4 7 8 27) :=
 congrArg (fun k => D172 r n aYm x0 k) (cIu r n)
theorem cMg : D172 r n aHw x0 r172 = (K5 (aRa r n) 2 3 4 7 8) :=
 (bSw r n).trans
 ((bOd r n).trans
 ((by kernel_rfl)))
theorem cAx : D172 r n aIl x0 r172 = D172 r n aWk x0 (K5 (aRa r n) 2 3 4 7 8) :=
 congrArg (fun k => D172 r n aWk x0 k) (cMg r n)
theorem cCm : D172 r n aIl x0 r172 = (K4 (aQf r n) 2 3 4 7) :=
 (cAx r n).trans
 ((by kernel_rfl))
theorem bLj : D172 r n aIc x0 r172 = D172 r n aVf x0 (K4 (aQf r n) 2 3 4 7) :=
 congrArg (fun k => D172 r n aVf x0 k) (cCm r n)
theorem cQc : D172 r n aIc x0 r172 = (K3 (yH r n) 2 3 4) :=
 (bLj r n).trans
 ((by kernel_rfl))
theorem cJs : D172 r n c172 x0 r172 = D172 r n aKi x0 (K3 (yH r n) 2 3 4) :=
 congrArg (fun k => D172 r n aKi x0 k) (cQc r n)
theorem cKb (q0 : mF) : D172 r n aKi x0 (K3 q0 2 3 4) = fun (env : aV) (h : Hp) =>
 bnd (bO (env 0) h) fun v1 h1 =>
 bnd (bO (env 1) h1) fun v2 h2 =>
  q0 (env 2) v1 v2 h2 := by kernel_rfl
theorem cAg : (fun (env : aV) (h : Hp) =>
 bnd (bO (env 0) h) fun v1 h1 =>
 bnd (bO (env 1) h1) fun v2 h2 =>
  yH r n (env 2) v1 v2 h2) = (K3 (s172 r n) 0 1 2) := by kernel_rfl
theorem dIe : D172 r n c172 x0 r172 = (K3 (s172 r n) 0 1 2) :=
 (cJs r n).trans
 ((cKb r n (yH r n)).trans (cAg r n))
theorem cXe : aF CF r n 172 args h = s172 r n (aU args 0) (aU args 1) (aU args 2) h :=
 (by kernel_rfl : aF CF r n 172 args h = D172 r n c172 x0 r172 (aI args) h).trans ((congrFun (congrFun (dIe r n) (aI args)) h).trans (by kernel_rfl))
noncomputable def eT (r : RT) (n : Nat) (x3 : DV) (h0 : Hp) : aH :=
 some (x3, h0)
noncomputable def aYy (r : RT) (n : Nat) (kk6 : dN) (x3 x4 x11 x12 : DV) (h0 : Hp) : aH :=
 bnd (aD .lss x12 x11 h0) fun v1 h1 =>
 aT v1 (
 bnd (cX CF r x4 [x12] h1) fun v2 h2 =>
 bnd (aJ 1 x3 x12 h2) fun v3 h3 =>
 bnd (aG 1 v3 v2 h3) fun _ h4 =>
 bnd (aD .add x12 (aE 1) h4) fun v5 h5 =>
      kk6 x3 x4 x11 v5 h5) (
      eT r n x3 h1)
noncomputable def tA (r : RT) (n : Nat) (m : Nat) : dN :=
 Nat.rec (motive := fun _ => dN) (fun _ _ _ _ _ => none) (fun _ ih => aYy r n ih) m
noncomputable def bWq (r : RT) (n : Nat) : dN := tA r n n
noncomputable def aQv (r : RT) (n : Nat) (x3 x4 x11 x12 : DV) (h0 : Hp) : aH :=
 bWq r n x3 x4 x11 x12 h0
noncomputable def aTd (r : RT) (n : Nat) (x1 x3 x4 : DV) (h0 : Hp) : aH :=
 bnd (aA x1 h0) fun v1 h1 =>
 bnd (cA v1 h1) fun v2 h2 =>
  aQv r n x3 x4 v2 (aE 0) h2
noncomputable def zS (r : RT) (n : Nat) (x1 x3 : DV) (h0 : Hp) : aH :=
 aTd r n x1 x3 (.f 200 [] [x1]) h0
noncomputable def sD (r : RT) (n : Nat) (x1 : DV) (h0 : Hp) : aH :=
 bnd (aA x1 h0) fun v1 h1 =>
 bnd (cA v1 h1) fun v2 h2 =>
 bnd (cN 1 8 [(aE 0)] v2 v2 h2) fun v3 h3 =>
  zS r n x1 v3 h3
noncomputable def s173 (r : RT) (n : Nat) (x0 : DV) (h0 : Hp) : aH :=
 bnd (bO x0 h0) fun v1 h1 =>
  sD r n v1 h1
noncomputable abbrev c173 : Code := cf Tryz.f173
noncomputable abbrev aBq : Code := cR c173
noncomputable abbrev aFh : Code := cR aBq
noncomputable abbrev aJx : Code := cR aFh
noncomputable abbrev dBp : Code := cR aJx
noncomputable abbrev vY : Code := cL aJx
noncomputable abbrev aPp : Code := cR vY
noncomputable abbrev aCv : Code := cL aPp
noncomputable abbrev nW : Code := cL aCv
noncomputable abbrev bTv : Code := cL vY
noncomputable abbrev aYg : Code := cL aFh
noncomputable abbrev aDt : Code := cL aBq
noncomputable abbrev aJs : Code := cL c173
noncomputable abbrev r173 : K := aR CF Tryz.f173
noncomputable def D173 (r : RT) (n : Nat) (c : Code) (X : Nat → K) (k : K) : K := aM CF r 23 n c X r173 k
theorem cMs : D173 r n dBp x0 r173 = (K1 (eT r n) 3) :=
 (by kernel_rfl)
theorem bYa (kk6 : dN) : D173 r n nW (xs x0 0 (K1 (eT r n) 3)) (K4 kk6 3 4 11 12) = (K4 (aYy r n kk6) 3 4 11 12) :=
 (by kernel_rfl)
theorem bSy (m : Nat) : aO (fun kk => D173 r n nW (xs x0 0 (K1 (eT r n) 3)) kk) m = (K4 (tA r n m) 3 4 11 12) := by
 induction m with
 | zero => exact (by kernel_rfl : aO (fun kk => D173 r n nW (xs x0 0 (K1 (eT r n) 3)) kk) 0 = (K4 (tA r n 0) 3 4 11 12))
 | succ m ih =>
  refine (by kernel_rfl : aO (fun kk => D173 r n nW (xs x0 0 (K1 (eT r n) 3)) kk) (m + 1) = D173 r n nW (xs x0 0 (K1 (eT r n) 3)) (aO (fun kk => D173 r n nW (xs x0 0 (K1 (eT r n) 3)) kk) m)).trans ?_
  rw [ih]
  exact (bYa r n (tA r n m)).trans (by kernel_rfl)
theorem cCw : D173 r n aCv (xs x0 0 (K1 (eT r n) 3)) (K1 (eT r n) 3) = (K4 (bWq r n) 3 4 11 12) :=
 (by kernel_rfl : D173 r n aCv (xs x0 0 (K1 (eT r n) 3)) (K1 (eT r n) 3) = aO (fun kk => D173 r n nW (xs x0 0 (K1 (eT r n) 3)) kk) n).trans ((bSy r n n).trans (by kernel_rfl))
theorem cLe : D173 r n aPp x0 (K1 (eT r n) 3) = (K4 (aQv r n) 3 4 11 12) :=
 (by kernel_rfl : D173 r n aPp x0 (K1 (eT r n) 3) = D173 r n aCv (xs x0 0 (K1 (eT r n) 3)) (K1 (eT r n) 3)).trans
 ((cCw r n).trans (by kernel_rfl))
theorem cAo : D173 r n aJx x0 r173 = D173 r n vY x0 (K1 (eT r n) 3) :=
 congrArg (fun k => D173 r n vY x0 k) (cMs r n)
theorem bMm : D173 r n vY x0 (K1 (eT r n) 3) = D173 r n bTv x0 (K4 (aQv r n) 3 4 11 12) :=
 congrArg (fun k => D173 r n bTv x0 k) (cLe r n)
theorem cGr : D173 r n aJx x0 r173 = (K3 (aTd r n) 1 3 4) :=
 (cAo r n).trans
 ((bMm r n).trans
 ((by kernel_rfl)))
theorem bUc : D173 r n aFh x0 r173 = D173 r n aYg x0 (K3 (aTd r n) 1 3 4) :=
 congrArg (fun k => D173 r n aYg x0 k) (cGr r n)
theorem cOu : D173 r n aFh x0 r173 = (K2 (zS r n) 1 3) :=
 (bUc r n).trans
 ((by kernel_rfl))
theorem bId : D173 r n aBq x0 r173 = D173 r n aDt x0 (K2 (zS r n) 1 3) :=
 congrArg (fun k => D173 r n aDt x0 k) (cOu r n)
theorem bYm (q0 : pB) : D173 r n aDt x0 (K2 q0 1 3) = fun (env : aV) (h : Hp) =>
 bnd (aA (env 1) h) fun v1 h1 =>
 bnd (cA v1 h1) fun v2 h2 =>
 bnd (cN 1 8 [(aE 0)] v2 v2 h2) fun v3 h3 =>
  q0 (env 1) v3 h3 := by kernel_rfl
theorem bCp : (fun (env : aV) (h : Hp) =>
 bnd (aA (env 1) h) fun v1 h1 =>
 bnd (cA v1 h1) fun v2 h2 =>
 bnd (cN 1 8 [(aE 0)] v2 v2 h2) fun v3 h3 =>
  zS r n (env 1) v3 h3) = (K1 (sD r n) 1) := by kernel_rfl
theorem cBf : D173 r n aBq x0 r173 = (K1 (sD r n) 1) :=
 (bId r n).trans
 ((bYm r n (zS r n)).trans (bCp r n))
theorem dAy : D173 r n c173 x0 r173 = D173 r n aJs x0 (K1 (sD r n) 1) :=
 congrArg (fun k => D173 r n aJs x0 k) (cBf r n)
theorem dCm (q0 : TT1) : D173 r n aJs x0 (K1 q0 1) = fun (env : aV) (h : Hp) =>
 bnd (bO (env 0) h) fun v1 h1 =>
  q0 v1 h1 := by kernel_rfl
theorem cOl : (fun (env : aV) (h : Hp) =>
 bnd (bO (env 0) h) fun v1 h1 =>
  sD r n v1 h1) = (K1 (s173 r n) 0) := by kernel_rfl
theorem dGz : D173 r n c173 x0 r173 = (K1 (s173 r n) 0) :=
 (dAy r n).trans
 ((dCm r n (sD r n)).trans (cOl r n))
theorem cWr : aF CF r n 173 args h = s173 r n (aU args 0) h :=
 (by kernel_rfl : aF CF r n 173 args h = D173 r n c173 x0 r173 (aI args) h).trans ((congrFun (congrFun (dGz r n) (aI args)) h).trans (by kernel_rfl))
noncomputable def bK (r : RT) (n : Nat) (h0 : Hp) : aH :=
 some ((.b true), h0)
noncomputable def cJ (r : RT) (n : Nat) (kk4 : cH) (x0 x1 x11 x12 x13 : DV) (h0 : Hp) : aH :=
 bnd (aD .add x13 (aE 1) h0) fun v1 h1 =>
  kk4 x0 x1 x11 x12 v1 h1
noncomputable def fY (r : RT) (n : Nat) (kk4 : cH) (x0 x1 x5 x6 x11 x12 x13 : DV) (h0 : Hp) : aH :=
 bnd (aK 3 x6 h0) fun v1 h1 =>
 bnd (r 202 [v1] h1) fun v2 h2 =>
 bnd (aD .geq v2 (aE 0) h2) fun v3 h3 =>
 bnd (gD v3 true (some (v2, h3)) h3) fun v4 h4 =>
 bnd (gD v3 true (some (x0, h4)) h4) fun v5 h5 =>
 bnd (gD v3 true (cA v5 h5) h5) fun v6 h6 =>
 bnd (gD v3 true (aD .geq v4 v6 h6) h6) fun v7 h7 =>
 bnd (gD v3 true (some (v7, h7)) h7) fun v8 h8 =>
 bnd (gD v8 false (some (x1, h8)) h8) fun v9 h9 =>
 bnd (gD v8 false (some (v2, h9)) h9) fun v10 h10 =>
 bnd (gD v8 false (aJ 1 v9 v10 h10) h10) fun v11 h11 =>
 bnd (gD v8 false (aA v11 h11) h11) fun v12 h12 =>
 bnd (gD v8 false (some (x1, h12)) h12) fun v13 h13 =>
 bnd (gD v8 false (some (x5, h13)) h13) fun v14 h14 =>
 bnd (gD v8 false (aJ 1 v13 v14 h14) h14) fun v15 h15 =>
 bnd (gD v8 false (aA v15 h15) h15) fun v16 h16 =>
 bnd (gD v8 false (aD .neq v12 v16 h16) h16) fun v17 h17 =>
 bnd (gD v3 true (aP v8 (.b true) v17 h17) h17) fun v18 h18 =>
 bnd (aP v3 v18 (.b false) h18) fun v19 h19 =>
 aT v19 (
 some ((.b false), h19)) (
  cJ r n kk4 x0 x1 x11 x12 x13 h19)
noncomputable def uL (r : RT) (n : Nat) (kk4 : cH) (x0 x1 x5 x6 x7 x8 x9 x11 x12 x13 : DV) (h0 : Hp) : aH :=
 bnd (gQ .not x8 h0) fun v1 h1 =>
 bnd (gD v1 false (some (x7, h1)) h1) fun v2 h2 =>
 bnd (gD v1 false (some (x9, h2)) h2) fun v3 h3 =>
 bnd (gD v1 false (aD .gtr v2 v3 h3) h3) fun v4 h4 =>
 bnd (aP v1 (.b true) v4 h4) fun v5 h5 =>
 aT v5 (
 some ((.b false), h5)) (
  fY r n kk4 x0 x1 x5 x6 x11 x12 x13 h5)
noncomputable def aDo (r : RT) (n : Nat) (kk4 : cH) (x0 x1 x5 x6 x7 x8 x9 x11 x12 x13 : DV) (h0 : Hp) : aH :=
 bnd (aJ 1 x1 x5 h0) fun v1 h1 =>
 bnd (aA v1 h1) fun v2 h2 =>
 bnd (aD .geq v2 (aE 0) h2) fun v3 h3 =>
 aT v3 (
 bnd (aJ 1 x1 x5 h3) fun v4 h4 =>
 bnd (aA v4 h4) fun v5 h5 =>
 bnd (r 201 [x0, v5] h5) fun v6 h6 =>
 bnd (aC 0 v6 h6) fun v7 h7 =>
 bnd (aC 1 v6 h7) fun v8 h8 =>
  uL r n kk4 x0 x1 x5 x6 x7 x8 v7 x11 x12 x13 h8) (
  uL r n kk4 x0 x1 x5 x6 x7 x8 x9 x11 x12 x13 h3)
noncomputable def aDc (r : RT) (n : Nat) (kk4 : cH) (x0 x1 x5 x6 x7 x8 x11 x12 x13 : DV) (h0 : Hp) : aH :=
 bnd (cA x0 h0) fun v1 h1 =>
  aDo r n kk4 x0 x1 x5 x6 x7 x8 v1 x11 x12 x13 h1
noncomputable def aVx (r : RT) (n : Nat) (kk4 : cH) (x0 x1 x5 x6 x11 x12 x13 : DV) (h0 : Hp) : aH :=
 bnd (r 201 [x0, x5] h0) fun v1 h1 =>
 bnd (aC 0 v1 h1) fun v2 h2 =>
 bnd (aC 1 v1 h2) fun v3 h3 =>
  aDc r n kk4 x0 x1 x5 x6 v2 v3 x11 x12 x13 h3
noncomputable def aHp (r : RT) (n : Nat) (kk4 : cH) (x0 x1 x5 x6 x11 x12 x13 x20 : DV) (h0 : Hp) : aH :=
 aT x20 (
  aVx r n kk4 x0 x1 x5 x6 x11 x12 x13 h0) (
  fY r n kk4 x0 x1 x5 x6 x11 x12 x13 h0)
noncomputable def zU (r : RT) (n : Nat) (kk4 : cH) (x0 x1 x5 x6 x11 x12 x13 : DV) (h0 : Hp) : aH :=
 bnd (aB 0 x6 h0) fun v1 h1 =>
 bnd (aA v1 h1) fun v2 h2 =>
 bnd (aD .eql v2 (aE 18) h2) fun v3 h3 =>
  aHp r n kk4 x0 x1 x5 x6 x11 x12 x13 v3 h3
noncomputable def aHx (r : RT) (n : Nat) (kk4 : cH) (x0 x1 x11 x12 x13 : DV) (h0 : Hp) : aH :=
 bnd (aJ 3 x11 x13 h0) fun v1 h1 =>
 bnd (aK 3 v1 h1) fun v2 h2 =>
 bnd (bN [(aE 0), (aE 0), (aE 0)] h2) fun v3 h3 =>
 bnd (aG 3 v3 v2 h3) fun _ h4 =>
  zU r n kk4 x0 x1 x13 v3 x11 x12 x13 h4
noncomputable def aOu (r : RT) (n : Nat) (kk4 : cH) (x0 x1 x11 x12 x13 x14 : DV) (h0 : Hp) : aH :=
 aT x14 (
  aHx r n kk4 x0 x1 x11 x12 x13 h0) (
  bK r n h0)
noncomputable def bAp (r : RT) (n : Nat) (kk4 : cH) (x0 x1 x11 x12 x13 : DV) (h0 : Hp) : aH :=
 bnd (aD .lss x13 x12 h0) fun v1 h1 =>
  aOu r n kk4 x0 x1 x11 x12 x13 v1 h1
noncomputable def uN (r : RT) (n : Nat) (m : Nat) : cH :=
 Nat.rec (motive := fun _ => cH) (fun _ _ _ _ _ _ => none) (fun _ ih => bAp r n ih) m
noncomputable def cAd (r : RT) (n : Nat) : cH := uN r n n
noncomputable def aOp (r : RT) (n : Nat) (x0 x1 x11 x12 x13 : DV) (h0 : Hp) : aH :=
 cAd r n x0 x1 x11 x12 x13 h0
noncomputable def aQe (r : RT) (n : Nat) (x0 x1 : DV) (h0 : Hp) : aH :=
 bnd (cA x0 h0) fun v1 h1 =>
  aOp r n x0 x1 x0 v1 (aE 0) h1
noncomputable def s174 (r : RT) (n : Nat) (x0 x1 : DV) (h0 : Hp) : aH :=
 aQe r n x0 x1 h0
noncomputable abbrev c174 : Code := cf Tryz.f174
noncomputable abbrev aIq : Code := cR c174
noncomputable abbrev dDf : Code := cR aIq
noncomputable abbrev zI : Code := cL aIq
noncomputable abbrev aQn : Code := cR zI
noncomputable abbrev aEp : Code := cL aQn
noncomputable abbrev kK : Code := cL aEp
noncomputable abbrev aFn : Code := cR kK
noncomputable abbrev aKk : Code := cR aFn
noncomputable abbrev cZn : Code := cR aKk
noncomputable abbrev tP : Code := cL aKk
noncomputable abbrev tS : Code := cL tP
noncomputable abbrev tZ : Code := cR tS
noncomputable abbrev cDl : Code := cR tZ
noncomputable abbrev pQ : Code := cL tZ
noncomputable abbrev qH : Code := cR pQ
noncomputable abbrev qF : Code := cL qH
noncomputable abbrev uT : Code := cR qF
noncomputable abbrev tD : Code := cR uT
noncomputable abbrev cHe : Code := cR tD
noncomputable abbrev aWc : Code := cL tD
noncomputable abbrev aWh : Code := cL uT
noncomputable abbrev bAq : Code := cL qF
noncomputable abbrev cNu : Code := cR qH
noncomputable abbrev aVy : Code := cL pQ
noncomputable abbrev aKd : Code := cL tS
noncomputable abbrev aZm : Code := cL aFn
noncomputable abbrev aYl : Code := cL kK
noncomputable abbrev aXd : Code := cL zI
noncomputable abbrev aXf : Code := cL c174
noncomputable abbrev r174 : K := aR CF Tryz.f174
noncomputable def D174 (r : RT) (n : Nat) (c : Code) (X : Nat → K) (k : K) : K := aM CF r 72 n c X r174 k
theorem cOw : D174 r n dDf x0 r174 = (K0 (bK r n)) :=
 (by kernel_rfl)
theorem cHt (kk4 : cH) : D174 r n cZn (xs x0 0 (K0 (bK r n))) (K5 kk4 0 1 11 12 13) = (K5 (cJ r n kk4) 0 1 11 12 13) :=
 (by kernel_rfl)
theorem cQr (kk4 : cH) : D174 r n cDl (xs (xs x0 0 (K0 (bK r n))) 1 (K5 (cJ r n kk4) 0 1 11 12 13)) (K5 (cJ r n kk4) 0 1 11 12 13) = (K7 (fY r n kk4) 0 1 5 6 11 12 13) :=
 (by kernel_rfl)
theorem bPa (kk4 : cH) : D174 r n cHe (xs (xs x0 0 (K0 (bK r n))) 1 (K5 (cJ r n kk4) 0 1 11 12 13)) (K7 (fY r n kk4) 0 1 5 6 11 12 13) = (K10 (uL r n kk4) 0 1 5 6 7 8 9 11 12 13) :=
 (by kernel_rfl)
theorem bGr (kk4 : cH) : D174 r n tD (xs (xs x0 0 (K0 (bK r n))) 1 (K5 (cJ r n kk4) 0 1 11 12 13)) (K7 (fY r n kk4) 0 1 5 6 11 12 13) = D174 r n aWc (xs (xs x0 0 (K0 (bK r n))) 1 (K5 (cJ r n kk4) 0 1 11 12 13)) (K10 (uL r n kk4) 0 1 5 6 7 8 9 11 12 13) :=
 congrArg (fun k => D174 r n aWc (xs (xs x0 0 (K0 (bK r n))) 1 (K5 (cJ r n kk4) 0 1 11 12 13)) k) (bPa r n kk4)
theorem bRk (kk4 : cH) : D174 r n tD (xs (xs x0 0 (K0 (bK r n))) 1 (K5 (cJ r n kk4) 0 1 11 12 13)) (K7 (fY r n kk4) 0 1 5 6 11 12 13) = (K10 (aDo r n kk4) 0 1 5 6 7 8 9 11 12 13) :=
 (bGr r n kk4).trans
 ((by kernel_rfl))
theorem bFd (kk4 : cH) : D174 r n uT (xs (xs x0 0 (K0 (bK r n))) 1 (K5 (cJ r n kk4) 0 1 11 12 13)) (K7 (fY r n kk4) 0 1 5 6 11 12 13) = D174 r n aWh (xs (xs x0 0 (K0 (bK r n))) 1 (K5 (cJ r n kk4) 0 1 11 12 13)) (K10 (aDo r n kk4) 0 1 5 6 7 8 9 11 12 13) :=
 congrArg (fun k => D174 r n aWh (xs (xs x0 0 (K0 (bK r n))) 1 (K5 (cJ r n kk4) 0 1 11 12 13)) k) (bRk r n kk4)
theorem bQm (kk4 : cH) : D174 r n uT (xs (xs x0 0 (K0 (bK r n))) 1 (K5 (cJ r n kk4) 0 1 11 12 13)) (K7 (fY r n kk4) 0 1 5 6 11 12 13) = (K9 (aDc r n kk4) 0 1 5 6 7 8 11 12 13) :=
 (bFd r n kk4).trans
 ((by kernel_rfl))
theorem bFn (kk4 : cH) : D174 r n qF (xs (xs x0 0 (K0 (bK r n))) 1 (K5 (cJ r n kk4) 0 1 11 12 13)) (K7 (fY r n kk4) 0 1 5 6 11 12 13) = D174 r n bAq (xs (xs x0 0 (K0 (bK r n))) 1 (K5 (cJ r n kk4) 0 1 11 12 13)) (K9 (aDc r n kk4) 0 1 5 6 7 8 11 12 13) :=
 congrArg (fun k => D174 r n bAq (xs (xs x0 0 (K0 (bK r n))) 1 (K5 (cJ r n kk4) 0 1 11 12 13)) k) (bQm r n kk4)
theorem bHf (kk4 : cH) : D174 r n qF (xs (xs x0 0 (K0 (bK r n))) 1 (K5 (cJ r n kk4) 0 1 11 12 13)) (K7 (fY r n kk4) 0 1 5 6 11 12 13) = (K7 (aVx r n kk4) 0 1 5 6 11 12 13) :=
 (bFn r n kk4).trans
 ((by kernel_rfl))
theorem bYd (kk4 : cH) : D174 r n qH (xs (xs x0 0 (K0 (bK r n))) 1 (K5 (cJ r n kk4) 0 1 11 12 13)) (K7 (fY r n kk4) 0 1 5 6 11 12 13) = (K8 (aHp r n kk4) 0 1 5 6 11 12 13 20) :=
 (by kernel_rfl : D174 r n qH (xs (xs x0 0 (K0 (bK r n))) 1 (K5 (cJ r n kk4) 0 1 11 12 13)) (K7 (fY r n kk4) 0 1 5 6 11 12 13) = (fun (env : aV) (h : Hp) => aT (opr env (cC qH)) (D174 r n qF (xs (xs x0 0 (K0 (bK r n))) 1 (K5 (cJ r n kk4) 0 1 11 12 13)) (K7 (fY r n kk4) 0 1 5 6 11 12 13) env h) (D174 r n cNu (xs (xs x0 0 (K0 (bK r n))) 1 (K5 (cJ r n kk4) 0 1 11 12 13)) (K7 (fY r n kk4) 0 1 5 6 11 12 13) env h))).trans (by rw [bHf r n kk4]; kernel_rfl)
theorem bZh (kk4 : cH) : D174 r n tZ (xs (xs x0 0 (K0 (bK r n))) 1 (K5 (cJ r n kk4) 0 1 11 12 13)) (K5 (cJ r n kk4) 0 1 11 12 13) = D174 r n pQ (xs (xs x0 0 (K0 (bK r n))) 1 (K5 (cJ r n kk4) 0 1 11 12 13)) (K7 (fY r n kk4) 0 1 5 6 11 12 13) :=
 congrArg (fun k => D174 r n pQ (xs (xs x0 0 (K0 (bK r n))) 1 (K5 (cJ r n kk4) 0 1 11 12 13)) k) (cQr r n kk4)
theorem bVv (kk4 : cH) : D174 r n pQ (xs (xs x0 0 (K0 (bK r n))) 1 (K5 (cJ r n kk4) 0 1 11 12 13)) (K7 (fY r n kk4) 0 1 5 6 11 12 13) = D174 r n aVy (xs (xs x0 0 (K0 (bK r n))) 1 (K5 (cJ r n kk4) 0 1 11 12 13)) (K8 (aHp r n kk4) 0 1 5 6 11 12 13 20) :=
 congrArg (fun k => D174 r n aVy (xs (xs x0 0 (K0 (bK r n))) 1 (K5 (cJ r n kk4) 0 1 11 12 13)) k) (bYd r n kk4)
theorem cJk (kk4 : cH) : D174 r n tZ (xs (xs x0 0 (K0 (bK r n))) 1 (K5 (cJ r n kk4) 0 1 11 12 13)) (K5 (cJ r n kk4) 0 1 11 12 13) = (K7 (zU r n kk4) 0 1 5 6 11 12 13) :=
 (bZh r n kk4).trans
 ((bVv r n kk4).trans
 ((by kernel_rfl)))
theorem bWn (kk4 : cH) : D174 r n aKk (xs x0 0 (K0 (bK r n))) (K5 kk4 0 1 11 12 13) = D174 r n tP (xs x0 0 (K0 (bK r n))) (K5 (cJ r n kk4) 0 1 11 12 13) :=
 congrArg (fun k => D174 r n tP (xs x0 0 (K0 (bK r n))) k) (cHt r n kk4)
theorem bYx (kk4 : cH) : D174 r n tS (xs (xs x0 0 (K0 (bK r n))) 1 (K5 (cJ r n kk4) 0 1 11 12 13)) (K5 (cJ r n kk4) 0 1 11 12 13) = D174 r n aKd (xs (xs x0 0 (K0 (bK r n))) 1 (K5 (cJ r n kk4) 0 1 11 12 13)) (K7 (zU r n kk4) 0 1 5 6 11 12 13) :=
 congrArg (fun k => D174 r n aKd (xs (xs x0 0 (K0 (bK r n))) 1 (K5 (cJ r n kk4) 0 1 11 12 13)) k) (cJk r n kk4)
theorem bWx (kk4 : cH) (q0 : TT7) (q1 : Hp → aH) (q2 : cH) : D174 r n aKd (xs (xs x0 0 (K0 q1)) 1 (K5 q2 0 1 11 12 13)) (K7 q0 0 1 5 6 11 12 13) = fun (env : aV) (h : Hp) =>
 bnd (aJ 3 (env 11) (env 13) h) fun v1 h1 =>
 bnd (aK 3 v1 h1) fun v2 h2 =>
 bnd (bN [(aE 0), (aE 0), (aE 0)] h2) fun v3 h3 =>
 bnd (aG 3 v3 v2 h3) fun _ h4 =>
  q0 (env 0) (env 1) (env 13) v3 (env 11) (env 12) (env 13) h4 := by kernel_rfl
theorem bEf (kk4 : cH) : (fun (env : aV) (h : Hp) =>
 bnd (aJ 3 (env 11) (env 13) h) fun v1 h1 =>
 bnd (aK 3 v1 h1) fun v2 h2 =>
 bnd (bN [(aE 0), (aE 0), (aE 0)] h2) fun v3 h3 =>
 bnd (aG 3 v3 v2 h3) fun _ h4 =>
  zU r n kk4 (env 0) (env 1) (env 13) v3 (env 11) (env 12) (env 13) h4) = (K5 (aHx r n kk4) 0 1 11 12 13) := by kernel_rfl
theorem cDt (kk4 : cH) : D174 r n aKk (xs x0 0 (K0 (bK r n))) (K5 kk4 0 1 11 12 13) = (K5 (aHx r n kk4) 0 1 11 12 13) :=
 (bWn r n kk4).trans
 ((by kernel_rfl : D174 r n tP (xs x0 0 (K0 (bK r n))) (K5 (cJ r n kk4) 0 1 11 12 13) = D174 r n tS (xs (xs x0 0 (K0 (bK r n))) 1 (K5 (cJ r n kk4) 0 1 11 12 13)) (K5 (cJ r n kk4) 0 1 11 12 13)).trans
 ((bYx r n kk4).trans
 ((bWx r n kk4 (zU r n kk4) (bK r n) (cJ r n kk4)).trans (bEf r n kk4))))
theorem bTo (kk4 : cH) : D174 r n aFn (xs x0 0 (K0 (bK r n))) (K5 kk4 0 1 11 12 13) = D174 r n aZm (xs x0 0 (K0 (bK r n))) (K5 (aHx r n kk4) 0 1 11 12 13) :=
 congrArg (fun k => D174 r n aZm (xs x0 0 (K0 (bK r n))) k) (cDt r n kk4)
theorem cMy (kk4 : cH) : D174 r n aFn (xs x0 0 (K0 (bK r n))) (K5 kk4 0 1 11 12 13) = (K6 (aOu r n kk4) 0 1 11 12 13 14) :=
 (bTo r n kk4).trans
 ((by kernel_rfl))
theorem bDl (kk4 : cH) : D174 r n kK (xs x0 0 (K0 (bK r n))) (K5 kk4 0 1 11 12 13) = D174 r n aYl (xs x0 0 (K0 (bK r n))) (K6 (aOu r n kk4) 0 1 11 12 13 14) :=
 congrArg (fun k => D174 r n aYl (xs x0 0 (K0 (bK r n))) k) (cMy r n kk4)
theorem bJr (kk4 : cH) : D174 r n kK (xs x0 0 (K0 (bK r n))) (K5 kk4 0 1 11 12 13) = (K5 (bAp r n kk4) 0 1 11 12 13) :=
 (bDl r n kk4).trans
 ((by kernel_rfl))
theorem cBb (m : Nat) : aO (fun kk => D174 r n kK (xs x0 0 (K0 (bK r n))) kk) m = (K5 (uN r n m) 0 1 11 12 13) := by
 induction m with
 | zero => exact (by kernel_rfl : aO (fun kk => D174 r n kK (xs x0 0 (K0 (bK r n))) kk) 0 = (K5 (uN r n 0) 0 1 11 12 13))
 | succ m ih =>
  refine (by kernel_rfl : aO (fun kk => D174 r n kK (xs x0 0 (K0 (bK r n))) kk) (m + 1) = D174 r n kK (xs x0 0 (K0 (bK r n))) (aO (fun kk => D174 r n kK (xs x0 0 (K0 (bK r n))) kk) m)).trans ?_
  rw [ih]
  exact (bJr r n (uN r n m)).trans (by kernel_rfl)
theorem cCc : D174 r n aEp (xs x0 0 (K0 (bK r n))) (K0 (bK r n)) = (K5 (cAd r n) 0 1 11 12 13) :=
 (by kernel_rfl : D174 r n aEp (xs x0 0 (K0 (bK r n))) (K0 (bK r n)) = aO (fun kk => D174 r n kK (xs x0 0 (K0 (bK r n))) kk) n).trans ((cBb r n n).trans (by kernel_rfl))
theorem cLt : D174 r n aQn x0 (K0 (bK r n)) = (K5 (aOp r n) 0 1 11 12 13) :=
 (by kernel_rfl : D174 r n aQn x0 (K0 (bK r n)) = D174 r n aEp (xs x0 0 (K0 (bK r n))) (K0 (bK r n))).trans
 ((cCc r n).trans (by kernel_rfl))
theorem bCn : D174 r n aIq x0 r174 = D174 r n zI x0 (K0 (bK r n)) :=
 congrArg (fun k => D174 r n zI x0 k) (cOw r n)
theorem bEr : D174 r n zI x0 (K0 (bK r n)) = D174 r n aXd x0 (K5 (aOp r n) 0 1 11 12 13) :=
 congrArg (fun k => D174 r n aXd x0 k) (cLt r n)
theorem cDd : D174 r n aIq x0 r174 = (K2 (aQe r n) 0 1) :=
 (bCn r n).trans
 ((bEr r n).trans
 ((by kernel_rfl)))
theorem cJo : D174 r n c174 x0 r174 = D174 r n aXf x0 (K2 (aQe r n) 0 1) :=
 congrArg (fun k => D174 r n aXf x0 k) (cDd r n)
theorem dLi : D174 r n c174 x0 r174 = (K2 (s174 r n) 0 1) :=
 (cJo r n).trans
 ((by kernel_rfl))
theorem dAj : aF CF r n 174 args h = s174 r n (aU args 0) (aU args 1) h :=
 (by kernel_rfl : aF CF r n 174 args h = D174 r n c174 x0 r174 (aI args) h).trans ((congrFun (congrFun (dLi r n) (aI args)) h).trans (by kernel_rfl))
noncomputable def bY (r : RT) (n : Nat) (x6 x9 : DV) (h0 : Hp) : aH :=
 bnd (aA x6 h0) fun v1 h1 =>
 bnd (aA x9 h1) fun v2 h2 =>
 some (.t [v1, v2], h2)
noncomputable def vA (r : RT) (n : Nat) (kk9 : fI) (x2 x3 x6 x7 x9 x10 x11 x14 : DV) (h0 : Hp) : aH :=
 bnd (aD .add x11 (aE 1) h0) fun v1 h1 =>
 bnd (aA x3 h1) fun v2 h2 =>
 bnd (aJ 1 v2 x11 h2) fun v3 h3 =>
 bnd (aA v3 h3) fun v4 h4 =>
 bnd (cX CF r x10 [v1, v4, x14] h4) fun v5 h5 =>
  kk9 x2 x3 x6 x7 x9 x10 h5
noncomputable def aJt (r : RT) (n : Nat) (kk9 : fI) (x2 x3 x6 x7 x9 x10 x11 x12 x13 x14 : DV) (h0 : Hp) : aH :=
 bnd (aB 0 x12 h0) fun v1 h1 =>
 bnd (aA v1 h1) fun v2 h2 =>
 bnd (aD .eql v2 (aE 19) h2) fun v3 h3 =>
 aT v3 (
 bnd (aD .neq x13 (aE 1) h3) fun v4 h4 =>
 bnd (gD v4 false (aA x3 h4) h4) fun v5 h5 =>
 bnd (gD v4 false (some (x11, h5)) h5) fun v6 h6 =>
 bnd (gD v4 false (aJ 1 v5 v6 h6) h6) fun v7 h7 =>
 bnd (gD v4 false (aA v7 h7) h7) fun v8 h8 =>
 bnd (gD v4 false (aD .lss v8 (aE 0) h8) h8) fun v9 h9 =>
 bnd (aP v4 (.b true) v9 h9) fun v10 h10 =>
 aT v10 (
 some (.t [.l0, (.b false)], h10)) (
   kk9 x2 x3 x6 x7 x9 x10 h10)) (
 bnd (aD .eql v2 (aE 20) h3) fun v11 h11 =>
 aT v11 (
   kk9 x2 x3 x6 x7 x9 x10 h11) (
 bnd (aD .eql v2 (aE 16) h11) fun v12 h12 =>
 aT v12 (
 bnd (aK 3 x12 h12) fun v13 h13 =>
 bnd (r 202 [v13] h13) fun v14 h14 =>
 bnd (aA x3 h14) fun v15 h15 =>
 cnd (bG (aA x3 h12) v15 && true) (
 bnd (aJ 1 v15 x11 h15) fun v16 h16 =>
 bnd (aA v16 h16) fun v17 h17 =>
 cnd (bG (aA v16 h12) v17 && true) (
 bnd (cX CF r x10 [v14, v17, x14] h17) fun v18 h18 =>
    kk9 x2 x3 x6 x7 x9 x10 h18))) (
 bnd (aD .eql v2 (aE 17) h12) fun v19 h19 =>
 aT v19 (
 bnd (aK 3 x12 h19) fun v20 h20 =>
 bnd (r 202 [v20] h20) fun v21 h21 =>
 bnd (aA x3 h21) fun v22 h22 =>
 cnd (bG (aA x3 h19) v22 && true) (
 bnd (aJ 1 v22 x11 h22) fun v23 h23 =>
 bnd (aA v23 h23) fun v24 h24 =>
 cnd (bG (aA v23 h19) v24 && true) (
 bnd (cX CF r x10 [v21, v24, x14] h24) fun v25 h25 =>
     vA r n kk9 x2 x3 x6 x7 x9 x10 x11 x14 h25))) (
     vA r n kk9 x2 x3 x6 x7 x9 x10 x11 x14 h19))))
noncomputable def aIf (r : RT) (n : Nat) (kk9 : fI) (x2 x3 x6 x7 x9 x10 x11 x12 x13 x14 : DV) (h0 : Hp) : aH :=
 bnd (aK 3 x12 h0) fun v1 h1 =>
 bnd (r 205 [v1] h1) fun v2 h2 =>
 bnd (aD .lss x13 v2 h2) fun v3 h3 =>
 bnd (gD v3 false (some (x14, h3)) h3) fun v4 h4 =>
 bnd (gD v3 false (aD .gtr v4 (aE 24) h4) h4) fun v5 h5 =>
 bnd (aP v3 (.b true) v5 h5) fun v6 h6 =>
 aT v6 (
 some (.t [.l0, (.b false)], h6)) (
  aJt r n kk9 x2 x3 x6 x7 x9 x10 x11 x12 x13 x14 h6)
noncomputable def aKr (r : RT) (n : Nat) (kk9 : fI) (x2 x3 x6 x7 x9 x10 x11 x12 x13 : DV) (h0 : Hp) : aH :=
 bnd (aK 3 x12 h0) fun v1 h1 =>
 bnd (r 204 [v1] h1) fun v2 h2 =>
 bnd (aD .add x13 v2 h2) fun v3 h3 =>
  aIf r n kk9 x2 x3 x6 x7 x9 x10 x11 x12 x13 v3 h3
noncomputable def aEy (r : RT) (n : Nat) (kk9 : fI) (x2 x3 x6 x7 x9 x10 x11 : DV) (h0 : Hp) : aH :=
 bnd (aA x2 (resv 1 h0)) fun v1 h1 =>
 bnd (aJ 3 v1 x11 h1) fun v2 h2 =>
 bnd (aK 3 v2 h2) fun v3 h3 =>
 bnd (aA x6 h3) fun v4 h4 =>
 bnd (aJ 1 v4 x11 h4) fun v5 h5 =>
 bnd (aA v5 h5) fun v6 h6 =>
 bnd (iY (bX 0 h0.next) [(aE 0), (aE 0), (aE 0)] h6) fun v7 h7 =>
 bnd (aG 3 v7 v3 h7) fun v8 h8 =>
 cnd (bG (aA v5 h8) v6 && (bG (aA x6 h8) v4 && true)) (
  aKr r n kk9 x2 x3 x6 x7 x9 x10 x11 v7 v6 h8)
noncomputable def aHl (r : RT) (n : Nat) (kk9 : fI) (x2 x3 x6 x7 x9 x10 x11 : DV) (h0 : Hp) : aH :=
 bnd (aA x7 h0) fun v1 h1 =>
 bnd (aA x7 h1) fun v2 h2 =>
 bnd (cA v2 h2) fun v3 h3 =>
 bnd (aD .sub v3 (aE 1) h3) fun v4 h4 =>
 bnd (cT 1 v1 none (some v4) h4) fun v5 h5 =>
 bnd (aG 1 x7 v5 h5) fun _ h6 =>
  aEy r n kk9 x2 x3 x6 x7 x9 x10 x11 h6
noncomputable def aGs (r : RT) (n : Nat) (kk9 : fI) (x2 x3 x6 x7 x9 x10 : DV) (h0 : Hp) : aH :=
 bnd (aA x7 h0) fun v1 h1 =>
 bnd (aA x7 h1) fun v2 h2 =>
 bnd (cA v2 h2) fun v3 h3 =>
 bnd (aD .sub v3 (aE 1) h3) fun v4 h4 =>
 bnd (aJ 1 v1 v4 h4) fun v5 h5 =>
 bnd (aA v5 h5) fun v6 h6 =>
  aHl r n kk9 x2 x3 x6 x7 x9 x10 v6 h6
noncomputable def bAs (r : RT) (n : Nat) (kk9 : fI) (x2 x3 x6 x7 x9 x10 : DV) (h0 : Hp) : aH :=
 bnd (aA x7 h0) fun v1 h1 =>
 bnd (cA v1 h1) fun v2 h2 =>
 bnd (aD .gtr v2 (aE 0) h2) fun v3 h3 =>
 bnd (gD v3 true (aA x9 h3) h3) fun v4 h4 =>
 bnd (aP v3 v4 (.b false) h4) fun v5 h5 =>
 aT v5 (
   aGs r n kk9 x2 x3 x6 x7 x9 x10 h5) (
   bY r n x6 x9 h5)
noncomputable def tY (r : RT) (n : Nat) (m : Nat) : fI :=
 Nat.rec (motive := fun _ => fI) (fun _ _ _ _ _ _ _ => none) (fun _ ih => bAs r n ih) m
noncomputable def bHl (r : RT) (n : Nat) : fI := tY r n n
noncomputable def aQg (r : RT) (n : Nat) (x2 x3 x6 x7 x9 x10 : DV) (h0 : Hp) : aH :=
 bHl r n x2 x3 x6 x7 x9 x10 h0
noncomputable def aSh (r : RT) (n : Nat) (x2 x3 x6 x7 x9 x10 : DV) (h0 : Hp) : aH :=
 aQg r n x2 x3 x6 x7 x9 x10 h0
noncomputable def wK (r : RT) (n : Nat) (x2 x3 x6 x7 x9 : DV) (h0 : Hp) : aH :=
 aSh r n x2 x3 x6 x7 x9 (.f 203 [] [x2, x3, x6, x9, x7]) h0
noncomputable def cO (r : RT) (n : Nat) (x2 x3 x6 x7 : DV) (h0 : Hp) : aH :=
 bnd (bN [(.b false)] h0) fun v1 h1 =>
 bnd (aG 1 v1 (.b true) h1) fun _ h2 =>
  wK r n x2 x3 x6 x7 v1 h2
noncomputable def lE (r : RT) (n : Nat) (kk18 : fI) (x2 x3 x6 x7 x19 x20 : DV) (h0 : Hp) : aH :=
 bnd (aD .add x20 (aE 1) h0) fun v1 h1 =>
  kk18 x2 x3 x6 x7 x19 v1 h1
noncomputable def uA (r : RT) (n : Nat) (kk18 : fI) (x2 x3 x6 x7 x19 x20 : DV) (h0 : Hp) : aH :=
 bnd (aA x6 h0) fun v1 h1 =>
 bnd (aJ 1 v1 x20 h1) fun v2 h2 =>
 bnd (aG 1 v2 (.i .i64 (Int.negSucc 0)) h2) fun _ h3 =>
 bnd (aD .eql x20 (aE 0) h3) fun v4 h4 =>
 bnd (gD v4 false (some (x20, h4)) h4) fun v5 h5 =>
 bnd (gD v4 false (aD .gtr v5 (aE 1) h5) h5) fun v6 h6 =>
 bnd (gD v4 false (some (v6, h6)) h6) fun v7 h7 =>
 bnd (gD v7 true (aA x2 h7) h7) fun v8 h8 =>
 bnd (gD v7 true (some (x20, h8)) h8) fun v9 h9 =>
 bnd (gD v7 true (aD .sub v9 (aE 2) h9) h9) fun v10 h10 =>
 bnd (gD v7 true (aJ 3 v8 v10 h10) h10) fun v11 h11 =>
 bnd (gD v7 true (aB 0 v11 h11) h11) fun v12 h12 =>
 bnd (gD v7 true (aA v12 h12) h12) fun v13 h13 =>
 bnd (gD v7 true (aD .eql v13 (aE 18) h13) h13) fun v14 h14 =>
 bnd (gD v4 false (aP v7 v14 (.b false) h14) h14) fun v15 h15 =>
 bnd (gD v4 false (some (v15, h15)) h15) fun v16 h16 =>
 bnd (gD v16 true (aA x3 h16) h16) fun v17 h17 =>
 bnd (gD v16 true (some (x20, h17)) h17) fun v18 h18 =>
 bnd (gD v16 true (aJ 1 v17 v18 h18) h18) fun v19 h19 =>
 bnd (gD v16 true (aA v19 h19) h19) fun v20 h20 =>
 bnd (gD v16 true (some (x20, h20)) h20) fun v21 h21 =>
 bnd (gD v16 true (aD .sub v21 (aE 2) h21) h21) fun v22 h22 =>
 bnd (gD v16 true (aD .eql v20 v22 h22) h22) fun v23 h23 =>
 bnd (gD v4 false (aP v16 v23 (.b false) h23) h23) fun v24 h24 =>
 bnd (aP v4 (.b true) v24 h24) fun v25 h25 =>
 aT v25 (
 bnd (aA x6 h25) fun v26 h26 =>
 bnd (aJ 1 v26 x20 h26) fun v27 h27 =>
 bnd (aG 1 v27 (aE 0) h27) fun _ h28 =>
 bnd (aA x7 h28) fun v29 h29 =>
 bnd (aL [(aE 0)] 1 [(0, 1, x20)] h29) fun v30 h30 =>
 bnd (bA 1 8 v29 v30 h30) fun v31 h31 =>
 bnd (aG 1 x7 v31 h31) fun _ h32 =>
  lE r n kk18 x2 x3 x6 x7 x19 x20 h32) (
  lE r n kk18 x2 x3 x6 x7 x19 x20 h25)
noncomputable def aFr (r : RT) (n : Nat) (kk18 : fI) (x2 x3 x6 x7 x19 x20 x21 : DV) (h0 : Hp) : aH :=
 aT x21 (
  uA r n kk18 x2 x3 x6 x7 x19 x20 h0) (
  cO r n x2 x3 x6 x7 h0)
noncomputable def aKw (r : RT) (n : Nat) (kk18 : fI) (x2 x3 x6 x7 x19 x20 : DV) (h0 : Hp) : aH :=
 bnd (aD .lss x20 x19 h0) fun v1 h1 =>
  aFr r n kk18 x2 x3 x6 x7 x19 x20 v1 h1
noncomputable def pI (r : RT) (n : Nat) (m : Nat) : fI :=
 Nat.rec (motive := fun _ => fI) (fun _ _ _ _ _ _ _ => none) (fun _ ih => aKw r n ih) m
noncomputable def bBv (r : RT) (n : Nat) : fI := pI r n n
noncomputable def aCx (r : RT) (n : Nat) (x2 x3 x6 x7 x19 x20 : DV) (h0 : Hp) : aH :=
 bBv r n x2 x3 x6 x7 x19 x20 h0
noncomputable def yN (r : RT) (n : Nat) (x2 x3 x6 x7 : DV) (h0 : Hp) : aH :=
 bnd (aA x6 h0) fun v1 h1 =>
 bnd (cA v1 h1) fun v2 h2 =>
  aCx r n x2 x3 x6 x7 v2 (aE 0) h2
noncomputable def sB (r : RT) (n : Nat) (x2 x3 x6 : DV) (h0 : Hp) : aH :=
 bnd (bN [.l0] h0) fun v1 h1 =>
  yN r n x2 x3 x6 v1 h1
noncomputable def rK (r : RT) (n : Nat) (x2 x3 : DV) (h0 : Hp) : aH :=
 bnd (aA x2 h0) fun v1 h1 =>
 bnd (cA v1 h1) fun v2 h2 =>
 bnd (cN 1 8 [(aE 0)] v2 v2 h2) fun v3 h3 =>
 bnd (bN [.l0] h3) fun v4 h4 =>
 bnd (aG 1 v4 v3 h4) fun _ h5 =>
  sB r n x2 x3 v4 h5
noncomputable def s175 (r : RT) (n : Nat) (x0 x1 : DV) (h0 : Hp) : aH :=
 bnd (bO x0 h0) fun v1 h1 =>
 bnd (bO x1 h1) fun v2 h2 =>
  rK r n v1 v2 h2
noncomputable abbrev c175 : Code := cf Tryz.f175
noncomputable abbrev aQh : Code := cR c175
noncomputable abbrev aGg : Code := cL aQh
noncomputable abbrev aDv : Code := cR aGg
noncomputable abbrev aFu : Code := cR aDv
noncomputable abbrev aCb : Code := cR aFu
noncomputable abbrev aDl : Code := cR aCb
noncomputable abbrev aHr : Code := cR aDl
noncomputable abbrev aEs : Code := cR aHr
noncomputable abbrev cTd : Code := cR aEs
noncomputable abbrev uM : Code := cL aEs
noncomputable abbrev uG : Code := cL uM
noncomputable abbrev iJ : Code := cL uG
noncomputable abbrev aIe : Code := cR iJ
noncomputable abbrev uV : Code := cL aIe
noncomputable abbrev tN : Code := cR uV
noncomputable abbrev tL : Code := cR tN
noncomputable abbrev tF : Code := cR tL
noncomputable abbrev uQ : Code := cR tF
noncomputable abbrev tK : Code := cR uQ
noncomputable abbrev cHz : Code := cR tK
noncomputable abbrev aVp : Code := cL tK
noncomputable abbrev bCc : Code := cL uQ
noncomputable abbrev aXc : Code := cL tF
noncomputable abbrev bBw : Code := cL tL
noncomputable abbrev aYb : Code := cL tN
noncomputable abbrev aYj : Code := cL uV
noncomputable abbrev bAh : Code := cL iJ
noncomputable abbrev aUy : Code := cL aHr
noncomputable abbrev aZr : Code := cL aDl
noncomputable abbrev aHn : Code := cL aCb
noncomputable abbrev qC : Code := cL aFu
noncomputable abbrev aEf : Code := cR qC
noncomputable abbrev vB : Code := cL aEf
noncomputable abbrev iL : Code := cL vB
noncomputable abbrev uE : Code := cR iL
noncomputable abbrev uR : Code := cR uE
noncomputable abbrev cDf : Code := cR uR
noncomputable abbrev aCf : Code := cL uR
noncomputable abbrev aVm : Code := cL uE
noncomputable abbrev bBe : Code := cL iL
noncomputable abbrev aZv : Code := cL qC
noncomputable abbrev aCq : Code := cL aDv
noncomputable abbrev aKn : Code := cL aGg
noncomputable abbrev aGi : Code := cL c175
noncomputable abbrev r175 : K := aR CF Tryz.f175
noncomputable def D175 (r : RT) (n : Nat) (c : Code) (X : Nat → K) (k : K) : K := aM CF r 144 n c X r175 k
theorem cDz : D175 r n cTd x0 r175 = (K2 (bY r n) 6 9) :=
 (by kernel_rfl)
theorem bKc (kk9 : fI) : D175 r n cHz (xs (xs x0 2 (K2 (bY r n) 6 9)) 3 (K6 kk9 2 3 6 7 9 10)) (K6 kk9 2 3 6 7 9 10) = (K8 (vA r n kk9) 2 3 6 7 9 10 11 14) :=
 (by kernel_rfl)
theorem bFe (kk9 : fI) : D175 r n tK (xs (xs x0 2 (K2 (bY r n) 6 9)) 3 (K6 kk9 2 3 6 7 9 10)) (K6 kk9 2 3 6 7 9 10) = D175 r n aVp (xs (xs x0 2 (K2 (bY r n) 6 9)) 3 (K6 kk9 2 3 6 7 9 10)) (K8 (vA r n kk9) 2 3 6 7 9 10 11 14) :=
 congrArg (fun k => D175 r n aVp (xs (xs x0 2 (K2 (bY r n) 6 9)) 3 (K6 kk9 2 3 6 7 9 10)) k) (bKc r n kk9)
theorem bUa (kk9 : fI) : D175 r n tK (xs (xs x0 2 (K2 (bY r n) 6 9)) 3 (K6 kk9 2 3 6 7 9 10)) (K6 kk9 2 3 6 7 9 10) = (K10 (aJt r n kk9) 2 3 6 7 9 10 11 12 13 14) :=
 (bFe r n kk9).trans
 ((by kernel_rfl))
theorem bDg (kk9 : fI) : D175 r n uQ (xs (xs x0 2 (K2 (bY r n) 6 9)) 3 (K6 kk9 2 3 6 7 9 10)) (K6 kk9 2 3 6 7 9 10) = D175 r n bCc (xs (xs x0 2 (K2 (bY r n) 6 9)) 3 (K6 kk9 2 3 6 7 9 10)) (K10 (aJt r n kk9) 2 3 6 7 9 10 11 12 13 14) :=
 congrArg (fun k => D175 r n bCc (xs (xs x0 2 (K2 (bY r n) 6 9)) 3 (K6 kk9 2 3 6 7 9 10)) k) (bUa r n kk9)
theorem bYj (kk9 : fI) : D175 r n uQ (xs (xs x0 2 (K2 (bY r n) 6 9)) 3 (K6 kk9 2 3 6 7 9 10)) (K6 kk9 2 3 6 7 9 10) = (K10 (aIf r n kk9) 2 3 6 7 9 10 11 12 13 14) :=
 (bDg r n kk9).trans
 ((by kernel_rfl))
theorem bEq (kk9 : fI) : D175 r n tF (xs (xs x0 2 (K2 (bY r n) 6 9)) 3 (K6 kk9 2 3 6 7 9 10)) (K6 kk9 2 3 6 7 9 10) = D175 r n aXc (xs (xs x0 2 (K2 (bY r n) 6 9)) 3 (K6 kk9 2 3 6 7 9 10)) (K10 (aIf r n kk9) 2 3 6 7 9 10 11 12 13 14) :=
 congrArg (fun k => D175 r n aXc (xs (xs x0 2 (K2 (bY r n) 6 9)) 3 (K6 kk9 2 3 6 7 9 10)) k) (bYj r n kk9)
theorem bQs (kk9 : fI) : D175 r n tF (xs (xs x0 2 (K2 (bY r n) 6 9)) 3 (K6 kk9 2 3 6 7 9 10)) (K6 kk9 2 3 6 7 9 10) = (K9 (aKr r n kk9) 2 3 6 7 9 10 11 12 13) :=
 (bEq r n kk9).trans
 ((by kernel_rfl))
theorem bEy (kk9 : fI) : D175 r n tL (xs (xs x0 2 (K2 (bY r n) 6 9)) 3 (K6 kk9 2 3 6 7 9 10)) (K6 kk9 2 3 6 7 9 10) = D175 r n bBw (xs (xs x0 2 (K2 (bY r n) 6 9)) 3 (K6 kk9 2 3 6 7 9 10)) (K9 (aKr r n kk9) 2 3 6 7 9 10 11 12 13) :=
 congrArg (fun k => D175 r n bBw (xs (xs x0 2 (K2 (bY r n) 6 9)) 3 (K6 kk9 2 3 6 7 9 10)) k) (bQs r n kk9)
theorem bXz (kk9 : fI) : D175 r n tL (xs (xs x0 2 (K2 (bY r n) 6 9)) 3 (K6 kk9 2 3 6 7 9 10)) (K6 kk9 2 3 6 7 9 10) = (K7 (aEy r n kk9) 2 3 6 7 9 10 11) :=
 (bEy r n kk9).trans
 ((by kernel_rfl))
theorem bDs (kk9 : fI) : D175 r n tN (xs (xs x0 2 (K2 (bY r n) 6 9)) 3 (K6 kk9 2 3 6 7 9 10)) (K6 kk9 2 3 6 7 9 10) = D175 r n aYb (xs (xs x0 2 (K2 (bY r n) 6 9)) 3 (K6 kk9 2 3 6 7 9 10)) (K7 (aEy r n kk9) 2 3 6 7 9 10 11) :=
 congrArg (fun k => D175 r n aYb (xs (xs x0 2 (K2 (bY r n) 6 9)) 3 (K6 kk9 2 3 6 7 9 10)) k) (bXz r n kk9)
theorem bQb (kk9 : fI) : D175 r n tN (xs (xs x0 2 (K2 (bY r n) 6 9)) 3 (K6 kk9 2 3 6 7 9 10)) (K6 kk9 2 3 6 7 9 10) = (K7 (aHl r n kk9) 2 3 6 7 9 10 11) :=
 (bDs r n kk9).trans
 ((by kernel_rfl))
theorem bDf (kk9 : fI) : D175 r n uV (xs (xs x0 2 (K2 (bY r n) 6 9)) 3 (K6 kk9 2 3 6 7 9 10)) (K6 kk9 2 3 6 7 9 10) = D175 r n aYj (xs (xs x0 2 (K2 (bY r n) 6 9)) 3 (K6 kk9 2 3 6 7 9 10)) (K7 (aHl r n kk9) 2 3 6 7 9 10 11) :=
 congrArg (fun k => D175 r n aYj (xs (xs x0 2 (K2 (bY r n) 6 9)) 3 (K6 kk9 2 3 6 7 9 10)) k) (bQb r n kk9)
theorem bQc (kk9 : fI) : D175 r n aIe (xs x0 2 (K2 (bY r n) 6 9)) (K6 kk9 2 3 6 7 9 10) = (K6 (aGs r n kk9) 2 3 6 7 9 10) :=
 (by kernel_rfl : D175 r n aIe (xs x0 2 (K2 (bY r n) 6 9)) (K6 kk9 2 3 6 7 9 10) = D175 r n uV (xs (xs x0 2 (K2 (bY r n) 6 9)) 3 (K6 kk9 2 3 6 7 9 10)) (K6 kk9 2 3 6 7 9 10)).trans
 ((bDf r n kk9).trans
 ((by kernel_rfl)))
theorem bNy (kk9 : fI) : D175 r n iJ (xs x0 2 (K2 (bY r n) 6 9)) (K6 kk9 2 3 6 7 9 10) = D175 r n bAh (xs x0 2 (K2 (bY r n) 6 9)) (K6 (aGs r n kk9) 2 3 6 7 9 10) :=
 congrArg (fun k => D175 r n bAh (xs x0 2 (K2 (bY r n) 6 9)) k) (bQc r n kk9)
theorem cAn (kk9 : fI) : D175 r n iJ (xs x0 2 (K2 (bY r n) 6 9)) (K6 kk9 2 3 6 7 9 10) = (K6 (bAs r n kk9) 2 3 6 7 9 10) :=
 (bNy r n kk9).trans
 ((by kernel_rfl))
theorem bKx (m : Nat) : aO (fun kk => D175 r n iJ (xs x0 2 (K2 (bY r n) 6 9)) kk) m = (K6 (tY r n m) 2 3 6 7 9 10) := by
 induction m with
 | zero => exact (by kernel_rfl : aO (fun kk => D175 r n iJ (xs x0 2 (K2 (bY r n) 6 9)) kk) 0 = (K6 (tY r n 0) 2 3 6 7 9 10))
 | succ m ih =>
  refine (by kernel_rfl : aO (fun kk => D175 r n iJ (xs x0 2 (K2 (bY r n) 6 9)) kk) (m + 1) = D175 r n iJ (xs x0 2 (K2 (bY r n) 6 9)) (aO (fun kk => D175 r n iJ (xs x0 2 (K2 (bY r n) 6 9)) kk) m)).trans ?_
  rw [ih]
  exact (cAn r n (tY r n m)).trans (by kernel_rfl)
theorem cFe : D175 r n uG (xs x0 2 (K2 (bY r n) 6 9)) (K2 (bY r n) 6 9) = (K6 (bHl r n) 2 3 6 7 9 10) :=
 (by kernel_rfl : D175 r n uG (xs x0 2 (K2 (bY r n) 6 9)) (K2 (bY r n) 6 9) = aO (fun kk => D175 r n iJ (xs x0 2 (K2 (bY r n) 6 9)) kk) n).trans ((bKx r n n).trans (by kernel_rfl))
theorem bWv : D175 r n aEs x0 r175 = D175 r n uM x0 (K2 (bY r n) 6 9) :=
 congrArg (fun k => D175 r n uM x0 k) (cDz r n)
theorem cLr : D175 r n aEs x0 r175 = (K6 (aQg r n) 2 3 6 7 9 10) :=
 (bWv r n).trans
 ((by kernel_rfl : D175 r n uM x0 (K2 (bY r n) 6 9) = D175 r n uG (xs x0 2 (K2 (bY r n) 6 9)) (K2 (bY r n) 6 9)).trans
 ((cFe r n).trans (by kernel_rfl)))
theorem bKs : D175 r n aHr x0 r175 = D175 r n aUy x0 (K6 (aQg r n) 2 3 6 7 9 10) :=
 congrArg (fun k => D175 r n aUy x0 k) (cLr r n)
theorem cIl : D175 r n aHr x0 r175 = (K6 (aSh r n) 2 3 6 7 9 10) :=
 (bKs r n).trans
 ((by kernel_rfl))
theorem bFq : D175 r n aDl x0 r175 = D175 r n aZr x0 (K6 (aSh r n) 2 3 6 7 9 10) :=
 congrArg (fun k => D175 r n aZr x0 k) (cIl r n)
theorem cJp : D175 r n aDl x0 r175 = (K5 (wK r n) 2 3 6 7 9) :=
 (bFq r n).trans
 ((by kernel_rfl))
theorem bDt : D175 r n aCb x0 r175 = D175 r n aHn x0 (K5 (wK r n) 2 3 6 7 9) :=
 congrArg (fun k => D175 r n aHn x0 k) (cJp r n)
theorem bDe (q0 : cH) : D175 r n aHn x0 (K5 q0 2 3 6 7 9) = fun (env : aV) (h : Hp) =>
 bnd (bN [(.b false)] h) fun v1 h1 =>
 bnd (aG 1 v1 (.b true) h1) fun _ h2 =>
  q0 (env 2) (env 3) (env 6) (env 7) v1 h2 := by kernel_rfl
theorem aUi : (fun (env : aV) (h : Hp) =>
 bnd (bN [(.b false)] h) fun v1 h1 =>
 bnd (aG 1 v1 (.b true) h1) fun _ h2 =>
  wK r n (env 2) (env 3) (env 6) (env 7) v1 h2) = (K4 (cO r n) 2 3 6 7) := by kernel_rfl
theorem cCi : D175 r n aCb x0 r175 = (K4 (cO r n) 2 3 6 7) :=
 (bDt r n).trans
 ((bDe r n (wK r n)).trans (aUi r n))
theorem bNd (kk18 : fI) : D175 r n cDf (xs x0 0 (K4 (cO r n) 2 3 6 7)) (K6 kk18 2 3 6 7 19 20) = (K6 (lE r n kk18) 2 3 6 7 19 20) :=
 (by kernel_rfl)
theorem aOl (kk18 : fI) : D175 r n uR (xs x0 0 (K4 (cO r n) 2 3 6 7)) (K6 kk18 2 3 6 7 19 20) = D175 r n aCf (xs x0 0 (K4 (cO r n) 2 3 6 7)) (K6 (lE r n kk18) 2 3 6 7 19 20) :=
 congrArg (fun k => D175 r n aCf (xs x0 0 (K4 (cO r n) 2 3 6 7)) k) (bNd r n kk18)
theorem aQo (kk18 : fI) (q0 : fI) (q1 : dN) : D175 r n aCf (xs x0 0 (K4 q1 2 3 6 7)) (K6 q0 2 3 6 7 19 20) = fun (env : aV) (h : Hp) =>
 bnd (aA (env 6) h) fun v1 h1 =>
 bnd (aJ 1 v1 (env 20) h1) fun v2 h2 =>
 bnd (aG 1 v2 (.i .i64 (Int.negSucc 0)) h2) fun _ h3 =>
 bnd (aD .eql (env 20) (aE 0) h3) fun v4 h4 =>
 bnd (gD v4 false (some ((env 20), h4)) h4) fun v5 h5 =>
 bnd (gD v4 false (aD .gtr v5 (aE 1) h5) h5) fun v6 h6 =>
 bnd (gD v4 false (some (v6, h6)) h6) fun v7 h7 =>
 bnd (gD v7 true (aA (env 2) h7) h7) fun v8 h8 =>
 bnd (gD v7 true (some ((env 20), h8)) h8) fun v9 h9 =>
 bnd (gD v7 true (aD .sub v9 (aE 2) h9) h9) fun v10 h10 =>
 bnd (gD v7 true (aJ 3 v8 v10 h10) h10) fun v11 h11 =>
 bnd (gD v7 true (aB 0 v11 h11) h11) fun v12 h12 =>
 bnd (gD v7 true (aA v12 h12) h12) fun v13 h13 =>
 bnd (gD v7 true (aD .eql v13 (aE 18) h13) h13) fun v14 h14 =>
 bnd (gD v4 false (aP v7 v14 (.b false) h14) h14) fun v15 h15 =>
 bnd (gD v4 false (some (v15, h15)) h15) fun v16 h16 =>
 bnd (gD v16 true (aA (env 3) h16) h16) fun v17 h17 =>
 bnd (gD v16 true (some ((env 20), h17)) h17) fun v18 h18 =>
 bnd (gD v16 true (aJ 1 v17 v18 h18) h18) fun v19 h19 =>
 bnd (gD v16 true (aA v19 h19) h19) fun v20 h20 =>
 bnd (gD v16 true (some ((env 20), h20)) h20) fun v21 h21 =>
 bnd (gD v16 true (aD .sub v21 (aE 2) h21) h21) fun v22 h22 =>
 bnd (gD v16 true (aD .eql v20 v22 h22) h22) fun v23 h23 =>
 bnd (gD v4 false (aP v16 v23 (.b false) h23) h23) fun v24 h24 =>
 bnd (aP v4 (.b true) v24 h24) fun v25 h25 =>
 aT v25 (
 bnd (aA (env 6) h25) fun v26 h26 =>
 bnd (aJ 1 v26 (env 20) h26) fun v27 h27 =>
 bnd (aG 1 v27 (aE 0) h27) fun _ h28 =>
 bnd (aA (env 7) h28) fun v29 h29 =>
 bnd (aL [(aE 0)] 1 [(0, 1, (env 20))] h29) fun v30 h30 =>
 bnd (bA 1 8 v29 v30 h30) fun v31 h31 =>
 bnd (aG 1 (env 7) v31 h31) fun _ h32 =>
      q0 (env 2) (env 3) (env 6) (env 7) (env 19) (env 20) h32) (
      q0 (env 2) (env 3) (env 6) (env 7) (env 19) (env 20) h25) := by kernel_rfl
theorem aMi (kk18 : fI) : (fun (env : aV) (h : Hp) =>
 bnd (aA (env 6) h) fun v1 h1 =>
 bnd (aJ 1 v1 (env 20) h1) fun v2 h2 =>
 bnd (aG 1 v2 (.i .i64 (Int.negSucc 0)) h2) fun _ h3 =>
 bnd (aD .eql (env 20) (aE 0) h3) fun v4 h4 =>
 bnd (gD v4 false (some ((env 20), h4)) h4) fun v5 h5 =>
 bnd (gD v4 false (aD .gtr v5 (aE 1) h5) h5) fun v6 h6 =>
 bnd (gD v4 false (some (v6, h6)) h6) fun v7 h7 =>
 bnd (gD v7 true (aA (env 2) h7) h7) fun v8 h8 =>
 bnd (gD v7 true (some ((env 20), h8)) h8) fun v9 h9 =>
 bnd (gD v7 true (aD .sub v9 (aE 2) h9) h9) fun v10 h10 =>
 bnd (gD v7 true (aJ 3 v8 v10 h10) h10) fun v11 h11 =>
 bnd (gD v7 true (aB 0 v11 h11) h11) fun v12 h12 =>
 bnd (gD v7 true (aA v12 h12) h12) fun v13 h13 =>
 bnd (gD v7 true (aD .eql v13 (aE 18) h13) h13) fun v14 h14 =>
 bnd (gD v4 false (aP v7 v14 (.b false) h14) h14) fun v15 h15 =>
 bnd (gD v4 false (some (v15, h15)) h15) fun v16 h16 =>
 bnd (gD v16 true (aA (env 3) h16) h16) fun v17 h17 =>
 bnd (gD v16 true (some ((env 20), h17)) h17) fun v18 h18 =>
 bnd (gD v16 true (aJ 1 v17 v18 h18) h18) fun v19 h19 =>
 bnd (gD v16 true (aA v19 h19) h19) fun v20 h20 =>
 bnd (gD v16 true (some ((env 20), h20)) h20) fun v21 h21 =>
 bnd (gD v16 true (aD .sub v21 (aE 2) h21) h21) fun v22 h22 =>
 bnd (gD v16 true (aD .eql v20 v22 h22) h22) fun v23 h23 =>
 bnd (gD v4 false (aP v16 v23 (.b false) h23) h23) fun v24 h24 =>
 bnd (aP v4 (.b true) v24 h24) fun v25 h25 =>
 aT v25 (
 bnd (aA (env 6) h25) fun v26 h26 =>
 bnd (aJ 1 v26 (env 20) h26) fun v27 h27 =>
 bnd (aG 1 v27 (aE 0) h27) fun _ h28 =>
 bnd (aA (env 7) h28) fun v29 h29 =>
 bnd (aL [(aE 0)] 1 [(0, 1, (env 20))] h29) fun v30 h30 =>
 bnd (bA 1 8 v29 v30 h30) fun v31 h31 =>
 bnd (aG 1 (env 7) v31 h31) fun _ h32 =>
      lE r n kk18 (env 2) (env 3) (env 6) (env 7) (env 19) (env 20) h32) (
      lE r n kk18 (env 2) (env 3) (env 6) (env 7) (env 19) (env 20) h25)) = (K6 (uA r n kk18) 2 3 6 7 19 20) := by kernel_rfl
theorem bRh (kk18 : fI) : D175 r n uR (xs x0 0 (K4 (cO r n) 2 3 6 7)) (K6 kk18 2 3 6 7 19 20) = (K6 (uA r n kk18) 2 3 6 7 19 20) :=
 (aOl r n kk18).trans
 ((aQo r n kk18 (lE r n kk18) (cO r n)).trans (aMi r n kk18))
theorem aPa (kk18 : fI) : D175 r n uE (xs x0 0 (K4 (cO r n) 2 3 6 7)) (K6 kk18 2 3 6 7 19 20) = D175 r n aVm (xs x0 0 (K4 (cO r n) 2 3 6 7)) (K6 (uA r n kk18) 2 3 6 7 19 20) :=
 congrArg (fun k => D175 r n aVm (xs x0 0 (K4 (cO r n) 2 3 6 7)) k) (bRh r n kk18)
theorem bIc (kk18 : fI) : D175 r n uE (xs x0 0 (K4 (cO r n) 2 3 6 7)) (K6 kk18 2 3 6 7 19 20) = (K7 (aFr r n kk18) 2 3 6 7 19 20 21) :=
 (aPa r n kk18).trans
 ((by kernel_rfl))
theorem aTy (kk18 : fI) : D175 r n iL (xs x0 0 (K4 (cO r n) 2 3 6 7)) (K6 kk18 2 3 6 7 19 20) = D175 r n bBe (xs x0 0 (K4 (cO r n) 2 3 6 7)) (K7 (aFr r n kk18) 2 3 6 7 19 20 21) :=
 congrArg (fun k => D175 r n bBe (xs x0 0 (K4 (cO r n) 2 3 6 7)) k) (bIc r n kk18)
theorem bEb (kk18 : fI) : D175 r n iL (xs x0 0 (K4 (cO r n) 2 3 6 7)) (K6 kk18 2 3 6 7 19 20) = (K6 (aKw r n kk18) 2 3 6 7 19 20) :=
 (aTy r n kk18).trans
 ((by kernel_rfl))
theorem bEh (m : Nat) : aO (fun kk => D175 r n iL (xs x0 0 (K4 (cO r n) 2 3 6 7)) kk) m = (K6 (pI r n m) 2 3 6 7 19 20) := by
 induction m with
 | zero => exact (by kernel_rfl : aO (fun kk => D175 r n iL (xs x0 0 (K4 (cO r n) 2 3 6 7)) kk) 0 = (K6 (pI r n 0) 2 3 6 7 19 20))
 | succ m ih =>
  refine (by kernel_rfl : aO (fun kk => D175 r n iL (xs x0 0 (K4 (cO r n) 2 3 6 7)) kk) (m + 1) = D175 r n iL (xs x0 0 (K4 (cO r n) 2 3 6 7)) (aO (fun kk => D175 r n iL (xs x0 0 (K4 (cO r n) 2 3 6 7)) kk) m)).trans ?_
  rw [ih]
  exact (bEb r n (pI r n m)).trans (by kernel_rfl)
theorem bLx : D175 r n vB (xs x0 0 (K4 (cO r n) 2 3 6 7)) (K4 (cO r n) 2 3 6 7) = (K6 (bBv r n) 2 3 6 7 19 20) :=
 (by kernel_rfl : D175 r n vB (xs x0 0 (K4 (cO r n) 2 3 6 7)) (K4 (cO r n) 2 3 6 7) = aO (fun kk => D175 r n iL (xs x0 0 (K4 (cO r n) 2 3 6 7)) kk) n).trans ((bEh r n n).trans (by kernel_rfl))
theorem bUp : D175 r n aEf x0 (K4 (cO r n) 2 3 6 7) = (K6 (aCx r n) 2 3 6 7 19 20) :=
 (by kernel_rfl : D175 r n aEf x0 (K4 (cO r n) 2 3 6 7) = D175 r n vB (xs x0 0 (K4 (cO r n) 2 3 6 7)) (K4 (cO r n) 2 3 6 7)).trans
 ((bLx r n).trans (by kernel_rfl))
theorem bFg : D175 r n aFu x0 r175 = D175 r n qC x0 (K4 (cO r n) 2 3 6 7) :=
 congrArg (fun k => D175 r n qC x0 k) (cCi r n)
theorem bEu : D175 r n qC x0 (K4 (cO r n) 2 3 6 7) = D175 r n aZv x0 (K6 (aCx r n) 2 3 6 7 19 20) :=
 congrArg (fun k => D175 r n aZv x0 k) (bUp r n)
theorem cOa : D175 r n aFu x0 r175 = (K4 (yN r n) 2 3 6 7) :=
 (bFg r n).trans
 ((bEu r n).trans
 ((by kernel_rfl)))
theorem bEn : D175 r n aDv x0 r175 = D175 r n aCq x0 (K4 (yN r n) 2 3 6 7) :=
 congrArg (fun k => D175 r n aCq x0 k) (cOa r n)
theorem bFz (q0 : dN) : D175 r n aCq x0 (K4 q0 2 3 6 7) = fun (env : aV) (h : Hp) =>
 bnd (bN [.l0] h) fun v1 h1 =>
  q0 (env 2) (env 3) (env 6) v1 h1 := by kernel_rfl
theorem aRm : (fun (env : aV) (h : Hp) =>
 bnd (bN [.l0] h) fun v1 h1 =>
  yN r n (env 2) (env 3) (env 6) v1 h1) = (K3 (sB r n) 2 3 6) := by kernel_rfl
theorem cJx : D175 r n aDv x0 r175 = (K3 (sB r n) 2 3 6) :=
 (bEn r n).trans
 ((bFz r n (yN r n)).trans (aRm r n))
theorem bFy : D175 r n aGg x0 r175 = D175 r n aKn x0 (K3 (sB r n) 2 3 6) :=
 congrArg (fun k => D175 r n aKn x0 k) (cJx r n)
theorem bEt (q0 : mF) : D175 r n aKn x0 (K3 q0 2 3 6) = fun (env : aV) (h : Hp) =>
 bnd (aA (env 2) h) fun v1 h1 =>
 bnd (cA v1 h1) fun v2 h2 =>
 bnd (cN 1 8 [(aE 0)] v2 v2 h2) fun v3 h3 =>
 bnd (bN [.l0] h3) fun v4 h4 =>
 bnd (aG 1 v4 v3 h4) fun _ h5 =>
  q0 (env 2) (env 3) v4 h5 := by kernel_rfl
theorem aNu : (fun (env : aV) (h : Hp) =>
 bnd (aA (env 2) h) fun v1 h1 =>
 bnd (cA v1 h1) fun v2 h2 =>
 bnd (cN 1 8 [(aE 0)] v2 v2 h2) fun v3 h3 =>
 bnd (bN [.l0] h3) fun v4 h4 =>
 bnd (aG 1 v4 v3 h4) fun _ h5 =>
  sB r n (env 2) (env 3) v4 h5) = (K2 (rK r n) 2 3) := by kernel_rfl
theorem cNc : D175 r n aQh x0 r175 = (K2 (rK r n) 2 3) :=
 (by kernel_rfl : D175 r n aQh x0 r175 = D175 r n aGg x0 r175).trans
 ((bFy r n).trans
 ((bEt r n (sB r n)).trans (aNu r n)))
theorem cIb : D175 r n c175 x0 r175 = D175 r n aGi x0 (K2 (rK r n) 2 3) :=
 congrArg (fun k => D175 r n aGi x0 k) (cNc r n)
theorem cLb (q0 : pB) : D175 r n aGi x0 (K2 q0 2 3) = fun (env : aV) (h : Hp) =>
 bnd (bO (env 0) h) fun v1 h1 =>
 bnd (bO (env 1) h1) fun v2 h2 =>
  q0 v1 v2 h2 := by kernel_rfl
theorem bUu : (fun (env : aV) (h : Hp) =>
 bnd (bO (env 0) h) fun v1 h1 =>
 bnd (bO (env 1) h1) fun v2 h2 =>
  rK r n v1 v2 h2) = (K2 (s175 r n) 0 1) := by kernel_rfl
theorem dMz : D175 r n c175 x0 r175 = (K2 (s175 r n) 0 1) :=
 (cIb r n).trans
 ((cLb r n (rK r n)).trans (bUu r n))
theorem cVr : aF CF r n 175 args h = s175 r n (aU args 0) (aU args 1) h :=
 (by kernel_rfl : aF CF r n 175 args h = D175 r n c175 x0 r175 (aI args) h).trans ((congrFun (congrFun (dMz r n) (aI args)) h).trans (by kernel_rfl))
noncomputable def s177 (r : RT) (n : Nat) (x0 : DV) (h0 : Hp) : aH :=
 bnd (r 148 [x0] h0) fun v1 h1 =>
 bnd (gD v1 false (some (x0, h1)) h1) fun v2 h2 =>
 bnd (gD v1 false (r 151 [v2] h2) h2) fun v3 h3 =>
 bnd (aP v1 (.b true) v3 h3) fun v4 h4 =>
 some (v4, h4)
noncomputable abbrev c177 : Code := cf Tryz.f177
noncomputable abbrev r177 : K := aR CF Tryz.f177
noncomputable def D177 (r : RT) (n : Nat) (c : Code) (X : Nat → K) (k : K) : K := aM CF r 9 n c X r177 k
theorem dLb : D177 r n c177 x0 r177 = (K1 (s177 r n) 0) :=
 (by kernel_rfl)
theorem dBx : aF CF r n 177 args h = s177 r n (aU args 0) h :=
 (by kernel_rfl : aF CF r n 177 args h = D177 r n c177 x0 r177 (aI args) h).trans ((congrFun (congrFun (dLb r n) (aI args)) h).trans (by kernel_rfl))
end Go.Dd

namespace Go.Dd
open Go.Proofs
variable (r : RT) (n : Nat) (args : List DV) (h : Hp)
noncomputable def oP (r : RT) (n : Nat) (x2 : DV) (h0 : Hp) : aH :=
 bnd (bB kM [] h0) fun v1 h1 =>
 bnd (aG 6 x2 v1 h1) fun _ h2 =>
 bnd (aK 6 x2 h2) fun v3 _ =>
 some (v3, h2)
noncomputable def rX (r : RT) (n : Nat) (x0 x2 : DV) (h0 : Hp) : aH :=
 bnd (r 137 [x0, (aE 0)] h0) fun v1 h1 =>
 bnd (bN [(aE 0), (.s []), (aE 0), (aE 0)] h1) fun v2 h2 =>
 bnd (aG 4 v2 v1 h2) fun _ h3 =>
 bnd (aN x0 h3) fun v4 h4 =>
 bnd (aB 3 v4 h4) fun v5 h5 =>
 bnd (aA v5 h5) fun v6 h6 =>
 bnd (aD .neq v6 (aE 0) h6) fun v7 h7 =>
 aT v7 (
  oP r n x2 h7) (
 bnd (aB 0 v2 h7) fun v8 h8 =>
 bnd (aA v8 h8) fun v9 h9 =>
 bnd (aD .eql v9 (aE 1) h9) fun v10 h10 =>
 aT v10 (
 bnd (r 134 [x0] h10) fun v11 h11 =>
 bnd (fO 1 v11 h11) fun v12 h12 =>
 bnd (bB kM [(0, 1, (aE 5)), (1, 1, v12)] h12) fun v13 h13 =>
 bnd (aG 6 x2 v13 h13) fun _ h14 =>
 bnd (aK 6 x2 h14) fun v15 _ =>
 some (v15, h14)) (
 bnd (aB 0 v2 h10) fun v16 h16 =>
 bnd (aA v16 h16) fun v17 h17 =>
 bnd (aD .eql v17 (aE 7) h17) fun v18 h18 =>
 aT v18 (
 bnd (r 208 [x0, (.f 209 [x0] [])] h18) fun v19 h19 =>
 bnd (aG 6 x2 v19 h19) fun _ h20 =>
 bnd (aK 6 x2 h20) fun v21 _ =>
 some (v21, h20)) (
 bnd (r 133 [x0, (aE 10), (.s [40])] h18) fun v22 h22 =>
 aT v22 (
 bnd (r 208 [x0, (.f 210 [x0] [])] h22) fun v23 h23 =>
 bnd (aG 6 x2 v23 h23) fun _ h24 =>
 bnd (aK 6 x2 h24) fun v25 _ =>
 some (v25, h24)) (
 bnd (r 133 [x0, (aE 10), (.s [91])] h22) fun v26 h26 =>
 aT v26 (
 bnd (r 208 [x0, (.f 211 [x0] [])] h26) fun v27 h27 =>
 bnd (aG 6 x2 v27 h27) fun _ h28 =>
 bnd (aK 6 x2 h28) fun v29 _ =>
 some (v29, h28)) (
 bnd (aK 4 v2 h26) fun v30 h30 =>
 bnd (r 136 [x0, v30, (aE 13)] h30) fun v31 h31 =>
      oP r n x2 h31)))))
noncomputable def qU (r : RT) (n : Nat) (x0 x2 : DV) (h0 : Hp) : aH :=
 bnd (r 207 [x0] h0) fun v1 h1 =>
 bnd (aC 0 v1 h1) fun v2 h2 =>
 bnd (aC 1 v1 h2) fun v3 h3 =>
 bnd (bN kM h3) fun v4 h4 =>
 bnd (aG 6 v4 v2 h4) fun _ h5 =>
 aT v3 (
 bnd (aK 6 v4 h5) fun v6 h6 =>
 bnd (aG 6 x2 v6 h6) fun _ h7 =>
 bnd (aK 6 x2 h7) fun v8 _ =>
 some (v8, h7)) (
  rX r n x0 x2 h5)
noncomputable def s182 (r : RT) (n : Nat) (x0 : DV) (h0 : Hp) : aH :=
 bnd (bN kM h0) fun v1 h1 =>
  qU r n x0 v1 h1
noncomputable abbrev c182 : Code := cf Tryz.f182
noncomputable abbrev aIi : Code := cR c182
noncomputable abbrev aCr : Code := cR aIi
noncomputable abbrev cVf : Code := cR aCr
noncomputable abbrev aOa : Code := cL aCr
noncomputable abbrev aSf : Code := cL aIi
noncomputable abbrev aQl : Code := cL c182
noncomputable abbrev r182 : K := aR CF Tryz.f182
noncomputable def D182 (r : RT) (n : Nat) (c : Code) (X : Nat → K) (k : K) : K := aM CF r 55 n c X r182 k
theorem cGq : D182 r n cVf x0 r182 = (K1 (oP r n) 2) :=
 (by kernel_rfl)
theorem bJu : D182 r n aCr x0 r182 = D182 r n aOa x0 (K1 (oP r n) 2) :=
 congrArg (fun k => D182 r n aOa x0 k) (cGq r n)
theorem bIg (q0 : TT1) : D182 r n aOa x0 (K1 q0 2) = fun (env : aV) (h : Hp) =>
 bnd (r 137 [(env 0), (aE 0)] h) fun v1 h1 =>
 bnd (bN [(aE 0), (.s []), (aE 0), (aE 0)] h1) fun v2 h2 =>
 bnd (aG 4 v2 v1 h2) fun _ h3 =>
 bnd (aN (env 0) h3) fun v4 h4 =>
 bnd (aB 3 v4 h4) fun v5 h5 =>
 bnd (aA v5 h5) fun v6 h6 =>
 bnd (aD .neq v6 (aE 0) h6) fun v7 h7 =>
 aT v7 (
   q0 (env 2) h7) (
 bnd (aB 0 v2 h7) fun v8 h8 =>
 bnd (aA v8 h8) fun v9 h9 =>
 bnd (aD .eql v9 (aE 1) h9) fun v10 h10 =>
 aT v10 (
 bnd (r 134 [(env 0)] h10) fun v11 h11 =>
 bnd (fO 1 v11 h11) fun v12 h12 =>
 bnd (bB kM [(0, 1, (aE 5)), (1, 1, v12)] h12) fun v13 h13 =>
 bnd (aG 6 (env 2) v13 h13) fun _ h14 =>
 bnd (aK 6 (env 2) h14) fun v15 _ =>
 some (v15, h14)) (
 bnd (aB 0 v2 h10) fun v16 h16 =>
 bnd (aA v16 h16) fun v17 h17 =>
 bnd (aD .eql v17 (aE 7) h17) fun v18 h18 =>
 aT v18 (
 bnd (r 208 [(env 0), (.f 209 [(env 0)] [])] h18) fun v19 h19 =>
 bnd (aG 6 (env 2) v19 h19) fun _ h20 =>
 bnd (aK 6 (env 2) h20) fun v21 _ =>
 some (v21, h20)) (
 bnd (r 133 [(env 0), (aE 10), (.s [40])] h18) fun v22 h22 =>
 aT v22 (
 bnd (r 208 [(env 0), (.f 210 [(env 0)] [])] h22) fun v23 h23 =>
 bnd (aG 6 (env 2) v23 h23) fun _ h24 =>
 bnd (aK 6 (env 2) h24) fun v25 _ =>
 some (v25, h24)) (
 bnd (r 133 [(env 0), (aE 10), (.s [91])] h22) fun v26 h26 =>
 aT v26 (
 bnd (r 208 [(env 0), (.f 211 [(env 0)] [])] h26) fun v27 h27 =>
 bnd (aG 6 (env 2) v27 h27) fun _ h28 =>
 bnd (aK 6 (env 2) h28) fun v29 _ =>
 some (v29, h28)) (
 bnd (aK 4 v2 h26) fun v30 h30 =>
 bnd (r 136 [(env 0), v30, (aE 13)] h30) fun v31 h31 =>
       q0 (env 2) h31))))) := by kernel_rfl
theorem bDv : (fun (env : aV) (h : Hp) =>
 bnd (r 137 [(env 0), (aE 0)] h) fun v1 h1 =>
 bnd (bN [(aE 0), (.s []), (aE 0), (aE 0)] h1) fun v2 h2 =>
 bnd (aG 4 v2 v1 h2) fun _ h3 =>
 bnd (aN (env 0) h3) fun v4 h4 =>
 bnd (aB 3 v4 h4) fun v5 h5 =>
 bnd (aA v5 h5) fun v6 h6 =>
 bnd (aD .neq v6 (aE 0) h6) fun v7 h7 =>
 aT v7 (
   oP r n (env 2) h7) (
 bnd (aB 0 v2 h7) fun v8 h8 =>
 bnd (aA v8 h8) fun v9 h9 =>
 bnd (aD .eql v9 (aE 1) h9) fun v10 h10 =>
 aT v10 (
 bnd (r 134 [(env 0)] h10) fun v11 h11 =>
 bnd (fO 1 v11 h11) fun v12 h12 =>
 bnd (bB kM [(0, 1, (aE 5)), (1, 1, v12)] h12) fun v13 h13 =>
 bnd (aG 6 (env 2) v13 h13) fun _ h14 =>
 bnd (aK 6 (env 2) h14) fun v15 _ =>
 some (v15, h14)) (
 bnd (aB 0 v2 h10) fun v16 h16 =>
 bnd (aA v16 h16) fun v17 h17 =>
 bnd (aD .eql v17 (aE 7) h17) fun v18 h18 =>
 aT v18 (
 bnd (r 208 [(env 0), (.f 209 [(env 0)] [])] h18) fun v19 h19 =>
 bnd (aG 6 (env 2) v19 h19) fun _ h20 =>
 bnd (aK 6 (env 2) h20) fun v21 _ =>
 some (v21, h20)) (
 bnd (r 133 [(env 0), (aE 10), (.s [40])] h18) fun v22 h22 =>
 aT v22 (
 bnd (r 208 [(env 0), (.f 210 [(env 0)] [])] h22) fun v23 h23 =>
 bnd (aG 6 (env 2) v23 h23) fun _ h24 =>
 bnd (aK 6 (env 2) h24) fun v25 _ =>
 some (v25, h24)) (
 bnd (r 133 [(env 0), (aE 10), (.s [91])] h22) fun v26 h26 =>
 aT v26 (
 bnd (r 208 [(env 0), (.f 211 [(env 0)] [])] h26) fun v27 h27 =>
 bnd (aG 6 (env 2) v27 h27) fun _ h28 =>
 bnd (aK 6 (env 2) h28) fun v29 _ =>
 some (v29, h28)) (
 bnd (aK 4 v2 h26) fun v30 h30 =>
 bnd (r 136 [(env 0), v30, (aE 13)] h30) fun v31 h31 =>
       oP r n (env 2) h31)))))) = (K2 (rX r n) 0 2) := by kernel_rfl
theorem cQy : D182 r n aCr x0 r182 = (K2 (rX r n) 0 2) :=
 (bJu r n).trans
 ((bIg r n (oP r n)).trans (bDv r n))
theorem bQo : D182 r n aIi x0 r182 = D182 r n aSf x0 (K2 (rX r n) 0 2) :=
 congrArg (fun k => D182 r n aSf x0 k) (cQy r n)
theorem bSx (q0 : pB) : D182 r n aSf x0 (K2 q0 0 2) = fun (env : aV) (h : Hp) =>
 bnd (r 207 [(env 0)] h) fun v1 h1 =>
 bnd (aC 0 v1 h1) fun v2 h2 =>
 bnd (aC 1 v1 h2) fun v3 h3 =>
 bnd (bN kM h3) fun v4 h4 =>
 bnd (aG 6 v4 v2 h4) fun _ h5 =>
 aT v3 (
 bnd (aK 6 v4 h5) fun v6 h6 =>
 bnd (aG 6 (env 2) v6 h6) fun _ h7 =>
 bnd (aK 6 (env 2) h7) fun v8 _ =>
 some (v8, h7)) (
   q0 (env 0) (env 2) h5) := by kernel_rfl
theorem bGf : (fun (env : aV) (h : Hp) =>
 bnd (r 207 [(env 0)] h) fun v1 h1 =>
 bnd (aC 0 v1 h1) fun v2 h2 =>
 bnd (aC 1 v1 h2) fun v3 h3 =>
 bnd (bN kM h3) fun v4 h4 =>
 bnd (aG 6 v4 v2 h4) fun _ h5 =>
 aT v3 (
 bnd (aK 6 v4 h5) fun v6 h6 =>
 bnd (aG 6 (env 2) v6 h6) fun _ h7 =>
 bnd (aK 6 (env 2) h7) fun v8 _ =>
 some (v8, h7)) (
   rX r n (env 0) (env 2) h5)) = (K2 (qU r n) 0 2) := by kernel_rfl
theorem cPv : D182 r n aIi x0 r182 = (K2 (qU r n) 0 2) :=
 (bQo r n).trans
 ((bSx r n (rX r n)).trans (bGf r n))
theorem dEu : D182 r n c182 x0 r182 = D182 r n aQl x0 (K2 (qU r n) 0 2) :=
 congrArg (fun k => D182 r n aQl x0 k) (cPv r n)
theorem cYf (q0 : pB) : D182 r n aQl x0 (K2 q0 0 2) = fun (env : aV) (h : Hp) =>
 bnd (bN kM h) fun v1 h1 =>
  q0 (env 0) v1 h1 := by kernel_rfl
theorem cBy : (fun (env : aV) (h : Hp) =>
 bnd (bN kM h) fun v1 h1 =>
  qU r n (env 0) v1 h1) = (K1 (s182 r n) 0) := by kernel_rfl
theorem dNa : D182 r n c182 x0 r182 = (K1 (s182 r n) 0) :=
 (dEu r n).trans
 ((cYf r n (qU r n)).trans (cBy r n))
theorem dDd : aF CF r n 182 args h = s182 r n (aU args 0) h :=
 (by kernel_rfl : aF CF r n 182 args h = D182 r n c182 x0 r182 (aI args) h).trans ((congrFun (congrFun (dNa r n) (aI args)) h).trans (by kernel_rfl))
noncomputable def eO (r : RT) (n : Nat) (h0 : Hp) : aH :=
 some ((.i .i64 (Int.negSucc 0)), h0)
noncomputable def aWa (r : RT) (n : Nat) (kk4 : dN) (x0 x1 x7 x8 : DV) (h0 : Hp) : aH :=
 bnd (aD .lss x8 x7 h0) fun v1 h1 =>
 aT v1 (
 bnd (aJ 4 x0 x8 h1) fun v2 h2 =>
 bnd (aK 4 v2 h2) fun v3 h3 =>
 bnd (cX CF r x1 [v3] h3) fun v4 h4 =>
 aT v4 (
 some (x8, h4)) (
 bnd (aD .add x8 (aE 1) h4) fun v5 h5 =>
    kk4 x0 x1 x7 v5 h5)) (
      eO r n h1)
noncomputable def uB (r : RT) (n : Nat) (m : Nat) : dN :=
 Nat.rec (motive := fun _ => dN) (fun _ _ _ _ _ => none) (fun _ ih => aWa r n ih) m
noncomputable def bNp (r : RT) (n : Nat) : dN := uB r n n
noncomputable def aSl (r : RT) (n : Nat) (x0 x1 x7 x8 : DV) (h0 : Hp) : aH :=
 bNp r n x0 x1 x7 x8 h0
noncomputable def aTf (r : RT) (n : Nat) (x0 x1 : DV) (h0 : Hp) : aH :=
 bnd (cA x0 h0) fun v1 h1 =>
  aSl r n x0 x1 v1 (aE 0) h1
noncomputable def s185 (r : RT) (n : Nat) (x0 x1 : DV) (h0 : Hp) : aH :=
 aTf r n x0 x1 h0
noncomputable abbrev c185 : Code := cf Tryz.f185
noncomputable abbrev aEl : Code := cR c185
noncomputable abbrev cZe : Code := cR aEl
noncomputable abbrev xC : Code := cL aEl
noncomputable abbrev aRo : Code := cR xC
noncomputable abbrev aIj : Code := cL aRo
noncomputable abbrev nZ : Code := cL aIj
noncomputable abbrev bYu : Code := cL xC
noncomputable abbrev bQv : Code := cL c185
noncomputable abbrev r185 : K := aR CF Tryz.f185
noncomputable def D185 (r : RT) (n : Nat) (c : Code) (X : Nat → K) (k : K) : K := aM CF r 19 n c X r185 k
theorem cPm : D185 r n cZe x0 r185 = (K0 (eO r n)) :=
 (by kernel_rfl)
theorem bLp (kk4 : dN) : D185 r n nZ (xs x0 0 (K0 (eO r n))) (K4 kk4 0 1 7 8) = (K4 (aWa r n kk4) 0 1 7 8) :=
 (by kernel_rfl)
theorem bJl (m : Nat) : aO (fun kk => D185 r n nZ (xs x0 0 (K0 (eO r n))) kk) m = (K4 (uB r n m) 0 1 7 8) := by
 induction m with
 | zero => exact (by kernel_rfl : aO (fun kk => D185 r n nZ (xs x0 0 (K0 (eO r n))) kk) 0 = (K4 (uB r n 0) 0 1 7 8))
 | succ m ih =>
  refine (by kernel_rfl : aO (fun kk => D185 r n nZ (xs x0 0 (K0 (eO r n))) kk) (m + 1) = D185 r n nZ (xs x0 0 (K0 (eO r n))) (aO (fun kk => D185 r n nZ (xs x0 0 (K0 (eO r n))) kk) m)).trans ?_
  rw [ih]
  exact (bLp r n (uB r n m)).trans (by kernel_rfl)
theorem cDu : D185 r n aIj (xs x0 0 (K0 (eO r n))) (K0 (eO r n)) = (K4 (bNp r n) 0 1 7 8) :=
 (by kernel_rfl : D185 r n aIj (xs x0 0 (K0 (eO r n))) (K0 (eO r n)) = aO (fun kk => D185 r n nZ (xs x0 0 (K0 (eO r n))) kk) n).trans ((bJl r n n).trans (by kernel_rfl))
theorem cIr : D185 r n aRo x0 (K0 (eO r n)) = (K4 (aSl r n) 0 1 7 8) :=
 (by kernel_rfl : D185 r n aRo x0 (K0 (eO r n)) = D185 r n aIj (xs x0 0 (K0 (eO r n))) (K0 (eO r n))).trans
 ((cDu r n).trans (by kernel_rfl))
theorem bKl : D185 r n aEl x0 r185 = D185 r n xC x0 (K0 (eO r n)) :=
 congrArg (fun k => D185 r n xC x0 k) (cPm r n)
theorem bXb : D185 r n xC x0 (K0 (eO r n)) = D185 r n bYu x0 (K4 (aSl r n) 0 1 7 8) :=
 congrArg (fun k => D185 r n bYu x0 k) (cIr r n)
theorem cNm : D185 r n aEl x0 r185 = (K2 (aTf r n) 0 1) :=
 (bKl r n).trans
 ((bXb r n).trans
 ((by kernel_rfl)))
theorem cVm : D185 r n c185 x0 r185 = D185 r n bQv x0 (K2 (aTf r n) 0 1) :=
 congrArg (fun k => D185 r n bQv x0 k) (cNm r n)
theorem dJy : D185 r n c185 x0 r185 = (K2 (s185 r n) 0 1) :=
 (cVm r n).trans
 ((by kernel_rfl))
theorem cWv : aF CF r n 185 args h = s185 r n (aU args 0) (aU args 1) h :=
 (by kernel_rfl : aF CF r n 185 args h = D185 r n c185 x0 r185 (aI args) h).trans ((congrFun (congrFun (dJy r n) (aI args)) h).trans (by kernel_rfl))
noncomputable def s186 (r : RT) (n : Nat) (x0 x1 : DV) (h0 : Hp) : aH :=
 bnd (bO x0 h0) fun v1 h1 =>
 bnd (aB 0 v1 h1) fun v2 h2 =>
 bnd (aA v2 h2) fun v3 h3 =>
 bnd (aA x1 h3) fun v4 h4 =>
 bnd (fN .eql v3 v4 h4) fun v5 h5 =>
 some (v5, h5)
noncomputable abbrev c186 : Code := cf Tryz.f186
noncomputable abbrev r186 : K := aR CF Tryz.f186
noncomputable def D186 (r : RT) (n : Nat) (c : Code) (X : Nat → K) (k : K) : K := aM CF r 8 n c X r186 k
theorem dKw : D186 r n c186 x0 r186 = (K2 (s186 r n) 0 1) :=
 (by kernel_rfl)
theorem cYr : aF CF r n 186 args h = s186 r n (aU args 0) (aU args 1) h :=
 (by kernel_rfl : aF CF r n 186 args h = D186 r n c186 x0 r186 (aI args) h).trans ((congrFun (congrFun (dKw r n) (aI args)) h).trans (by kernel_rfl))
noncomputable def eN (r : RT) (n : Nat) (h0 : Hp) : aH :=
 some ((.i .i64 (Int.negSucc 0)), h0)
noncomputable def bBc (r : RT) (n : Nat) (kk4 : dN) (x0 x1 x7 x8 : DV) (h0 : Hp) : aH :=
 bnd (aD .lss x8 x7 h0) fun v1 h1 =>
 aT v1 (
 bnd (aJ 4 x0 x8 h1) fun v2 h2 =>
 bnd (aK 4 v2 h2) fun v3 h3 =>
 bnd (cX CF r x1 [v3] h3) fun v4 h4 =>
 aT v4 (
 some (x8, h4)) (
 bnd (aD .add x8 (aE 1) h4) fun v5 h5 =>
    kk4 x0 x1 x7 v5 h5)) (
      eN r n h1)
noncomputable def uW (r : RT) (n : Nat) (m : Nat) : dN :=
 Nat.rec (motive := fun _ => dN) (fun _ _ _ _ _ => none) (fun _ ih => bBc r n ih) m
noncomputable def bQj (r : RT) (n : Nat) : dN := uW r n n
noncomputable def aRd (r : RT) (n : Nat) (x0 x1 x7 x8 : DV) (h0 : Hp) : aH :=
 bQj r n x0 x1 x7 x8 h0
noncomputable def aOb (r : RT) (n : Nat) (x0 x1 : DV) (h0 : Hp) : aH :=
 bnd (cA x0 h0) fun v1 h1 =>
  aRd r n x0 x1 v1 (aE 0) h1
noncomputable def s187 (r : RT) (n : Nat) (x0 x1 : DV) (h0 : Hp) : aH :=
 aOb r n x0 x1 h0
noncomputable abbrev c187 : Code := cf Tryz.f187
noncomputable abbrev aHz : Code := cR c187
noncomputable abbrev dBe : Code := cR aHz
noncomputable abbrev wA : Code := cL aHz
noncomputable abbrev aTk : Code := cR wA
noncomputable abbrev aBt : Code := cL aTk
noncomputable abbrev nU : Code := cL aBt
noncomputable abbrev bZa : Code := cL wA
noncomputable abbrev bMx : Code := cL c187
noncomputable abbrev r187 : K := aR CF Tryz.f187
noncomputable def D187 (r : RT) (n : Nat) (c : Code) (X : Nat → K) (k : K) : K := aM CF r 19 n c X r187 k
theorem cBv : D187 r n dBe x0 r187 = (K0 (eN r n)) :=
 (by kernel_rfl)
theorem bTu (kk4 : dN) : D187 r n nU (xs x0 0 (K0 (eN r n))) (K4 kk4 0 1 7 8) = (K4 (bBc r n kk4) 0 1 7 8) :=
 (by kernel_rfl)
theorem bYs (m : Nat) : aO (fun kk => D187 r n nU (xs x0 0 (K0 (eN r n))) kk) m = (K4 (uW r n m) 0 1 7 8) := by
 induction m with
 | zero => exact (by kernel_rfl : aO (fun kk => D187 r n nU (xs x0 0 (K0 (eN r n))) kk) 0 = (K4 (uW r n 0) 0 1 7 8))
 | succ m ih =>
  refine (by kernel_rfl : aO (fun kk => D187 r n nU (xs x0 0 (K0 (eN r n))) kk) (m + 1) = D187 r n nU (xs x0 0 (K0 (eN r n))) (aO (fun kk => D187 r n nU (xs x0 0 (K0 (eN r n))) kk) m)).trans ?_
  rw [ih]
  exact (bTu r n (uW r n m)).trans (by kernel_rfl)
theorem cDx : D187 r n aBt (xs x0 0 (K0 (eN r n))) (K0 (eN r n)) = (K4 (bQj r n) 0 1 7 8) :=
 (by kernel_rfl : D187 r n aBt (xs x0 0 (K0 (eN r n))) (K0 (eN r n)) = aO (fun kk => D187 r n nU (xs x0 0 (K0 (eN r n))) kk) n).trans ((bYs r n n).trans (by kernel_rfl))
theorem cBr : D187 r n aTk x0 (K0 (eN r n)) = (K4 (aRd r n) 0 1 7 8) :=
 (by kernel_rfl : D187 r n aTk x0 (K0 (eN r n)) = D187 r n aBt (xs x0 0 (K0 (eN r n))) (K0 (eN r n))).trans
 ((cDx r n).trans (by kernel_rfl))
theorem bLb : D187 r n aHz x0 r187 = D187 r n wA x0 (K0 (eN r n)) :=
 congrArg (fun k => D187 r n wA x0 k) (cBv r n)
theorem bSm : D187 r n wA x0 (K0 (eN r n)) = D187 r n bZa x0 (K4 (aRd r n) 0 1 7 8) :=
 congrArg (fun k => D187 r n bZa x0 k) (cBr r n)
theorem cGu : D187 r n aHz x0 r187 = (K2 (aOb r n) 0 1) :=
 (bLb r n).trans
 ((bSm r n).trans
 ((by kernel_rfl)))
theorem cVg : D187 r n c187 x0 r187 = D187 r n bMx x0 (K2 (aOb r n) 0 1) :=
 congrArg (fun k => D187 r n bMx x0 k) (cGu r n)
theorem dKs : D187 r n c187 x0 r187 = (K2 (s187 r n) 0 1) :=
 (cVg r n).trans
 ((by kernel_rfl))
theorem cWh : aF CF r n 187 args h = s187 r n (aU args 0) (aU args 1) h :=
 (by kernel_rfl : aF CF r n 187 args h = D187 r n c187 x0 r187 (aI args) h).trans ((congrFun (congrFun (dKs r n) (aI args)) h).trans (by kernel_rfl))
noncomputable def s188 (r : RT) (n : Nat) (x0 x1 : DV) (h0 : Hp) : aH :=
 bnd (bO x0 h0) fun v1 h1 =>
 bnd (aK 4 v1 h1) fun v2 h2 =>
 bnd (aK 4 x1 h2) fun v3 h3 =>
 bnd (r 189 [v2, v3] h3) fun v4 h4 =>
 some (v4, h4)
noncomputable abbrev c188 : Code := cf Tryz.f188
noncomputable abbrev r188 : K := aR CF Tryz.f188
noncomputable def D188 (r : RT) (n : Nat) (c : Code) (X : Nat → K) (k : K) : K := aM CF r 7 n c X r188 k
theorem dJa : D188 r n c188 x0 r188 = (K2 (s188 r n) 0 1) :=
 (by kernel_rfl)
theorem dBo : aF CF r n 188 args h = s188 r n (aU args 0) (aU args 1) h :=
 (by kernel_rfl : aF CF r n 188 args h = D188 r n c188 x0 r188 (aI args) h).trans ((congrFun (congrFun (dJa r n) (aI args)) h).trans (by kernel_rfl))
noncomputable def s189 (r : RT) (n : Nat) (x0 x1 : DV) (h0 : Hp) : aH :=
 bnd (bO x0 h0) fun v1 h1 =>
 bnd (bO x1 h1) fun v2 h2 =>
 bnd (aB 0 v1 h2) fun v3 h3 =>
 bnd (aA v3 h3) fun v4 h4 =>
 bnd (aB 0 v2 h4) fun v5 h5 =>
 bnd (aA v5 h5) fun v6 h6 =>
 bnd (aD .eql v4 v6 h6) fun v7 h7 =>
 bnd (gD v7 true (aB 1 v1 h7) h7) fun v8 h8 =>
 bnd (gD v7 true (aA v8 h8) h8) fun v9 h9 =>
 bnd (gD v7 true (aB 1 v2 h9) h9) fun v10 h10 =>
 bnd (gD v7 true (aA v10 h10) h10) fun v11 h11 =>
 bnd (gD v7 true (fN .eql v9 v11 h11) h11) fun v12 h12 =>
 bnd (aP v7 v12 (.b false) h12) fun v13 h13 =>
 bnd (gD v13 true (aB 2 v1 h13) h13) fun v14 h14 =>
 bnd (gD v13 true (aA v14 h14) h14) fun v15 h15 =>
 bnd (gD v13 true (aB 2 v2 h15) h15) fun v16 h16 =>
 bnd (gD v13 true (aA v16 h16) h16) fun v17 h17 =>
 bnd (gD v13 true (aD .eql v15 v17 h17) h17) fun v18 h18 =>
 bnd (aP v13 v18 (.b false) h18) fun v19 h19 =>
 bnd (gD v19 true (aB 3 v1 h19) h19) fun v20 h20 =>
 bnd (gD v19 true (aA v20 h20) h20) fun v21 h21 =>
 bnd (gD v19 true (aB 3 v2 h21) h21) fun v22 h22 =>
 bnd (gD v19 true (aA v22 h22) h22) fun v23 h23 =>
 bnd (gD v19 true (r 213 [v21, v23, (.f 189 [] [])] h23) h23) fun v24 h24 =>
 bnd (aP v19 v24 (.b false) h24) fun v25 h25 =>
 some (v25, h25)
noncomputable abbrev c189 : Code := cf Tryz.f189
noncomputable abbrev r189 : K := aR CF Tryz.f189
noncomputable def D189 (r : RT) (n : Nat) (c : Code) (X : Nat → K) (k : K) : K := aM CF r 31 n c X r189 k
theorem dJw : D189 r n c189 x0 r189 = (K2 (s189 r n) 0 1) :=
 (by kernel_rfl)
theorem dCb : aF CF r n 189 args h = s189 r n (aU args 0) (aU args 1) h :=
 (by kernel_rfl : aF CF r n 189 args h = D189 r n c189 x0 r189 (aI args) h).trans ((congrFun (congrFun (dJw r n) (aI args)) h).trans (by kernel_rfl))
noncomputable def s191 (r : RT) (n : Nat) (x0 x1 : DV) (h0 : Hp) : aH :=
 bnd (bB [(aE 0), (.s []), (aE 0), .l0] [(0, 1, (aE 3)), (1, 1, x1)] h0) fun v1 h1 =>
 bnd (lN [x0, v1] h1) fun v2 h2 =>
 some (v2, h2)
noncomputable abbrev c191 : Code := cf Tryz.f191
noncomputable abbrev r191 : K := aR CF Tryz.f191
noncomputable def D191 (r : RT) (n : Nat) (c : Code) (X : Nat → K) (k : K) : K := aM CF r 9 n c X r191 k
theorem dMu : D191 r n c191 x0 r191 = (K2 (s191 r n) 0 1) :=
 (by kernel_rfl)
theorem dAu : aF CF r n 191 args h = s191 r n (aU args 0) (aU args 1) h :=
 (by kernel_rfl : aF CF r n 191 args h = D191 r n c191 x0 r191 (aI args) h).trans ((congrFun (congrFun (dMu r n) (aI args)) h).trans (by kernel_rfl))
noncomputable def mB (r : RT) (n : Nat) (x2 x3 x5 x6 x9 : DV) (h0 : Hp) : aH :=
 bnd (aB 5 x3 h0) fun v1 h1 =>
 bnd (aA v1 h1) fun v2 h2 =>
 bnd (cA v2 h2) fun v3 h3 =>
 bnd (aD .neq v3 x9 h3) fun v4 h4 =>
 bnd (gD v4 false (aB 5 x3 h4) h4) fun v5 h5 =>
 bnd (gD v4 false (aA v5 h5) h5) fun v6 h6 =>
 bnd (gD v4 false (cT 6 v6 (some (aE 1)) none h6) h6) fun v7 h7 =>
 bnd (gD v4 false (r 220 [v7, (.f 221 [] [])] h7) h7) fun v8 h8 =>
 bnd (aP v4 (.b true) v8 h8) fun v9 h9 =>
 aT v9 (
 some ((.b false), h9)) (
 bnd (aA x2 h9) fun v10 h10 =>
 bnd (aB 5 x3 h10) fun v11 h11 =>
 bnd (aA v11 h11) fun v12 h12 =>
 bnd (aJ 6 v12 (aE 0) h12) fun v13 h13 =>
 bnd (aK 6 v13 h13) fun v14 h14 =>
 bnd (r 140 [v10, v14] h14) fun v15 h15 =>
 bnd (aA x2 h15) fun v16 h16 =>
 bnd (r 165 [v16, (aE 17)] h16) fun v17 h17 =>
 bnd (cX CF r x5 [] h17) fun v18 h18 =>
 bnd (aA x2 h18) fun v19 h19 =>
 bnd (r 165 [v19, (aE 16)] h19) fun v20 h20 =>
 bnd (cX CF r v17 [] h20) fun v21 h21 =>
 bnd (cX CF r x6 [] h21) fun v22 h22 =>
 bnd (cX CF r v20 [] h22) fun v23 h23 =>
 some ((.b true), h23))
noncomputable def aPd (r : RT) (n : Nat) (x2 x3 x7 x8 x9 : DV) (h0 : Hp) : aH :=
 bnd (aB 1 x3 h0) fun v1 h1 =>
 bnd (aA v1 h1) fun v2 h2 =>
 bnd (fN .eql v2 (.s [105, 102, 84, 114, 117, 101, 58]) h2) fun v3 h3 =>
 aT v3 (
 bnd (cX CF r x7 [(aE 1)] h3) fun v4 h4 =>
 bnd (cX CF r x8 [(aE 2)] h4) fun v5 h5 =>
  mB r n x2 x3 v4 v5 x9 h5) (
 bnd (fN .eql v2 (.s [105, 102, 70, 97, 108, 115, 101, 58]) h3) fun v6 h6 =>
 aT v6 (
 bnd (cX CF r x8 [(aE 2)] h6) fun v7 h7 =>
 bnd (cX CF r x7 [(aE 1)] h7) fun v8 h8 =>
      mB r n x2 x3 v7 v8 x9 h8) (
 bnd (fN .eql v2 (.s [97, 110, 100, 58]) h6) fun v9 h9 =>
 aT v9 (
 bnd (cX CF r x7 [(aE 1)] h9) fun v10 h10 =>
 bnd (cX CF r x8 [(aE 4)] h10) fun v11 h11 =>
    mB r n x2 x3 v10 v11 x9 h11) (
 bnd (fN .eql v2 (.s [111, 114, 58]) h9) fun v12 h12 =>
 aT v12 (
 bnd (cX CF r x8 [(aE 3)] h12) fun v13 h13 =>
 bnd (cX CF r x7 [(aE 1)] h13) fun v14 h14 =>
     mB r n x2 x3 v13 v14 x9 h14) (
 bnd (fN .eql v2 (.s [105, 102, 84, 114, 117, 101, 58, 105, 102, 70, 97, 108, 115, 101, 58]) h12) fun v15 h15 =>
 aT v15 (
 bnd (cX CF r x7 [(aE 1)] h15) fun v16 h16 =>
 bnd (cX CF r x7 [(aE 2)] h16) fun v17 h17 =>
      mB r n x2 x3 v16 v17 (aE 3) h17) (
 bnd (fN .eql v2 (.s [105, 102, 70, 97, 108, 115, 101, 58, 105, 102, 84, 114, 117, 101, 58]) h15) fun v18 h18 =>
 aT v18 (
 bnd (cX CF r x7 [(aE 2)] h18) fun v19 h19 =>
 bnd (cX CF r x7 [(aE 1)] h19) fun v20 h20 =>
       mB r n x2 x3 v19 v20 (aE 3) h20) (
 some ((.b false), h18)))))))
noncomputable def aOf (r : RT) (n : Nat) (x2 x3 x7 x8 : DV) (h0 : Hp) : aH :=
 aPd r n x2 x3 x7 x8 (aE 2) h0
noncomputable def aRf (r : RT) (n : Nat) (x2 x3 x7 : DV) (h0 : Hp) : aH :=
 aOf r n x2 x3 x7 (.f 218 [] [x2]) h0
noncomputable def aQq (r : RT) (n : Nat) (x2 x3 : DV) (h0 : Hp) : aH :=
 aRf r n x2 x3 (.f 216 [] [x2, x3]) h0
noncomputable def yW (r : RT) (n : Nat) (x2 x3 : DV) (h0 : Hp) : aH :=
 aQq r n x2 x3 h0
noncomputable def s192 (r : RT) (n : Nat) (x0 x1 : DV) (h0 : Hp) : aH :=
 bnd (bO x0 h0) fun v1 h1 =>
 bnd (bO x1 h1) fun v2 h2 =>
  yW r n v1 v2 h2
noncomputable abbrev c192 : Code := cf Tryz.f192
noncomputable abbrev aCn : Code := cR c192
noncomputable abbrev aDp : Code := cR aCn
noncomputable abbrev aJf : Code := cR aDp
noncomputable abbrev aBm : Code := cR aJf
noncomputable abbrev aIm : Code := cR aBm
noncomputable abbrev dDm : Code := cR aIm
noncomputable abbrev bXc : Code := cL aIm
noncomputable abbrev bZo : Code := cL aBm
noncomputable abbrev bUk : Code := cL aJf
noncomputable abbrev aVk : Code := cL aDp
noncomputable abbrev bBq : Code := cL aCn
noncomputable abbrev aJe : Code := cL c192
noncomputable abbrev r192 : K := aR CF Tryz.f192
noncomputable def D192 (r : RT) (n : Nat) (c : Code) (X : Nat → K) (k : K) : K := aM CF r 81 n c X r192 k
theorem cMw : D192 r n dDm x0 r192 = (K5 (mB r n) 2 3 5 6 9) :=
 (by kernel_rfl)
theorem bRj : D192 r n aIm x0 r192 = D192 r n bXc x0 (K5 (mB r n) 2 3 5 6 9) :=
 congrArg (fun k => D192 r n bXc x0 k) (cMw r n)
theorem cEw : D192 r n aIm x0 r192 = (K5 (aPd r n) 2 3 7 8 9) :=
 (bRj r n).trans
 ((by kernel_rfl))
theorem bKk : D192 r n aBm x0 r192 = D192 r n bZo x0 (K5 (aPd r n) 2 3 7 8 9) :=
 congrArg (fun k => D192 r n bZo x0 k) (cEw r n)
theorem cEy : D192 r n aBm x0 r192 = (K4 (aOf r n) 2 3 7 8) :=
 (bKk r n).trans
 ((by kernel_rfl))
theorem cAl : D192 r n aJf x0 r192 = D192 r n bUk x0 (K4 (aOf r n) 2 3 7 8) :=
 congrArg (fun k => D192 r n bUk x0 k) (cEy r n)
theorem cJa : D192 r n aJf x0 r192 = (K3 (aRf r n) 2 3 7) :=
 (cAl r n).trans
 ((by kernel_rfl))
theorem bYl : D192 r n aDp x0 r192 = D192 r n aVk x0 (K3 (aRf r n) 2 3 7) :=
 congrArg (fun k => D192 r n aVk x0 k) (cJa r n)
theorem cIi : D192 r n aDp x0 r192 = (K2 (aQq r n) 2 3) :=
 (bYl r n).trans
 ((by kernel_rfl))
theorem bXr : D192 r n aCn x0 r192 = D192 r n bBq x0 (K2 (aQq r n) 2 3) :=
 congrArg (fun k => D192 r n bBq x0 k) (cIi r n)
theorem cLp : D192 r n aCn x0 r192 = (K2 (yW r n) 2 3) :=
 (bXr r n).trans
 ((by kernel_rfl))
theorem cWo : D192 r n c192 x0 r192 = D192 r n aJe x0 (K2 (yW r n) 2 3) :=
 congrArg (fun k => D192 r n aJe x0 k) (cLp r n)
theorem cXq (q0 : pB) : D192 r n aJe x0 (K2 q0 2 3) = fun (env : aV) (h : Hp) =>
 bnd (bO (env 0) h) fun v1 h1 =>
 bnd (bO (env 1) h1) fun v2 h2 =>
  q0 v1 v2 h2 := by kernel_rfl
theorem cFp : (fun (env : aV) (h : Hp) =>
 bnd (bO (env 0) h) fun v1 h1 =>
 bnd (bO (env 1) h1) fun v2 h2 =>
  yW r n v1 v2 h2) = (K2 (s192 r n) 0 1) := by kernel_rfl
theorem dJu : D192 r n c192 x0 r192 = (K2 (s192 r n) 0 1) :=
 (cWo r n).trans
 ((cXq r n (yW r n)).trans (cFp r n))
theorem dDh : aF CF r n 192 args h = s192 r n (aU args 0) (aU args 1) h :=
 (by kernel_rfl : aF CF r n 192 args h = D192 r n c192 x0 r192 (aI args) h).trans ((congrFun (congrFun (dJu r n) (aI args)) h).trans (by kernel_rfl))
noncomputable def s195 (r : RT) (n : Nat) (x0 x1 : DV) (h0 : Hp) : aH :=
 bnd (bO x1 h0) fun v1 h1 =>
 bnd (aK 6 v1 h1) fun v2 h2 =>
 bnd (r 223 [v2] h2) fun v3 h3 =>
 aT v3 (
 bnd (r 141 [x0, (aE 1), (aE 0), (aE 0)] h3) fun v4 h4 =>
 some ((aE 15), h4)) (
 bnd (aK 6 v1 h3) fun v5 h5 =>
 bnd (r 140 [x0, v5] h5) fun v6 h6 =>
 some ((aE 14), h6))
noncomputable abbrev c195 : Code := cf Tryz.f195
noncomputable abbrev r195 : K := aR CF Tryz.f195
noncomputable def D195 (r : RT) (n : Nat) (c : Code) (X : Nat → K) (k : K) : K := aM CF r 12 n c X r195 k
theorem dMc : D195 r n c195 x0 r195 = (K2 (s195 r n) 0 1) :=
 (by kernel_rfl)
theorem cXh : aF CF r n 195 args h = s195 r n (aU args 0) (aU args 1) h :=
 (by kernel_rfl : aF CF r n 195 args h = D195 r n c195 x0 r195 (aI args) h).trans ((congrFun (congrFun (dMc r n) (aI args)) h).trans (by kernel_rfl))
noncomputable def s196 (r : RT) (n : Nat) (x0 : DV) (h0 : Hp) : aH :=
 bnd (aN x0 h0) fun v1 h1 =>
 bnd (aB 0 v1 h1) fun v2 h2 =>
 bnd (aB 5 v2 h2) fun v3 h3 =>
 bnd (aA v3 h3) fun v4 h4 =>
 bnd (cA v4 h4) fun v5 h5 =>
 some (v5, h5)
noncomputable abbrev c196 : Code := cf Tryz.f196
noncomputable abbrev r196 : K := aR CF Tryz.f196
noncomputable def D196 (r : RT) (n : Nat) (c : Code) (X : Nat → K) (k : K) : K := aM CF r 9 n c X r196 k
theorem dKx : D196 r n c196 x0 r196 = (K1 (s196 r n) 0) :=
 (by kernel_rfl)
theorem dEh : aF CF r n 196 args h = s196 r n (aU args 0) h :=
 (by kernel_rfl : aF CF r n 196 args h = D196 r n c196 x0 r196 (aI args) h).trans ((congrFun (congrFun (dKx r n) (aI args)) h).trans (by kernel_rfl))
noncomputable def dF (r : RT) (n : Nat) (x4 : DV) (h0 : Hp) : aH :=
 some (x4, h0)
noncomputable def aGn (r : RT) (n : Nat) (kk5 : dN) (x0 x1 x4 x5 : DV) (h0 : Hp) : aH :=
 bnd (aD .add x5 (aE 1) h0) fun v1 h1 =>
  kk5 x0 x1 x4 v1 h1
noncomputable def aPg (r : RT) (n : Nat) (kk5 : dN) (x0 x1 x4 x5 : DV) (h0 : Hp) : aH :=
 bnd (aA x1 h0) fun v1 h1 =>
 bnd (r 201 [v1, x5] h1) fun v2 h2 =>
 bnd (aC 0 v2 h2) fun v3 h3 =>
 bnd (aC 1 v2 h3) fun v4 h4 =>
 bnd (gD v4 true (some (x0, h4)) h4) fun v5 h5 =>
 bnd (gD v4 true (some (v3, h5)) h5) fun v6 h6 =>
 bnd (gD v4 true (aD .lss v5 v6 h6) h6) fun v7 h7 =>
 bnd (aP v4 v7 (.b false) h7) fun v8 h8 =>
 aT v8 (
  aGn r n kk5 x0 x1 x5 x5 h8) (
  aGn r n kk5 x0 x1 x4 x5 h8)
noncomputable def aVo (r : RT) (n : Nat) (kk5 : dN) (x0 x1 x4 x5 : DV) (h0 : Hp) : aH :=
 bnd (aD .add x5 (aE 2) h0) fun v1 h1 =>
 bnd (aD .leq v1 x0 h1) fun v2 h2 =>
 aT v2 (
   aPg r n kk5 x0 x1 x4 x5 h2) (
   dF r n x4 h2)
noncomputable def tO (r : RT) (n : Nat) (m : Nat) : dN :=
 Nat.rec (motive := fun _ => dN) (fun _ _ _ _ _ => none) (fun _ ih => aVo r n ih) m
noncomputable def bOk (r : RT) (n : Nat) : dN := tO r n n
noncomputable def aOi (r : RT) (n : Nat) (x0 x1 x4 x5 : DV) (h0 : Hp) : aH :=
 bOk r n x0 x1 x4 x5 h0
noncomputable def aPk (r : RT) (n : Nat) (x0 x1 x4 : DV) (h0 : Hp) : aH :=
 aOi r n x0 x1 x4 (aE 0) h0
noncomputable def aPn (r : RT) (n : Nat) (x0 x1 : DV) (h0 : Hp) : aH :=
 aPk r n x0 x1 (.i .i64 (Int.negSucc 0)) h0
noncomputable def s200 (r : RT) (n : Nat) (x0 x1 : DV) (h0 : Hp) : aH :=
 aPn r n x0 x1 h0
noncomputable abbrev c200 : Code := cf Tryz.f200
noncomputable abbrev aGm : Code := cR c200
noncomputable abbrev aKg : Code := cR aGm
noncomputable abbrev dBa : Code := cR aKg
noncomputable abbrev yB : Code := cL aKg
noncomputable abbrev aUh : Code := cR yB
noncomputable abbrev aJl : Code := cL aUh
noncomputable abbrev kI : Code := cL aJl
noncomputable abbrev aCz : Code := cR kI
noncomputable abbrev dCi : Code := cR aCz
noncomputable abbrev bAv : Code := cL aCz
noncomputable abbrev aZu : Code := cL kI
noncomputable abbrev aWl : Code := cL yB
noncomputable abbrev aXp : Code := cL aGm
noncomputable abbrev aXk : Code := cL c200
noncomputable abbrev r200 : K := aR CF Tryz.f200
noncomputable def D200 (r : RT) (n : Nat) (c : Code) (X : Nat → K) (k : K) : K := aM CF r 28 n c X r200 k
theorem cCq : D200 r n dBa x0 r200 = (K1 (dF r n) 4) :=
 (by kernel_rfl)
theorem cOx (kk5 : dN) : D200 r n dCi (xs x0 0 (K1 (dF r n) 4)) (K4 kk5 0 1 4 5) = (K4 (aGn r n kk5) 0 1 4 5) :=
 (by kernel_rfl)
theorem bPe (kk5 : dN) : D200 r n aCz (xs x0 0 (K1 (dF r n) 4)) (K4 kk5 0 1 4 5) = D200 r n bAv (xs x0 0 (K1 (dF r n) 4)) (K4 (aGn r n kk5) 0 1 4 5) :=
 congrArg (fun k => D200 r n bAv (xs x0 0 (K1 (dF r n) 4)) k) (cOx r n kk5)
theorem cQa (kk5 : dN) : D200 r n aCz (xs x0 0 (K1 (dF r n) 4)) (K4 kk5 0 1 4 5) = (K4 (aPg r n kk5) 0 1 4 5) :=
 (bPe r n kk5).trans
 ((by kernel_rfl))
theorem bZd (kk5 : dN) : D200 r n kI (xs x0 0 (K1 (dF r n) 4)) (K4 kk5 0 1 4 5) = D200 r n aZu (xs x0 0 (K1 (dF r n) 4)) (K4 (aPg r n kk5) 0 1 4 5) :=
 congrArg (fun k => D200 r n aZu (xs x0 0 (K1 (dF r n) 4)) k) (cQa r n kk5)
theorem bLh (kk5 : dN) : D200 r n kI (xs x0 0 (K1 (dF r n) 4)) (K4 kk5 0 1 4 5) = (K4 (aVo r n kk5) 0 1 4 5) :=
 (bZd r n kk5).trans
 ((by kernel_rfl))
theorem bPg (m : Nat) : aO (fun kk => D200 r n kI (xs x0 0 (K1 (dF r n) 4)) kk) m = (K4 (tO r n m) 0 1 4 5) := by
 induction m with
 | zero => exact (by kernel_rfl : aO (fun kk => D200 r n kI (xs x0 0 (K1 (dF r n) 4)) kk) 0 = (K4 (tO r n 0) 0 1 4 5))
 | succ m ih =>
  refine (by kernel_rfl : aO (fun kk => D200 r n kI (xs x0 0 (K1 (dF r n) 4)) kk) (m + 1) = D200 r n kI (xs x0 0 (K1 (dF r n) 4)) (aO (fun kk => D200 r n kI (xs x0 0 (K1 (dF r n) 4)) kk) m)).trans ?_
  rw [ih]
  exact (bLh r n (tO r n m)).trans (by kernel_rfl)
theorem cLv : D200 r n aJl (xs x0 0 (K1 (dF r n) 4)) (K1 (dF r n) 4) = (K4 (bOk r n) 0 1 4 5) :=
 (by kernel_rfl : D200 r n aJl (xs x0 0 (K1 (dF r n) 4)) (K1 (dF r n) 4) = aO (fun kk => D200 r n kI (xs x0 0 (K1 (dF r n) 4)) kk) n).trans ((bPg r n n).trans (by kernel_rfl))
theorem cCa : D200 r n aUh x0 (K1 (dF r n) 4) = (K4 (aOi r n) 0 1 4 5) :=
 (by kernel_rfl : D200 r n aUh x0 (K1 (dF r n) 4) = D200 r n aJl (xs x0 0 (K1 (dF r n) 4)) (K1 (dF r n) 4)).trans
 ((cLv r n).trans (by kernel_rfl))
theorem bPk : D200 r n aKg x0 r200 = D200 r n yB x0 (K1 (dF r n) 4) :=
 congrArg (fun k => D200 r n yB x0 k) (cCq r n)
theorem bUt : D200 r n yB x0 (K1 (dF r n) 4) = D200 r n aWl x0 (K4 (aOi r n) 0 1 4 5) :=
 congrArg (fun k => D200 r n aWl x0 k) (cCa r n)
theorem cKw : D200 r n aKg x0 r200 = (K3 (aPk r n) 0 1 4) :=
 (bPk r n).trans
 ((bUt r n).trans
 ((by kernel_rfl)))
theorem bKq : D200 r n aGm x0 r200 = D200 r n aXp x0 (K3 (aPk r n) 0 1 4) :=
 congrArg (fun k => D200 r n aXp x0 k) (cKw r n)
theorem cEp : D200 r n aGm x0 r200 = (K2 (aPn r n) 0 1) :=
 (bKq r n).trans
 ((by kernel_rfl))
theorem cXv : D200 r n c200 x0 r200 = D200 r n aXk x0 (K2 (aPn r n) 0 1) :=
 congrArg (fun k => D200 r n aXk x0 k) (cEp r n)
theorem dLw : D200 r n c200 x0 r200 = (K2 (s200 r n) 0 1) :=
 (cXv r n).trans
 ((by kernel_rfl))
theorem cVq : aF CF r n 200 args h = s200 r n (aU args 0) (aU args 1) h :=
 (by kernel_rfl : aF CF r n 200 args h = D200 r n c200 x0 r200 (aI args) h).trans ((congrFun (congrFun (dLw r n) (aI args)) h).trans (by kernel_rfl))
noncomputable def s201 (r : RT) (n : Nat) (x0 x1 : DV) (h0 : Hp) : aH :=
 bnd (aJ 3 x0 x1 h0) fun v1 h1 =>
 bnd (aB 0 v1 h1) fun v2 h2 =>
 bnd (aA v2 h2) fun v3 h3 =>
 bnd (aD .neq v3 (aE 18) h3) fun v4 h4 =>
 bnd (gD v4 false (some (x1, h4)) h4) fun v5 h5 =>
 bnd (gD v4 false (aD .add v5 (aE 1) h5) h5) fun v6 h6 =>
 bnd (gD v4 false (some (x0, h6)) h6) fun v7 h7 =>
 bnd (gD v4 false (cA v7 h7) h7) fun v8 h8 =>
 bnd (gD v4 false (aD .geq v6 v8 h8) h8) fun v9 h9 =>
 bnd (aP v4 (.b true) v9 h9) fun v10 h10 =>
 bnd (gD v10 false (some (x0, h10)) h10) fun v11 h11 =>
 bnd (gD v10 false (some (x1, h11)) h11) fun v12 h12 =>
 bnd (gD v10 false (aD .add v12 (aE 1) h12) h12) fun v13 h13 =>
 bnd (gD v10 false (aJ 3 v11 v13 h13) h13) fun v14 h14 =>
 bnd (gD v10 false (aB 0 v14 h14) h14) fun v15 h15 =>
 bnd (gD v10 false (aA v15 h15) h15) fun v16 h16 =>
 bnd (gD v10 false (aD .neq v16 (aE 16) h16) h16) fun v17 h17 =>
 bnd (aP v10 (.b true) v17 h17) fun v18 h18 =>
 aT v18 (
 some (.t [(aE 0), (.b false)], h18)) (
 bnd (aD .add x1 (aE 1) h18) fun v19 h19 =>
 bnd (aJ 3 x0 v19 h19) fun v20 h20 =>
 bnd (aK 3 v20 h20) fun v21 h21 =>
 bnd (r 202 [v21] h21) fun v22 h22 =>
 bnd (aD .add x1 (aE 2) h22) fun v23 h23 =>
 bnd (aD .gtr v22 v23 h23) fun v24 h24 =>
 some (.t [v22, v24], h24))
noncomputable abbrev c201 : Code := cf Tryz.f201
noncomputable abbrev r201 : K := aR CF Tryz.f201
noncomputable def D201 (r : RT) (n : Nat) (c : Code) (X : Nat → K) (k : K) : K := aM CF r 40 n c X r201 k
theorem dFl : D201 r n c201 x0 r201 = (K2 (s201 r n) 0 1) :=
 (by kernel_rfl)
theorem dDb : aF CF r n 201 args h = s201 r n (aU args 0) (aU args 1) h :=
 (by kernel_rfl : aF CF r n 201 args h = D201 r n c201 x0 r201 (aI args) h).trans ((congrFun (congrFun (dFl r n) (aI args)) h).trans (by kernel_rfl))
noncomputable def s202 (r : RT) (n : Nat) (x0 : DV) (h0 : Hp) : aH :=
 bnd (bO x0 h0) fun v1 h1 =>
 bnd (aB 0 v1 h1) fun v2 h2 =>
 bnd (aA v2 h2) fun v3 h3 =>
 bnd (r 224 [v3] h3) fun v4 h4 =>
 bnd (gQ .not v4 h4) fun v5 h5 =>
 aT v5 (
 some ((.i .i64 (Int.negSucc 0)), h5)) (
 bnd (aB 1 v1 h5) fun v6 h6 =>
 bnd (aA v6 h6) fun v7 h7 =>
 bnd (aB 2 v1 h7) fun v8 h8 =>
 bnd (aA v8 h8) fun v9 h9 =>
 bnd (dR .shl v9 (.i .u64 (Int.ofNat 8)) h9) fun v10 h10 =>
 bnd (aD .add v7 v10 h10) fun v11 h11 =>
 some (v11, h11))
noncomputable abbrev c202 : Code := cf Tryz.f202
noncomputable abbrev r202 : K := aR CF Tryz.f202
noncomputable def D202 (r : RT) (n : Nat) (c : Code) (X : Nat → K) (k : K) : K := aM CF r 13 n c X r202 k
theorem dLx : D202 r n c202 x0 r202 = (K1 (s202 r n) 0) :=
 (by kernel_rfl)
theorem cZc : aF CF r n 202 args h = s202 r n (aU args 0) h :=
 (by kernel_rfl : aF CF r n 202 args h = D202 r n c202 x0 r202 (aI args) h).trans ((congrFun (congrFun (dLx r n) (aI args)) h).trans (by kernel_rfl))
noncomputable def s203 (r : RT) (n : Nat) (x0 x1 x2 x3 x4 x5 x6 x7 : DV) (h0 : Hp) : aH :=
 bnd (aA x3 h0) fun v1 h1 =>
 bnd (cA v1 h1) fun v2 h2 =>
 bnd (aD .geq x0 v2 h2) fun v3 h3 =>
 bnd (gD v3 false (aA x4 h3) h3) fun v4 h4 =>
 bnd (gD v3 false (some (x0, h4)) h4) fun v5 h5 =>
 bnd (gD v3 false (aJ 1 v4 v5 h5) h5) fun v6 h6 =>
 bnd (gD v3 false (aA v6 h6) h6) fun v7 h7 =>
 bnd (gD v3 false (some (x1, h7)) h7) fun v8 h8 =>
 bnd (gD v3 false (aD .neq v7 v8 h8) h8) fun v9 h9 =>
 bnd (aP v3 (.b true) v9 h9) fun v10 h10 =>
 bnd (gD v10 false (aA x5 h10) h10) fun v11 h11 =>
 bnd (gD v10 false (some (x0, h11)) h11) fun v12 h12 =>
 bnd (gD v10 false (aJ 1 v11 v12 h12) h12) fun v13 h13 =>
 bnd (gD v10 false (aA v13 h13) h13) fun v14 h14 =>
 bnd (gD v10 false (aD .geq v14 (aE 0) h14) h14) fun v15 h15 =>
 bnd (gD v10 false (some (v15, h15)) h15) fun v16 h16 =>
 bnd (gD v16 true (aA x5 h16) h16) fun v17 h17 =>
 bnd (gD v16 true (some (x0, h17)) h17) fun v18 h18 =>
 bnd (gD v16 true (aJ 1 v17 v18 h18) h18) fun v19 h19 =>
 bnd (gD v16 true (aA v19 h19) h19) fun v20 h20 =>
 bnd (gD v16 true (some (x2, h20)) h20) fun v21 h21 =>
 bnd (gD v16 true (aD .neq v20 v21 h21) h21) fun v22 h22 =>
 bnd (gD v10 false (aP v16 v22 (.b false) h22) h22) fun v23 h23 =>
 bnd (aP v10 (.b true) v23 h23) fun v24 h24 =>
 aT v24 (
 bnd (aG 1 x6 (.b false) h24) fun _ h25 =>
 some (.t [], h25)) (
 bnd (aA x5 h24) fun v26 h26 =>
 bnd (aJ 1 v26 x0 h26) fun v27 h27 =>
 bnd (aA v27 h27) fun v28 h28 =>
 bnd (aD .lss v28 (aE 0) h28) fun v29 h29 =>
 aT v29 (
 bnd (aA x5 h29) fun v30 h30 =>
 bnd (aJ 1 v30 x0 h30) fun v31 h31 =>
 bnd (aG 1 v31 x2 h31) fun _ h32 =>
 bnd (aA x7 h32) fun v33 h33 =>
 bnd (aL [(aE 0)] 1 [(0, 1, x0)] h33) fun v34 h34 =>
 bnd (bA 1 8 v33 v34 h34) fun v35 h35 =>
 bnd (aG 1 x7 v35 h35) fun _ h36 =>
 some (.t [], h36)) (
 some (.t [], h29)))
noncomputable abbrev c203 : Code := cf Tryz.f203
noncomputable abbrev r203 : K := aR CF Tryz.f203
noncomputable def D203 (r : RT) (n : Nat) (c : Code) (X : Nat → K) (k : K) : K := aM CF r 53 n c X r203 k
theorem dHq : D203 r n c203 x0 r203 = (K8 (s203 r n) 0 1 2 3 4 5 6 7) :=
 (by kernel_rfl)
theorem dAw : aF CF r n 203 args h = s203 r n (aU args 0) (aU args 1) (aU args 2) (aU args 3) (aU args 4) (aU args 5) (aU args 6) (aU args 7) h :=
 (by kernel_rfl : aF CF r n 203 args h = D203 r n c203 x0 r203 (aI args) h).trans ((congrFun (congrFun (dHq r n) (aI args)) h).trans (by kernel_rfl))
end Go.Dd

