/- A part of the proof: Q2 Q3 Q4 Q5 Q6: each text has a comment of its own. -/
import Derived.Test.YtdpdcbdfgfeoeaaGreatRm1
set_option linter.unusedVariables false
set_option linter.unusedSimpArgs false
set_option linter.constructorNameAsVariable false
set_option maxRecDepth 100000
namespace Go.Dd
open Go.Proofs
variable (r : RT) (n : Nat) (args : List DV) (h : Hp)
noncomputable def s86 (r : RT) (n : Nat) (x0 : DV) (h0 : Hp) : aH :=
 bnd (bD cV h0) fun v1 h1 =>
 bnd (r 120 [x0, (.f 121 [] [])] h1) fun v2 h2 =>
 bnd (aD 0 v2 h2) fun v3 h3 =>
 bnd (aD 1 v2 h3) fun v4 h4 =>
 bnd (aD 2 v2 h4) fun v5 h5 =>
 bnd (aC 6 v1 v3 h5) fun _ h6 =>
 bnd (aI 6 v1 h6) fun v7 _ =>
 some (.t [v7, v4, v5], h6)
noncomputable abbrev c86 : Code := cf Tryz.f86
noncomputable abbrev r86 : K := aQ CF Tryz.f86
noncomputable def D86 (r : RT) (n : Nat) (c : Code) (X : Nat → K) (k : K) : K := aM CF r 10 n c X r86 k
theorem dZf : D86 r n c86 x0 r86 = (K1 (s86 r n) 0) :=
 (by kernel_rfl)
theorem dWt : aG CF r n 86 args h = s86 r n (aR args 0) h :=
 (by kernel_rfl : aG CF r n 86 args h = D86 r n c86 x0 r86 (aK args) h).trans ((congrFun (congrFun (dZf r n) (aK args)) h).trans (by kernel_rfl))
noncomputable def s87 (r : RT) (n : Nat) (x0 x1 : DV) (h0 : Hp) : aH :=
 bnd (bN x0 h0) fun v1 h1 =>
 bnd (bD [(.s []), (aF 0), (aF 0), (aF 0), .l0, .l0] h1) fun v2 h2 =>
 bnd (aI 6 v1 h2) fun v3 h3 =>
 bnd (r 122 [v3, x1, (.b false)] h3) fun v4 h4 =>
 bnd (aD 0 v4 h4) fun v5 h5 =>
 bnd (aD 1 v4 h5) fun v6 h6 =>
 bnd (aD 2 v4 h6) fun v7 h7 =>
 bnd (aC 6 v2 v5 h7) fun _ h8 =>
 bnd (aI 6 v2 h8) fun v9 _ =>
 some (.t [v9, v6, v7], h8)
noncomputable abbrev c87 : Code := cf Tryz.f87
noncomputable abbrev r87 : K := aQ CF Tryz.f87
noncomputable def D87 (r : RT) (n : Nat) (c : Code) (X : Nat → K) (k : K) : K := aM CF r 13 n c X r87 k
theorem eBp : D87 r n c87 x0 r87 = (K2 (s87 r n) 0 1) :=
 (by kernel_rfl)
theorem dSm : aG CF r n 87 args h = s87 r n (aR args 0) (aR args 1) h :=
 (by kernel_rfl : aG CF r n 87 args h = D87 r n c87 x0 r87 (aK args) h).trans ((congrFun (congrFun (eBp r n) (aK args)) h).trans (by kernel_rfl))
noncomputable def s88 (r : RT) (n : Nat) (x0 x1 x2 : DV) (h0 : Hp) : aH :=
 bnd (bN x2 h0) fun v1 h1 =>
 bnd (aI 6 v1 h1) fun v2 h2 =>
 bnd (r 123 [x0, x1, v2] h2) fun v3 h3 =>
 bnd (aD 0 v3 h3) fun v4 h4 =>
 bnd (aD 1 v3 h4) fun v5 h5 =>
 bnd (aE .neq v5 (aF 0) h5) fun v6 h6 =>
 aT v6 (
 some (.t [(aF 0), v5], h6)) (
 bnd (r 53 [x0, v4, (aF 0)] h6) fun v7 h7 =>
 bnd (r 124 [x0, x1, v7, v4] h7) fun v8 h8 =>
 bnd (aE .neq v8 (aF 0) h8) fun v9 h9 =>
 aT v9 (
 some (.t [(aF 0), v8], h9)) (
 some (.t [v4, (aF 0)], h9)))
noncomputable abbrev c88 : Code := cf Tryz.f88
noncomputable abbrev r88 : K := aQ CF Tryz.f88
noncomputable def D88 (r : RT) (n : Nat) (c : Code) (X : Nat → K) (k : K) : K := aM CF r 32 n c X r88 k
theorem eCs : D88 r n c88 x0 r88 = (K3 (s88 r n) 0 1 2) :=
 (by kernel_rfl)
theorem dYo : aG CF r n 88 args h = s88 r n (aR args 0) (aR args 1) (aR args 2) h :=
 (by kernel_rfl : aG CF r n 88 args h = D88 r n c88 x0 r88 (aK args) h).trans ((congrFun (congrFun (eCs r n) (aK args)) h).trans (by kernel_rfl))
noncomputable def s92 (r : RT) (n : Nat) (x0 x1 : DV) (h0 : Hp) : aH :=
 bnd (r 109 [x0, x1] h0) fun v1 h1 =>
 bnd (fV .not v1 h1) fun v2 h2 =>
 aT v2 (
 some ((aF 0), h2)) (
 bnd (r 53 [x0, x1, (aF 2)] h2) fun v3 h3 =>
 bnd (oM [v3] h3) fun v4 h4 =>
 some (v4, h4))
noncomputable abbrev c92 : Code := cf Tryz.f92
noncomputable abbrev r92 : K := aQ CF Tryz.f92
noncomputable def D92 (r : RT) (n : Nat) (c : Code) (X : Nat → K) (k : K) : K := aM CF r 13 n c X r92 k
theorem eBd : D92 r n c92 x0 r92 = (K2 (s92 r n) 0 1) :=
 (by kernel_rfl)
theorem dTv : aG CF r n 92 args h = s92 r n (aR args 0) (aR args 1) h :=
 (by kernel_rfl : aG CF r n 92 args h = D92 r n c92 x0 r92 (aK args) h).trans ((congrFun (congrFun (eBd r n) (aK args)) h).trans (by kernel_rfl))
noncomputable def s93 (r : RT) (n : Nat) (x0 x1 : DV) (h0 : Hp) : aH :=
 bnd (r 109 [x0, x1] h0) fun v1 h1 =>
 bnd (fV .not v1 h1) fun v2 h2 =>
 aT v2 (
 some ((aF 0), h2)) (
 bnd (r 53 [x0, x1, (aF 1)] h2) fun v3 h3 =>
 some (v3, h3))
noncomputable abbrev c93 : Code := cf Tryz.f93
noncomputable abbrev r93 : K := aQ CF Tryz.f93
noncomputable def D93 (r : RT) (n : Nat) (c : Code) (X : Nat → K) (k : K) : K := aM CF r 12 n c X r93 k
theorem eDa : D93 r n c93 x0 r93 = (K2 (s93 r n) 0 1) :=
 (by kernel_rfl)
theorem dSg : aG CF r n 93 args h = s93 r n (aR args 0) (aR args 1) h :=
 (by kernel_rfl : aG CF r n 93 args h = D93 r n c93 x0 r93 (aK args) h).trans ((congrFun (congrFun (eDa r n) (aK args)) h).trans (by kernel_rfl))
noncomputable def s97 (r : RT) (n : Nat) (x0 x1 : DV) (h0 : Hp) : aH :=
 bnd (r 135 [x0, x1] h0) fun v1 h1 =>
 bnd (aE .geq v1 (aF 0) h1) fun v2 h2 =>
 some (v2, h2)
noncomputable abbrev c97 : Code := cf Tryz.f97
noncomputable abbrev r97 : K := aQ CF Tryz.f97
noncomputable def D97 (r : RT) (n : Nat) (c : Code) (X : Nat → K) (k : K) : K := aM CF r 9 n c X r97 k
theorem eBz : D97 r n c97 x0 r97 = (K2 (s97 r n) 0 1) :=
 (by kernel_rfl)
theorem dWq : aG CF r n 97 args h = s97 r n (aR args 0) (aR args 1) h :=
 (by kernel_rfl : aG CF r n 97 args h = D97 r n c97 x0 r97 (aK args) h).trans ((congrFun (congrFun (eBz r n) (aK args)) h).trans (by kernel_rfl))
noncomputable def s106 (r : RT) (n : Nat) (x0 x1 : DV) (h0 : Hp) : aH :=
 bnd (aA x1 h0) fun v1 h1 =>
 bnd (aU v1 h1) fun v2 h2 =>
 bnd (aB 0 v2 h2) fun v3 h3 =>
 bnd (aA v3 h3) fun v4 h4 =>
 bnd (dUg [v4, x0] h4) fun v5 h5 =>
 bnd (fV .not v5 h5) fun v6 h6 =>
 some (v6, h6)
noncomputable abbrev c106 : Code := cf Tryz.f106
noncomputable abbrev r106 : K := aQ CF Tryz.f106
noncomputable def D106 (r : RT) (n : Nat) (c : Code) (X : Nat → K) (k : K) : K := aM CF r 11 n c X r106 k
theorem dXf : D106 r n c106 x0 r106 = (K2 (s106 r n) 0 1) :=
 (by kernel_rfl)
theorem dNy : aG CF r n 106 args h = s106 r n (aR args 0) (aR args 1) h :=
 (by kernel_rfl : aG CF r n 106 args h = D106 r n c106 x0 r106 (aK args) h).trans ((congrFun (congrFun (dXf r n) (aK args)) h).trans (by kernel_rfl))
noncomputable def s109 (r : RT) (n : Nat) (x0 x1 : DV) (h0 : Hp) : aH :=
 bnd (aU x0 h0) fun v1 h1 =>
 bnd (aB 0 v1 h1) fun v2 h2 =>
 bnd (aA v2 h2) fun v3 h3 =>
 bnd (isG [v3, x1] h3) fun v4 h4 =>
 bnd (gD v4 true (some (x0, h4)) h4) fun v5 h5 =>
 bnd (gD v4 true (aU v5 h5) h5) fun v6 h6 =>
 bnd (gD v4 true (aB 0 v6 h6) h6) fun v7 h7 =>
 bnd (gD v4 true (aA v7 h7) h7) fun v8 h8 =>
 bnd (gD v4 true (some (x1, h8)) h8) fun v9 h9 =>
 bnd (gD v4 true (aYb [v8, v9] h9) h9) fun v10 h10 =>
 bnd (gD v4 true (some (x0, h10)) h10) fun v11 h11 =>
 bnd (gD v4 true (r 15 [v11, (aF 1)] h11) h11) fun v12 h12 =>
 bnd (gD v4 true (aE .eql v10 v12 h12) h12) fun v13 h13 =>
 bnd (aP v4 v13 (.b false) h13) fun v14 h14 =>
 bnd (gD v14 true (some (x0, h14)) h14) fun v15 h15 =>
 bnd (gD v14 true (aU v15 h15) h15) fun v16 h16 =>
 bnd (gD v14 true (aB 0 v16 h16) h16) fun v17 h17 =>
 bnd (gD v14 true (aA v17 h17) h17) fun v18 h18 =>
 bnd (gD v14 true (some (x1, h18)) h18) fun v19 h19 =>
 bnd (gD v14 true (qI [v18, v19] h19) h19) fun v20 h20 =>
 bnd (gD v14 true (aE .eql v20 (aF 6) h20) h20) fun v21 h21 =>
 bnd (aP v14 v21 (.b false) h21) fun v22 h22 =>
 some (v22, h22)
noncomputable abbrev c109 : Code := cf Tryz.f109
noncomputable abbrev r109 : K := aQ CF Tryz.f109
noncomputable def D109 (r : RT) (n : Nat) (c : Code) (X : Nat → K) (k : K) : K := aM CF r 31 n c X r109 k
theorem dTo : D109 r n c109 x0 r109 = (K2 (s109 r n) 0 1) :=
 (by kernel_rfl)
theorem dOl : aG CF r n 109 args h = s109 r n (aR args 0) (aR args 1) h :=
 (by kernel_rfl : aG CF r n 109 args h = D109 r n c109 x0 r109 (aK args) h).trans ((congrFun (congrFun (dTo r n) (aK args)) h).trans (by kernel_rfl))
noncomputable def s112 (r : RT) (n : Nat) (x0 : DV) (h0 : Hp) : aH :=
 bnd (aE .geq x0 (aF 14) h0) fun v1 h1 =>
 bnd (gD v1 true (some (x0, h1)) h1) fun v2 h2 =>
 bnd (gD v1 true (aE .leq v2 (aF 18) h2) h2) fun v3 h3 =>
 bnd (aP v1 v3 (.b false) h3) fun v4 h4 =>
 aT v4 (
 some ((aF 2), h4)) (
 bnd (aE .geq x0 (aF 6) h4) fun v5 h5 =>
 bnd (gD v5 true (some (x0, h5)) h5) fun v6 h6 =>
 bnd (gD v5 true (aE .leq v6 (aF 11) h6) h6) fun v7 h7 =>
 bnd (aP v5 v7 (.b false) h7) fun v8 h8 =>
 aT v8 (
 some ((aF 1), h8)) (
 some ((aF 0), h8)))
noncomputable abbrev c112 : Code := cf Tryz.f112
noncomputable abbrev r112 : K := aQ CF Tryz.f112
noncomputable def D112 (r : RT) (n : Nat) (c : Code) (X : Nat → K) (k : K) : K := aM CF r 15 n c X r112 k
theorem dTa : D112 r n c112 x0 r112 = (K1 (s112 r n) 0) :=
 (by kernel_rfl)
theorem dHq : aG CF r n 112 args h = s112 r n (aR args 0) h :=
 (by kernel_rfl : aG CF r n 112 args h = D112 r n c112 x0 r112 (aK args) h).trans ((congrFun (congrFun (dTa r n) (aK args)) h).trans (by kernel_rfl))
noncomputable def eC (r : RT) (n : Nat) (x2 : DV) (h0 : Hp) : aH :=
 bnd (aB 5 x2 h0) fun v1 h1 =>
 bnd (aA v1 h1) fun v2 h2 =>
 bnd (r 151 [v2] h2) fun v3 h3 =>
 bnd (aB 5 x2 h3) fun v4 h4 =>
 bnd (aA v4 h4) fun v5 h5 =>
 bnd (r 152 [v5, v3] h5) fun v6 h6 =>
 bnd (fV .not v6 h6) fun v7 h7 =>
 aT v7 (
 some (.t [.l0, (aF 19)], h7)) (
 bnd (aB 5 x2 h7) fun v8 h8 =>
 bnd (aA v8 h8) fun v9 h9 =>
 bnd (r 153 [v9, v3] h9) fun v10 h10 =>
 bnd (aD 0 v10 h10) fun v11 h11 =>
 bnd (aD 1 v10 h11) fun v12 h12 =>
 bnd (fV .not v12 h12) fun v13 h13 =>
 aT v13 (
 some (.t [.l0, (aF 19)], h13)) (
 some (.t [v11, (aF 0)], h13)))
noncomputable def aPe (r : RT) (n : Nat) (kk7 : cD) (x1 x2 x60 x61 x62 : DV) (h0 : Hp) : aH :=
 bnd (aE .lss x62 x61 h0) fun v1 h1 =>
 aT v1 (
 bnd (aJ 3 x60 x62 h1) fun v2 h2 =>
 bnd (aI 3 v2 h2) fun v3 h3 =>
 bnd (bD [(aF 0), (aF 0), (aF 0)] h3) fun v4 h4 =>
 bnd (aC 3 v4 v3 h4) fun _ h5 =>
 bnd (aI 3 v4 h5) fun v6 h6 =>
 bnd (r 149 [v6] h6) fun v7 h7 =>
 bnd (fV .not v7 h7) fun v8 h8 =>
 bnd (gD v8 false (aI 6 x2 h8) h8) fun v9 h9 =>
 bnd (gD v8 false (aI 3 v4 h9) h9) fun v10 h10 =>
 bnd (gD v8 false (some (x1, h10)) h10) fun v11 h11 =>
 bnd (gD v8 false (r 150 [v9, v10, v11] h11) h11) fun v12 h12 =>
 bnd (gD v8 false (fV .not v12 h12) h12) fun v13 h13 =>
 bnd (aP v8 (.b true) v13 h13) fun v14 h14 =>
 aT v14 (
 some (.t [.l0, (aF 19)], h14)) (
 bnd (aE .add x62 (aF 1) h14) fun v15 h15 =>
    kk7 x1 x2 x60 x61 v15 h15)) (
      eC r n x2 h1)
noncomputable def uK (r : RT) (n : Nat) (m : Nat) : cD :=
 Nat.rec (motive := fun _ => cD) (fun _ _ _ _ _ _ => none) (fun _ ih => aPe r n ih) m
noncomputable def cFh (r : RT) (n : Nat) : cD := uK r n n
noncomputable def aZk (r : RT) (n : Nat) (x1 x2 x60 x61 x62 : DV) (h0 : Hp) : aH :=
 cFh r n x1 x2 x60 x61 x62 h0
noncomputable def aVp (r : RT) (n : Nat) (x1 x2 : DV) (h0 : Hp) : aH :=
 bnd (aB 5 x2 h0) fun v1 h1 =>
 bnd (aA v1 h1) fun v2 h2 =>
 bnd (bT v2 h2) fun v3 h3 =>
  aZk r n x1 x2 v2 v3 (aF 0) h3
noncomputable def bAm (r : RT) (n : Nat) (x1 x2 x6 x7 : DV) (h0 : Hp) : aH :=
 bnd (fV .not x6 h0) fun v1 h1 =>
 bnd (gD v1 false (some (x7, h1)) h1) fun v2 h2 =>
 bnd (aP v1 (.b true) v2 h2) fun v3 h3 =>
 bnd (gD v3 false (aB 4 x2 h3) h3) fun v4 h4 =>
 bnd (gD v3 false (aA v4 h4) h4) fun v5 h5 =>
 bnd (gD v3 false (bT v5 h5) h5) fun v6 h6 =>
 bnd (gD v3 false (aE .gtr v6 (aF 60) h6) h6) fun v7 h7 =>
 bnd (aP v3 (.b true) v7 h7) fun v8 h8 =>
 bnd (gD v8 false (aB 5 x2 h8) h8) fun v9 h9 =>
 bnd (gD v8 false (aA v9 h9) h9) fun v10 h10 =>
 bnd (gD v8 false (bT v10 h10) h10) fun v11 h11 =>
 bnd (gD v8 false (r 145 [v11, (aF 1), (aF 400)] h11) h11) fun v12 h12 =>
 bnd (gD v8 false (fV .not v12 h12) h12) fun v13 h13 =>
 bnd (aP v8 (.b true) v13 h13) fun v14 h14 =>
 aT v14 (
 some (.t [.l0, (aF 19)], h14)) (
  aVp r n x1 x2 h14)
noncomputable def aZr (r : RT) (n : Nat) (x1 x2 x6 : DV) (h0 : Hp) : aH :=
 bnd (aB 4 x2 h0) fun v1 h1 =>
 bnd (aA v1 h1) fun v2 h2 =>
 bnd (r 146 [v2, (.f 147 [] [])] h2) fun v3 h3 =>
  bAm r n x1 x2 x6 v3 h3
noncomputable def zC (r : RT) (n : Nat) (x1 x2 : DV) (h0 : Hp) : aH :=
 bnd (r 145 [x1, (aF 0), (aF 8)] h0) fun v1 h1 =>
 bnd (gD v1 true (aB 0 x2 h1) h1) fun v2 h2 =>
 bnd (gD v1 true (aA v2 h2) h2) fun v3 h3 =>
 bnd (gD v1 true (fS v3 h3) h3) fun v4 h4 =>
 bnd (gD v1 true (r 145 [v4, (aF 1), (aF 60)] h4) h4) fun v5 h5 =>
 bnd (aP v1 v5 (.b false) h5) fun v6 h6 =>
 bnd (gD v6 true (aB 1 x2 h6) h6) fun v7 h7 =>
 bnd (gD v6 true (aA v7 h7) h7) fun v8 h8 =>
 bnd (gD v6 true (r 145 [v8, (aF 0), (aF 4)] h8) h8) fun v9 h9 =>
 bnd (aP v6 v9 (.b false) h9) fun v10 h10 =>
 bnd (gD v10 true (aB 2 x2 h10) h10) fun v11 h11 =>
 bnd (gD v10 true (aA v11 h11) h11) fun v12 h12 =>
 bnd (gD v10 true (aB 1 x2 h12) h12) fun v13 h13 =>
 bnd (gD v10 true (aA v13 h13) h13) fun v14 h14 =>
 bnd (gD v10 true (r 145 [v12, v14, (aF 24)] h14) h14) fun v15 h15 =>
 bnd (aP v10 v15 (.b false) h15) fun v16 h16 =>
 bnd (gD v16 true (aB 3 x2 h16) h16) fun v17 h17 =>
 bnd (gD v16 true (aA v17 h17) h17) fun v18 h18 =>
 bnd (gD v16 true (r 145 [v18, (aF 0), (aF 255)] h18) h18) fun v19 h19 =>
 bnd (aP v16 v19 (.b false) h19) fun v20 h20 =>
  aZr r n x1 x2 v20 h20
noncomputable def s114 (r : RT) (n : Nat) (x0 x1 : DV) (h0 : Hp) : aH :=
 bnd (bN x0 h0) fun v1 h1 =>
  zC r n x1 v1 h1
noncomputable abbrev c114 : Code := cf Tryz.f114
noncomputable abbrev aIg : Code := cR c114
noncomputable abbrev aLf : Code := cR aIg
noncomputable abbrev aHv : Code := cR aLf
noncomputable abbrev aOk : Code := cR aHv
noncomputable abbrev dJh : Code := cR aOk
noncomputable abbrev aAk : Code := cL aOk
noncomputable abbrev aWl : Code := cR aAk
noncomputable abbrev aNn : Code := cL aWl
noncomputable abbrev lX : Code := cL aNn
noncomputable abbrev bIe : Code := cL aAk
noncomputable abbrev bDa : Code := cL aHv
noncomputable abbrev bFa : Code := cL aLf
noncomputable abbrev bAx : Code := cL aIg
noncomputable abbrev aCp : Code := cL c114
noncomputable abbrev r114 : K := aQ CF Tryz.f114
noncomputable def D114 (r : RT) (n : Nat) (c : Code) (X : Nat → K) (k : K) : K := aM CF r 95 n c X r114 k
theorem dDa : D114 r n dJh x0 r114 = (K1 (eC r n) 2) :=
 (by kernel_rfl)
theorem bPf (kk7 : cD) (q0 : TT1) : D114 r n lX (xs x0 0 (K1 q0 2)) (K5 kk7 1 2 60 61 62) = fun (env : aO) (h : Hp) =>
 bnd (aE .lss (env 62) (env 61) h) fun v1 h1 =>
 aT v1 (
 bnd (aJ 3 (env 60) (env 62) h1) fun v2 h2 =>
 bnd (aI 3 v2 h2) fun v3 h3 =>
 bnd (bD [(aF 0), (aF 0), (aF 0)] h3) fun v4 h4 =>
 bnd (aC 3 v4 v3 h4) fun _ h5 =>
 bnd (aI 3 v4 h5) fun v6 h6 =>
 bnd (r 149 [v6] h6) fun v7 h7 =>
 bnd (fV .not v7 h7) fun v8 h8 =>
 bnd (gD v8 false (aI 6 (env 2) h8) h8) fun v9 h9 =>
 bnd (gD v8 false (aI 3 v4 h9) h9) fun v10 h10 =>
 bnd (gD v8 false (some ((env 1), h10)) h10) fun v11 h11 =>
 bnd (gD v8 false (r 150 [v9, v10, v11] h11) h11) fun v12 h12 =>
 bnd (gD v8 false (fV .not v12 h12) h12) fun v13 h13 =>
 bnd (aP v8 (.b true) v13 h13) fun v14 h14 =>
 aT v14 (
 some (.t [.l0, (aF 19)], h14)) (
 bnd (aE .add (env 62) (aF 1) h14) fun v15 h15 =>
    kk7 (env 1) (env 2) (env 60) (env 61) v15 h15)) (
      q0 (env 2) h1) := by kernel_rfl
theorem bMx (kk7 : cD) : (fun (env : aO) (h : Hp) =>
 bnd (aE .lss (env 62) (env 61) h) fun v1 h1 =>
 aT v1 (
 bnd (aJ 3 (env 60) (env 62) h1) fun v2 h2 =>
 bnd (aI 3 v2 h2) fun v3 h3 =>
 bnd (bD [(aF 0), (aF 0), (aF 0)] h3) fun v4 h4 =>
 bnd (aC 3 v4 v3 h4) fun _ h5 =>
 bnd (aI 3 v4 h5) fun v6 h6 =>
 bnd (r 149 [v6] h6) fun v7 h7 =>
 bnd (fV .not v7 h7) fun v8 h8 =>
 bnd (gD v8 false (aI 6 (env 2) h8) h8) fun v9 h9 =>
 bnd (gD v8 false (aI 3 v4 h9) h9) fun v10 h10 =>
 bnd (gD v8 false (some ((env 1), h10)) h10) fun v11 h11 =>
 bnd (gD v8 false (r 150 [v9, v10, v11] h11) h11) fun v12 h12 =>
 bnd (gD v8 false (fV .not v12 h12) h12) fun v13 h13 =>
 bnd (aP v8 (.b true) v13 h13) fun v14 h14 =>
 aT v14 (
 some (.t [.l0, (aF 19)], h14)) (
 bnd (aE .add (env 62) (aF 1) h14) fun v15 h15 =>
    kk7 (env 1) (env 2) (env 60) (env 61) v15 h15)) (
      eC r n (env 2) h1)) = (K5 (aPe r n kk7) 1 2 60 61 62) := by kernel_rfl
theorem cDz (kk7 : cD) : D114 r n lX (xs x0 0 (K1 (eC r n) 2)) (K5 kk7 1 2 60 61 62) = (K5 (aPe r n kk7) 1 2 60 61 62) :=
 (bPf r n kk7 (eC r n)).trans (bMx r n kk7)
theorem cHn (m : Nat) : aL (fun kk => D114 r n lX (xs x0 0 (K1 (eC r n) 2)) kk) m = (K5 (uK r n m) 1 2 60 61 62) := by
 induction m with
 | zero => exact (by kernel_rfl : aL (fun kk => D114 r n lX (xs x0 0 (K1 (eC r n) 2)) kk) 0 = (K5 (uK r n 0) 1 2 60 61 62))
 | succ m ih =>
  refine (by kernel_rfl : aL (fun kk => D114 r n lX (xs x0 0 (K1 (eC r n) 2)) kk) (m + 1) = D114 r n lX (xs x0 0 (K1 (eC r n) 2)) (aL (fun kk => D114 r n lX (xs x0 0 (K1 (eC r n) 2)) kk) m)).trans ?_
  rw [ih]
  exact (cDz r n (uK r n m)).trans (by kernel_rfl)
theorem cYs : D114 r n aNn (xs x0 0 (K1 (eC r n) 2)) (K1 (eC r n) 2) = (K5 (cFh r n) 1 2 60 61 62) :=
 (by kernel_rfl : D114 r n aNn (xs x0 0 (K1 (eC r n) 2)) (K1 (eC r n) 2) = aL (fun kk => D114 r n lX (xs x0 0 (K1 (eC r n) 2)) kk) n).trans ((cHn r n n).trans (by kernel_rfl))
theorem cXk : D114 r n aWl x0 (K1 (eC r n) 2) = (K5 (aZk r n) 1 2 60 61 62) :=
 (by kernel_rfl : D114 r n aWl x0 (K1 (eC r n) 2) = D114 r n aNn (xs x0 0 (K1 (eC r n) 2)) (K1 (eC r n) 2)).trans
 ((cYs r n).trans (by kernel_rfl))
theorem cAy : D114 r n aOk x0 r114 = D114 r n aAk x0 (K1 (eC r n) 2) :=
 congrArg (fun k => D114 r n aAk x0 k) (dDa r n)
theorem cBh : D114 r n aAk x0 (K1 (eC r n) 2) = D114 r n bIe x0 (K5 (aZk r n) 1 2 60 61 62) :=
 congrArg (fun k => D114 r n bIe x0 k) (cXk r n)
theorem cYh : D114 r n aOk x0 r114 = (K2 (aVp r n) 1 2) :=
 (cAy r n).trans
 ((cBh r n).trans
 ((by kernel_rfl)))
theorem bTg : D114 r n aHv x0 r114 = D114 r n bDa x0 (K2 (aVp r n) 1 2) :=
 congrArg (fun k => D114 r n bDa x0 k) (cYh r n)
theorem cTv : D114 r n aHv x0 r114 = (K4 (bAm r n) 1 2 6 7) :=
 (bTg r n).trans
 ((by kernel_rfl))
theorem bSc : D114 r n aLf x0 r114 = D114 r n bFa x0 (K4 (bAm r n) 1 2 6 7) :=
 congrArg (fun k => D114 r n bFa x0 k) (cTv r n)
theorem cRr : D114 r n aLf x0 r114 = (K3 (aZr r n) 1 2 6) :=
 (bSc r n).trans
 ((by kernel_rfl))
theorem cKj : D114 r n aIg x0 r114 = D114 r n bAx x0 (K3 (aZr r n) 1 2 6) :=
 congrArg (fun k => D114 r n bAx x0 k) (cRr r n)
theorem cTd : D114 r n aIg x0 r114 = (K2 (zC r n) 1 2) :=
 (cKj r n).trans
 ((by kernel_rfl))
theorem dEf : D114 r n c114 x0 r114 = D114 r n aCp x0 (K2 (zC r n) 1 2) :=
 congrArg (fun k => D114 r n aCp x0 k) (cTd r n)
theorem dLa (q0 : eM) : D114 r n aCp x0 (K2 q0 1 2) = fun (env : aO) (h : Hp) =>
 bnd (bN (env 0) h) fun v1 h1 =>
  q0 (env 1) v1 h1 := by kernel_rfl
theorem dCm : (fun (env : aO) (h : Hp) =>
 bnd (bN (env 0) h) fun v1 h1 =>
  zC r n (env 1) v1 h1) = (K2 (s114 r n) 0 1) := by kernel_rfl
theorem dUs : D114 r n c114 x0 r114 = (K2 (s114 r n) 0 1) :=
 (dEf r n).trans
 ((dLa r n (zC r n)).trans (dCm r n))
theorem dHc : aG CF r n 114 args h = s114 r n (aR args 0) (aR args 1) h :=
 (by kernel_rfl : aG CF r n 114 args h = D114 r n c114 x0 r114 (aK args) h).trans ((congrFun (congrFun (dUs r n) (aK args)) h).trans (by kernel_rfl))
noncomputable def eP (r : RT) (n : Nat) (h0 : Hp) : aH :=
 some ((.i .i64 (Int.negSucc 0)), h0)
noncomputable def bIi (r : RT) (n : Nat) (kk4 : dI) (x0 x1 x7 x8 : DV) (h0 : Hp) : aH :=
 bnd (aE .lss x8 x7 h0) fun v1 h1 =>
 aT v1 (
 bnd (aJ 1 x0 x8 h1) fun v2 h2 =>
 bnd (aA v2 h2) fun v3 h3 =>
 bnd (dR .eql x1 v3 h3) fun v4 h4 =>
 aT v4 (
 some (x8, h4)) (
 bnd (aE .add x8 (aF 1) h4) fun v5 h5 =>
    kk4 x0 x1 x7 v5 h5)) (
      eP r n h1)
noncomputable def uJ (r : RT) (n : Nat) (m : Nat) : dI :=
 Nat.rec (motive := fun _ => dI) (fun _ _ _ _ _ => none) (fun _ ih => bIi r n ih) m
noncomputable def bTq (r : RT) (n : Nat) : dI := uJ r n n
noncomputable def aXw (r : RT) (n : Nat) (x0 x1 x7 x8 : DV) (h0 : Hp) : aH :=
 bTq r n x0 x1 x7 x8 h0
noncomputable def aUp (r : RT) (n : Nat) (x0 x1 : DV) (h0 : Hp) : aH :=
 bnd (bT x0 h0) fun v1 h1 =>
  aXw r n x0 x1 v1 (aF 0) h1
noncomputable def s119 (r : RT) (n : Nat) (x0 x1 : DV) (h0 : Hp) : aH :=
 aUp r n x0 x1 h0
noncomputable abbrev c119 : Code := cf Tryz.f119
noncomputable abbrev aDi : Code := cR c119
noncomputable abbrev dJt : Code := cR aDi
noncomputable abbrev zV : Code := cL aDi
noncomputable abbrev aWc : Code := cR zV
noncomputable abbrev aCv : Code := cL aWc
noncomputable abbrev nZ : Code := cL aCv
noncomputable abbrev bVm : Code := cL zV
noncomputable abbrev cJt : Code := cL c119
noncomputable abbrev r119 : K := aQ CF Tryz.f119
noncomputable def D119 (r : RT) (n : Nat) (c : Code) (X : Nat → K) (k : K) : K := aM CF r 19 n c X r119 k
theorem cNd : D119 r n dJt x0 r119 = (K0 (eP r n)) :=
 (by kernel_rfl)
theorem cGf (kk4 : dI) : D119 r n nZ (xs x0 0 (K0 (eP r n))) (K4 kk4 0 1 7 8) = (K4 (bIi r n kk4) 0 1 7 8) :=
 (by kernel_rfl)
theorem cBw (m : Nat) : aL (fun kk => D119 r n nZ (xs x0 0 (K0 (eP r n))) kk) m = (K4 (uJ r n m) 0 1 7 8) := by
 induction m with
 | zero => exact (by kernel_rfl : aL (fun kk => D119 r n nZ (xs x0 0 (K0 (eP r n))) kk) 0 = (K4 (uJ r n 0) 0 1 7 8))
 | succ m ih =>
  refine (by kernel_rfl : aL (fun kk => D119 r n nZ (xs x0 0 (K0 (eP r n))) kk) (m + 1) = D119 r n nZ (xs x0 0 (K0 (eP r n))) (aL (fun kk => D119 r n nZ (xs x0 0 (K0 (eP r n))) kk) m)).trans ?_
  rw [ih]
  exact (cGf r n (uJ r n m)).trans (by kernel_rfl)
theorem cZp : D119 r n aCv (xs x0 0 (K0 (eP r n))) (K0 (eP r n)) = (K4 (bTq r n) 0 1 7 8) :=
 (by kernel_rfl : D119 r n aCv (xs x0 0 (K0 (eP r n))) (K0 (eP r n)) = aL (fun kk => D119 r n nZ (xs x0 0 (K0 (eP r n))) kk) n).trans ((cBw r n n).trans (by kernel_rfl))
theorem cOh : D119 r n aWc x0 (K0 (eP r n)) = (K4 (aXw r n) 0 1 7 8) :=
 (by kernel_rfl : D119 r n aWc x0 (K0 (eP r n)) = D119 r n aCv (xs x0 0 (K0 (eP r n))) (K0 (eP r n))).trans
 ((cZp r n).trans (by kernel_rfl))
theorem cJy : D119 r n aDi x0 r119 = D119 r n zV x0 (K0 (eP r n)) :=
 congrArg (fun k => D119 r n zV x0 k) (cNd r n)
theorem bSx : D119 r n zV x0 (K0 (eP r n)) = D119 r n bVm x0 (K4 (aXw r n) 0 1 7 8) :=
 congrArg (fun k => D119 r n bVm x0 k) (cOh r n)
theorem cOo : D119 r n aDi x0 r119 = (K2 (aUp r n) 0 1) :=
 (cJy r n).trans
 ((bSx r n).trans
 ((by kernel_rfl)))
theorem dMf : D119 r n c119 x0 r119 = D119 r n cJt x0 (K2 (aUp r n) 0 1) :=
 congrArg (fun k => D119 r n cJt x0 k) (cOo r n)
theorem dRl : D119 r n c119 x0 r119 = (K2 (s119 r n) 0 1) :=
 (dMf r n).trans
 ((by kernel_rfl))
theorem dIa : aG CF r n 119 args h = s119 r n (aR args 0) (aR args 1) h :=
 (by kernel_rfl : aG CF r n 119 args h = D119 r n c119 x0 r119 (aK args) h).trans ((congrFun (congrFun (dRl r n) (aK args)) h).trans (by kernel_rfl))
noncomputable def s120 (r : RT) (n : Nat) (x0 x1 : DV) (h0 : Hp) : aH :=
 bnd (bD cV h0) fun v1 h1 =>
 bnd (r 154 [x0] h1) fun v2 h2 =>
 bnd (aD 0 v2 h2) fun v3 h3 =>
 bnd (aD 1 v2 h3) fun v4 h4 =>
 bnd (aD 2 v2 h4) fun v5 h5 =>
 bnd (aE .neq v5 (aF 0) h5) fun v6 h6 =>
 aT v6 (
 bnd (bA cV [] h6) fun v7 h7 =>
 bnd (aC 6 v1 v7 h7) fun _ h8 =>
 bnd (aI 6 v1 h8) fun v9 _ =>
 some (.t [v9, v4, v5], h8)) (
 bnd (bA [.l0, (aF 0), (aF 0), (aF 0)] [(0, 1, v3)] h6) fun v10 h10 =>
 bnd (bN v10 h10) fun v11 h11 =>
 bnd (dD CF r x1 [v11] h11) fun v12 h12 =>
 bnd (bD cV h12) fun v13 h13 =>
 bnd (aC 6 v13 v12 h13) fun _ h14 =>
 bnd (r 155 [v11] h14) fun v15 h15 =>
 bnd (aB 4 v13 h15) fun v16 h16 =>
 bnd (aC 1 v16 v15 h16) fun _ h17 =>
 bnd (r 156 [v11] h17) fun v18 h18 =>
 bnd (aB 5 v13 h18) fun v19 h19 =>
 bnd (aC 1 v19 v18 h19) fun _ h20 =>
 bnd (r 157 [v11, (aF 0), (.s [])] h20) fun v21 h21 =>
 bnd (aU v11 h21) fun v22 h22 =>
 bnd (aB 3 v22 h22) fun v23 h23 =>
 bnd (aA v23 h23) fun v24 h24 =>
 bnd (aE .neq v24 (aF 0) h24) fun v25 h25 =>
 aT v25 (
 bnd (bA cV [] h25) fun v26 h26 =>
 bnd (aU v11 h26) fun v27 h27 =>
 bnd (aB 2 v27 h27) fun v28 h28 =>
 bnd (aA v28 h28) fun v29 h29 =>
 bnd (aU v11 h29) fun v30 h30 =>
 bnd (aB 3 v30 h30) fun v31 h31 =>
 bnd (aA v31 h31) fun v32 h32 =>
 bnd (aC 6 v1 v26 h32) fun v33 h33 =>
 cnd (aZ (aA v31 h33) v32 && (aZ (aA v28 h33) v29 && true)) (
 bnd (aI 6 v1 h33) fun v34 _ =>
 some (.t [v34, v29, v32], h33))) (
 bnd (aI 6 v13 h25) fun v35 h35 =>
 bnd (aC 6 v1 v35 h35) fun _ h36 =>
 bnd (aI 6 v1 h36) fun v37 _ =>
 some (.t [v37, (aF 0), (aF 0)], h36)))
noncomputable abbrev c120 : Code := cf Tryz.f120
noncomputable abbrev r120 : K := aQ CF Tryz.f120
noncomputable def D120 (r : RT) (n : Nat) (c : Code) (X : Nat → K) (k : K) : K := aM CF r 52 n c X r120 k
theorem dQu : D120 r n c120 x0 r120 = (K2 (s120 r n) 0 1) :=
 (by kernel_rfl)
theorem dFf : aG CF r n 120 args h = s120 r n (aR args 0) (aR args 1) h :=
 (by kernel_rfl : aG CF r n 120 args h = D120 r n c120 x0 r120 (aK args) h).trans ((congrFun (congrFun (dQu r n) (aK args)) h).trans (by kernel_rfl))
noncomputable def s121 (r : RT) (n : Nat) (x0 : DV) (h0 : Hp) : aH :=
 bnd (bD cV h0) fun v1 h1 =>
 bnd (bA cV [(0, 1, (aF 11))] h1) fun v2 h2 =>
 bnd (bD cV h2) fun v3 h3 =>
 bnd (aC 6 v3 v2 h3) fun _ h4 =>
 bnd (r 158 [x0, v3] h4) fun v5 h5 =>
 bnd (r 159 [x0] h5) fun v6 h6 =>
 bnd (aB 2 v3 h6) fun v7 h7 =>
 bnd (aC 1 v7 v6 h7) fun _ h8 =>
 bnd (aI 6 v3 h8) fun v9 h9 =>
 bnd (aC 6 v1 v9 h9) fun _ h10 =>
 bnd (aI 6 v1 h10) fun v11 _ =>
 some (v11, h10)
noncomputable abbrev c121 : Code := cf Tryz.f121
noncomputable abbrev r121 : K := aQ CF Tryz.f121
noncomputable def D121 (r : RT) (n : Nat) (c : Code) (X : Nat → K) (k : K) : K := aM CF r 11 n c X r121 k
theorem dVo : D121 r n c121 x0 r121 = (K1 (s121 r n) 0) :=
 (by kernel_rfl)
theorem dJe : aG CF r n 121 args h = s121 r n (aR args 0) h :=
 (by kernel_rfl : aG CF r n 121 args h = D121 r n c121 x0 r121 (aK args) h).trans ((congrFun (congrFun (dVo r n) (aK args)) h).trans (by kernel_rfl))
end Go.Dd

namespace Go.Dd
open Go.Proofs
variable (r : RT) (n : Nat) (args : List DV) (h : Hp)
noncomputable def eB (r : RT) (n : Nat) (x6 x9 : DV) (h0 : Hp) : aH :=
 bnd (aU x9 h0) fun v1 h1 =>
 bnd (aB 0 v1 h1) fun v2 h2 =>
 bnd (aI 6 v2 h2) fun v3 h3 =>
 bnd (aC 6 x6 v3 h3) fun _ h4 =>
 bnd (aI 6 x6 h4) fun v5 _ =>
 some (.t [v5, (.s []), (aF 0)], h4)
noncomputable def aCx (r : RT) (n : Nat) (kk9 : cD) (x6 x9 x94 x95 x96 : DV) (h0 : Hp) : aH :=
 bnd (aE .lss x96 x95 h0) fun v1 h1 =>
 aT v1 (
 bnd (aJ 3 x94 x96 h1) fun v2 h2 =>
 bnd (aI 3 v2 h2) fun v3 h3 =>
 bnd (bD [(aF 0), (aF 0), (aF 0)] h3) fun v4 h4 =>
 bnd (aC 3 v4 v3 h4) fun _ h5 =>
 bnd (aI 3 v4 h5) fun v6 h6 =>
 bnd (r 149 [v6] h6) fun v7 h7 =>
 bnd (fV .not v7 h7) fun v8 h8 =>
 aT v8 (
 bnd (bA [(.s []), (aF 0), (aF 0), (aF 0), .l0, .l0] [] h8) fun v9 h9 =>
 bnd (aC 6 x6 v9 h9) fun _ h10 =>
 bnd (aI 6 x6 h10) fun v11 _ =>
 some (.t [v11, (.s []), (aF 12)], h10)) (
 bnd (aE .add x96 (aF 1) h8) fun v12 h12 =>
    kk9 x6 x9 x94 x95 v12 h12)) (
      eB r n x6 x9 h1)
noncomputable def tK (r : RT) (n : Nat) (m : Nat) : cD :=
 Nat.rec (motive := fun _ => cD) (fun _ _ _ _ _ _ => none) (fun _ ih => aCx r n ih) m
noncomputable def cBd (r : RT) (n : Nat) : cD := tK r n n
noncomputable def aVw (r : RT) (n : Nat) (x6 x9 x94 x95 x96 : DV) (h0 : Hp) : aH :=
 cBd r n x6 x9 x94 x95 x96 h0
noncomputable def xC (r : RT) (n : Nat) (x6 x9 : DV) (h0 : Hp) : aH :=
 bnd (aU x9 h0) fun v1 h1 =>
 bnd (aB 0 v1 h1) fun v2 h2 =>
 bnd (aB 5 v2 h2) fun v3 h3 =>
 bnd (aA v3 h3) fun v4 h4 =>
 bnd (bT v4 h4) fun v5 h5 =>
  aVw r n x6 x9 v4 v5 (aF 0) h5
noncomputable def aKa (r : RT) (n : Nat) (x6 x9 : DV) (h0 : Hp) : aH :=
 bnd (aU x9 h0) fun v1 h1 =>
 bnd (aB 8 v1 h1) fun v2 h2 =>
 bnd (aA v2 h2) fun v3 h3 =>
 bnd (aE .neq v3 (aF 0) h3) fun v4 h4 =>
 aT v4 (
 bnd (bA [(.s []), (aF 0), (aF 0), (aF 0), .l0, .l0] [] h4) fun v5 h5 =>
 bnd (aU x9 h5) fun v6 h6 =>
 bnd (aB 7 v6 h6) fun v7 h7 =>
 bnd (aA v7 h7) fun v8 h8 =>
 bnd (aU x9 h8) fun v9 h9 =>
 bnd (aB 8 v9 h9) fun v10 h10 =>
 bnd (aA v10 h10) fun v11 h11 =>
 bnd (aC 6 x6 v5 h11) fun v12 h12 =>
 cnd (aZ (aA v10 h12) v11 && (aZ (aA v7 h12) v8 && true)) (
 bnd (aI 6 x6 h12) fun v13 _ =>
 some (.t [v13, v8, v11], h12))) (
 bnd (aU x9 h4) fun v14 h14 =>
 bnd (aB 0 v14 h14) fun v15 h15 =>
 bnd (aB 4 v15 h15) fun v16 h16 =>
 bnd (aA v16 h16) fun v17 h17 =>
 bnd (bT v17 h17) fun v18 h18 =>
 bnd (aE .gtr v18 (aF 60) h18) fun v19 h19 =>
 aT v19 (
 bnd (bA [(.s []), (aF 0), (aF 0), (aF 0), .l0, .l0] [] h19) fun v20 h20 =>
 bnd (aC 6 x6 v20 h20) fun _ h21 =>
 bnd (aI 6 x6 h21) fun v22 _ =>
 some (.t [v22, (.s []), (aF 18)], h21)) (
 bnd (aU x9 h19) fun v23 h23 =>
 bnd (aB 0 v23 h23) fun v24 h24 =>
 bnd (aB 5 v24 h24) fun v25 h25 =>
 bnd (aA v25 h25) fun v26 h26 =>
 bnd (bT v26 h26) fun v27 h27 =>
 bnd (aE .gtr v27 (aF 400) h27) fun v28 h28 =>
 aT v28 (
 bnd (bA [(.s []), (aF 0), (aF 0), (aF 0), .l0, .l0] [] h28) fun v29 h29 =>
 bnd (aC 6 x6 v29 h29) fun _ h30 =>
 bnd (aI 6 x6 h30) fun v31 _ =>
 some (.t [v31, (.s []), (aF 12)], h30)) (
    xC r n x6 x9 h28)))
noncomputable def eE (r : RT) (n : Nat) (x2 x3 x6 x9 : DV) (h0 : Hp) : aH :=
 bnd (aI 6 x3 h0) fun v1 h1 =>
 bnd (r 160 [x9, v1, x2] h1) fun v2 h2 =>
  aKa r n x6 x9 h2
noncomputable def xU (r : RT) (n : Nat) (kk11 : TT7) (x2 x3 x6 x9 x33 x34 x35 : DV) (h0 : Hp) : aH :=
 bnd (aE .lss x35 x34 h0) fun v1 h1 =>
 aT v1 (
 bnd (aJ 1 x33 x35 h1) fun v2 h2 =>
 bnd (aA v2 h2) fun v3 h3 =>
 bnd (aU x9 h3) fun v4 h4 =>
 bnd (aB 6 v4 h4) fun v5 h5 =>
 bnd (aA v5 h5) fun v6 h6 =>
 bnd (bA [(.s []), (.b false), (.b false), (aF 0)] [(0, 1, v3), (1, 1, (.b true)), (2, 1, (.b false)), (3, 1, x35)] h6) fun v7 h7 =>
 bnd (aN [(.s []), (.b false), (.b false), (aF 0)] 1 [(0, 4, v7)] h7) fun v8 h8 =>
 bnd (aW 4 32 v6 v8 h8) fun v9 h9 =>
 bnd (aU x9 h9) fun v10 h10 =>
 bnd (aB 6 v10 h10) fun v11 h11 =>
 bnd (aC 1 v11 v9 h11) fun _ h12 =>
 bnd (aE .add x35 (aF 1) h12) fun v13 h13 =>
      kk11 x2 x3 x6 x9 x33 x34 v13 h13) (
      eE r n x2 x3 x6 x9 h1)
noncomputable def qA (r : RT) (n : Nat) (m : Nat) : TT7 :=
 Nat.rec (motive := fun _ => TT7) (fun _ _ _ _ _ _ _ _ => none) (fun _ ih => xU r n ih) m
noncomputable def bGg (r : RT) (n : Nat) : TT7 := qA r n n
noncomputable def aOy (r : RT) (n : Nat) (x2 x3 x6 x9 x33 x34 x35 : DV) (h0 : Hp) : aH :=
 bGg r n x2 x3 x6 x9 x33 x34 x35 h0
noncomputable def aAn (r : RT) (n : Nat) (x1 x2 x3 x6 x9 : DV) (h0 : Hp) : aH :=
 bnd (bT x1 h0) fun v1 h1 =>
  aOy r n x2 x3 x6 x9 x1 v1 (aF 0) h1
noncomputable def sE (r : RT) (n : Nat) (x1 x2 x3 x6 : DV) (h0 : Hp) : aH :=
 bnd (aB 1 x3 h0) fun v1 h1 =>
 bnd (aA v1 h1) fun v2 h2 =>
 bnd (aB 3 x3 h2) fun v3 h3 =>
 bnd (aA v3 h3) fun v4 h4 =>
 bnd (bT v4 h4) fun v5 h5 =>
 bnd (aB 2 x3 h5) fun v6 h6 =>
 bnd (aA v6 h6) fun v7 h7 =>
 bnd (bA [(.s []), (aF 0), (aF 0), (aF 0), .l0, .l0] [(0, 1, v2), (1, 1, v5), (3, 1, v7)] h7) fun v8 h8 =>
 bnd (bA [(.s []), (aF 0), (aF 0), (aF 0), .l0, .l0, .l0, (.s []), (aF 0)] [(0, 6, v8)] h8) fun v9 h9 =>
 bnd (bN v9 h9) fun v10 h10 =>
  aAn r n x1 x2 x3 x6 v10 h10
noncomputable def rB (r : RT) (n : Nat) (x1 x2 x3 x6 : DV) (h0 : Hp) : aH :=
 bnd (aB 0 x3 h0) fun v1 h1 =>
 bnd (aA v1 h1) fun v2 h2 =>
 bnd (aE .neq v2 (aF 11) h2) fun v3 h3 =>
 bnd (gD v3 false (some (x1, h3)) h3) fun v4 h4 =>
 bnd (gD v3 false (bT v4 h4) h4) fun v5 h5 =>
 bnd (gD v3 false (aE .gtr v5 (aF 8) h5) h5) fun v6 h6 =>
 bnd (aP v3 (.b true) v6 h6) fun v7 h7 =>
 aT v7 (
 bnd (bA [(.s []), (aF 0), (aF 0), (aF 0), .l0, .l0] [] h7) fun v8 h8 =>
 bnd (aC 6 x6 v8 h8) fun _ h9 =>
 bnd (aI 6 x6 h9) fun v10 _ =>
 some (.t [v10, (.s []), (aF 1)], h9)) (
  sE r n x1 x2 x3 x6 h7)
noncomputable def s122 (r : RT) (n : Nat) (x0 x1 x2 : DV) (h0 : Hp) : aH :=
 bnd (bN x0 h0) fun v1 h1 =>
 bnd (bD [(.s []), (aF 0), (aF 0), (aF 0), .l0, .l0] h1) fun v2 h2 =>
  rB r n x1 x2 v1 v2 h2
noncomputable abbrev c122 : Code := cf Tryz.f122
noncomputable abbrev aMg : Code := cR c122
noncomputable abbrev aKq : Code := cR aMg
noncomputable abbrev aDd : Code := cR aKq
noncomputable abbrev aEx : Code := cR aDd
noncomputable abbrev aIi : Code := cR aEx
noncomputable abbrev aMh : Code := cR aIi
noncomputable abbrev dPc : Code := cR aMh
noncomputable abbrev yC : Code := cL aMh
noncomputable abbrev aUc : Code := cR yC
noncomputable abbrev tX : Code := cL aUc
noncomputable abbrev jT : Code := cL tX
noncomputable abbrev bBe : Code := cL yC
noncomputable abbrev aCs : Code := cL aIi
noncomputable abbrev bBf : Code := cL aEx
noncomputable abbrev pL : Code := cL aDd
noncomputable abbrev aGj : Code := cR pL
noncomputable abbrev uH : Code := cL aGj
noncomputable abbrev jW : Code := cL uH
noncomputable abbrev bHk : Code := cL pL
noncomputable abbrev aFn : Code := cL aKq
noncomputable abbrev aJa : Code := cL aMg
noncomputable abbrev aJs : Code := cL c122
noncomputable abbrev r122 : K := aQ CF Tryz.f122
noncomputable def D122 (r : RT) (n : Nat) (c : Code) (X : Nat → K) (k : K) : K := aM CF r 109 n c X r122 k
theorem cSi : D122 r n dPc x0 r122 = (K2 (eB r n) 6 9) :=
 (by kernel_rfl)
theorem bSe (kk9 : cD) (q0 : eM) : D122 r n jT (xs x0 3 (K2 q0 6 9)) (K5 kk9 6 9 94 95 96) = fun (env : aO) (h : Hp) =>
 bnd (aE .lss (env 96) (env 95) h) fun v1 h1 =>
 aT v1 (
 bnd (aJ 3 (env 94) (env 96) h1) fun v2 h2 =>
 bnd (aI 3 v2 h2) fun v3 h3 =>
 bnd (bD [(aF 0), (aF 0), (aF 0)] h3) fun v4 h4 =>
 bnd (aC 3 v4 v3 h4) fun _ h5 =>
 bnd (aI 3 v4 h5) fun v6 h6 =>
 bnd (r 149 [v6] h6) fun v7 h7 =>
 bnd (fV .not v7 h7) fun v8 h8 =>
 aT v8 (
 bnd (bA [(.s []), (aF 0), (aF 0), (aF 0), .l0, .l0] [] h8) fun v9 h9 =>
 bnd (aC 6 (env 6) v9 h9) fun _ h10 =>
 bnd (aI 6 (env 6) h10) fun v11 _ =>
 some (.t [v11, (.s []), (aF 12)], h10)) (
 bnd (aE .add (env 96) (aF 1) h8) fun v12 h12 =>
    kk9 (env 6) (env 9) (env 94) (env 95) v12 h12)) (
      q0 (env 6) (env 9) h1) := by kernel_rfl
theorem bMu (kk9 : cD) : (fun (env : aO) (h : Hp) =>
 bnd (aE .lss (env 96) (env 95) h) fun v1 h1 =>
 aT v1 (
 bnd (aJ 3 (env 94) (env 96) h1) fun v2 h2 =>
 bnd (aI 3 v2 h2) fun v3 h3 =>
 bnd (bD [(aF 0), (aF 0), (aF 0)] h3) fun v4 h4 =>
 bnd (aC 3 v4 v3 h4) fun _ h5 =>
 bnd (aI 3 v4 h5) fun v6 h6 =>
 bnd (r 149 [v6] h6) fun v7 h7 =>
 bnd (fV .not v7 h7) fun v8 h8 =>
 aT v8 (
 bnd (bA [(.s []), (aF 0), (aF 0), (aF 0), .l0, .l0] [] h8) fun v9 h9 =>
 bnd (aC 6 (env 6) v9 h9) fun _ h10 =>
 bnd (aI 6 (env 6) h10) fun v11 _ =>
 some (.t [v11, (.s []), (aF 12)], h10)) (
 bnd (aE .add (env 96) (aF 1) h8) fun v12 h12 =>
    kk9 (env 6) (env 9) (env 94) (env 95) v12 h12)) (
      eB r n (env 6) (env 9) h1)) = (K5 (aCx r n kk9) 6 9 94 95 96) := by kernel_rfl
theorem bVr (kk9 : cD) : D122 r n jT (xs x0 3 (K2 (eB r n) 6 9)) (K5 kk9 6 9 94 95 96) = (K5 (aCx r n kk9) 6 9 94 95 96) :=
 (bSe r n kk9 (eB r n)).trans (bMu r n kk9)
theorem bVe (m : Nat) : aL (fun kk => D122 r n jT (xs x0 3 (K2 (eB r n) 6 9)) kk) m = (K5 (tK r n m) 6 9 94 95 96) := by
 induction m with
 | zero => exact (by kernel_rfl : aL (fun kk => D122 r n jT (xs x0 3 (K2 (eB r n) 6 9)) kk) 0 = (K5 (tK r n 0) 6 9 94 95 96))
 | succ m ih =>
  refine (by kernel_rfl : aL (fun kk => D122 r n jT (xs x0 3 (K2 (eB r n) 6 9)) kk) (m + 1) = D122 r n jT (xs x0 3 (K2 (eB r n) 6 9)) (aL (fun kk => D122 r n jT (xs x0 3 (K2 (eB r n) 6 9)) kk) m)).trans ?_
  rw [ih]
  exact (bVr r n (tK r n m)).trans (by kernel_rfl)
theorem dCg : D122 r n tX (xs x0 3 (K2 (eB r n) 6 9)) (K2 (eB r n) 6 9) = (K5 (cBd r n) 6 9 94 95 96) :=
 (by kernel_rfl : D122 r n tX (xs x0 3 (K2 (eB r n) 6 9)) (K2 (eB r n) 6 9) = aL (fun kk => D122 r n jT (xs x0 3 (K2 (eB r n) 6 9)) kk) n).trans ((bVe r n n).trans (by kernel_rfl))
theorem dBm : D122 r n aUc x0 (K2 (eB r n) 6 9) = (K5 (aVw r n) 6 9 94 95 96) :=
 (by kernel_rfl : D122 r n aUc x0 (K2 (eB r n) 6 9) = D122 r n tX (xs x0 3 (K2 (eB r n) 6 9)) (K2 (eB r n) 6 9)).trans
 ((dCg r n).trans (by kernel_rfl))
theorem cBe : D122 r n aMh x0 r122 = D122 r n yC x0 (K2 (eB r n) 6 9) :=
 congrArg (fun k => D122 r n yC x0 k) (cSi r n)
theorem bQn : D122 r n yC x0 (K2 (eB r n) 6 9) = D122 r n bBe x0 (K5 (aVw r n) 6 9 94 95 96) :=
 congrArg (fun k => D122 r n bBe x0 k) (dBm r n)
theorem cQu : D122 r n aMh x0 r122 = (K2 (xC r n) 6 9) :=
 (cBe r n).trans
 ((bQn r n).trans
 ((by kernel_rfl)))
theorem cLj : D122 r n aIi x0 r122 = D122 r n aCs x0 (K2 (xC r n) 6 9) :=
 congrArg (fun k => D122 r n aCs x0 k) (cQu r n)
theorem bRa (q0 : eM) : D122 r n aCs x0 (K2 q0 6 9) = fun (env : aO) (h : Hp) =>
 bnd (aU (env 9) h) fun v1 h1 =>
 bnd (aB 8 v1 h1) fun v2 h2 =>
 bnd (aA v2 h2) fun v3 h3 =>
 bnd (aE .neq v3 (aF 0) h3) fun v4 h4 =>
 aT v4 (
 bnd (bA [(.s []), (aF 0), (aF 0), (aF 0), .l0, .l0] [] h4) fun v5 h5 =>
 bnd (aU (env 9) h5) fun v6 h6 =>
 bnd (aB 7 v6 h6) fun v7 h7 =>
 bnd (aA v7 h7) fun v8 h8 =>
 bnd (aU (env 9) h8) fun v9 h9 =>
 bnd (aB 8 v9 h9) fun v10 h10 =>
 bnd (aA v10 h10) fun v11 h11 =>
 bnd (aC 6 (env 6) v5 h11) fun v12 h12 =>
 cnd (aZ (aA v10 h12) v11 && (aZ (aA v7 h12) v8 && true)) (
 bnd (aI 6 (env 6) h12) fun v13 _ =>
 some (.t [v13, v8, v11], h12))) (
 bnd (aU (env 9) h4) fun v14 h14 =>
 bnd (aB 0 v14 h14) fun v15 h15 =>
 bnd (aB 4 v15 h15) fun v16 h16 =>
 bnd (aA v16 h16) fun v17 h17 =>
 bnd (bT v17 h17) fun v18 h18 =>
 bnd (aE .gtr v18 (aF 60) h18) fun v19 h19 =>
 aT v19 (
 bnd (bA [(.s []), (aF 0), (aF 0), (aF 0), .l0, .l0] [] h19) fun v20 h20 =>
 bnd (aC 6 (env 6) v20 h20) fun _ h21 =>
 bnd (aI 6 (env 6) h21) fun v22 _ =>
 some (.t [v22, (.s []), (aF 18)], h21)) (
 bnd (aU (env 9) h19) fun v23 h23 =>
 bnd (aB 0 v23 h23) fun v24 h24 =>
 bnd (aB 5 v24 h24) fun v25 h25 =>
 bnd (aA v25 h25) fun v26 h26 =>
 bnd (bT v26 h26) fun v27 h27 =>
 bnd (aE .gtr v27 (aF 400) h27) fun v28 h28 =>
 aT v28 (
 bnd (bA [(.s []), (aF 0), (aF 0), (aF 0), .l0, .l0] [] h28) fun v29 h29 =>
 bnd (aC 6 (env 6) v29 h29) fun _ h30 =>
 bnd (aI 6 (env 6) h30) fun v31 _ =>
 some (.t [v31, (.s []), (aF 12)], h30)) (
     q0 (env 6) (env 9) h28))) := by kernel_rfl
theorem bMf : (fun (env : aO) (h : Hp) =>
 bnd (aU (env 9) h) fun v1 h1 =>
 bnd (aB 8 v1 h1) fun v2 h2 =>
 bnd (aA v2 h2) fun v3 h3 =>
 bnd (aE .neq v3 (aF 0) h3) fun v4 h4 =>
 aT v4 (
 bnd (bA [(.s []), (aF 0), (aF 0), (aF 0), .l0, .l0] [] h4) fun v5 h5 =>
 bnd (aU (env 9) h5) fun v6 h6 =>
 bnd (aB 7 v6 h6) fun v7 h7 =>
 bnd (aA v7 h7) fun v8 h8 =>
 bnd (aU (env 9) h8) fun v9 h9 =>
 bnd (aB 8 v9 h9) fun v10 h10 =>
 bnd (aA v10 h10) fun v11 h11 =>
 bnd (aC 6 (env 6) v5 h11) fun v12 h12 =>
 cnd (aZ (aA v10 h12) v11 && (aZ (aA v7 h12) v8 && true)) (
 bnd (aI 6 (env 6) h12) fun v13 _ =>
 some (.t [v13, v8, v11], h12))) (
 bnd (aU (env 9) h4) fun v14 h14 =>
 bnd (aB 0 v14 h14) fun v15 h15 =>
 bnd (aB 4 v15 h15) fun v16 h16 =>
 bnd (aA v16 h16) fun v17 h17 =>
 bnd (bT v17 h17) fun v18 h18 =>
 bnd (aE .gtr v18 (aF 60) h18) fun v19 h19 =>
 aT v19 (
 bnd (bA [(.s []), (aF 0), (aF 0), (aF 0), .l0, .l0] [] h19) fun v20 h20 =>
 bnd (aC 6 (env 6) v20 h20) fun _ h21 =>
 bnd (aI 6 (env 6) h21) fun v22 _ =>
 some (.t [v22, (.s []), (aF 18)], h21)) (
 bnd (aU (env 9) h19) fun v23 h23 =>
 bnd (aB 0 v23 h23) fun v24 h24 =>
 bnd (aB 5 v24 h24) fun v25 h25 =>
 bnd (aA v25 h25) fun v26 h26 =>
 bnd (bT v26 h26) fun v27 h27 =>
 bnd (aE .gtr v27 (aF 400) h27) fun v28 h28 =>
 aT v28 (
 bnd (bA [(.s []), (aF 0), (aF 0), (aF 0), .l0, .l0] [] h28) fun v29 h29 =>
 bnd (aC 6 (env 6) v29 h29) fun _ h30 =>
 bnd (aI 6 (env 6) h30) fun v31 _ =>
 some (.t [v31, (.s []), (aF 12)], h30)) (
     xC r n (env 6) (env 9) h28)))) = (K2 (aKa r n) 6 9) := by kernel_rfl
theorem cNy : D122 r n aIi x0 r122 = (K2 (aKa r n) 6 9) :=
 (cLj r n).trans
 ((bRa r n (xC r n)).trans (bMf r n))
theorem cIs : D122 r n aEx x0 r122 = D122 r n bBf x0 (K2 (aKa r n) 6 9) :=
 congrArg (fun k => D122 r n bBf x0 k) (cNy r n)
theorem cVf : D122 r n aEx x0 r122 = (K4 (eE r n) 2 3 6 9) :=
 (cIs r n).trans
 ((by kernel_rfl))
theorem bMz (kk11 : TT7) (q0 : dI) : D122 r n jW (xs x0 0 (K4 q0 2 3 6 9)) (K7 kk11 2 3 6 9 33 34 35) = fun (env : aO) (h : Hp) =>
 bnd (aE .lss (env 35) (env 34) h) fun v1 h1 =>
 aT v1 (
 bnd (aJ 1 (env 33) (env 35) h1) fun v2 h2 =>
 bnd (aA v2 h2) fun v3 h3 =>
 bnd (aU (env 9) h3) fun v4 h4 =>
 bnd (aB 6 v4 h4) fun v5 h5 =>
 bnd (aA v5 h5) fun v6 h6 =>
 bnd (bA [(.s []), (.b false), (.b false), (aF 0)] [(0, 1, v3), (1, 1, (.b true)), (2, 1, (.b false)), (3, 1, (env 35))] h6) fun v7 h7 =>
 bnd (aN [(.s []), (.b false), (.b false), (aF 0)] 1 [(0, 4, v7)] h7) fun v8 h8 =>
 bnd (aW 4 32 v6 v8 h8) fun v9 h9 =>
 bnd (aU (env 9) h9) fun v10 h10 =>
 bnd (aB 6 v10 h10) fun v11 h11 =>
 bnd (aC 1 v11 v9 h11) fun _ h12 =>
 bnd (aE .add (env 35) (aF 1) h12) fun v13 h13 =>
      kk11 (env 2) (env 3) (env 6) (env 9) (env 33) (env 34) v13 h13) (
      q0 (env 2) (env 3) (env 6) (env 9) h1) := by kernel_rfl
theorem aTy (kk11 : TT7) : (fun (env : aO) (h : Hp) =>
 bnd (aE .lss (env 35) (env 34) h) fun v1 h1 =>
 aT v1 (
 bnd (aJ 1 (env 33) (env 35) h1) fun v2 h2 =>
 bnd (aA v2 h2) fun v3 h3 =>
 bnd (aU (env 9) h3) fun v4 h4 =>
 bnd (aB 6 v4 h4) fun v5 h5 =>
 bnd (aA v5 h5) fun v6 h6 =>
 bnd (bA [(.s []), (.b false), (.b false), (aF 0)] [(0, 1, v3), (1, 1, (.b true)), (2, 1, (.b false)), (3, 1, (env 35))] h6) fun v7 h7 =>
 bnd (aN [(.s []), (.b false), (.b false), (aF 0)] 1 [(0, 4, v7)] h7) fun v8 h8 =>
 bnd (aW 4 32 v6 v8 h8) fun v9 h9 =>
 bnd (aU (env 9) h9) fun v10 h10 =>
 bnd (aB 6 v10 h10) fun v11 h11 =>
 bnd (aC 1 v11 v9 h11) fun _ h12 =>
 bnd (aE .add (env 35) (aF 1) h12) fun v13 h13 =>
      kk11 (env 2) (env 3) (env 6) (env 9) (env 33) (env 34) v13 h13) (
      eE r n (env 2) (env 3) (env 6) (env 9) h1)) = (K7 (xU r n kk11) 2 3 6 9 33 34 35) := by kernel_rfl
theorem bKi (kk11 : TT7) : D122 r n jW (xs x0 0 (K4 (eE r n) 2 3 6 9)) (K7 kk11 2 3 6 9 33 34 35) = (K7 (xU r n kk11) 2 3 6 9 33 34 35) :=
 (bMz r n kk11 (eE r n)).trans (aTy r n kk11)
theorem bOn (m : Nat) : aL (fun kk => D122 r n jW (xs x0 0 (K4 (eE r n) 2 3 6 9)) kk) m = (K7 (qA r n m) 2 3 6 9 33 34 35) := by
 induction m with
 | zero => exact (by kernel_rfl : aL (fun kk => D122 r n jW (xs x0 0 (K4 (eE r n) 2 3 6 9)) kk) 0 = (K7 (qA r n 0) 2 3 6 9 33 34 35))
 | succ m ih =>
  refine (by kernel_rfl : aL (fun kk => D122 r n jW (xs x0 0 (K4 (eE r n) 2 3 6 9)) kk) (m + 1) = D122 r n jW (xs x0 0 (K4 (eE r n) 2 3 6 9)) (aL (fun kk => D122 r n jW (xs x0 0 (K4 (eE r n) 2 3 6 9)) kk) m)).trans ?_
  rw [ih]
  exact (bKi r n (qA r n m)).trans (by kernel_rfl)
theorem cEw : D122 r n uH (xs x0 0 (K4 (eE r n) 2 3 6 9)) (K4 (eE r n) 2 3 6 9) = (K7 (bGg r n) 2 3 6 9 33 34 35) :=
 (by kernel_rfl : D122 r n uH (xs x0 0 (K4 (eE r n) 2 3 6 9)) (K4 (eE r n) 2 3 6 9) = aL (fun kk => D122 r n jW (xs x0 0 (K4 (eE r n) 2 3 6 9)) kk) n).trans ((bOn r n n).trans (by kernel_rfl))
theorem bPw : D122 r n aGj x0 (K4 (eE r n) 2 3 6 9) = (K7 (aOy r n) 2 3 6 9 33 34 35) :=
 (by kernel_rfl : D122 r n aGj x0 (K4 (eE r n) 2 3 6 9) = D122 r n uH (xs x0 0 (K4 (eE r n) 2 3 6 9)) (K4 (eE r n) 2 3 6 9)).trans
 ((cEw r n).trans (by kernel_rfl))
theorem bPd : D122 r n aDd x0 r122 = D122 r n pL x0 (K4 (eE r n) 2 3 6 9) :=
 congrArg (fun k => D122 r n pL x0 k) (cVf r n)
theorem cHx : D122 r n pL x0 (K4 (eE r n) 2 3 6 9) = D122 r n bHk x0 (K7 (aOy r n) 2 3 6 9 33 34 35) :=
 congrArg (fun k => D122 r n bHk x0 k) (bPw r n)
theorem dBb : D122 r n aDd x0 r122 = (K5 (aAn r n) 1 2 3 6 9) :=
 (bPd r n).trans
 ((cHx r n).trans
 ((by kernel_rfl)))
theorem bJm : D122 r n aKq x0 r122 = D122 r n aFn x0 (K5 (aAn r n) 1 2 3 6 9) :=
 congrArg (fun k => D122 r n aFn x0 k) (dBb r n)
theorem bMc (q0 : cD) : D122 r n aFn x0 (K5 q0 1 2 3 6 9) = fun (env : aO) (h : Hp) =>
 bnd (aB 1 (env 3) h) fun v1 h1 =>
 bnd (aA v1 h1) fun v2 h2 =>
 bnd (aB 3 (env 3) h2) fun v3 h3 =>
 bnd (aA v3 h3) fun v4 h4 =>
 bnd (bT v4 h4) fun v5 h5 =>
 bnd (aB 2 (env 3) h5) fun v6 h6 =>
 bnd (aA v6 h6) fun v7 h7 =>
 bnd (bA [(.s []), (aF 0), (aF 0), (aF 0), .l0, .l0] [(0, 1, v2), (1, 1, v5), (3, 1, v7)] h7) fun v8 h8 =>
 bnd (bA [(.s []), (aF 0), (aF 0), (aF 0), .l0, .l0, .l0, (.s []), (aF 0)] [(0, 6, v8)] h8) fun v9 h9 =>
 bnd (bN v9 h9) fun v10 h10 =>
  q0 (env 1) (env 2) (env 3) (env 6) v10 h10 := by kernel_rfl
theorem aUg : (fun (env : aO) (h : Hp) =>
 bnd (aB 1 (env 3) h) fun v1 h1 =>
 bnd (aA v1 h1) fun v2 h2 =>
 bnd (aB 3 (env 3) h2) fun v3 h3 =>
 bnd (aA v3 h3) fun v4 h4 =>
 bnd (bT v4 h4) fun v5 h5 =>
 bnd (aB 2 (env 3) h5) fun v6 h6 =>
 bnd (aA v6 h6) fun v7 h7 =>
 bnd (bA [(.s []), (aF 0), (aF 0), (aF 0), .l0, .l0] [(0, 1, v2), (1, 1, v5), (3, 1, v7)] h7) fun v8 h8 =>
 bnd (bA [(.s []), (aF 0), (aF 0), (aF 0), .l0, .l0, .l0, (.s []), (aF 0)] [(0, 6, v8)] h8) fun v9 h9 =>
 bnd (bN v9 h9) fun v10 h10 =>
  aAn r n (env 1) (env 2) (env 3) (env 6) v10 h10) = (K4 (sE r n) 1 2 3 6) := by kernel_rfl
theorem cWe : D122 r n aKq x0 r122 = (K4 (sE r n) 1 2 3 6) :=
 (bJm r n).trans
 ((bMc r n (aAn r n)).trans (aUg r n))
theorem bNg : D122 r n aMg x0 r122 = D122 r n aJa x0 (K4 (sE r n) 1 2 3 6) :=
 congrArg (fun k => D122 r n aJa x0 k) (cWe r n)
theorem bKz (q0 : dI) : D122 r n aJa x0 (K4 q0 1 2 3 6) = fun (env : aO) (h : Hp) =>
 bnd (aB 0 (env 3) h) fun v1 h1 =>
 bnd (aA v1 h1) fun v2 h2 =>
 bnd (aE .neq v2 (aF 11) h2) fun v3 h3 =>
 bnd (gD v3 false (some ((env 1), h3)) h3) fun v4 h4 =>
 bnd (gD v3 false (bT v4 h4) h4) fun v5 h5 =>
 bnd (gD v3 false (aE .gtr v5 (aF 8) h5) h5) fun v6 h6 =>
 bnd (aP v3 (.b true) v6 h6) fun v7 h7 =>
 aT v7 (
 bnd (bA [(.s []), (aF 0), (aF 0), (aF 0), .l0, .l0] [] h7) fun v8 h8 =>
 bnd (aC 6 (env 6) v8 h8) fun _ h9 =>
 bnd (aI 6 (env 6) h9) fun v10 _ =>
 some (.t [v10, (.s []), (aF 1)], h9)) (
   q0 (env 1) (env 2) (env 3) (env 6) h7) := by kernel_rfl
theorem aYz : (fun (env : aO) (h : Hp) =>
 bnd (aB 0 (env 3) h) fun v1 h1 =>
 bnd (aA v1 h1) fun v2 h2 =>
 bnd (aE .neq v2 (aF 11) h2) fun v3 h3 =>
 bnd (gD v3 false (some ((env 1), h3)) h3) fun v4 h4 =>
 bnd (gD v3 false (bT v4 h4) h4) fun v5 h5 =>
 bnd (gD v3 false (aE .gtr v5 (aF 8) h5) h5) fun v6 h6 =>
 bnd (aP v3 (.b true) v6 h6) fun v7 h7 =>
 aT v7 (
 bnd (bA [(.s []), (aF 0), (aF 0), (aF 0), .l0, .l0] [] h7) fun v8 h8 =>
 bnd (aC 6 (env 6) v8 h8) fun _ h9 =>
 bnd (aI 6 (env 6) h9) fun v10 _ =>
 some (.t [v10, (.s []), (aF 1)], h9)) (
   sE r n (env 1) (env 2) (env 3) (env 6) h7)) = (K4 (rB r n) 1 2 3 6) := by kernel_rfl
theorem cPs : D122 r n aMg x0 r122 = (K4 (rB r n) 1 2 3 6) :=
 (bNg r n).trans
 ((bKz r n (sE r n)).trans (aYz r n))
theorem cYn : D122 r n c122 x0 r122 = D122 r n aJs x0 (K4 (rB r n) 1 2 3 6) :=
 congrArg (fun k => D122 r n aJs x0 k) (cPs r n)
theorem dAn (q0 : dI) : D122 r n aJs x0 (K4 q0 1 2 3 6) = fun (env : aO) (h : Hp) =>
 bnd (bN (env 0) h) fun v1 h1 =>
 bnd (bD [(.s []), (aF 0), (aF 0), (aF 0), .l0, .l0] h1) fun v2 h2 =>
  q0 (env 1) (env 2) v1 v2 h2 := by kernel_rfl
theorem bSd : (fun (env : aO) (h : Hp) =>
 bnd (bN (env 0) h) fun v1 h1 =>
 bnd (bD [(.s []), (aF 0), (aF 0), (aF 0), .l0, .l0] h1) fun v2 h2 =>
  rB r n (env 1) (env 2) v1 v2 h2) = (K3 (s122 r n) 0 1 2) := by kernel_rfl
theorem dRi : D122 r n c122 x0 r122 = (K3 (s122 r n) 0 1 2) :=
 (cYn r n).trans
 ((dAn r n (rB r n)).trans (bSd r n))
theorem dQg : aG CF r n 122 args h = s122 r n (aR args 0) (aR args 1) (aR args 2) h :=
 (by kernel_rfl : aG CF r n 122 args h = D122 r n c122 x0 r122 (aK args) h).trans ((congrFun (congrFun (dRi r n) (aK args)) h).trans (by kernel_rfl))
noncomputable def s123 (r : RT) (n : Nat) (x0 x1 x2 : DV) (h0 : Hp) : aH :=
 bnd (bN x2 h0) fun v1 h1 =>
 bnd (r 109 [x0, x1] h1) fun v2 h2 =>
 bnd (fV .not v2 h2) fun v3 h3 =>
 aT v3 (
 some (.t [(aF 0), (aF 24)], h3)) (
 bnd (aI 6 v1 h3) fun v4 h4 =>
 bnd (r 92 [x0, x1] h4) fun v5 h5 =>
 cnd (aZ (aI 6 v1 h5) v4 && true) (
 bnd (r 65 [v4, v5] h5) fun v6 h6 =>
 bnd (aE .neq v6 (aF 0) h6) fun v7 h7 =>
 aT v7 (
 some (.t [(aF 0), v6], h7)) (
 bnd (aB 0 v1 h7) fun v8 h8 =>
 bnd (aA v8 h8) fun v9 h9 =>
 bnd (r 11 [x0, v9] h9) fun v10 h10 =>
 bnd (aD 0 v10 h10) fun v11 h11 =>
 bnd (aD 1 v10 h11) fun v12 h12 =>
 bnd (aE .neq v12 (aF 0) h12) fun v13 h13 =>
 aT v13 (
 some (.t [(aF 0), v12], h13)) (
 bnd (aB 4 v1 h13) fun v14 h14 =>
 bnd (aA v14 h14) fun v15 h15 =>
 bnd (bA [(aF 0), (.s []), (aF 0), .l0] [(0, 1, (aF 4)), (3, 1, v15)] h15) fun v16 h16 =>
 bnd (r 66 [x0, v16] h16) fun v17 h17 =>
 bnd (aD 0 v17 h17) fun v18 h18 =>
 bnd (aD 1 v17 h18) fun v19 h19 =>
 bnd (aE .neq v19 (aF 0) h19) fun v20 h20 =>
 aT v20 (
 some (.t [(aF 0), v19], h20)) (
 bnd (aB 5 v1 h20) fun v21 h21 =>
 bnd (aA v21 h21) fun v22 h22 =>
 bnd (r 161 [v22] h22) fun v23 h23 =>
 bnd (aD 0 v23 h23) fun v24 h24 =>
 bnd (aD 1 v23 h24) fun v25 h25 =>
 bnd (r 162 [x0, v24] h25) fun v26 h26 =>
 bnd (aD 0 v26 h26) fun v27 h27 =>
 bnd (aD 1 v26 h27) fun v28 h28 =>
 bnd (aE .neq v28 (aF 0) h28) fun v29 h29 =>
 aT v29 (
 some (.t [(aF 0), v28], h29)) (
 bnd (r 15 [x0, (aF 14)] (resv 1 h29)) fun v30 h30 =>
 bnd (aB 1 v1 h30) fun v31 h31 =>
 bnd (aA v31 h31) fun v32 h32 =>
 cnd (aZ (aA v31 (resv 1 h29)) v32 && true) (
 bnd (r 46 [v32] h32) fun v33 h33 =>
 bnd (aB 2 v1 h33) fun v34 h34 =>
 bnd (aA v34 h34) fun v35 h35 =>
 cnd (aZ (aA v34 h30) v35 && (aZ (aA v34 (resv 1 h29)) v35 && true)) (
 bnd (r 46 [v35] h35) fun v36 h36 =>
 bnd (aB 3 v1 h36) fun v37 h37 =>
 bnd (aA v37 h37) fun v38 h38 =>
 cnd (aZ (aA v37 h33) v38 && (aZ (aA v37 h30) v38 && (aZ (aA v37 (resv 1 h29)) v38 && true))) (
 bnd (r 46 [v38] h38) fun v39 h39 =>
 bnd (aS (bB 0 h29.next) [(aF 0), (aF 0), (aF 0), (aF 0), (aF 0), (aF 0), (aF 0)] 7 [(0, 1, v11), (1, 1, v33), (2, 1, v36), (3, 1, v39), (4, 1, v18), (5, 1, v27), (6, 1, x1)] h39) fun v40 h40 =>
 bnd (r 61 [x0, v30, (aF 0), v40] h40) fun v41 h41 =>
 bnd (aD 0 v41 h41) fun v42 h42 =>
 bnd (aD 1 v41 h42) fun v43 h43 =>
 some (.t [v42, v43], h43))))))))))
noncomputable abbrev c123 : Code := cf Tryz.f123
noncomputable abbrev r123 : K := aQ CF Tryz.f123
noncomputable def D123 (r : RT) (n : Nat) (c : Code) (X : Nat → K) (k : K) : K := aM CF r 83 n c X r123 k
theorem dRq : D123 r n c123 x0 r123 = (K3 (s123 r n) 0 1 2) :=
 (by kernel_rfl)
theorem dGn : aG CF r n 123 args h = s123 r n (aR args 0) (aR args 1) (aR args 2) h :=
 (by kernel_rfl : aG CF r n 123 args h = D123 r n c123 x0 r123 (aK args) h).trans ((congrFun (congrFun (dRq r n) (aK args)) h).trans (by kernel_rfl))
noncomputable def fH (r : RT) (n : Nat) (x0 x1 x3 : DV) (h0 : Hp) : aH :=
 bnd (r 53 [x0, x1, (aF 4)] h0) fun v1 h1 =>
 bnd (r 48 [x0, x3, v1] h1) fun v2 h2 =>
 bnd (aD 0 v2 h2) fun v3 h3 =>
 bnd (aD 1 v2 h3) fun v4 h4 =>
 bnd (aE .neq v4 (aF 0) h4) fun v5 h5 =>
 aT v5 (
 some (v4, h5)) (
 bnd (aU x0 h5) fun v6 h6 =>
 bnd (aB 0 v6 h6) fun v7 h7 =>
 bnd (aA v7 h7) fun v8 h8 =>
 bnd (aXh [v8, x1, (aF 4), v3] h8) fun v9 h9 =>
 some (v9, h9))
noncomputable def wC (r : RT) (n : Nat) (kk5 : dC) (x0 x1 x2 x3 x9 x10 : DV) (h0 : Hp) : aH :=
 bnd (aE .gtr x10 (aF 0) h0) fun v1 h1 =>
 bnd (gD v1 true (some (x0, h1)) h1) fun v2 h2 =>
 bnd (gD v1 true (aU v2 h2) h2) fun v3 h3 =>
 bnd (gD v1 true (aB 0 v3 h3) h3) fun v4 h4 =>
 bnd (gD v1 true (aA v4 h4) h4) fun v5 h5 =>
 bnd (gD v1 true (some (x9, h5)) h5) fun v6 h6 =>
 bnd (gD v1 true (isG [v5, v6] h6) h6) fun v7 h7 =>
 bnd (aP v1 v7 (.b false) h7) fun v8 h8 =>
 aT v8 (
 bnd (r 53 [x0, x9, (aF 0)] h8) fun v9 h9 =>
 bnd (r 53 [x0, v9, (aF 0)] h9) fun v10 h10 =>
 bnd (aE .eql v10 x2 h10) fun v11 h11 =>
 aT v11 (
 bnd (aU x0 h11) fun v12 h12 =>
 bnd (aB 0 v12 h12) fun v13 h13 =>
 bnd (aA v13 h13) fun v14 h14 =>
 bnd (aXh [v14, x9, (aF 0), x3] h14) fun v15 h15 =>
 some (v15, h15)) (
 bnd (r 53 [x0, x9, (aF 1)] h11) fun v16 h16 =>
 bnd (aE .sub x10 (aF 1) h16) fun v17 h17 =>
    kk5 x0 x1 x2 x3 v16 v17 h17)) (
      fH r n x0 x1 x3 h8)
noncomputable def nB (r : RT) (n : Nat) (m : Nat) : dC :=
 Nat.rec (motive := fun _ => dC) (fun _ _ _ _ _ _ _ => none) (fun _ ih => wC r n ih) m
noncomputable def aUs (r : RT) (n : Nat) : dC := nB r n n
noncomputable def aOh (r : RT) (n : Nat) (x0 x1 x2 x3 x9 x10 : DV) (h0 : Hp) : aH :=
 aUs r n x0 x1 x2 x3 x9 x10 h0
noncomputable def aJf (r : RT) (n : Nat) (x0 x1 x2 x3 x9 : DV) (h0 : Hp) : aH :=
 bnd (aU x0 h0) fun v1 h1 =>
 bnd (aB 0 v1 h1) fun v2 h2 =>
 bnd (aA v2 h2) fun v3 h3 =>
 bnd (sI [v3] h3) fun v4 h4 =>
  aOh r n x0 x1 x2 x3 x9 v4 h4
noncomputable def aDk (r : RT) (n : Nat) (x0 x1 x2 x3 : DV) (h0 : Hp) : aH :=
 bnd (r 53 [x0, x1, (aF 4)] h0) fun v1 h1 =>
  aJf r n x0 x1 x2 x3 v1 h1
noncomputable def s124 (r : RT) (n : Nat) (x0 x1 x2 x3 : DV) (h0 : Hp) : aH :=
 aDk r n x0 x1 x2 x3 h0
noncomputable abbrev c124 : Code := cf Tryz.f124
noncomputable abbrev aHo : Code := cR c124
noncomputable abbrev aOb : Code := cR aHo
noncomputable abbrev dOf : Code := cR aOb
noncomputable abbrev aAh : Code := cL aOb
noncomputable abbrev aWy : Code := cR aAh
noncomputable abbrev aNc : Code := cL aWy
noncomputable abbrev oF : Code := cL aNc
noncomputable abbrev cDm : Code := cL aAh
noncomputable abbrev bSg : Code := cL aHo
noncomputable abbrev bHw : Code := cL c124
noncomputable abbrev r124 : K := aQ CF Tryz.f124
noncomputable def D124 (r : RT) (n : Nat) (c : Code) (X : Nat → K) (k : K) : K := aM CF r 69 n c X r124 k
theorem cMy : D124 r n dOf x0 r124 = (K3 (fH r n) 0 1 3) :=
 (by kernel_rfl)
theorem cAr (kk5 : dC) : D124 r n oF (xs x0 0 (K3 (fH r n) 0 1 3)) (K6 kk5 0 1 2 3 9 10) = (K6 (wC r n kk5) 0 1 2 3 9 10) :=
 (by kernel_rfl)
theorem cIy (m : Nat) : aL (fun kk => D124 r n oF (xs x0 0 (K3 (fH r n) 0 1 3)) kk) m = (K6 (nB r n m) 0 1 2 3 9 10) := by
 induction m with
 | zero => exact (by kernel_rfl : aL (fun kk => D124 r n oF (xs x0 0 (K3 (fH r n) 0 1 3)) kk) 0 = (K6 (nB r n 0) 0 1 2 3 9 10))
 | succ m ih =>
  refine (by kernel_rfl : aL (fun kk => D124 r n oF (xs x0 0 (K3 (fH r n) 0 1 3)) kk) (m + 1) = D124 r n oF (xs x0 0 (K3 (fH r n) 0 1 3)) (aL (fun kk => D124 r n oF (xs x0 0 (K3 (fH r n) 0 1 3)) kk) m)).trans ?_
  rw [ih]
  exact (cAr r n (nB r n m)).trans (by kernel_rfl)
theorem cUg : D124 r n aNc (xs x0 0 (K3 (fH r n) 0 1 3)) (K3 (fH r n) 0 1 3) = (K6 (aUs r n) 0 1 2 3 9 10) :=
 (by kernel_rfl : D124 r n aNc (xs x0 0 (K3 (fH r n) 0 1 3)) (K3 (fH r n) 0 1 3) = aL (fun kk => D124 r n oF (xs x0 0 (K3 (fH r n) 0 1 3)) kk) n).trans ((cIy r n n).trans (by kernel_rfl))
theorem cOg : D124 r n aWy x0 (K3 (fH r n) 0 1 3) = (K6 (aOh r n) 0 1 2 3 9 10) :=
 (by kernel_rfl : D124 r n aWy x0 (K3 (fH r n) 0 1 3) = D124 r n aNc (xs x0 0 (K3 (fH r n) 0 1 3)) (K3 (fH r n) 0 1 3)).trans
 ((cUg r n).trans (by kernel_rfl))
theorem bQg : D124 r n aOb x0 r124 = D124 r n aAh x0 (K3 (fH r n) 0 1 3) :=
 congrArg (fun k => D124 r n aAh x0 k) (cMy r n)
theorem cEk : D124 r n aAh x0 (K3 (fH r n) 0 1 3) = D124 r n cDm x0 (K6 (aOh r n) 0 1 2 3 9 10) :=
 congrArg (fun k => D124 r n cDm x0 k) (cOg r n)
theorem dBi : D124 r n aOb x0 r124 = (K5 (aJf r n) 0 1 2 3 9) :=
 (bQg r n).trans
 ((cEk r n).trans
 ((by kernel_rfl)))
theorem bVn : D124 r n aHo x0 r124 = D124 r n bSg x0 (K5 (aJf r n) 0 1 2 3 9) :=
 congrArg (fun k => D124 r n bSg x0 k) (dBi r n)
theorem cPr : D124 r n aHo x0 r124 = (K4 (aDk r n) 0 1 2 3) :=
 (bVn r n).trans
 ((by kernel_rfl))
theorem dDz : D124 r n c124 x0 r124 = D124 r n bHw x0 (K4 (aDk r n) 0 1 2 3) :=
 congrArg (fun k => D124 r n bHw x0 k) (cPr r n)
theorem dWy : D124 r n c124 x0 r124 = (K4 (s124 r n) 0 1 2 3) :=
 (dDz r n).trans
 ((by kernel_rfl))
theorem bPq : aG CF r n 124 args h = s124 r n (aR args 0) (aR args 1) (aR args 2) (aR args 3) h :=
 (by kernel_rfl : aG CF r n 124 args h = D124 r n c124 x0 r124 (aK args) h).trans ((congrFun (congrFun (dWy r n) (aK args)) h).trans (by kernel_rfl))
noncomputable def fB (r : RT) (n : Nat) (h0 : Hp) : aH :=
 some ((.i .i64 (Int.negSucc 0)), h0)
noncomputable def bDv (r : RT) (n : Nat) (kk4 : dI) (x0 x1 x7 x8 : DV) (h0 : Hp) : aH :=
 bnd (aE .lss x8 x7 h0) fun v1 h1 =>
 aT v1 (
 bnd (aJ 1 x0 x8 h1) fun v2 h2 =>
 bnd (aA v2 h2) fun v3 h3 =>
 bnd (dD CF r x1 [v3] h3) fun v4 h4 =>
 aT v4 (
 some (x8, h4)) (
 bnd (aE .add x8 (aF 1) h4) fun v5 h5 =>
    kk4 x0 x1 x7 v5 h5)) (
      fB r n h1)
noncomputable def uM (r : RT) (n : Nat) (m : Nat) : dI :=
 Nat.rec (motive := fun _ => dI) (fun _ _ _ _ _ => none) (fun _ ih => bDv r n ih) m
noncomputable def cCu (r : RT) (n : Nat) : dI := uM r n n
noncomputable def aXv (r : RT) (n : Nat) (x0 x1 x7 x8 : DV) (h0 : Hp) : aH :=
 cCu r n x0 x1 x7 x8 h0
noncomputable def aUr (r : RT) (n : Nat) (x0 x1 : DV) (h0 : Hp) : aH :=
 bnd (bT x0 h0) fun v1 h1 =>
  aXv r n x0 x1 v1 (aF 0) h1
noncomputable def s135 (r : RT) (n : Nat) (x0 x1 : DV) (h0 : Hp) : aH :=
 aUr r n x0 x1 h0
noncomputable abbrev c135 : Code := cf Tryz.f135
noncomputable abbrev aKd : Code := cR c135
noncomputable abbrev dJa : Code := cR aKd
noncomputable abbrev aAx : Code := cL aKd
noncomputable abbrev aVv : Code := cR aAx
noncomputable abbrev aFq : Code := cL aVv
noncomputable abbrev nW : Code := cL aFq
noncomputable abbrev bUn : Code := cL aAx
noncomputable abbrev cEt : Code := cL c135
noncomputable abbrev r135 : K := aQ CF Tryz.f135
noncomputable def D135 (r : RT) (n : Nat) (c : Code) (X : Nat → K) (k : K) : K := aM CF r 19 n c X r135 k
theorem cXp : D135 r n dJa x0 r135 = (K0 (fB r n)) :=
 (by kernel_rfl)
theorem bOv (kk4 : dI) : D135 r n nW (xs x0 0 (K0 (fB r n))) (K4 kk4 0 1 7 8) = (K4 (bDv r n kk4) 0 1 7 8) :=
 (by kernel_rfl)
theorem bQi (m : Nat) : aL (fun kk => D135 r n nW (xs x0 0 (K0 (fB r n))) kk) m = (K4 (uM r n m) 0 1 7 8) := by
 induction m with
 | zero => exact (by kernel_rfl : aL (fun kk => D135 r n nW (xs x0 0 (K0 (fB r n))) kk) 0 = (K4 (uM r n 0) 0 1 7 8))
 | succ m ih =>
  refine (by kernel_rfl : aL (fun kk => D135 r n nW (xs x0 0 (K0 (fB r n))) kk) (m + 1) = D135 r n nW (xs x0 0 (K0 (fB r n))) (aL (fun kk => D135 r n nW (xs x0 0 (K0 (fB r n))) kk) m)).trans ?_
  rw [ih]
  exact (bOv r n (uM r n m)).trans (by kernel_rfl)
theorem dBr : D135 r n aFq (xs x0 0 (K0 (fB r n))) (K0 (fB r n)) = (K4 (cCu r n) 0 1 7 8) :=
 (by kernel_rfl : D135 r n aFq (xs x0 0 (K0 (fB r n))) (K0 (fB r n)) = aL (fun kk => D135 r n nW (xs x0 0 (K0 (fB r n))) kk) n).trans ((bQi r n n).trans (by kernel_rfl))
theorem dAe : D135 r n aVv x0 (K0 (fB r n)) = (K4 (aXv r n) 0 1 7 8) :=
 (by kernel_rfl : D135 r n aVv x0 (K0 (fB r n)) = D135 r n aFq (xs x0 0 (K0 (fB r n))) (K0 (fB r n))).trans
 ((dBr r n).trans (by kernel_rfl))
theorem cDu : D135 r n aKd x0 r135 = D135 r n aAx x0 (K0 (fB r n)) :=
 congrArg (fun k => D135 r n aAx x0 k) (cXp r n)
theorem cFe : D135 r n aAx x0 (K0 (fB r n)) = D135 r n bUn x0 (K4 (aXv r n) 0 1 7 8) :=
 congrArg (fun k => D135 r n bUn x0 k) (dAe r n)
theorem dAz : D135 r n aKd x0 r135 = (K2 (aUr r n) 0 1) :=
 (cDu r n).trans
 ((cFe r n).trans
 ((by kernel_rfl)))
theorem dFp : D135 r n c135 x0 r135 = D135 r n cEt x0 (K2 (aUr r n) 0 1) :=
 congrArg (fun k => D135 r n cEt x0 k) (dAz r n)
theorem dWf : D135 r n c135 x0 r135 = (K2 (s135 r n) 0 1) :=
 (dFp r n).trans
 ((by kernel_rfl))
theorem dPh : aG CF r n 135 args h = s135 r n (aR args 0) (aR args 1) h :=
 (by kernel_rfl : aG CF r n 135 args h = D135 r n c135 x0 r135 (aK args) h).trans ((congrFun (congrFun (dWf r n) (aK args)) h).trans (by kernel_rfl))
noncomputable def s145 (r : RT) (n : Nat) (x0 x1 x2 : DV) (h0 : Hp) : aH :=
 bnd (aE .geq x0 x1 h0) fun v1 h1 =>
 bnd (gD v1 true (some (x0, h1)) h1) fun v2 h2 =>
 bnd (gD v1 true (some (x2, h2)) h2) fun v3 h3 =>
 bnd (gD v1 true (aE .leq v2 v3 h3) h3) fun v4 h4 =>
 bnd (aP v1 v4 (.b false) h4) fun v5 h5 =>
 some (v5, h5)
noncomputable abbrev c145 : Code := cf Tryz.f145
noncomputable abbrev r145 : K := aQ CF Tryz.f145
noncomputable def D145 (r : RT) (n : Nat) (c : Code) (X : Nat → K) (k : K) : K := aM CF r 15 n c X r145 k
theorem dVe : D145 r n c145 x0 r145 = (K3 (s145 r n) 0 1 2) :=
 (by kernel_rfl)
theorem dKv : aG CF r n 145 args h = s145 r n (aR args 0) (aR args 1) (aR args 2) h :=
 (by kernel_rfl : aG CF r n 145 args h = D145 r n c145 x0 r145 (aK args) h).trans ((congrFun (congrFun (dVe r n) (aK args)) h).trans (by kernel_rfl))
noncomputable def s146 (r : RT) (n : Nat) (x0 x1 : DV) (h0 : Hp) : aH :=
 bnd (r 187 [x0, x1] h0) fun v1 h1 =>
 bnd (aE .geq v1 (aF 0) h1) fun v2 h2 =>
 some (v2, h2)
noncomputable abbrev c146 : Code := cf Tryz.f146
noncomputable abbrev r146 : K := aQ CF Tryz.f146
noncomputable def D146 (r : RT) (n : Nat) (c : Code) (X : Nat → K) (k : K) : K := aM CF r 9 n c X r146 k
theorem dRp : D146 r n c146 x0 r146 = (K2 (s146 r n) 0 1) :=
 (by kernel_rfl)
theorem dLt : aG CF r n 146 args h = s146 r n (aR args 0) (aR args 1) h :=
 (by kernel_rfl : aG CF r n 146 args h = D146 r n c146 x0 r146 (aK args) h).trans ((congrFun (congrFun (dRp r n) (aK args)) h).trans (by kernel_rfl))
noncomputable def s147 (r : RT) (n : Nat) (x0 : DV) (h0 : Hp) : aH :=
 bnd (bN x0 h0) fun v1 h1 =>
 bnd (aI 4 v1 h1) fun v2 h2 =>
 bnd (r 148 [v2, (aF 20)] h2) fun v3 h3 =>
 bnd (fV .not v3 h3) fun v4 h4 =>
 some (v4, h4)
noncomputable abbrev c147 : Code := cf Tryz.f147
noncomputable abbrev r147 : K := aQ CF Tryz.f147
noncomputable def D147 (r : RT) (n : Nat) (c : Code) (X : Nat → K) (k : K) : K := aM CF r 6 n c X r147 k
theorem dRb : D147 r n c147 x0 r147 = (K1 (s147 r n) 0) :=
 (by kernel_rfl)
theorem dFr : aG CF r n 147 args h = s147 r n (aR args 0) h :=
 (by kernel_rfl : aG CF r n 147 args h = D147 r n c147 x0 r147 (aK args) h).trans ((congrFun (congrFun (dRb r n) (aK args)) h).trans (by kernel_rfl))
noncomputable def s148 (r : RT) (n : Nat) (x0 x1 : DV) (h0 : Hp) : aH :=
 bnd (bN x0 h0) fun v1 h1 =>
 bnd (bN x1 h1) fun v2 h2 =>
 bnd (aB 0 v1 h2) fun v3 h3 =>
 bnd (aA v3 h3) fun v4 h4 =>
 bnd (aE .eql v4 (aF 1) h4) fun v5 h5 =>
 aT v5 (
 bnd (aB 1 v1 h5) fun v6 h6 =>
 bnd (aA v6 h6) fun v7 h7 =>
 bnd (dR .eql v7 (.s []) h7) fun v8 h8 =>
 bnd (gD v8 true (aB 3 v1 h8) h8) fun v9 h9 =>
 bnd (gD v8 true (aA v9 h9) h9) fun v10 h10 =>
 bnd (gD v8 true (bT v10 h10) h10) fun v11 h11 =>
 bnd (gD v8 true (aE .eql v11 (aF 0) h11) h11) fun v12 h12 =>
 bnd (aP v8 v12 (.b false) h12) fun v13 h13 =>
 bnd (gD v13 true (aB 2 v1 h13) h13) fun v14 h14 =>
 bnd (gD v13 true (aA v14 h14) h14) fun v15 h15 =>
 bnd (gD v13 true (r 145 [v15, (.i .i64 (Int.negSucc 1152921504606846975)), (aF 1152921504606846976)] h15) h15) fun v16 h16 =>
 bnd (aP v13 v16 (.b false) h16) fun v17 h17 =>
 some (v17, h17)) (
 bnd (aE .eql v4 (aF 2) h5) fun v18 h18 =>
 aT v18 (
 bnd (aB 2 v1 h18) fun v19 h19 =>
 bnd (aA v19 h19) fun v20 h20 =>
 bnd (aE .eql v20 (aF 0) h20) fun v21 h21 =>
 bnd (gD v21 true (aB 3 v1 h21) h21) fun v22 h22 =>
 bnd (gD v21 true (aA v22 h22) h22) fun v23 h23 =>
 bnd (gD v21 true (bT v23 h23) h23) fun v24 h24 =>
 bnd (gD v21 true (aE .eql v24 (aF 0) h24) h24) fun v25 h25 =>
 bnd (aP v21 v25 (.b false) h25) fun v26 h26 =>
 bnd (gD v26 true (aB 1 v1 h26) h26) fun v27 h27 =>
 bnd (gD v26 true (aA v27 h27) h27) fun v28 h28 =>
 bnd (gD v26 true (fS v28 h28) h28) fun v29 h29 =>
 bnd (gD v26 true (aE .leq v29 (aF 250) h29) h29) fun v30 h30 =>
 bnd (aP v26 v30 (.b false) h30) fun v31 h31 =>
 some (v31, h31)) (
 bnd (aE .eql v4 (aF 3) h18) fun v32 h32 =>
 aT v32 (
 bnd (aB 2 v1 h32) fun v33 h33 =>
 bnd (aA v33 h33) fun v34 h34 =>
 bnd (aE .eql v34 (aF 0) h34) fun v35 h35 =>
 bnd (gD v35 true (aB 3 v1 h35) h35) fun v36 h36 =>
 bnd (gD v35 true (aA v36 h36) h36) fun v37 h37 =>
 bnd (gD v35 true (bT v37 h37) h37) fun v38 h38 =>
 bnd (gD v35 true (aE .eql v38 (aF 0) h38) h38) fun v39 h39 =>
 bnd (aP v35 v39 (.b false) h39) fun v40 h40 =>
 bnd (gD v40 true (aB 1 v1 h40) h40) fun v41 h41 =>
 bnd (gD v40 true (aA v41 h41) h41) fun v42 h42 =>
 bnd (gD v40 true (fS v42 h42) h42) fun v43 h43 =>
 bnd (gD v40 true (r 145 [v43, (aF 1), (aF 60)] h43) h43) fun v44 h44 =>
 bnd (aP v40 v44 (.b false) h44) fun v45 h45 =>
 some (v45, h45)) (
 bnd (aE .eql v4 (aF 4) h32) fun v46 h46 =>
 aT v46 (
 bnd (aB 3 v1 h46) fun v47 h47 =>
 bnd (aA v47 h47) fun v48 h48 =>
 bnd (r 146 [v48, (.f 188 [] [v2])] h48) fun v49 h49 =>
 bnd (aB 2 v1 h49) fun v50 h50 =>
 bnd (aA v50 h50) fun v51 h51 =>
 bnd (aE .eql v51 (aF 0) h51) fun v52 h52 =>
 bnd (gD v52 true (aB 1 v1 h52) h52) fun v53 h53 =>
 bnd (gD v52 true (aA v53 h53) h53) fun v54 h54 =>
 bnd (gD v52 true (dR .eql v54 (.s []) h54) h54) fun v55 h55 =>
 bnd (aP v52 v55 (.b false) h55) fun v56 h56 =>
 bnd (gD v56 true (aA v2 h56) h56) fun v57 h57 =>
 bnd (gD v56 true (aE .gtr v57 (aF 0) h57) h57) fun v58 h58 =>
 bnd (aP v56 v58 (.b false) h58) fun v59 h59 =>
 bnd (gD v59 true (aB 3 v1 h59) h59) fun v60 h60 =>
 bnd (gD v59 true (aA v60 h60) h60) fun v61 h61 =>
 bnd (gD v59 true (bT v61 h61) h61) fun v62 h62 =>
 bnd (gD v59 true (aE .leq v62 (aF 250) h62) h62) fun v63 h63 =>
 bnd (aP v59 v63 (.b false) h63) fun v64 h64 =>
 bnd (gD v64 true (some (v49, h64)) h64) fun v65 h65 =>
 bnd (gD v64 true (fV .not v65 h65) h65) fun v66 h66 =>
 bnd (aP v64 v66 (.b false) h66) fun v67 h67 =>
 some (v67, h67)) (
 some ((.b false), h46)))))
noncomputable abbrev c148 : Code := cf Tryz.f148
noncomputable abbrev r148 : K := aQ CF Tryz.f148
noncomputable def D148 (r : RT) (n : Nat) (c : Code) (X : Nat → K) (k : K) : K := aM CF r 86 n c X r148 k
theorem dQk : D148 r n c148 x0 r148 = (K2 (s148 r n) 0 1) :=
 (by kernel_rfl)
theorem dLq : aG CF r n 148 args h = s148 r n (aR args 0) (aR args 1) h :=
 (by kernel_rfl : aG CF r n 148 args h = D148 r n c148 x0 r148 (aK args) h).trans ((congrFun (congrFun (dQk r n) (aK args)) h).trans (by kernel_rfl))
noncomputable def s149 (r : RT) (n : Nat) (x0 : DV) (h0 : Hp) : aH :=
 bnd (bN x0 h0) fun v1 h1 =>
 bnd (aB 0 v1 h1) fun v2 h2 =>
 bnd (aA v2 h2) fun v3 h3 =>
 bnd (r 189 [v3] h3) fun v4 h4 =>
 bnd (aD 0 v4 h4) fun v5 h5 =>
 bnd (aD 1 v4 h5) fun v6 h6 =>
 bnd (aB 0 v1 h6) fun v7 h7 =>
 bnd (aA v7 h7) fun v8 h8 =>
 bnd (aE .geq v8 (aF 1) h8) fun v9 h9 =>
 bnd (gD v9 true (aB 0 v1 h9) h9) fun v10 h10 =>
 bnd (gD v9 true (aA v10 h10) h10) fun v11 h11 =>
 bnd (gD v9 true (aE .leq v11 (aF 20) h11) h11) fun v12 h12 =>
 bnd (aP v9 v12 (.b false) h12) fun v13 h13 =>
 bnd (gD v13 true (aB 1 v1 h13) h13) fun v14 h14 =>
 bnd (gD v13 true (aA v14 h14) h14) fun v15 h15 =>
 bnd (gD v13 true (some (v5, h15)) h15) fun v16 h16 =>
 bnd (gD v13 true (r 190 [v15, v16] h16) h16) fun v17 h17 =>
 bnd (aP v13 v17 (.b false) h17) fun v18 h18 =>
 bnd (gD v18 true (aB 2 v1 h18) h18) fun v19 h19 =>
 bnd (gD v18 true (aA v19 h19) h19) fun v20 h20 =>
 bnd (gD v18 true (some (v6, h20)) h20) fun v21 h21 =>
 bnd (gD v18 true (r 190 [v20, v21] h21) h21) fun v22 h22 =>
 bnd (aP v18 v22 (.b false) h22) fun v23 h23 =>
 some (v23, h23)
noncomputable abbrev c149 : Code := cf Tryz.f149
noncomputable abbrev r149 : K := aQ CF Tryz.f149
noncomputable def D149 (r : RT) (n : Nat) (c : Code) (X : Nat → K) (k : K) : K := aM CF r 31 n c X r149 k
theorem dTl : D149 r n c149 x0 r149 = (K1 (s149 r n) 0) :=
 (by kernel_rfl)
theorem dMh : aG CF r n 149 args h = s149 r n (aR args 0) h :=
 (by kernel_rfl : aG CF r n 149 args h = D149 r n c149 x0 r149 (aK args) h).trans ((congrFun (congrFun (dTl r n) (aK args)) h).trans (by kernel_rfl))
noncomputable def bF (r : RT) (n : Nat) (h0 : Hp) : aH :=
 some ((.b true), h0)
noncomputable def wI (r : RT) (n : Nat) (x2 x3 x4 x27 x51 : DV) (h0 : Hp) : aH :=
 aT x51 (
 bnd (aB 1 x4 h0) fun v1 h1 =>
 bnd (aA v1 h1) fun v2 h2 =>
 bnd (aE .lss v2 x2 h2) fun v3 h3 =>
 some (v3, h3)) (
 bnd (aE .eql x27 (aF 18) h0) fun v4 h4 =>
 aT v4 (
 bnd (aB 2 x4 h4) fun v5 h5 =>
 bnd (aA v5 h5) fun v6 h6 =>
 bnd (aE .leq v6 (aF 4) h6) fun v7 h7 =>
 bnd (gD v7 true (aB 1 x4 h7) h7) fun v8 h8 =>
 bnd (gD v7 true (aA v8 h8) h8) fun v9 h9 =>
 bnd (gD v7 true (aB 2 x4 h9) h9) fun v10 h10 =>
 bnd (gD v7 true (aA v10 h10) h10) fun v11 h11 =>
 bnd (gD v7 true (aE .add v9 v11 h11) h11) fun v12 h12 =>
 bnd (gD v7 true (aB 2 x3 h12) h12) fun v13 h13 =>
 bnd (gD v7 true (aA v13 h13) h13) fun v14 h14 =>
 bnd (gD v7 true (aE .leq v12 v14 h14) h14) fun v15 h15 =>
 bnd (aP v7 v15 (.b false) h15) fun v16 h16 =>
 some (v16, h16)) (
   bF r n h4))
noncomputable def bEu (r : RT) (n : Nat) (x2 x3 x4 x27 : DV) (h0 : Hp) : aH :=
 bnd (aE .eql x27 (aF 8) h0) fun v1 h1 =>
 aT v1 (
  wI r n x2 x3 x4 x27 v1 h1) (
 bnd (aE .eql x27 (aF 11) h1) fun v2 h2 =>
  wI r n x2 x3 x4 x27 v2 h2)
noncomputable def uX (r : RT) (n : Nat) (x2 x3 x4 x27 x43 : DV) (h0 : Hp) : aH :=
 aT x43 (
 bnd (aB 1 x4 h0) fun v1 h1 =>
 bnd (aA v1 h1) fun v2 h2 =>
 bnd (aB 2 x3 h2) fun v3 h3 =>
 bnd (aA v3 h3) fun v4 h4 =>
 bnd (aE .lss v2 v4 h4) fun v5 h5 =>
 some (v5, h5)) (
  bEu r n x2 x3 x4 x27 h0)
noncomputable def bFi (r : RT) (n : Nat) (x2 x3 x4 x27 : DV) (h0 : Hp) : aH :=
 bnd (aE .eql x27 (aF 7) h0) fun v1 h1 =>
 aT v1 (
  uX r n x2 x3 x4 x27 v1 h1) (
 bnd (aE .eql x27 (aF 10) h1) fun v2 h2 =>
  uX r n x2 x3 x4 x27 v2 h2)
noncomputable def vA (r : RT) (n : Nat) (x2 x3 x4 x8 x27 x34 : DV) (h0 : Hp) : aH :=
 aT x34 (
 bnd (gD x8 true (aB 2 x4 h0) h0) fun v1 h1 =>
 bnd (gD x8 true (aA v1 h1) h1) fun v2 h2 =>
 bnd (gD x8 true (aE .leq v2 (aF 4) h2) h2) fun v3 h3 =>
 bnd (aP x8 v3 (.b false) h3) fun v4 h4 =>
 some (v4, h4)) (
  bFi r n x2 x3 x4 x27 h0)
noncomputable def bVo (r : RT) (n : Nat) (x2 x3 x4 x8 x27 : DV) (h0 : Hp) : aH :=
 bnd (aE .eql x27 (aF 14) h0) fun v1 h1 =>
 aT v1 (
  vA r n x2 x3 x4 x8 x27 v1 h1) (
 bnd (aE .eql x27 (aF 15) h1) fun v2 h2 =>
  vA r n x2 x3 x4 x8 x27 v2 h2)
noncomputable def aVg (r : RT) (n : Nat) (x2 x3 x4 x8 x27 x31 : DV) (h0 : Hp) : aH :=
 aT x31 (
 some (x8, h0)) (
  bVo r n x2 x3 x4 x8 x27 h0)
noncomputable def bOs (r : RT) (n : Nat) (x2 x3 x4 x8 x27 : DV) (h0 : Hp) : aH :=
 bnd (aE .eql x27 (aF 9) h0) fun v1 h1 =>
  aVg r n x2 x3 x4 x8 x27 v1 h1
noncomputable def aZv (r : RT) (n : Nat) (x2 x3 x4 x7 x8 x27 x28 : DV) (h0 : Hp) : aH :=
 aT x28 (
 some (x7, h0)) (
  bOs r n x2 x3 x4 x8 x27 h0)
noncomputable def aSt (r : RT) (n : Nat) (x2 x3 x4 x7 x8 x27 : DV) (h0 : Hp) : aH :=
 bnd (aE .eql x27 (aF 6) h0) fun v1 h1 =>
  aZv r n x2 x3 x4 x7 x8 x27 v1 h1
noncomputable def aYg (r : RT) (n : Nat) (x2 x3 x4 x7 x8 : DV) (h0 : Hp) : aH :=
 bnd (aB 0 x4 h0) fun v1 h1 =>
 bnd (aA v1 h1) fun v2 h2 =>
  aSt r n x2 x3 x4 x7 x8 v2 h2
noncomputable def aVd (r : RT) (n : Nat) (x2 x3 x4 x7 : DV) (h0 : Hp) : aH :=
 bnd (gD x7 true (aB 4 x3 h0) h0) fun v1 h1 =>
 bnd (gD x7 true (aA v1 h1) h1) fun v2 h2 =>
 bnd (gD x7 true (aB 1 x4 h2) h2) fun v3 h3 =>
 bnd (gD x7 true (aA v3 h3) h3) fun v4 h4 =>
 bnd (gD x7 true (aJ 4 v2 v4 h4) h4) fun v5 h5 =>
 bnd (gD x7 true (aB 0 v5 h5) h5) fun v6 h6 =>
 bnd (gD x7 true (aA v6 h6) h6) fun v7 h7 =>
 bnd (gD x7 true (aE .eql v7 (aF 3) h7) h7) fun v8 h8 =>
 bnd (aP x7 v8 (.b false) h8) fun v9 h9 =>
  aYg r n x2 x3 x4 x7 v9 h9
noncomputable def yO (r : RT) (n : Nat) (x2 x3 x4 : DV) (h0 : Hp) : aH :=
 bnd (aB 1 x4 h0) fun v1 h1 =>
 bnd (aA v1 h1) fun v2 h2 =>
 bnd (aB 4 x3 h2) fun v3 h3 =>
 bnd (aA v3 h3) fun v4 h4 =>
 bnd (bT v4 h4) fun v5 h5 =>
 bnd (aE .lss v2 v5 h5) fun v6 h6 =>
  aVd r n x2 x3 x4 v6 h6
noncomputable def s150 (r : RT) (n : Nat) (x0 x1 x2 : DV) (h0 : Hp) : aH :=
 bnd (bN x0 h0) fun v1 h1 =>
 bnd (bN x1 h1) fun v2 h2 =>
  yO r n x2 v1 v2 h2
noncomputable abbrev c150 : Code := cf Tryz.f150
noncomputable abbrev aFg : Code := cR c150
noncomputable abbrev aHm : Code := cR aFg
noncomputable abbrev aIk : Code := cR aHm
noncomputable abbrev dGg : Code := cR aIk
noncomputable abbrev xL : Code := cL aIk
noncomputable abbrev aUh : Code := cR xL
noncomputable abbrev aLy : Code := cL aUh
noncomputable abbrev zO : Code := cR aLy
noncomputable abbrev aAj : Code := cR zO
noncomputable abbrev pQ : Code := cR aAj
noncomputable abbrev oY : Code := cR pQ
noncomputable abbrev pX : Code := cR oY
noncomputable abbrev qG : Code := cR pX
noncomputable abbrev pY : Code := cR qG
noncomputable abbrev pI : Code := cR pY
noncomputable abbrev cRu : Code := cR pI
noncomputable abbrev bGj : Code := cL pI
noncomputable abbrev cNz : Code := cL pY
noncomputable abbrev bHf : Code := cL qG
noncomputable abbrev cOl : Code := cL pX
noncomputable abbrev bEk : Code := cL oY
noncomputable abbrev cYk : Code := cL pQ
noncomputable abbrev bHi : Code := cL aAj
noncomputable abbrev cUw : Code := cL zO
noncomputable abbrev bHx : Code := cL aLy
noncomputable abbrev bDe : Code := cL xL
noncomputable abbrev bGw : Code := cL aHm
noncomputable abbrev bHc : Code := cL aFg
noncomputable abbrev aGk : Code := cL c150
noncomputable abbrev r150 : K := aQ CF Tryz.f150
noncomputable def D150 (r : RT) (n : Nat) (c : Code) (X : Nat → K) (k : K) : K := aM CF r 73 n c X r150 k
theorem cSm : D150 r n dGg x0 r150 = (K0 (bF r n)) :=
 (by kernel_rfl)
theorem cDr : D150 r n cRu (xs x0 0 (K0 (bF r n))) (K0 (bF r n)) = (K5 (wI r n) 2 3 4 27 51) :=
 (by kernel_rfl)
theorem bLx : D150 r n pI (xs x0 0 (K0 (bF r n))) (K0 (bF r n)) = D150 r n bGj (xs x0 0 (K0 (bF r n))) (K5 (wI r n) 2 3 4 27 51) :=
 congrArg (fun k => D150 r n bGj (xs x0 0 (K0 (bF r n))) k) (cDr r n)
theorem bUy : D150 r n pI (xs x0 0 (K0 (bF r n))) (K0 (bF r n)) = (K4 (bEu r n) 2 3 4 27) :=
 (bLx r n).trans
 ((by kernel_rfl))
theorem cDb : D150 r n pY (xs x0 0 (K0 (bF r n))) (K0 (bF r n)) = (K5 (uX r n) 2 3 4 27 43) :=
 (by kernel_rfl : D150 r n pY (xs x0 0 (K0 (bF r n))) (K0 (bF r n)) = (fun (env : aO) (h : Hp) => aT (opr env (cC pY)) (D150 r n cNz (xs x0 0 (K0 (bF r n))) (K0 (bF r n)) env h) (D150 r n pI (xs x0 0 (K0 (bF r n))) (K0 (bF r n)) env h))).trans (by rw [bUy r n]; kernel_rfl)
theorem bKw : D150 r n qG (xs x0 0 (K0 (bF r n))) (K0 (bF r n)) = D150 r n bHf (xs x0 0 (K0 (bF r n))) (K5 (uX r n) 2 3 4 27 43) :=
 congrArg (fun k => D150 r n bHf (xs x0 0 (K0 (bF r n))) k) (cDb r n)
theorem bZf : D150 r n qG (xs x0 0 (K0 (bF r n))) (K0 (bF r n)) = (K4 (bFi r n) 2 3 4 27) :=
 (bKw r n).trans
 ((by kernel_rfl))
theorem cCg : D150 r n pX (xs x0 0 (K0 (bF r n))) (K0 (bF r n)) = (K6 (vA r n) 2 3 4 8 27 34) :=
 (by kernel_rfl : D150 r n pX (xs x0 0 (K0 (bF r n))) (K0 (bF r n)) = (fun (env : aO) (h : Hp) => aT (opr env (cC pX)) (D150 r n cOl (xs x0 0 (K0 (bF r n))) (K0 (bF r n)) env h) (D150 r n qG (xs x0 0 (K0 (bF r n))) (K0 (bF r n)) env h))).trans (by rw [bZf r n]; kernel_rfl)
theorem cEz : D150 r n oY (xs x0 0 (K0 (bF r n))) (K0 (bF r n)) = D150 r n bEk (xs x0 0 (K0 (bF r n))) (K6 (vA r n) 2 3 4 8 27 34) :=
 congrArg (fun k => D150 r n bEk (xs x0 0 (K0 (bF r n))) k) (cCg r n)
theorem cRo : D150 r n oY (xs x0 0 (K0 (bF r n))) (K0 (bF r n)) = (K5 (bVo r n) 2 3 4 8 27) :=
 (cEz r n).trans
 ((by kernel_rfl))
theorem dAc : D150 r n pQ (xs x0 0 (K0 (bF r n))) (K0 (bF r n)) = (K6 (aVg r n) 2 3 4 8 27 31) :=
 (by kernel_rfl : D150 r n pQ (xs x0 0 (K0 (bF r n))) (K0 (bF r n)) = (fun (env : aO) (h : Hp) => aT (opr env (cC pQ)) (D150 r n cYk (xs x0 0 (K0 (bF r n))) (K0 (bF r n)) env h) (D150 r n oY (xs x0 0 (K0 (bF r n))) (K0 (bF r n)) env h))).trans (by rw [cRo r n]; kernel_rfl)
theorem bTc : D150 r n aAj (xs x0 0 (K0 (bF r n))) (K0 (bF r n)) = D150 r n bHi (xs x0 0 (K0 (bF r n))) (K6 (aVg r n) 2 3 4 8 27 31) :=
 congrArg (fun k => D150 r n bHi (xs x0 0 (K0 (bF r n))) k) (dAc r n)
theorem cUr : D150 r n aAj (xs x0 0 (K0 (bF r n))) (K0 (bF r n)) = (K5 (bOs r n) 2 3 4 8 27) :=
 (bTc r n).trans
 ((by kernel_rfl))
theorem cOz : D150 r n zO (xs x0 0 (K0 (bF r n))) (K0 (bF r n)) = (K7 (aZv r n) 2 3 4 7 8 27 28) :=
 (by kernel_rfl : D150 r n zO (xs x0 0 (K0 (bF r n))) (K0 (bF r n)) = (fun (env : aO) (h : Hp) => aT (opr env (cC zO)) (D150 r n cUw (xs x0 0 (K0 (bF r n))) (K0 (bF r n)) env h) (D150 r n aAj (xs x0 0 (K0 (bF r n))) (K0 (bF r n)) env h))).trans (by rw [cUr r n]; kernel_rfl)
theorem cDn : D150 r n aLy (xs x0 0 (K0 (bF r n))) (K0 (bF r n)) = D150 r n bHx (xs x0 0 (K0 (bF r n))) (K7 (aZv r n) 2 3 4 7 8 27 28) :=
 congrArg (fun k => D150 r n bHx (xs x0 0 (K0 (bF r n))) k) (cOz r n)
theorem cTo : D150 r n aUh x0 (K0 (bF r n)) = (K6 (aSt r n) 2 3 4 7 8 27) :=
 (by kernel_rfl : D150 r n aUh x0 (K0 (bF r n)) = D150 r n aLy (xs x0 0 (K0 (bF r n))) (K0 (bF r n))).trans
 ((cDn r n).trans
 ((by kernel_rfl)))
theorem bVs : D150 r n aIk x0 r150 = D150 r n xL x0 (K0 (bF r n)) :=
 congrArg (fun k => D150 r n xL x0 k) (cSm r n)
theorem cDl : D150 r n xL x0 (K0 (bF r n)) = D150 r n bDe x0 (K6 (aSt r n) 2 3 4 7 8 27) :=
 congrArg (fun k => D150 r n bDe x0 k) (cTo r n)
theorem cNh : D150 r n aIk x0 r150 = (K5 (aYg r n) 2 3 4 7 8) :=
 (bVs r n).trans
 ((cDl r n).trans
 ((by kernel_rfl)))
theorem cHl : D150 r n aHm x0 r150 = D150 r n bGw x0 (K5 (aYg r n) 2 3 4 7 8) :=
 congrArg (fun k => D150 r n bGw x0 k) (cNh r n)
theorem cPw : D150 r n aHm x0 r150 = (K4 (aVd r n) 2 3 4 7) :=
 (cHl r n).trans
 ((by kernel_rfl))
theorem cDx : D150 r n aFg x0 r150 = D150 r n bHc x0 (K4 (aVd r n) 2 3 4 7) :=
 congrArg (fun k => D150 r n bHc x0 k) (cPw r n)
theorem cYi : D150 r n aFg x0 r150 = (K3 (yO r n) 2 3 4) :=
 (cDx r n).trans
 ((by kernel_rfl))
theorem cMb : D150 r n c150 x0 r150 = D150 r n aGk x0 (K3 (yO r n) 2 3 4) :=
 congrArg (fun k => D150 r n aGk x0 k) (cYi r n)
theorem cYt (q0 : eO) : D150 r n aGk x0 (K3 q0 2 3 4) = fun (env : aO) (h : Hp) =>
 bnd (bN (env 0) h) fun v1 h1 =>
 bnd (bN (env 1) h1) fun v2 h2 =>
  q0 (env 2) v1 v2 h2 := by kernel_rfl
theorem bRt : (fun (env : aO) (h : Hp) =>
 bnd (bN (env 0) h) fun v1 h1 =>
 bnd (bN (env 1) h1) fun v2 h2 =>
  yO r n (env 2) v1 v2 h2) = (K3 (s150 r n) 0 1 2) := by kernel_rfl
theorem dSo : D150 r n c150 x0 r150 = (K3 (s150 r n) 0 1 2) :=
 (cMb r n).trans
 ((cYt r n (yO r n)).trans (bRt r n))
theorem dKu : aG CF r n 150 args h = s150 r n (aR args 0) (aR args 1) (aR args 2) h :=
 (by kernel_rfl : aG CF r n 150 args h = D150 r n c150 x0 r150 (aK args) h).trans ((congrFun (congrFun (dSo r n) (aK args)) h).trans (by kernel_rfl))
noncomputable def eT (r : RT) (n : Nat) (x3 : DV) (h0 : Hp) : aH :=
 some (x3, h0)
noncomputable def bGa (r : RT) (n : Nat) (kk6 : dI) (x3 x4 x11 x12 : DV) (h0 : Hp) : aH :=
 bnd (aE .lss x12 x11 h0) fun v1 h1 =>
 aT v1 (
 bnd (dD CF r x4 [x12] h1) fun v2 h2 =>
 bnd (aJ 1 x3 x12 h2) fun v3 h3 =>
 bnd (aC 1 v3 v2 h3) fun _ h4 =>
 bnd (aE .add x12 (aF 1) h4) fun v5 h5 =>
      kk6 x3 x4 x11 v5 h5) (
      eT r n x3 h1)
noncomputable def vE (r : RT) (n : Nat) (m : Nat) : dI :=
 Nat.rec (motive := fun _ => dI) (fun _ _ _ _ _ => none) (fun _ ih => bGa r n ih) m
noncomputable def cIj (r : RT) (n : Nat) : dI := vE r n n
noncomputable def aZq (r : RT) (n : Nat) (x3 x4 x11 x12 : DV) (h0 : Hp) : aH :=
 cIj r n x3 x4 x11 x12 h0
noncomputable def aVq (r : RT) (n : Nat) (x1 x3 x4 : DV) (h0 : Hp) : aH :=
 bnd (aA x1 h0) fun v1 h1 =>
 bnd (bT v1 h1) fun v2 h2 =>
  aZq r n x3 x4 v2 (aF 0) h2
noncomputable def zX (r : RT) (n : Nat) (x1 x3 : DV) (h0 : Hp) : aH :=
 aVq r n x1 x3 (.f 191 [] [x1]) h0
noncomputable def sB (r : RT) (n : Nat) (x1 : DV) (h0 : Hp) : aH :=
 bnd (aA x1 h0) fun v1 h1 =>
 bnd (bT v1 h1) fun v2 h2 =>
 bnd (cG 1 8 [(aF 0)] v2 v2 h2) fun v3 h3 =>
  zX r n x1 v3 h3
noncomputable def s151 (r : RT) (n : Nat) (x0 : DV) (h0 : Hp) : aH :=
 bnd (bN x0 h0) fun v1 h1 =>
  sB r n v1 h1
noncomputable abbrev c151 : Code := cf Tryz.f151
noncomputable abbrev aGh : Code := cR c151
noncomputable abbrev aNu : Code := cR aGh
noncomputable abbrev aEk : Code := cR aNu
noncomputable abbrev dMo : Code := cR aEk
noncomputable abbrev yX : Code := cL aEk
noncomputable abbrev aUl : Code := cR yX
noncomputable abbrev aMc : Code := cL aUl
noncomputable abbrev oJ : Code := cL aMc
noncomputable abbrev cBx : Code := cL yX
noncomputable abbrev bCx : Code := cL aNu
noncomputable abbrev aOz : Code := cL aGh
noncomputable abbrev aDv : Code := cL c151
noncomputable abbrev r151 : K := aQ CF Tryz.f151
noncomputable def D151 (r : RT) (n : Nat) (c : Code) (X : Nat → K) (k : K) : K := aM CF r 23 n c X r151 k
theorem dBn : D151 r n dMo x0 r151 = (K1 (eT r n) 3) :=
 (by kernel_rfl)
theorem bTi (kk6 : dI) : D151 r n oJ (xs x0 0 (K1 (eT r n) 3)) (K4 kk6 3 4 11 12) = (K4 (bGa r n kk6) 3 4 11 12) :=
 (by kernel_rfl)
theorem bWa (m : Nat) : aL (fun kk => D151 r n oJ (xs x0 0 (K1 (eT r n) 3)) kk) m = (K4 (vE r n m) 3 4 11 12) := by
 induction m with
 | zero => exact (by kernel_rfl : aL (fun kk => D151 r n oJ (xs x0 0 (K1 (eT r n) 3)) kk) 0 = (K4 (vE r n 0) 3 4 11 12))
 | succ m ih =>
  refine (by kernel_rfl : aL (fun kk => D151 r n oJ (xs x0 0 (K1 (eT r n) 3)) kk) (m + 1) = D151 r n oJ (xs x0 0 (K1 (eT r n) 3)) (aL (fun kk => D151 r n oJ (xs x0 0 (K1 (eT r n) 3)) kk) m)).trans ?_
  rw [ih]
  exact (bTi r n (vE r n m)).trans (by kernel_rfl)
theorem cUz : D151 r n aMc (xs x0 0 (K1 (eT r n) 3)) (K1 (eT r n) 3) = (K4 (cIj r n) 3 4 11 12) :=
 (by kernel_rfl : D151 r n aMc (xs x0 0 (K1 (eT r n) 3)) (K1 (eT r n) 3) = aL (fun kk => D151 r n oJ (xs x0 0 (K1 (eT r n) 3)) kk) n).trans ((bWa r n n).trans (by kernel_rfl))
theorem cNb : D151 r n aUl x0 (K1 (eT r n) 3) = (K4 (aZq r n) 3 4 11 12) :=
 (by kernel_rfl : D151 r n aUl x0 (K1 (eT r n) 3) = D151 r n aMc (xs x0 0 (K1 (eT r n) 3)) (K1 (eT r n) 3)).trans
 ((cUz r n).trans (by kernel_rfl))
theorem bYl : D151 r n aEk x0 r151 = D151 r n yX x0 (K1 (eT r n) 3) :=
 congrArg (fun k => D151 r n yX x0 k) (dBn r n)
theorem bYd : D151 r n yX x0 (K1 (eT r n) 3) = D151 r n cBx x0 (K4 (aZq r n) 3 4 11 12) :=
 congrArg (fun k => D151 r n cBx x0 k) (cNb r n)
theorem cZa : D151 r n aEk x0 r151 = (K3 (aVq r n) 1 3 4) :=
 (bYl r n).trans
 ((bYd r n).trans
 ((by kernel_rfl)))
theorem bZx : D151 r n aNu x0 r151 = D151 r n bCx x0 (K3 (aVq r n) 1 3 4) :=
 congrArg (fun k => D151 r n bCx x0 k) (cZa r n)
theorem cYl : D151 r n aNu x0 r151 = (K2 (zX r n) 1 3) :=
 (bZx r n).trans
 ((by kernel_rfl))
theorem bXs : D151 r n aGh x0 r151 = D151 r n aOz x0 (K2 (zX r n) 1 3) :=
 congrArg (fun k => D151 r n aOz x0 k) (cYl r n)
theorem cCi (q0 : eM) : D151 r n aOz x0 (K2 q0 1 3) = fun (env : aO) (h : Hp) =>
 bnd (aA (env 1) h) fun v1 h1 =>
 bnd (bT v1 h1) fun v2 h2 =>
 bnd (cG 1 8 [(aF 0)] v2 v2 h2) fun v3 h3 =>
  q0 (env 1) v3 h3 := by kernel_rfl
theorem bJv : (fun (env : aO) (h : Hp) =>
 bnd (aA (env 1) h) fun v1 h1 =>
 bnd (bT v1 h1) fun v2 h2 =>
 bnd (cG 1 8 [(aF 0)] v2 v2 h2) fun v3 h3 =>
  zX r n (env 1) v3 h3) = (K1 (sB r n) 1) := by kernel_rfl
theorem cRz : D151 r n aGh x0 r151 = (K1 (sB r n) 1) :=
 (bXs r n).trans
 ((cCi r n (zX r n)).trans (bJv r n))
theorem dNh : D151 r n c151 x0 r151 = D151 r n aDv x0 (K1 (sB r n) 1) :=
 congrArg (fun k => D151 r n aDv x0 k) (cRz r n)
theorem dGd (q0 : TT1) : D151 r n aDv x0 (K1 q0 1) = fun (env : aO) (h : Hp) =>
 bnd (bN (env 0) h) fun v1 h1 =>
  q0 v1 h1 := by kernel_rfl
theorem dCu : (fun (env : aO) (h : Hp) =>
 bnd (bN (env 0) h) fun v1 h1 =>
  sB r n v1 h1) = (K1 (s151 r n) 0) := by kernel_rfl
theorem dSq : D151 r n c151 x0 r151 = (K1 (s151 r n) 0) :=
 (dNh r n).trans
 ((dGd r n (sB r n)).trans (dCu r n))
theorem dLy : aG CF r n 151 args h = s151 r n (aR args 0) h :=
 (by kernel_rfl : aG CF r n 151 args h = D151 r n c151 x0 r151 (aK args) h).trans ((congrFun (congrFun (dSq r n) (aK args)) h).trans (by kernel_rfl))
end Go.Dd

namespace Go.Dd
open Go.Proofs
variable (r : RT) (n : Nat) (args : List DV) (h : Hp)
noncomputable def bJ (r : RT) (n : Nat) (h0 : Hp) : aH :=
 some ((.b true), h0)
noncomputable def cE (r : RT) (n : Nat) (kk4 : cD) (x0 x1 x11 x12 x13 : DV) (h0 : Hp) : aH :=
 bnd (aE .add x13 (aF 1) h0) fun v1 h1 =>
  kk4 x0 x1 x11 x12 v1 h1
noncomputable def fY (r : RT) (n : Nat) (kk4 : cD) (x0 x1 x5 x6 x11 x12 x13 : DV) (h0 : Hp) : aH :=
 bnd (aI 3 x6 h0) fun v1 h1 =>
 bnd (r 193 [v1] h1) fun v2 h2 =>
 bnd (aE .geq v2 (aF 0) h2) fun v3 h3 =>
 bnd (gD v3 true (some (v2, h3)) h3) fun v4 h4 =>
 bnd (gD v3 true (some (x0, h4)) h4) fun v5 h5 =>
 bnd (gD v3 true (bT v5 h5) h5) fun v6 h6 =>
 bnd (gD v3 true (aE .geq v4 v6 h6) h6) fun v7 h7 =>
 bnd (gD v3 true (some (v7, h7)) h7) fun v8 h8 =>
 bnd (gD v8 false (some (x1, h8)) h8) fun v9 h9 =>
 bnd (gD v8 false (some (v2, h9)) h9) fun v10 h10 =>
 bnd (gD v8 false (aJ 1 v9 v10 h10) h10) fun v11 h11 =>
 bnd (gD v8 false (aA v11 h11) h11) fun v12 h12 =>
 bnd (gD v8 false (some (x1, h12)) h12) fun v13 h13 =>
 bnd (gD v8 false (some (x5, h13)) h13) fun v14 h14 =>
 bnd (gD v8 false (aJ 1 v13 v14 h14) h14) fun v15 h15 =>
 bnd (gD v8 false (aA v15 h15) h15) fun v16 h16 =>
 bnd (gD v8 false (aE .neq v12 v16 h16) h16) fun v17 h17 =>
 bnd (gD v3 true (aP v8 (.b true) v17 h17) h17) fun v18 h18 =>
 bnd (aP v3 v18 (.b false) h18) fun v19 h19 =>
 aT v19 (
 some ((.b false), h19)) (
  cE r n kk4 x0 x1 x11 x12 x13 h19)
noncomputable def wD (r : RT) (n : Nat) (kk4 : cD) (x0 x1 x5 x6 x7 x8 x9 x11 x12 x13 : DV) (h0 : Hp) : aH :=
 bnd (fV .not x8 h0) fun v1 h1 =>
 bnd (gD v1 false (some (x7, h1)) h1) fun v2 h2 =>
 bnd (gD v1 false (some (x9, h2)) h2) fun v3 h3 =>
 bnd (gD v1 false (aE .gtr v2 v3 h3) h3) fun v4 h4 =>
 bnd (aP v1 (.b true) v4 h4) fun v5 h5 =>
 aT v5 (
 some ((.b false), h5)) (
  fY r n kk4 x0 x1 x5 x6 x11 x12 x13 h5)
noncomputable def aDp (r : RT) (n : Nat) (kk4 : cD) (x0 x1 x5 x6 x7 x8 x9 x11 x12 x13 : DV) (h0 : Hp) : aH :=
 bnd (aJ 1 x1 x5 h0) fun v1 h1 =>
 bnd (aA v1 h1) fun v2 h2 =>
 bnd (aE .geq v2 (aF 0) h2) fun v3 h3 =>
 aT v3 (
 bnd (aJ 1 x1 x5 h3) fun v4 h4 =>
 bnd (aA v4 h4) fun v5 h5 =>
 bnd (r 192 [x0, v5] h5) fun v6 h6 =>
 bnd (aD 0 v6 h6) fun v7 h7 =>
 bnd (aD 1 v6 h7) fun v8 h8 =>
  wD r n kk4 x0 x1 x5 x6 x7 x8 v7 x11 x12 x13 h8) (
  wD r n kk4 x0 x1 x5 x6 x7 x8 x9 x11 x12 x13 h3)
noncomputable def aHt (r : RT) (n : Nat) (kk4 : cD) (x0 x1 x5 x6 x7 x8 x11 x12 x13 : DV) (h0 : Hp) : aH :=
 bnd (bT x0 h0) fun v1 h1 =>
  aDp r n kk4 x0 x1 x5 x6 x7 x8 v1 x11 x12 x13 h1
noncomputable def bFm (r : RT) (n : Nat) (kk4 : cD) (x0 x1 x5 x6 x11 x12 x13 : DV) (h0 : Hp) : aH :=
 bnd (r 192 [x0, x5] h0) fun v1 h1 =>
 bnd (aD 0 v1 h1) fun v2 h2 =>
 bnd (aD 1 v1 h2) fun v3 h3 =>
  aHt r n kk4 x0 x1 x5 x6 v2 v3 x11 x12 x13 h3
noncomputable def aIr (r : RT) (n : Nat) (kk4 : cD) (x0 x1 x5 x6 x11 x12 x13 x20 : DV) (h0 : Hp) : aH :=
 aT x20 (
  bFm r n kk4 x0 x1 x5 x6 x11 x12 x13 h0) (
  fY r n kk4 x0 x1 x5 x6 x11 x12 x13 h0)
noncomputable def yG (r : RT) (n : Nat) (kk4 : cD) (x0 x1 x5 x6 x11 x12 x13 : DV) (h0 : Hp) : aH :=
 bnd (aB 0 x6 h0) fun v1 h1 =>
 bnd (aA v1 h1) fun v2 h2 =>
 bnd (aE .eql v2 (aF 18) h2) fun v3 h3 =>
  aIr r n kk4 x0 x1 x5 x6 x11 x12 x13 v3 h3
noncomputable def aCm (r : RT) (n : Nat) (kk4 : cD) (x0 x1 x11 x12 x13 : DV) (h0 : Hp) : aH :=
 bnd (aJ 3 x11 x13 h0) fun v1 h1 =>
 bnd (aI 3 v1 h1) fun v2 h2 =>
 bnd (bD [(aF 0), (aF 0), (aF 0)] h2) fun v3 h3 =>
 bnd (aC 3 v3 v2 h3) fun _ h4 =>
  yG r n kk4 x0 x1 x13 v3 x11 x12 x13 h4
noncomputable def aXz (r : RT) (n : Nat) (kk4 : cD) (x0 x1 x11 x12 x13 x14 : DV) (h0 : Hp) : aH :=
 aT x14 (
  aCm r n kk4 x0 x1 x11 x12 x13 h0) (
  bJ r n h0)
noncomputable def bDi (r : RT) (n : Nat) (kk4 : cD) (x0 x1 x11 x12 x13 : DV) (h0 : Hp) : aH :=
 bnd (aE .lss x13 x12 h0) fun v1 h1 =>
  aXz r n kk4 x0 x1 x11 x12 x13 v1 h1
noncomputable def uN (r : RT) (n : Nat) (m : Nat) : cD :=
 Nat.rec (motive := fun _ => cD) (fun _ _ _ _ _ _ => none) (fun _ ih => bDi r n ih) m
noncomputable def bSq (r : RT) (n : Nat) : cD := uN r n n
noncomputable def aYu (r : RT) (n : Nat) (x0 x1 x11 x12 x13 : DV) (h0 : Hp) : aH :=
 bSq r n x0 x1 x11 x12 x13 h0
noncomputable def aVs (r : RT) (n : Nat) (x0 x1 : DV) (h0 : Hp) : aH :=
 bnd (bT x0 h0) fun v1 h1 =>
  aYu r n x0 x1 x0 v1 (aF 0) h1
noncomputable def s152 (r : RT) (n : Nat) (x0 x1 : DV) (h0 : Hp) : aH :=
 aVs r n x0 x1 h0
noncomputable abbrev c152 : Code := cf Tryz.f152
noncomputable abbrev aGw : Code := cR c152
noncomputable abbrev dKc : Code := cR aGw
noncomputable abbrev xB : Code := cL aGw
noncomputable abbrev aTj : Code := cR xB
noncomputable abbrev aEn : Code := cL aTj
noncomputable abbrev kG : Code := cL aEn
noncomputable abbrev aNl : Code := cR kG
noncomputable abbrev aFl : Code := cR aNl
noncomputable abbrev dGp : Code := cR aFl
noncomputable abbrev tW : Code := cL aFl
noncomputable abbrev tY : Code := cL tW
noncomputable abbrev vR : Code := cR tY
noncomputable abbrev cVn : Code := cR vR
noncomputable abbrev pK : Code := cL vR
noncomputable abbrev qL : Code := cR pK
noncomputable abbrev pT : Code := cL qL
noncomputable abbrev uA : Code := cR pT
noncomputable abbrev tR : Code := cR uA
noncomputable abbrev cOr : Code := cR tR
noncomputable abbrev bCz : Code := cL tR
noncomputable abbrev bFj : Code := cL uA
noncomputable abbrev bIr : Code := cL pT
noncomputable abbrev cRi : Code := cR qL
noncomputable abbrev bEy : Code := cL pK
noncomputable abbrev aIz : Code := cL tY
noncomputable abbrev bCk : Code := cL aNl
noncomputable abbrev bDt : Code := cL kG
noncomputable abbrev bBp : Code := cL xB
noncomputable abbrev bIz : Code := cL c152
noncomputable abbrev r152 : K := aQ CF Tryz.f152
noncomputable def D152 (r : RT) (n : Nat) (c : Code) (X : Nat → K) (k : K) : K := aM CF r 72 n c X r152 k
theorem cMv : D152 r n dKc x0 r152 = (K0 (bJ r n)) :=
 (by kernel_rfl)
theorem dCc (kk4 : cD) : D152 r n dGp (xs x0 0 (K0 (bJ r n))) (K5 kk4 0 1 11 12 13) = (K5 (cE r n kk4) 0 1 11 12 13) :=
 (by kernel_rfl)
theorem cQp (kk4 : cD) : D152 r n cVn (xs (xs x0 0 (K0 (bJ r n))) 1 (K5 (cE r n kk4) 0 1 11 12 13)) (K5 (cE r n kk4) 0 1 11 12 13) = (K7 (fY r n kk4) 0 1 5 6 11 12 13) :=
 (by kernel_rfl)
theorem cKa (kk4 : cD) : D152 r n cOr (xs (xs x0 0 (K0 (bJ r n))) 1 (K5 (cE r n kk4) 0 1 11 12 13)) (K7 (fY r n kk4) 0 1 5 6 11 12 13) = (K10 (wD r n kk4) 0 1 5 6 7 8 9 11 12 13) :=
 (by kernel_rfl)
theorem bJx (kk4 : cD) : D152 r n tR (xs (xs x0 0 (K0 (bJ r n))) 1 (K5 (cE r n kk4) 0 1 11 12 13)) (K7 (fY r n kk4) 0 1 5 6 11 12 13) = D152 r n bCz (xs (xs x0 0 (K0 (bJ r n))) 1 (K5 (cE r n kk4) 0 1 11 12 13)) (K10 (wD r n kk4) 0 1 5 6 7 8 9 11 12 13) :=
 congrArg (fun k => D152 r n bCz (xs (xs x0 0 (K0 (bJ r n))) 1 (K5 (cE r n kk4) 0 1 11 12 13)) k) (cKa r n kk4)
theorem cKx (kk4 : cD) : D152 r n tR (xs (xs x0 0 (K0 (bJ r n))) 1 (K5 (cE r n kk4) 0 1 11 12 13)) (K7 (fY r n kk4) 0 1 5 6 11 12 13) = (K10 (aDp r n kk4) 0 1 5 6 7 8 9 11 12 13) :=
 (bJx r n kk4).trans
 ((by kernel_rfl))
theorem bNr (kk4 : cD) : D152 r n uA (xs (xs x0 0 (K0 (bJ r n))) 1 (K5 (cE r n kk4) 0 1 11 12 13)) (K7 (fY r n kk4) 0 1 5 6 11 12 13) = D152 r n bFj (xs (xs x0 0 (K0 (bJ r n))) 1 (K5 (cE r n kk4) 0 1 11 12 13)) (K10 (aDp r n kk4) 0 1 5 6 7 8 9 11 12 13) :=
 congrArg (fun k => D152 r n bFj (xs (xs x0 0 (K0 (bJ r n))) 1 (K5 (cE r n kk4) 0 1 11 12 13)) k) (cKx r n kk4)
theorem cJg (kk4 : cD) : D152 r n uA (xs (xs x0 0 (K0 (bJ r n))) 1 (K5 (cE r n kk4) 0 1 11 12 13)) (K7 (fY r n kk4) 0 1 5 6 11 12 13) = (K9 (aHt r n kk4) 0 1 5 6 7 8 11 12 13) :=
 (bNr r n kk4).trans
 ((by kernel_rfl))
theorem bNv (kk4 : cD) : D152 r n pT (xs (xs x0 0 (K0 (bJ r n))) 1 (K5 (cE r n kk4) 0 1 11 12 13)) (K7 (fY r n kk4) 0 1 5 6 11 12 13) = D152 r n bIr (xs (xs x0 0 (K0 (bJ r n))) 1 (K5 (cE r n kk4) 0 1 11 12 13)) (K9 (aHt r n kk4) 0 1 5 6 7 8 11 12 13) :=
 congrArg (fun k => D152 r n bIr (xs (xs x0 0 (K0 (bJ r n))) 1 (K5 (cE r n kk4) 0 1 11 12 13)) k) (cJg r n kk4)
theorem cHd (kk4 : cD) : D152 r n pT (xs (xs x0 0 (K0 (bJ r n))) 1 (K5 (cE r n kk4) 0 1 11 12 13)) (K7 (fY r n kk4) 0 1 5 6 11 12 13) = (K7 (bFm r n kk4) 0 1 5 6 11 12 13) :=
 (bNv r n kk4).trans
 ((by kernel_rfl))
theorem cLm (kk4 : cD) : D152 r n qL (xs (xs x0 0 (K0 (bJ r n))) 1 (K5 (cE r n kk4) 0 1 11 12 13)) (K7 (fY r n kk4) 0 1 5 6 11 12 13) = (K8 (aIr r n kk4) 0 1 5 6 11 12 13 20) :=
 (by kernel_rfl : D152 r n qL (xs (xs x0 0 (K0 (bJ r n))) 1 (K5 (cE r n kk4) 0 1 11 12 13)) (K7 (fY r n kk4) 0 1 5 6 11 12 13) = (fun (env : aO) (h : Hp) => aT (opr env (cC qL)) (D152 r n pT (xs (xs x0 0 (K0 (bJ r n))) 1 (K5 (cE r n kk4) 0 1 11 12 13)) (K7 (fY r n kk4) 0 1 5 6 11 12 13) env h) (D152 r n cRi (xs (xs x0 0 (K0 (bJ r n))) 1 (K5 (cE r n kk4) 0 1 11 12 13)) (K7 (fY r n kk4) 0 1 5 6 11 12 13) env h))).trans (by rw [cHd r n kk4]; kernel_rfl)
theorem cCl (kk4 : cD) : D152 r n vR (xs (xs x0 0 (K0 (bJ r n))) 1 (K5 (cE r n kk4) 0 1 11 12 13)) (K5 (cE r n kk4) 0 1 11 12 13) = D152 r n pK (xs (xs x0 0 (K0 (bJ r n))) 1 (K5 (cE r n kk4) 0 1 11 12 13)) (K7 (fY r n kk4) 0 1 5 6 11 12 13) :=
 congrArg (fun k => D152 r n pK (xs (xs x0 0 (K0 (bJ r n))) 1 (K5 (cE r n kk4) 0 1 11 12 13)) k) (cQp r n kk4)
theorem cKn (kk4 : cD) : D152 r n pK (xs (xs x0 0 (K0 (bJ r n))) 1 (K5 (cE r n kk4) 0 1 11 12 13)) (K7 (fY r n kk4) 0 1 5 6 11 12 13) = D152 r n bEy (xs (xs x0 0 (K0 (bJ r n))) 1 (K5 (cE r n kk4) 0 1 11 12 13)) (K8 (aIr r n kk4) 0 1 5 6 11 12 13 20) :=
 congrArg (fun k => D152 r n bEy (xs (xs x0 0 (K0 (bJ r n))) 1 (K5 (cE r n kk4) 0 1 11 12 13)) k) (cLm r n kk4)
theorem cVm (kk4 : cD) : D152 r n vR (xs (xs x0 0 (K0 (bJ r n))) 1 (K5 (cE r n kk4) 0 1 11 12 13)) (K5 (cE r n kk4) 0 1 11 12 13) = (K7 (yG r n kk4) 0 1 5 6 11 12 13) :=
 (cCl r n kk4).trans
 ((cKn r n kk4).trans
 ((by kernel_rfl)))
theorem bQf (kk4 : cD) : D152 r n aFl (xs x0 0 (K0 (bJ r n))) (K5 kk4 0 1 11 12 13) = D152 r n tW (xs x0 0 (K0 (bJ r n))) (K5 (cE r n kk4) 0 1 11 12 13) :=
 congrArg (fun k => D152 r n tW (xs x0 0 (K0 (bJ r n))) k) (dCc r n kk4)
theorem bVy (kk4 : cD) : D152 r n tY (xs (xs x0 0 (K0 (bJ r n))) 1 (K5 (cE r n kk4) 0 1 11 12 13)) (K5 (cE r n kk4) 0 1 11 12 13) = D152 r n aIz (xs (xs x0 0 (K0 (bJ r n))) 1 (K5 (cE r n kk4) 0 1 11 12 13)) (K7 (yG r n kk4) 0 1 5 6 11 12 13) :=
 congrArg (fun k => D152 r n aIz (xs (xs x0 0 (K0 (bJ r n))) 1 (K5 (cE r n kk4) 0 1 11 12 13)) k) (cVm r n kk4)
theorem cEm (kk4 : cD) (q0 : TT7) (q1 : Hp → aH) (q2 : cD) : D152 r n aIz (xs (xs x0 0 (K0 q1)) 1 (K5 q2 0 1 11 12 13)) (K7 q0 0 1 5 6 11 12 13) = fun (env : aO) (h : Hp) =>
 bnd (aJ 3 (env 11) (env 13) h) fun v1 h1 =>
 bnd (aI 3 v1 h1) fun v2 h2 =>
 bnd (bD [(aF 0), (aF 0), (aF 0)] h2) fun v3 h3 =>
 bnd (aC 3 v3 v2 h3) fun _ h4 =>
  q0 (env 0) (env 1) (env 13) v3 (env 11) (env 12) (env 13) h4 := by kernel_rfl
theorem bJf (kk4 : cD) : (fun (env : aO) (h : Hp) =>
 bnd (aJ 3 (env 11) (env 13) h) fun v1 h1 =>
 bnd (aI 3 v1 h1) fun v2 h2 =>
 bnd (bD [(aF 0), (aF 0), (aF 0)] h2) fun v3 h3 =>
 bnd (aC 3 v3 v2 h3) fun _ h4 =>
  yG r n kk4 (env 0) (env 1) (env 13) v3 (env 11) (env 12) (env 13) h4) = (K5 (aCm r n kk4) 0 1 11 12 13) := by kernel_rfl
theorem cWr (kk4 : cD) : D152 r n aFl (xs x0 0 (K0 (bJ r n))) (K5 kk4 0 1 11 12 13) = (K5 (aCm r n kk4) 0 1 11 12 13) :=
 (bQf r n kk4).trans
 ((by kernel_rfl : D152 r n tW (xs x0 0 (K0 (bJ r n))) (K5 (cE r n kk4) 0 1 11 12 13) = D152 r n tY (xs (xs x0 0 (K0 (bJ r n))) 1 (K5 (cE r n kk4) 0 1 11 12 13)) (K5 (cE r n kk4) 0 1 11 12 13)).trans
 ((bVy r n kk4).trans
 ((cEm r n kk4 (yG r n kk4) (bJ r n) (cE r n kk4)).trans (bJf r n kk4))))
theorem cLg (kk4 : cD) : D152 r n aNl (xs x0 0 (K0 (bJ r n))) (K5 kk4 0 1 11 12 13) = D152 r n bCk (xs x0 0 (K0 (bJ r n))) (K5 (aCm r n kk4) 0 1 11 12 13) :=
 congrArg (fun k => D152 r n bCk (xs x0 0 (K0 (bJ r n))) k) (cWr r n kk4)
theorem dBp (kk4 : cD) : D152 r n aNl (xs x0 0 (K0 (bJ r n))) (K5 kk4 0 1 11 12 13) = (K6 (aXz r n kk4) 0 1 11 12 13 14) :=
 (cLg r n kk4).trans
 ((by kernel_rfl))
theorem bJt (kk4 : cD) : D152 r n kG (xs x0 0 (K0 (bJ r n))) (K5 kk4 0 1 11 12 13) = D152 r n bDt (xs x0 0 (K0 (bJ r n))) (K6 (aXz r n kk4) 0 1 11 12 13 14) :=
 congrArg (fun k => D152 r n bDt (xs x0 0 (K0 (bJ r n))) k) (dBp r n kk4)
theorem cHh (kk4 : cD) : D152 r n kG (xs x0 0 (K0 (bJ r n))) (K5 kk4 0 1 11 12 13) = (K5 (bDi r n kk4) 0 1 11 12 13) :=
 (bJt r n kk4).trans
 ((by kernel_rfl))
theorem bPy (m : Nat) : aL (fun kk => D152 r n kG (xs x0 0 (K0 (bJ r n))) kk) m = (K5 (uN r n m) 0 1 11 12 13) := by
 induction m with
 | zero => exact (by kernel_rfl : aL (fun kk => D152 r n kG (xs x0 0 (K0 (bJ r n))) kk) 0 = (K5 (uN r n 0) 0 1 11 12 13))
 | succ m ih =>
  refine (by kernel_rfl : aL (fun kk => D152 r n kG (xs x0 0 (K0 (bJ r n))) kk) (m + 1) = D152 r n kG (xs x0 0 (K0 (bJ r n))) (aL (fun kk => D152 r n kG (xs x0 0 (K0 (bJ r n))) kk) m)).trans ?_
  rw [ih]
  exact (cHh r n (uN r n m)).trans (by kernel_rfl)
theorem cYv : D152 r n aEn (xs x0 0 (K0 (bJ r n))) (K0 (bJ r n)) = (K5 (bSq r n) 0 1 11 12 13) :=
 (by kernel_rfl : D152 r n aEn (xs x0 0 (K0 (bJ r n))) (K0 (bJ r n)) = aL (fun kk => D152 r n kG (xs x0 0 (K0 (bJ r n))) kk) n).trans ((bPy r n n).trans (by kernel_rfl))
theorem cPt : D152 r n aTj x0 (K0 (bJ r n)) = (K5 (aYu r n) 0 1 11 12 13) :=
 (by kernel_rfl : D152 r n aTj x0 (K0 (bJ r n)) = D152 r n aEn (xs x0 0 (K0 (bJ r n))) (K0 (bJ r n))).trans
 ((cYv r n).trans (by kernel_rfl))
theorem bOd : D152 r n aGw x0 r152 = D152 r n xB x0 (K0 (bJ r n)) :=
 congrArg (fun k => D152 r n xB x0 k) (cMv r n)
theorem bOq : D152 r n xB x0 (K0 (bJ r n)) = D152 r n bBp x0 (K5 (aYu r n) 0 1 11 12 13) :=
 congrArg (fun k => D152 r n bBp x0 k) (cPt r n)
theorem cPb : D152 r n aGw x0 r152 = (K2 (aVs r n) 0 1) :=
 (bOd r n).trans
 ((bOq r n).trans
 ((by kernel_rfl)))
theorem cVi : D152 r n c152 x0 r152 = D152 r n bIz x0 (K2 (aVs r n) 0 1) :=
 congrArg (fun k => D152 r n bIz x0 k) (cPb r n)
theorem dVw : D152 r n c152 x0 r152 = (K2 (s152 r n) 0 1) :=
 (cVi r n).trans
 ((by kernel_rfl))
theorem dPo : aG CF r n 152 args h = s152 r n (aR args 0) (aR args 1) h :=
 (by kernel_rfl : aG CF r n 152 args h = D152 r n c152 x0 r152 (aK args) h).trans ((congrFun (congrFun (dVw r n) (aK args)) h).trans (by kernel_rfl))
noncomputable def bR (r : RT) (n : Nat) (x6 x9 : DV) (h0 : Hp) : aH :=
 bnd (aA x6 h0) fun v1 h1 =>
 bnd (aA x9 h1) fun v2 h2 =>
 some (.t [v1, v2], h2)
noncomputable def vI (r : RT) (n : Nat) (kk9 : dC) (x2 x3 x6 x7 x9 x10 x11 x14 : DV) (h0 : Hp) : aH :=
 bnd (aE .add x11 (aF 1) h0) fun v1 h1 =>
 bnd (aA x3 h1) fun v2 h2 =>
 bnd (aJ 1 v2 x11 h2) fun v3 h3 =>
 bnd (aA v3 h3) fun v4 h4 =>
 bnd (dD CF r x10 [v1, v4, x14] h4) fun v5 h5 =>
  kk9 x2 x3 x6 x7 x9 x10 h5
noncomputable def aCi (r : RT) (n : Nat) (kk9 : dC) (x2 x3 x6 x7 x9 x10 x11 x12 x13 x14 : DV) (h0 : Hp) : aH :=
 bnd (aB 0 x12 h0) fun v1 h1 =>
 bnd (aA v1 h1) fun v2 h2 =>
 bnd (aE .eql v2 (aF 19) h2) fun v3 h3 =>
 aT v3 (
 bnd (aE .neq x13 (aF 1) h3) fun v4 h4 =>
 bnd (gD v4 false (aA x3 h4) h4) fun v5 h5 =>
 bnd (gD v4 false (some (x11, h5)) h5) fun v6 h6 =>
 bnd (gD v4 false (aJ 1 v5 v6 h6) h6) fun v7 h7 =>
 bnd (gD v4 false (aA v7 h7) h7) fun v8 h8 =>
 bnd (gD v4 false (aE .lss v8 (aF 0) h8) h8) fun v9 h9 =>
 bnd (aP v4 (.b true) v9 h9) fun v10 h10 =>
 aT v10 (
 some (.t [.l0, (.b false)], h10)) (
   kk9 x2 x3 x6 x7 x9 x10 h10)) (
 bnd (aE .eql v2 (aF 20) h3) fun v11 h11 =>
 aT v11 (
   kk9 x2 x3 x6 x7 x9 x10 h11) (
 bnd (aE .eql v2 (aF 16) h11) fun v12 h12 =>
 aT v12 (
 bnd (aI 3 x12 h12) fun v13 h13 =>
 bnd (r 193 [v13] h13) fun v14 h14 =>
 bnd (aA x3 h14) fun v15 h15 =>
 cnd (aZ (aA x3 h12) v15 && true) (
 bnd (aJ 1 v15 x11 h15) fun v16 h16 =>
 bnd (aA v16 h16) fun v17 h17 =>
 cnd (aZ (aA v16 h12) v17 && true) (
 bnd (dD CF r x10 [v14, v17, x14] h17) fun v18 h18 =>
    kk9 x2 x3 x6 x7 x9 x10 h18))) (
 bnd (aE .eql v2 (aF 17) h12) fun v19 h19 =>
 aT v19 (
 bnd (aI 3 x12 h19) fun v20 h20 =>
 bnd (r 193 [v20] h20) fun v21 h21 =>
 bnd (aA x3 h21) fun v22 h22 =>
 cnd (aZ (aA x3 h19) v22 && true) (
 bnd (aJ 1 v22 x11 h22) fun v23 h23 =>
 bnd (aA v23 h23) fun v24 h24 =>
 cnd (aZ (aA v23 h19) v24 && true) (
 bnd (dD CF r x10 [v21, v24, x14] h24) fun v25 h25 =>
     vI r n kk9 x2 x3 x6 x7 x9 x10 x11 x14 h25))) (
     vI r n kk9 x2 x3 x6 x7 x9 x10 x11 x14 h19))))
noncomputable def aMi (r : RT) (n : Nat) (kk9 : dC) (x2 x3 x6 x7 x9 x10 x11 x12 x13 x14 : DV) (h0 : Hp) : aH :=
 bnd (aI 3 x12 h0) fun v1 h1 =>
 bnd (r 196 [v1] h1) fun v2 h2 =>
 bnd (aE .lss x13 v2 h2) fun v3 h3 =>
 bnd (gD v3 false (some (x14, h3)) h3) fun v4 h4 =>
 bnd (gD v3 false (aE .gtr v4 (aF 24) h4) h4) fun v5 h5 =>
 bnd (aP v3 (.b true) v5 h5) fun v6 h6 =>
 aT v6 (
 some (.t [.l0, (.b false)], h6)) (
  aCi r n kk9 x2 x3 x6 x7 x9 x10 x11 x12 x13 x14 h6)
noncomputable def aHi (r : RT) (n : Nat) (kk9 : dC) (x2 x3 x6 x7 x9 x10 x11 x12 x13 : DV) (h0 : Hp) : aH :=
 bnd (aI 3 x12 h0) fun v1 h1 =>
 bnd (r 195 [v1] h1) fun v2 h2 =>
 bnd (aE .add x13 v2 h2) fun v3 h3 =>
  aMi r n kk9 x2 x3 x6 x7 x9 x10 x11 x12 x13 v3 h3
noncomputable def aCt (r : RT) (n : Nat) (kk9 : dC) (x2 x3 x6 x7 x9 x10 x11 : DV) (h0 : Hp) : aH :=
 bnd (aA x2 (resv 1 h0)) fun v1 h1 =>
 bnd (aJ 3 v1 x11 h1) fun v2 h2 =>
 bnd (aI 3 v2 h2) fun v3 h3 =>
 bnd (aA x6 h3) fun v4 h4 =>
 bnd (aJ 1 v4 x11 h4) fun v5 h5 =>
 bnd (aA v5 h5) fun v6 h6 =>
 bnd (iZ (bB 0 h0.next) [(aF 0), (aF 0), (aF 0)] h6) fun v7 h7 =>
 bnd (aC 3 v7 v3 h7) fun v8 h8 =>
 cnd (aZ (aA v5 h8) v6 && (aZ (aA x6 h8) v4 && true)) (
  aHi r n kk9 x2 x3 x6 x7 x9 x10 x11 v7 v6 h8)
noncomputable def aOi (r : RT) (n : Nat) (kk9 : dC) (x2 x3 x6 x7 x9 x10 x11 : DV) (h0 : Hp) : aH :=
 bnd (aA x7 h0) fun v1 h1 =>
 bnd (aA x7 h1) fun v2 h2 =>
 bnd (bT v2 h2) fun v3 h3 =>
 bnd (aE .sub v3 (aF 1) h3) fun v4 h4 =>
 bnd (cS 1 v1 none (some v4) h4) fun v5 h5 =>
 bnd (aC 1 x7 v5 h5) fun _ h6 =>
  aCt r n kk9 x2 x3 x6 x7 x9 x10 x11 h6
noncomputable def aOm (r : RT) (n : Nat) (kk9 : dC) (x2 x3 x6 x7 x9 x10 : DV) (h0 : Hp) : aH :=
 bnd (aA x7 h0) fun v1 h1 =>
 bnd (aA x7 h1) fun v2 h2 =>
 bnd (bT v2 h2) fun v3 h3 =>
 bnd (aE .sub v3 (aF 1) h3) fun v4 h4 =>
 bnd (aJ 1 v1 v4 h4) fun v5 h5 =>
 bnd (aA v5 h5) fun v6 h6 =>
  aOi r n kk9 x2 x3 x6 x7 x9 x10 v6 h6
noncomputable def bBi (r : RT) (n : Nat) (kk9 : dC) (x2 x3 x6 x7 x9 x10 : DV) (h0 : Hp) : aH :=
 bnd (aA x7 h0) fun v1 h1 =>
 bnd (bT v1 h1) fun v2 h2 =>
 bnd (aE .gtr v2 (aF 0) h2) fun v3 h3 =>
 bnd (gD v3 true (aA x9 h3) h3) fun v4 h4 =>
 bnd (aP v3 v4 (.b false) h4) fun v5 h5 =>
 aT v5 (
   aOm r n kk9 x2 x3 x6 x7 x9 x10 h5) (
   bR r n x6 x9 h5)
noncomputable def wQ (r : RT) (n : Nat) (m : Nat) : dC :=
 Nat.rec (motive := fun _ => dC) (fun _ _ _ _ _ _ _ => none) (fun _ ih => bBi r n ih) m
noncomputable def bQk (r : RT) (n : Nat) : dC := wQ r n n
noncomputable def aUt (r : RT) (n : Nat) (x2 x3 x6 x7 x9 x10 : DV) (h0 : Hp) : aH :=
 bQk r n x2 x3 x6 x7 x9 x10 h0
noncomputable def aUf (r : RT) (n : Nat) (x2 x3 x6 x7 x9 x10 : DV) (h0 : Hp) : aH :=
 aUt r n x2 x3 x6 x7 x9 x10 h0
noncomputable def yT (r : RT) (n : Nat) (x2 x3 x6 x7 x9 : DV) (h0 : Hp) : aH :=
 aUf r n x2 x3 x6 x7 x9 (.f 194 [] [x2, x3, x6, x9, x7]) h0
noncomputable def cK (r : RT) (n : Nat) (x2 x3 x6 x7 : DV) (h0 : Hp) : aH :=
 bnd (bD [(.b false)] h0) fun v1 h1 =>
 bnd (aC 1 v1 (.b true) h1) fun _ h2 =>
  yT r n x2 x3 x6 x7 v1 h2
noncomputable def lH (r : RT) (n : Nat) (kk18 : dC) (x2 x3 x6 x7 x19 x20 : DV) (h0 : Hp) : aH :=
 bnd (aE .add x20 (aF 1) h0) fun v1 h1 =>
  kk18 x2 x3 x6 x7 x19 v1 h1
noncomputable def vX (r : RT) (n : Nat) (kk18 : dC) (x2 x3 x6 x7 x19 x20 : DV) (h0 : Hp) : aH :=
 bnd (aA x6 h0) fun v1 h1 =>
 bnd (aJ 1 v1 x20 h1) fun v2 h2 =>
 bnd (aC 1 v2 (.i .i64 (Int.negSucc 0)) h2) fun _ h3 =>
 bnd (aE .eql x20 (aF 0) h3) fun v4 h4 =>
 bnd (gD v4 false (some (x20, h4)) h4) fun v5 h5 =>
 bnd (gD v4 false (aE .gtr v5 (aF 1) h5) h5) fun v6 h6 =>
 bnd (gD v4 false (some (v6, h6)) h6) fun v7 h7 =>
 bnd (gD v7 true (aA x2 h7) h7) fun v8 h8 =>
 bnd (gD v7 true (some (x20, h8)) h8) fun v9 h9 =>
 bnd (gD v7 true (aE .sub v9 (aF 2) h9) h9) fun v10 h10 =>
 bnd (gD v7 true (aJ 3 v8 v10 h10) h10) fun v11 h11 =>
 bnd (gD v7 true (aB 0 v11 h11) h11) fun v12 h12 =>
 bnd (gD v7 true (aA v12 h12) h12) fun v13 h13 =>
 bnd (gD v7 true (aE .eql v13 (aF 18) h13) h13) fun v14 h14 =>
 bnd (gD v4 false (aP v7 v14 (.b false) h14) h14) fun v15 h15 =>
 bnd (gD v4 false (some (v15, h15)) h15) fun v16 h16 =>
 bnd (gD v16 true (aA x3 h16) h16) fun v17 h17 =>
 bnd (gD v16 true (some (x20, h17)) h17) fun v18 h18 =>
 bnd (gD v16 true (aJ 1 v17 v18 h18) h18) fun v19 h19 =>
 bnd (gD v16 true (aA v19 h19) h19) fun v20 h20 =>
 bnd (gD v16 true (some (x20, h20)) h20) fun v21 h21 =>
 bnd (gD v16 true (aE .sub v21 (aF 2) h21) h21) fun v22 h22 =>
 bnd (gD v16 true (aE .eql v20 v22 h22) h22) fun v23 h23 =>
 bnd (gD v4 false (aP v16 v23 (.b false) h23) h23) fun v24 h24 =>
 bnd (aP v4 (.b true) v24 h24) fun v25 h25 =>
 aT v25 (
 bnd (aA x6 h25) fun v26 h26 =>
 bnd (aJ 1 v26 x20 h26) fun v27 h27 =>
 bnd (aC 1 v27 (aF 0) h27) fun _ h28 =>
 bnd (aA x7 h28) fun v29 h29 =>
 bnd (aN [(aF 0)] 1 [(0, 1, x20)] h29) fun v30 h30 =>
 bnd (aW 1 8 v29 v30 h30) fun v31 h31 =>
 bnd (aC 1 x7 v31 h31) fun _ h32 =>
  lH r n kk18 x2 x3 x6 x7 x19 x20 h32) (
  lH r n kk18 x2 x3 x6 x7 x19 x20 h25)
noncomputable def aHc (r : RT) (n : Nat) (kk18 : dC) (x2 x3 x6 x7 x19 x20 x21 : DV) (h0 : Hp) : aH :=
 aT x21 (
  vX r n kk18 x2 x3 x6 x7 x19 x20 h0) (
  cK r n x2 x3 x6 x7 h0)
noncomputable def aRt (r : RT) (n : Nat) (kk18 : dC) (x2 x3 x6 x7 x19 x20 : DV) (h0 : Hp) : aH :=
 bnd (aE .lss x20 x19 h0) fun v1 h1 =>
  aHc r n kk18 x2 x3 x6 x7 x19 x20 v1 h1
noncomputable def qJ (r : RT) (n : Nat) (m : Nat) : dC :=
 Nat.rec (motive := fun _ => dC) (fun _ _ _ _ _ _ _ => none) (fun _ ih => aRt r n ih) m
noncomputable def bEt (r : RT) (n : Nat) : dC := qJ r n n
noncomputable def aIp (r : RT) (n : Nat) (x2 x3 x6 x7 x19 x20 : DV) (h0 : Hp) : aH :=
 bEt r n x2 x3 x6 x7 x19 x20 h0
noncomputable def zF (r : RT) (n : Nat) (x2 x3 x6 x7 : DV) (h0 : Hp) : aH :=
 bnd (aA x6 h0) fun v1 h1 =>
 bnd (bT v1 h1) fun v2 h2 =>
  aIp r n x2 x3 x6 x7 v2 (aF 0) h2
noncomputable def qY (r : RT) (n : Nat) (x2 x3 x6 : DV) (h0 : Hp) : aH :=
 bnd (bD [.l0] h0) fun v1 h1 =>
  zF r n x2 x3 x6 v1 h1
noncomputable def rP (r : RT) (n : Nat) (x2 x3 : DV) (h0 : Hp) : aH :=
 bnd (aA x2 h0) fun v1 h1 =>
 bnd (bT v1 h1) fun v2 h2 =>
 bnd (cG 1 8 [(aF 0)] v2 v2 h2) fun v3 h3 =>
 bnd (bD [.l0] h3) fun v4 h4 =>
 bnd (aC 1 v4 v3 h4) fun _ h5 =>
  qY r n x2 x3 v4 h5
noncomputable def s153 (r : RT) (n : Nat) (x0 x1 : DV) (h0 : Hp) : aH :=
 bnd (bN x0 h0) fun v1 h1 =>
 bnd (bN x1 h1) fun v2 h2 =>
  rP r n v1 v2 h2
noncomputable abbrev c153 : Code := cf Tryz.f153
noncomputable abbrev aUu : Code := cR c153
noncomputable abbrev aJp : Code := cL aUu
noncomputable abbrev aIe : Code := cR aJp
noncomputable abbrev aIf : Code := cR aIe
noncomputable abbrev aMz : Code := cR aIf
noncomputable abbrev aFk : Code := cR aMz
noncomputable abbrev aEh : Code := cR aFk
noncomputable abbrev aDs : Code := cR aEh
noncomputable abbrev dFd : Code := cR aDs
noncomputable abbrev tV : Code := cL aDs
noncomputable abbrev wG : Code := cL tV
noncomputable abbrev iO : Code := cL wG
noncomputable abbrev aMn : Code := cR iO
noncomputable abbrev vU : Code := cL aMn
noncomputable abbrev vK : Code := cR vU
noncomputable abbrev vB : Code := cR vK
noncomputable abbrev wO : Code := cR vB
noncomputable abbrev uL : Code := cR wO
noncomputable abbrev tL : Code := cR uL
noncomputable abbrev cVj : Code := cR tL
noncomputable abbrev bCj : Code := cL tL
noncomputable abbrev bAu : Code := cL uL
noncomputable abbrev bDc : Code := cL wO
noncomputable abbrev bHs : Code := cL vB
noncomputable abbrev bFk : Code := cL vK
noncomputable abbrev bBn : Code := cL vU
noncomputable abbrev bDs : Code := cL iO
noncomputable abbrev bAw : Code := cL aEh
noncomputable abbrev bFb : Code := cL aFk
noncomputable abbrev aLs : Code := cL aMz
noncomputable abbrev qK : Code := cL aIf
noncomputable abbrev aJr : Code := cR qK
noncomputable abbrev wK : Code := cL aJr
noncomputable abbrev iR : Code := cL wK
noncomputable abbrev wF : Code := cR iR
noncomputable abbrev uI : Code := cR wF
noncomputable abbrev cOa : Code := cR uI
noncomputable abbrev aIv : Code := cL uI
noncomputable abbrev bAz : Code := cL wF
noncomputable abbrev bIc : Code := cL iR
noncomputable abbrev bHz : Code := cL qK
noncomputable abbrev aFm : Code := cL aIe
noncomputable abbrev aMp : Code := cL aJp
noncomputable abbrev aNw : Code := cL c153
noncomputable abbrev r153 : K := aQ CF Tryz.f153
noncomputable def D153 (r : RT) (n : Nat) (c : Code) (X : Nat → K) (k : K) : K := aM CF r 144 n c X r153 k
theorem cTc : D153 r n dFd x0 r153 = (K2 (bR r n) 6 9) :=
 (by kernel_rfl)
theorem bPa (kk9 : dC) : D153 r n cVj (xs (xs x0 2 (K2 (bR r n) 6 9)) 3 (K6 kk9 2 3 6 7 9 10)) (K6 kk9 2 3 6 7 9 10) = (K8 (vI r n kk9) 2 3 6 7 9 10 11 14) :=
 (by kernel_rfl)
theorem bJl (kk9 : dC) : D153 r n tL (xs (xs x0 2 (K2 (bR r n) 6 9)) 3 (K6 kk9 2 3 6 7 9 10)) (K6 kk9 2 3 6 7 9 10) = D153 r n bCj (xs (xs x0 2 (K2 (bR r n) 6 9)) 3 (K6 kk9 2 3 6 7 9 10)) (K8 (vI r n kk9) 2 3 6 7 9 10 11 14) :=
 congrArg (fun k => D153 r n bCj (xs (xs x0 2 (K2 (bR r n) 6 9)) 3 (K6 kk9 2 3 6 7 9 10)) k) (bPa r n kk9)
theorem cKr (kk9 : dC) : D153 r n tL (xs (xs x0 2 (K2 (bR r n) 6 9)) 3 (K6 kk9 2 3 6 7 9 10)) (K6 kk9 2 3 6 7 9 10) = (K10 (aCi r n kk9) 2 3 6 7 9 10 11 12 13 14) :=
 (bJl r n kk9).trans
 ((by kernel_rfl))
theorem bLe (kk9 : dC) : D153 r n uL (xs (xs x0 2 (K2 (bR r n) 6 9)) 3 (K6 kk9 2 3 6 7 9 10)) (K6 kk9 2 3 6 7 9 10) = D153 r n bAu (xs (xs x0 2 (K2 (bR r n) 6 9)) 3 (K6 kk9 2 3 6 7 9 10)) (K10 (aCi r n kk9) 2 3 6 7 9 10 11 12 13 14) :=
 congrArg (fun k => D153 r n bAu (xs (xs x0 2 (K2 (bR r n) 6 9)) 3 (K6 kk9 2 3 6 7 9 10)) k) (cKr r n kk9)
theorem cHb (kk9 : dC) : D153 r n uL (xs (xs x0 2 (K2 (bR r n) 6 9)) 3 (K6 kk9 2 3 6 7 9 10)) (K6 kk9 2 3 6 7 9 10) = (K10 (aMi r n kk9) 2 3 6 7 9 10 11 12 13 14) :=
 (bLe r n kk9).trans
 ((by kernel_rfl))
theorem bKm (kk9 : dC) : D153 r n wO (xs (xs x0 2 (K2 (bR r n) 6 9)) 3 (K6 kk9 2 3 6 7 9 10)) (K6 kk9 2 3 6 7 9 10) = D153 r n bDc (xs (xs x0 2 (K2 (bR r n) 6 9)) 3 (K6 kk9 2 3 6 7 9 10)) (K10 (aMi r n kk9) 2 3 6 7 9 10 11 12 13 14) :=
 congrArg (fun k => D153 r n bDc (xs (xs x0 2 (K2 (bR r n) 6 9)) 3 (K6 kk9 2 3 6 7 9 10)) k) (cHb r n kk9)
theorem cIq (kk9 : dC) : D153 r n wO (xs (xs x0 2 (K2 (bR r n) 6 9)) 3 (K6 kk9 2 3 6 7 9 10)) (K6 kk9 2 3 6 7 9 10) = (K9 (aHi r n kk9) 2 3 6 7 9 10 11 12 13) :=
 (bKm r n kk9).trans
 ((by kernel_rfl))
theorem bKf (kk9 : dC) : D153 r n vB (xs (xs x0 2 (K2 (bR r n) 6 9)) 3 (K6 kk9 2 3 6 7 9 10)) (K6 kk9 2 3 6 7 9 10) = D153 r n bHs (xs (xs x0 2 (K2 (bR r n) 6 9)) 3 (K6 kk9 2 3 6 7 9 10)) (K9 (aHi r n kk9) 2 3 6 7 9 10 11 12 13) :=
 congrArg (fun k => D153 r n bHs (xs (xs x0 2 (K2 (bR r n) 6 9)) 3 (K6 kk9 2 3 6 7 9 10)) k) (cIq r n kk9)
theorem cGm (kk9 : dC) : D153 r n vB (xs (xs x0 2 (K2 (bR r n) 6 9)) 3 (K6 kk9 2 3 6 7 9 10)) (K6 kk9 2 3 6 7 9 10) = (K7 (aCt r n kk9) 2 3 6 7 9 10 11) :=
 (bKf r n kk9).trans
 ((by kernel_rfl))
theorem bJs (kk9 : dC) : D153 r n vK (xs (xs x0 2 (K2 (bR r n) 6 9)) 3 (K6 kk9 2 3 6 7 9 10)) (K6 kk9 2 3 6 7 9 10) = D153 r n bFk (xs (xs x0 2 (K2 (bR r n) 6 9)) 3 (K6 kk9 2 3 6 7 9 10)) (K7 (aCt r n kk9) 2 3 6 7 9 10 11) :=
 congrArg (fun k => D153 r n bFk (xs (xs x0 2 (K2 (bR r n) 6 9)) 3 (K6 kk9 2 3 6 7 9 10)) k) (cGm r n kk9)
theorem cHm (kk9 : dC) : D153 r n vK (xs (xs x0 2 (K2 (bR r n) 6 9)) 3 (K6 kk9 2 3 6 7 9 10)) (K6 kk9 2 3 6 7 9 10) = (K7 (aOi r n kk9) 2 3 6 7 9 10 11) :=
 (bJs r n kk9).trans
 ((by kernel_rfl))
theorem bNn (kk9 : dC) : D153 r n vU (xs (xs x0 2 (K2 (bR r n) 6 9)) 3 (K6 kk9 2 3 6 7 9 10)) (K6 kk9 2 3 6 7 9 10) = D153 r n bBn (xs (xs x0 2 (K2 (bR r n) 6 9)) 3 (K6 kk9 2 3 6 7 9 10)) (K7 (aOi r n kk9) 2 3 6 7 9 10 11) :=
 congrArg (fun k => D153 r n bBn (xs (xs x0 2 (K2 (bR r n) 6 9)) 3 (K6 kk9 2 3 6 7 9 10)) k) (cHm r n kk9)
theorem cGe (kk9 : dC) : D153 r n aMn (xs x0 2 (K2 (bR r n) 6 9)) (K6 kk9 2 3 6 7 9 10) = (K6 (aOm r n kk9) 2 3 6 7 9 10) :=
 (by kernel_rfl : D153 r n aMn (xs x0 2 (K2 (bR r n) 6 9)) (K6 kk9 2 3 6 7 9 10) = D153 r n vU (xs (xs x0 2 (K2 (bR r n) 6 9)) 3 (K6 kk9 2 3 6 7 9 10)) (K6 kk9 2 3 6 7 9 10)).trans
 ((bNn r n kk9).trans
 ((by kernel_rfl)))
theorem cCc (kk9 : dC) : D153 r n iO (xs x0 2 (K2 (bR r n) 6 9)) (K6 kk9 2 3 6 7 9 10) = D153 r n bDs (xs x0 2 (K2 (bR r n) 6 9)) (K6 (aOm r n kk9) 2 3 6 7 9 10) :=
 congrArg (fun k => D153 r n bDs (xs x0 2 (K2 (bR r n) 6 9)) k) (cGe r n kk9)
theorem bVl (kk9 : dC) : D153 r n iO (xs x0 2 (K2 (bR r n) 6 9)) (K6 kk9 2 3 6 7 9 10) = (K6 (bBi r n kk9) 2 3 6 7 9 10) :=
 (cCc r n kk9).trans
 ((by kernel_rfl))
theorem cAp (m : Nat) : aL (fun kk => D153 r n iO (xs x0 2 (K2 (bR r n) 6 9)) kk) m = (K6 (wQ r n m) 2 3 6 7 9 10) := by
 induction m with
 | zero => exact (by kernel_rfl : aL (fun kk => D153 r n iO (xs x0 2 (K2 (bR r n) 6 9)) kk) 0 = (K6 (wQ r n 0) 2 3 6 7 9 10))
 | succ m ih =>
  refine (by kernel_rfl : aL (fun kk => D153 r n iO (xs x0 2 (K2 (bR r n) 6 9)) kk) (m + 1) = D153 r n iO (xs x0 2 (K2 (bR r n) 6 9)) (aL (fun kk => D153 r n iO (xs x0 2 (K2 (bR r n) 6 9)) kk) m)).trans ?_
  rw [ih]
  exact (bVl r n (wQ r n m)).trans (by kernel_rfl)
theorem cOj : D153 r n wG (xs x0 2 (K2 (bR r n) 6 9)) (K2 (bR r n) 6 9) = (K6 (bQk r n) 2 3 6 7 9 10) :=
 (by kernel_rfl : D153 r n wG (xs x0 2 (K2 (bR r n) 6 9)) (K2 (bR r n) 6 9) = aL (fun kk => D153 r n iO (xs x0 2 (K2 (bR r n) 6 9)) kk) n).trans ((cAp r n n).trans (by kernel_rfl))
theorem bUi : D153 r n aDs x0 r153 = D153 r n tV x0 (K2 (bR r n) 6 9) :=
 congrArg (fun k => D153 r n tV x0 k) (cTc r n)
theorem cRk : D153 r n aDs x0 r153 = (K6 (aUt r n) 2 3 6 7 9 10) :=
 (bUi r n).trans
 ((by kernel_rfl : D153 r n tV x0 (K2 (bR r n) 6 9) = D153 r n wG (xs x0 2 (K2 (bR r n) 6 9)) (K2 (bR r n) 6 9)).trans
 ((cOj r n).trans (by kernel_rfl)))
theorem cGd : D153 r n aEh x0 r153 = D153 r n bAw x0 (K6 (aUt r n) 2 3 6 7 9 10) :=
 congrArg (fun k => D153 r n bAw x0 k) (cRk r n)
theorem cZf : D153 r n aEh x0 r153 = (K6 (aUf r n) 2 3 6 7 9 10) :=
 (cGd r n).trans
 ((by kernel_rfl))
theorem bKx : D153 r n aFk x0 r153 = D153 r n bFb x0 (K6 (aUf r n) 2 3 6 7 9 10) :=
 congrArg (fun k => D153 r n bFb x0 k) (cZf r n)
theorem cMr : D153 r n aFk x0 r153 = (K5 (yT r n) 2 3 6 7 9) :=
 (bKx r n).trans
 ((by kernel_rfl))
theorem bMo : D153 r n aMz x0 r153 = D153 r n aLs x0 (K5 (yT r n) 2 3 6 7 9) :=
 congrArg (fun k => D153 r n aLs x0 k) (cMr r n)
theorem bKv (q0 : cD) : D153 r n aLs x0 (K5 q0 2 3 6 7 9) = fun (env : aO) (h : Hp) =>
 bnd (bD [(.b false)] h) fun v1 h1 =>
 bnd (aC 1 v1 (.b true) h1) fun _ h2 =>
  q0 (env 2) (env 3) (env 6) (env 7) v1 h2 := by kernel_rfl
theorem aWz : (fun (env : aO) (h : Hp) =>
 bnd (bD [(.b false)] h) fun v1 h1 =>
 bnd (aC 1 v1 (.b true) h1) fun _ h2 =>
  yT r n (env 2) (env 3) (env 6) (env 7) v1 h2) = (K4 (cK r n) 2 3 6 7) := by kernel_rfl
theorem cTb : D153 r n aMz x0 r153 = (K4 (cK r n) 2 3 6 7) :=
 (bMo r n).trans
 ((bKv r n (yT r n)).trans (aWz r n))
theorem cAf (kk18 : dC) : D153 r n cOa (xs x0 0 (K4 (cK r n) 2 3 6 7)) (K6 kk18 2 3 6 7 19 20) = (K6 (lH r n kk18) 2 3 6 7 19 20) :=
 (by kernel_rfl)
theorem aSz (kk18 : dC) : D153 r n uI (xs x0 0 (K4 (cK r n) 2 3 6 7)) (K6 kk18 2 3 6 7 19 20) = D153 r n aIv (xs x0 0 (K4 (cK r n) 2 3 6 7)) (K6 (lH r n kk18) 2 3 6 7 19 20) :=
 congrArg (fun k => D153 r n aIv (xs x0 0 (K4 (cK r n) 2 3 6 7)) k) (cAf r n kk18)
theorem aYn (kk18 : dC) (q0 : dC) (q1 : dI) : D153 r n aIv (xs x0 0 (K4 q1 2 3 6 7)) (K6 q0 2 3 6 7 19 20) = fun (env : aO) (h : Hp) =>
 bnd (aA (env 6) h) fun v1 h1 =>
 bnd (aJ 1 v1 (env 20) h1) fun v2 h2 =>
 bnd (aC 1 v2 (.i .i64 (Int.negSucc 0)) h2) fun _ h3 =>
 bnd (aE .eql (env 20) (aF 0) h3) fun v4 h4 =>
 bnd (gD v4 false (some ((env 20), h4)) h4) fun v5 h5 =>
 bnd (gD v4 false (aE .gtr v5 (aF 1) h5) h5) fun v6 h6 =>
 bnd (gD v4 false (some (v6, h6)) h6) fun v7 h7 =>
 bnd (gD v7 true (aA (env 2) h7) h7) fun v8 h8 =>
 bnd (gD v7 true (some ((env 20), h8)) h8) fun v9 h9 =>
 bnd (gD v7 true (aE .sub v9 (aF 2) h9) h9) fun v10 h10 =>
 bnd (gD v7 true (aJ 3 v8 v10 h10) h10) fun v11 h11 =>
 bnd (gD v7 true (aB 0 v11 h11) h11) fun v12 h12 =>
 bnd (gD v7 true (aA v12 h12) h12) fun v13 h13 =>
 bnd (gD v7 true (aE .eql v13 (aF 18) h13) h13) fun v14 h14 =>
 bnd (gD v4 false (aP v7 v14 (.b false) h14) h14) fun v15 h15 =>
 bnd (gD v4 false (some (v15, h15)) h15) fun v16 h16 =>
 bnd (gD v16 true (aA (env 3) h16) h16) fun v17 h17 =>
 bnd (gD v16 true (some ((env 20), h17)) h17) fun v18 h18 =>
 bnd (gD v16 true (aJ 1 v17 v18 h18) h18) fun v19 h19 =>
 bnd (gD v16 true (aA v19 h19) h19) fun v20 h20 =>
 bnd (gD v16 true (some ((env 20), h20)) h20) fun v21 h21 =>
 bnd (gD v16 true (aE .sub v21 (aF 2) h21) h21) fun v22 h22 =>
 bnd (gD v16 true (aE .eql v20 v22 h22) h22) fun v23 h23 =>
 bnd (gD v4 false (aP v16 v23 (.b false) h23) h23) fun v24 h24 =>
 bnd (aP v4 (.b true) v24 h24) fun v25 h25 =>
 aT v25 (
 bnd (aA (env 6) h25) fun v26 h26 =>
 bnd (aJ 1 v26 (env 20) h26) fun v27 h27 =>
 bnd (aC 1 v27 (aF 0) h27) fun _ h28 =>
 bnd (aA (env 7) h28) fun v29 h29 =>
 bnd (aN [(aF 0)] 1 [(0, 1, (env 20))] h29) fun v30 h30 =>
 bnd (aW 1 8 v29 v30 h30) fun v31 h31 =>
 bnd (aC 1 (env 7) v31 h31) fun _ h32 =>
      q0 (env 2) (env 3) (env 6) (env 7) (env 19) (env 20) h32) (
      q0 (env 2) (env 3) (env 6) (env 7) (env 19) (env 20) h25) := by kernel_rfl
theorem aRa (kk18 : dC) : (fun (env : aO) (h : Hp) =>
 bnd (aA (env 6) h) fun v1 h1 =>
 bnd (aJ 1 v1 (env 20) h1) fun v2 h2 =>
 bnd (aC 1 v2 (.i .i64 (Int.negSucc 0)) h2) fun _ h3 =>
 bnd (aE .eql (env 20) (aF 0) h3) fun v4 h4 =>
 bnd (gD v4 false (some ((env 20), h4)) h4) fun v5 h5 =>
 bnd (gD v4 false (aE .gtr v5 (aF 1) h5) h5) fun v6 h6 =>
 bnd (gD v4 false (some (v6, h6)) h6) fun v7 h7 =>
 bnd (gD v7 true (aA (env 2) h7) h7) fun v8 h8 =>
 bnd (gD v7 true (some ((env 20), h8)) h8) fun v9 h9 =>
 bnd (gD v7 true (aE .sub v9 (aF 2) h9) h9) fun v10 h10 =>
 bnd (gD v7 true (aJ 3 v8 v10 h10) h10) fun v11 h11 =>
 bnd (gD v7 true (aB 0 v11 h11) h11) fun v12 h12 =>
 bnd (gD v7 true (aA v12 h12) h12) fun v13 h13 =>
 bnd (gD v7 true (aE .eql v13 (aF 18) h13) h13) fun v14 h14 =>
 bnd (gD v4 false (aP v7 v14 (.b false) h14) h14) fun v15 h15 =>
 bnd (gD v4 false (some (v15, h15)) h15) fun v16 h16 =>
 bnd (gD v16 true (aA (env 3) h16) h16) fun v17 h17 =>
 bnd (gD v16 true (some ((env 20), h17)) h17) fun v18 h18 =>
 bnd (gD v16 true (aJ 1 v17 v18 h18) h18) fun v19 h19 =>
 bnd (gD v16 true (aA v19 h19) h19) fun v20 h20 =>
 bnd (gD v16 true (some ((env 20), h20)) h20) fun v21 h21 =>
 bnd (gD v16 true (aE .sub v21 (aF 2) h21) h21) fun v22 h22 =>
 bnd (gD v16 true (aE .eql v20 v22 h22) h22) fun v23 h23 =>
 bnd (gD v4 false (aP v16 v23 (.b false) h23) h23) fun v24 h24 =>
 bnd (aP v4 (.b true) v24 h24) fun v25 h25 =>
 aT v25 (
 bnd (aA (env 6) h25) fun v26 h26 =>
 bnd (aJ 1 v26 (env 20) h26) fun v27 h27 =>
 bnd (aC 1 v27 (aF 0) h27) fun _ h28 =>
 bnd (aA (env 7) h28) fun v29 h29 =>
 bnd (aN [(aF 0)] 1 [(0, 1, (env 20))] h29) fun v30 h30 =>
 bnd (aW 1 8 v29 v30 h30) fun v31 h31 =>
 bnd (aC 1 (env 7) v31 h31) fun _ h32 =>
      lH r n kk18 (env 2) (env 3) (env 6) (env 7) (env 19) (env 20) h32) (
      lH r n kk18 (env 2) (env 3) (env 6) (env 7) (env 19) (env 20) h25)) = (K6 (vX r n kk18) 2 3 6 7 19 20) := by kernel_rfl
theorem cDh (kk18 : dC) : D153 r n uI (xs x0 0 (K4 (cK r n) 2 3 6 7)) (K6 kk18 2 3 6 7 19 20) = (K6 (vX r n kk18) 2 3 6 7 19 20) :=
 (aSz r n kk18).trans
 ((aYn r n kk18 (lH r n kk18) (cK r n)).trans (aRa r n kk18))
theorem aZu (kk18 : dC) : D153 r n wF (xs x0 0 (K4 (cK r n) 2 3 6 7)) (K6 kk18 2 3 6 7 19 20) = D153 r n bAz (xs x0 0 (K4 (cK r n) 2 3 6 7)) (K6 (vX r n kk18) 2 3 6 7 19 20) :=
 congrArg (fun k => D153 r n bAz (xs x0 0 (K4 (cK r n) 2 3 6 7)) k) (cDh r n kk18)
theorem bQe (kk18 : dC) : D153 r n wF (xs x0 0 (K4 (cK r n) 2 3 6 7)) (K6 kk18 2 3 6 7 19 20) = (K7 (aHc r n kk18) 2 3 6 7 19 20 21) :=
 (aZu r n kk18).trans
 ((by kernel_rfl))
theorem aUd (kk18 : dC) : D153 r n iR (xs x0 0 (K4 (cK r n) 2 3 6 7)) (K6 kk18 2 3 6 7 19 20) = D153 r n bIc (xs x0 0 (K4 (cK r n) 2 3 6 7)) (K7 (aHc r n kk18) 2 3 6 7 19 20 21) :=
 congrArg (fun k => D153 r n bIc (xs x0 0 (K4 (cK r n) 2 3 6 7)) k) (bQe r n kk18)
theorem bLm (kk18 : dC) : D153 r n iR (xs x0 0 (K4 (cK r n) 2 3 6 7)) (K6 kk18 2 3 6 7 19 20) = (K6 (aRt r n kk18) 2 3 6 7 19 20) :=
 (aUd r n kk18).trans
 ((by kernel_rfl))
theorem bMj (m : Nat) : aL (fun kk => D153 r n iR (xs x0 0 (K4 (cK r n) 2 3 6 7)) kk) m = (K6 (qJ r n m) 2 3 6 7 19 20) := by
 induction m with
 | zero => exact (by kernel_rfl : aL (fun kk => D153 r n iR (xs x0 0 (K4 (cK r n) 2 3 6 7)) kk) 0 = (K6 (qJ r n 0) 2 3 6 7 19 20))
 | succ m ih =>
  refine (by kernel_rfl : aL (fun kk => D153 r n iR (xs x0 0 (K4 (cK r n) 2 3 6 7)) kk) (m + 1) = D153 r n iR (xs x0 0 (K4 (cK r n) 2 3 6 7)) (aL (fun kk => D153 r n iR (xs x0 0 (K4 (cK r n) 2 3 6 7)) kk) m)).trans ?_
  rw [ih]
  exact (bLm r n (qJ r n m)).trans (by kernel_rfl)
theorem cDg : D153 r n wK (xs x0 0 (K4 (cK r n) 2 3 6 7)) (K4 (cK r n) 2 3 6 7) = (K6 (bEt r n) 2 3 6 7 19 20) :=
 (by kernel_rfl : D153 r n wK (xs x0 0 (K4 (cK r n) 2 3 6 7)) (K4 (cK r n) 2 3 6 7) = aL (fun kk => D153 r n iR (xs x0 0 (K4 (cK r n) 2 3 6 7)) kk) n).trans ((bMj r n n).trans (by kernel_rfl))
theorem cLb : D153 r n aJr x0 (K4 (cK r n) 2 3 6 7) = (K6 (aIp r n) 2 3 6 7 19 20) :=
 (by kernel_rfl : D153 r n aJr x0 (K4 (cK r n) 2 3 6 7) = D153 r n wK (xs x0 0 (K4 (cK r n) 2 3 6 7)) (K4 (cK r n) 2 3 6 7)).trans
 ((cDg r n).trans (by kernel_rfl))
theorem bMv : D153 r n aIf x0 r153 = D153 r n qK x0 (K4 (cK r n) 2 3 6 7) :=
 congrArg (fun k => D153 r n qK x0 k) (cTb r n)
theorem bJr : D153 r n qK x0 (K4 (cK r n) 2 3 6 7) = D153 r n bHz x0 (K6 (aIp r n) 2 3 6 7 19 20) :=
 congrArg (fun k => D153 r n bHz x0 k) (cLb r n)
theorem cYm : D153 r n aIf x0 r153 = (K4 (zF r n) 2 3 6 7) :=
 (bMv r n).trans
 ((bJr r n).trans
 ((by kernel_rfl)))
theorem bKq : D153 r n aIe x0 r153 = D153 r n aFm x0 (K4 (zF r n) 2 3 6 7) :=
 congrArg (fun k => D153 r n aFm x0 k) (cYm r n)
theorem bKd (q0 : dI) : D153 r n aFm x0 (K4 q0 2 3 6 7) = fun (env : aO) (h : Hp) =>
 bnd (bD [.l0] h) fun v1 h1 =>
  q0 (env 2) (env 3) (env 6) v1 h1 := by kernel_rfl
theorem aYo : (fun (env : aO) (h : Hp) =>
 bnd (bD [.l0] h) fun v1 h1 =>
  zF r n (env 2) (env 3) (env 6) v1 h1) = (K3 (qY r n) 2 3 6) := by kernel_rfl
theorem dAx : D153 r n aIe x0 r153 = (K3 (qY r n) 2 3 6) :=
 (bKq r n).trans
 ((bKd r n (zF r n)).trans (aYo r n))
theorem bMk : D153 r n aJp x0 r153 = D153 r n aMp x0 (K3 (qY r n) 2 3 6) :=
 congrArg (fun k => D153 r n aMp x0 k) (dAx r n)
theorem bOm (q0 : eO) : D153 r n aMp x0 (K3 q0 2 3 6) = fun (env : aO) (h : Hp) =>
 bnd (aA (env 2) h) fun v1 h1 =>
 bnd (bT v1 h1) fun v2 h2 =>
 bnd (cG 1 8 [(aF 0)] v2 v2 h2) fun v3 h3 =>
 bnd (bD [.l0] h3) fun v4 h4 =>
 bnd (aC 1 v4 v3 h4) fun _ h5 =>
  q0 (env 2) (env 3) v4 h5 := by kernel_rfl
theorem aSx : (fun (env : aO) (h : Hp) =>
 bnd (aA (env 2) h) fun v1 h1 =>
 bnd (bT v1 h1) fun v2 h2 =>
 bnd (cG 1 8 [(aF 0)] v2 v2 h2) fun v3 h3 =>
 bnd (bD [.l0] h3) fun v4 h4 =>
 bnd (aC 1 v4 v3 h4) fun _ h5 =>
  qY r n (env 2) (env 3) v4 h5) = (K2 (rP r n) 2 3) := by kernel_rfl
theorem cWw : D153 r n aUu x0 r153 = (K2 (rP r n) 2 3) :=
 (by kernel_rfl : D153 r n aUu x0 r153 = D153 r n aJp x0 r153).trans
 ((bMk r n).trans
 ((bOm r n (qY r n)).trans (aSx r n)))
theorem cQg : D153 r n c153 x0 r153 = D153 r n aNw x0 (K2 (rP r n) 2 3) :=
 congrArg (fun k => D153 r n aNw x0 k) (cWw r n)
theorem cQc (q0 : eM) : D153 r n aNw x0 (K2 q0 2 3) = fun (env : aO) (h : Hp) =>
 bnd (bN (env 0) h) fun v1 h1 =>
 bnd (bN (env 1) h1) fun v2 h2 =>
  q0 v1 v2 h2 := by kernel_rfl
theorem bQy : (fun (env : aO) (h : Hp) =>
 bnd (bN (env 0) h) fun v1 h1 =>
 bnd (bN (env 1) h1) fun v2 h2 =>
  rP r n v1 v2 h2) = (K2 (s153 r n) 0 1) := by kernel_rfl
theorem dRk : D153 r n c153 x0 r153 = (K2 (s153 r n) 0 1) :=
 (cQg r n).trans
 ((cQc r n (rP r n)).trans (bQy r n))
theorem dEn : aG CF r n 153 args h = s153 r n (aR args 0) (aR args 1) h :=
 (by kernel_rfl : aG CF r n 153 args h = D153 r n c153 x0 r153 (aK args) h).trans ((congrFun (congrFun (dRk r n) (aK args)) h).trans (by kernel_rfl))
noncomputable def eY (r : RT) (n : Nat) (x0 x6 : DV) (h0 : Hp) : aH :=
 bnd (fS x0 h0) fun v1 h1 =>
 bnd (bA [(aF 0), (.s []), (aF 0), (aF 0)] [(3, 1, v1)] h1) fun v2 h2 =>
 bnd (aN [(aF 0), (.s []), (aF 0), (aF 0)] 1 [(0, 4, v2)] h2) fun v3 h3 =>
 bnd (aW 4 40 x6 v3 h3) fun v4 h4 =>
 some (.t [v4, (aF 0), (aF 0)], h4)
noncomputable def aEe (r : RT) (n : Nat) (kk7 : eO) (x0 x5 x6 : DV) (h0 : Hp) : aH :=
 bnd (r 198 [(.s [9, 10, 13, 32])] h0) fun v1 h1 =>
 bnd (fS x0 h1) fun v2 h2 =>
 bnd (r 197 [x5, v1, v2] h2) fun v3 h3 =>
 bnd (aU x5 h3) fun v4 h4 =>
 bnd (aB 1 v4 h4) fun v5 h5 =>
 bnd (aA v5 h5) fun v6 h6 =>
 bnd (fS x0 h6) fun v7 h7 =>
 bnd (aE .geq v6 v7 h7) fun v8 h8 =>
 aT v8 (
   eY r n x0 x6 h8) (
 bnd (aU x5 h8) fun v9 h9 =>
 bnd (aB 1 v9 h9) fun v10 h10 =>
 bnd (aA v10 h10) fun v11 h11 =>
 bnd (fF x0 v11 h11) fun v12 h12 =>
 bnd (aE .eql v12 (.i .u8 (Int.ofNat 34)) h12) fun v13 h13 =>
 aT v13 (
 bnd (aU x5 h13) fun v14 h14 =>
 bnd (aB 1 v14 h14) fun v15 h15 =>
 bnd (aA v15 h15) fun v16 h16 =>
 bnd (aE .add v16 (aF 1) h16) fun v17 h17 =>
 bnd (jD x0 (some v17) none h17) fun v18 h18 =>
 bnd (r 199 [v18, (.i .u8 (Int.ofNat 34))] h18) fun v19 h19 =>
 bnd (aE .lss v19 (aF 0) h19) fun v20 h20 =>
 aT v20 (
 bnd (aU x5 h20) fun v21 h21 =>
 bnd (aB 1 v21 h21) fun v22 h22 =>
 bnd (aA v22 h22) fun v23 h23 =>
 some (.t [.l0, v23, (aF 11)], h23)) (
 bnd (aU x5 h20) fun v24 h24 =>
 bnd (aB 1 v24 h24) fun v25 h25 =>
 bnd (aA v25 h25) fun v26 h26 =>
 bnd (aE .add v19 (aF 2) h26) fun v27 h27 =>
 bnd (aE .add v26 v27 h27) fun v28 h28 =>
 bnd (aU x5 h28) fun v29 h29 =>
 bnd (aB 1 v29 h29) fun v30 h30 =>
 bnd (aC 1 v30 v28 h30) fun _ h31 =>
     kk7 x0 x5 x6 h31)) (
 bnd (r 200 [x5] h13) fun v32 h32 =>
 bnd (aD 0 v32 h32) fun v33 h33 =>
 bnd (aD 1 v32 h33) fun v34 h34 =>
 bnd (bD [(aF 0), (.s []), (aF 0), (aF 0)] h34) fun v35 h35 =>
 bnd (aC 4 v35 v33 h35) fun _ h36 =>
 bnd (aE .neq v34 (aF 0) h36) fun v37 h37 =>
 aT v37 (
 bnd (aB 3 v35 h37) fun v38 h38 =>
 bnd (aA v38 h38) fun v39 h39 =>
 some (.t [.l0, v39, v34], h39)) (
 bnd (aI 4 v35 h37) fun v40 h40 =>
 bnd (aN [(aF 0), (.s []), (aF 0), (aF 0)] 1 [(0, 4, v40)] h40) fun v41 h41 =>
 bnd (aW 4 40 x6 v41 h41) fun v42 h42 =>
     kk7 x0 x5 v42 h42)))
noncomputable def vT (r : RT) (n : Nat) (m : Nat) : eO :=
 Nat.rec (motive := fun _ => eO) (fun _ _ _ _ => none) (fun _ ih => aEe r n ih) m
noncomputable def bXe (r : RT) (n : Nat) : eO := vT r n n
noncomputable def aRu (r : RT) (n : Nat) (x0 x5 x6 : DV) (h0 : Hp) : aH :=
 bXe r n x0 x5 x6 h0
noncomputable def aXx (r : RT) (n : Nat) (x0 x5 x6 : DV) (h0 : Hp) : aH :=
 aRu r n x0 x5 x6 h0
noncomputable def zA (r : RT) (n : Nat) (x0 x5 : DV) (h0 : Hp) : aH :=
 aXx r n x0 x5 .l0 h0
noncomputable def aIy (r : RT) (n : Nat) (x0 : DV) (h0 : Hp) : aH :=
 bnd (bA [(.s []), (aF 0)] [(0, 1, x0)] h0) fun v1 h1 =>
 bnd (bN v1 h1) fun v2 h2 =>
  zA r n x0 v2 h2
noncomputable def aVy (r : RT) (n : Nat) (x0 : DV) (h0 : Hp) : aH :=
 bnd (fS x0 h0) fun v1 h1 =>
 bnd (aE .gtr v1 (aF 2000) h1) fun v2 h2 =>
 aT v2 (
 some (.t [.l0, (aF 0), (aF 12)], h2)) (
  aIy r n x0 h2)
noncomputable def s154 (r : RT) (n : Nat) (x0 : DV) (h0 : Hp) : aH :=
 aVy r n x0 h0
noncomputable abbrev c154 : Code := cf Tryz.f154
noncomputable abbrev aVo : Code := cR c154
noncomputable abbrev aIq : Code := cL aVo
noncomputable abbrev aJq : Code := cR aIq
noncomputable abbrev aLc : Code := cR aJq
noncomputable abbrev aJc : Code := cR aLc
noncomputable abbrev aGt : Code := cR aJc
noncomputable abbrev dHk : Code := cR aGt
noncomputable abbrev aNt : Code := cL aGt
noncomputable abbrev aFe : Code := cL aNt
noncomputable abbrev jX : Code := cL aFe
noncomputable abbrev bHr : Code := cL aJc
noncomputable abbrev bHt : Code := cL aLc
noncomputable abbrev aDz : Code := cL aJq
noncomputable abbrev bGi : Code := cL aIq
noncomputable abbrev bIb : Code := cL c154
noncomputable abbrev r154 : K := aQ CF Tryz.f154
noncomputable def D154 (r : RT) (n : Nat) (c : Code) (X : Nat → K) (k : K) : K := aM CF r 80 n c X r154 k
theorem cWs : D154 r n dHk x0 r154 = (K2 (eY r n) 0 6) :=
 (by kernel_rfl)
theorem cEa (kk7 : eO) (q0 : eM) : D154 r n jX (xs x0 0 (K2 q0 0 6)) (K3 kk7 0 5 6) = fun (env : aO) (h : Hp) =>
 bnd (r 198 [(.s [9, 10, 13, 32])] h) fun v1 h1 =>
 bnd (fS (env 0) h1) fun v2 h2 =>
 bnd (r 197 [(env 5), v1, v2] h2) fun v3 h3 =>
 bnd (aU (env 5) h3) fun v4 h4 =>
 bnd (aB 1 v4 h4) fun v5 h5 =>
 bnd (aA v5 h5) fun v6 h6 =>
 bnd (fS (env 0) h6) fun v7 h7 =>
 bnd (aE .geq v6 v7 h7) fun v8 h8 =>
 aT v8 (
   q0 (env 0) (env 6) h8) (
 bnd (aU (env 5) h8) fun v9 h9 =>
 bnd (aB 1 v9 h9) fun v10 h10 =>
 bnd (aA v10 h10) fun v11 h11 =>
 bnd (fF (env 0) v11 h11) fun v12 h12 =>
 bnd (aE .eql v12 (.i .u8 (Int.ofNat 34)) h12) fun v13 h13 =>
 aT v13 (
 bnd (aU (env 5) h13) fun v14 h14 =>
 bnd (aB 1 v14 h14) fun v15 h15 =>
 bnd (aA v15 h15) fun v16 h16 =>
 bnd (aE .add v16 (aF 1) h16) fun v17 h17 =>
 bnd (jD (env 0) (some v17) none h17) fun v18 h18 =>
 bnd (r 199 [v18, (.i .u8 (Int.ofNat 34))] h18) fun v19 h19 =>
 bnd (aE .lss v19 (aF 0) h19) fun v20 h20 =>
 aT v20 (
 bnd (aU (env 5) h20) fun v21 h21 =>
 bnd (aB 1 v21 h21) fun v22 h22 =>
 bnd (aA v22 h22) fun v23 h23 =>
 some (.t [.l0, v23, (aF 11)], h23)) (
 bnd (aU (env 5) h20) fun v24 h24 =>
 bnd (aB 1 v24 h24) fun v25 h25 =>
 bnd (aA v25 h25) fun v26 h26 =>
 bnd (aE .add v19 (aF 2) h26) fun v27 h27 =>
 bnd (aE .add v26 v27 h27) fun v28 h28 =>
 bnd (aU (env 5) h28) fun v29 h29 =>
 bnd (aB 1 v29 h29) fun v30 h30 =>
 bnd (aC 1 v30 v28 h30) fun _ h31 =>
     kk7 (env 0) (env 5) (env 6) h31)) (
 bnd (r 200 [(env 5)] h13) fun v32 h32 =>
 bnd (aD 0 v32 h32) fun v33 h33 =>
 bnd (aD 1 v32 h33) fun v34 h34 =>
 bnd (bD [(aF 0), (.s []), (aF 0), (aF 0)] h34) fun v35 h35 =>
 bnd (aC 4 v35 v33 h35) fun _ h36 =>
 bnd (aE .neq v34 (aF 0) h36) fun v37 h37 =>
 aT v37 (
 bnd (aB 3 v35 h37) fun v38 h38 =>
 bnd (aA v38 h38) fun v39 h39 =>
 some (.t [.l0, v39, v34], h39)) (
 bnd (aI 4 v35 h37) fun v40 h40 =>
 bnd (aN [(aF 0), (.s []), (aF 0), (aF 0)] 1 [(0, 4, v40)] h40) fun v41 h41 =>
 bnd (aW 4 40 (env 6) v41 h41) fun v42 h42 =>
     kk7 (env 0) (env 5) v42 h42))) := by kernel_rfl
theorem bMe (kk7 : eO) : (fun (env : aO) (h : Hp) =>
 bnd (r 198 [(.s [9, 10, 13, 32])] h) fun v1 h1 =>
 bnd (fS (env 0) h1) fun v2 h2 =>
 bnd (r 197 [(env 5), v1, v2] h2) fun v3 h3 =>
 bnd (aU (env 5) h3) fun v4 h4 =>
 bnd (aB 1 v4 h4) fun v5 h5 =>
 bnd (aA v5 h5) fun v6 h6 =>
 bnd (fS (env 0) h6) fun v7 h7 =>
 bnd (aE .geq v6 v7 h7) fun v8 h8 =>
 aT v8 (
   eY r n (env 0) (env 6) h8) (
 bnd (aU (env 5) h8) fun v9 h9 =>
 bnd (aB 1 v9 h9) fun v10 h10 =>
 bnd (aA v10 h10) fun v11 h11 =>
 bnd (fF (env 0) v11 h11) fun v12 h12 =>
 bnd (aE .eql v12 (.i .u8 (Int.ofNat 34)) h12) fun v13 h13 =>
 aT v13 (
 bnd (aU (env 5) h13) fun v14 h14 =>
 bnd (aB 1 v14 h14) fun v15 h15 =>
 bnd (aA v15 h15) fun v16 h16 =>
 bnd (aE .add v16 (aF 1) h16) fun v17 h17 =>
 bnd (jD (env 0) (some v17) none h17) fun v18 h18 =>
 bnd (r 199 [v18, (.i .u8 (Int.ofNat 34))] h18) fun v19 h19 =>
 bnd (aE .lss v19 (aF 0) h19) fun v20 h20 =>
 aT v20 (
 bnd (aU (env 5) h20) fun v21 h21 =>
 bnd (aB 1 v21 h21) fun v22 h22 =>
 bnd (aA v22 h22) fun v23 h23 =>
 some (.t [.l0, v23, (aF 11)], h23)) (
 bnd (aU (env 5) h20) fun v24 h24 =>
 bnd (aB 1 v24 h24) fun v25 h25 =>
 bnd (aA v25 h25) fun v26 h26 =>
 bnd (aE .add v19 (aF 2) h26) fun v27 h27 =>
 bnd (aE .add v26 v27 h27) fun v28 h28 =>
 bnd (aU (env 5) h28) fun v29 h29 =>
 bnd (aB 1 v29 h29) fun v30 h30 =>
 bnd (aC 1 v30 v28 h30) fun _ h31 =>
     kk7 (env 0) (env 5) (env 6) h31)) (
 bnd (r 200 [(env 5)] h13) fun v32 h32 =>
 bnd (aD 0 v32 h32) fun v33 h33 =>
 bnd (aD 1 v32 h33) fun v34 h34 =>
 bnd (bD [(aF 0), (.s []), (aF 0), (aF 0)] h34) fun v35 h35 =>
 bnd (aC 4 v35 v33 h35) fun _ h36 =>
 bnd (aE .neq v34 (aF 0) h36) fun v37 h37 =>
 aT v37 (
 bnd (aB 3 v35 h37) fun v38 h38 =>
 bnd (aA v38 h38) fun v39 h39 =>
 some (.t [.l0, v39, v34], h39)) (
 bnd (aI 4 v35 h37) fun v40 h40 =>
 bnd (aN [(aF 0), (.s []), (aF 0), (aF 0)] 1 [(0, 4, v40)] h40) fun v41 h41 =>
 bnd (aW 4 40 (env 6) v41 h41) fun v42 h42 =>
     kk7 (env 0) (env 5) v42 h42)))) = (K3 (aEe r n kk7) 0 5 6) := by kernel_rfl
theorem bWh (kk7 : eO) : D154 r n jX (xs x0 0 (K2 (eY r n) 0 6)) (K3 kk7 0 5 6) = (K3 (aEe r n kk7) 0 5 6) :=
 (cEa r n kk7 (eY r n)).trans (bMe r n kk7)
theorem bSv (m : Nat) : aL (fun kk => D154 r n jX (xs x0 0 (K2 (eY r n) 0 6)) kk) m = (K3 (vT r n m) 0 5 6) := by
 induction m with
 | zero => exact (by kernel_rfl : aL (fun kk => D154 r n jX (xs x0 0 (K2 (eY r n) 0 6)) kk) 0 = (K3 (vT r n 0) 0 5 6))
 | succ m ih =>
  refine (by kernel_rfl : aL (fun kk => D154 r n jX (xs x0 0 (K2 (eY r n) 0 6)) kk) (m + 1) = D154 r n jX (xs x0 0 (K2 (eY r n) 0 6)) (aL (fun kk => D154 r n jX (xs x0 0 (K2 (eY r n) 0 6)) kk) m)).trans ?_
  rw [ih]
  exact (bWh r n (vT r n m)).trans (by kernel_rfl)
theorem cTk : D154 r n aFe (xs x0 0 (K2 (eY r n) 0 6)) (K2 (eY r n) 0 6) = (K3 (bXe r n) 0 5 6) :=
 (by kernel_rfl : D154 r n aFe (xs x0 0 (K2 (eY r n) 0 6)) (K2 (eY r n) 0 6) = aL (fun kk => D154 r n jX (xs x0 0 (K2 (eY r n) 0 6)) kk) n).trans ((bSv r n n).trans (by kernel_rfl))
theorem cFf : D154 r n aGt x0 r154 = D154 r n aNt x0 (K2 (eY r n) 0 6) :=
 congrArg (fun k => D154 r n aNt x0 k) (cWs r n)
theorem cWp : D154 r n aGt x0 r154 = (K3 (aRu r n) 0 5 6) :=
 (cFf r n).trans
 ((by kernel_rfl : D154 r n aNt x0 (K2 (eY r n) 0 6) = D154 r n aFe (xs x0 0 (K2 (eY r n) 0 6)) (K2 (eY r n) 0 6)).trans
 ((cTk r n).trans (by kernel_rfl)))
theorem cGa : D154 r n aJc x0 r154 = D154 r n bHr x0 (K3 (aRu r n) 0 5 6) :=
 congrArg (fun k => D154 r n bHr x0 k) (cWp r n)
theorem cUs : D154 r n aJc x0 r154 = (K3 (aXx r n) 0 5 6) :=
 (cGa r n).trans
 ((by kernel_rfl))
theorem cBo : D154 r n aLc x0 r154 = D154 r n bHt x0 (K3 (aXx r n) 0 5 6) :=
 congrArg (fun k => D154 r n bHt x0 k) (cUs r n)
theorem cWo : D154 r n aLc x0 r154 = (K2 (zA r n) 0 5) :=
 (cBo r n).trans
 ((by kernel_rfl))
theorem cGh : D154 r n aJq x0 r154 = D154 r n aDz x0 (K2 (zA r n) 0 5) :=
 congrArg (fun k => D154 r n aDz x0 k) (cWo r n)
theorem bWl (q0 : eM) : D154 r n aDz x0 (K2 q0 0 5) = fun (env : aO) (h : Hp) =>
 bnd (bA [(.s []), (aF 0)] [(0, 1, (env 0))] h) fun v1 h1 =>
 bnd (bN v1 h1) fun v2 h2 =>
  q0 (env 0) v2 h2 := by kernel_rfl
theorem bOr : (fun (env : aO) (h : Hp) =>
 bnd (bA [(.s []), (aF 0)] [(0, 1, (env 0))] h) fun v1 h1 =>
 bnd (bN v1 h1) fun v2 h2 =>
  zA r n (env 0) v2 h2) = (K1 (aIy r n) 0) := by kernel_rfl
theorem cQr : D154 r n aJq x0 r154 = (K1 (aIy r n) 0) :=
 (cGh r n).trans
 ((bWl r n (zA r n)).trans (bOr r n))
theorem bSl : D154 r n aIq x0 r154 = D154 r n bGi x0 (K1 (aIy r n) 0) :=
 congrArg (fun k => D154 r n bGi x0 k) (cQr r n)
theorem cYy : D154 r n aVo x0 r154 = (K1 (aVy r n) 0) :=
 (by kernel_rfl : D154 r n aVo x0 r154 = D154 r n aIq x0 r154).trans
 ((bSl r n).trans
 ((by kernel_rfl)))
theorem dOv : D154 r n c154 x0 r154 = D154 r n bIb x0 (K1 (aVy r n) 0) :=
 congrArg (fun k => D154 r n bIb x0 k) (cYy r n)
theorem dWk : D154 r n c154 x0 r154 = (K1 (s154 r n) 0) :=
 (dOv r n).trans
 ((by kernel_rfl))
theorem dJs : aG CF r n 154 args h = s154 r n (aR args 0) h :=
 (by kernel_rfl : aG CF r n 154 args h = D154 r n c154 x0 r154 (aK args) h).trans ((congrFun (congrFun (dWk r n) (aK args)) h).trans (by kernel_rfl))
noncomputable def eS (r : RT) (n : Nat) (x0 x3 : DV) (h0 : Hp) : aH :=
 bnd (r 157 [x0, (aF 10), (.s [124])] h0) fun v1 h1 =>
 some (x3, h1)
noncomputable def aPd (r : RT) (n : Nat) (kk6 : eM) (x0 x3 : DV) (h0 : Hp) : aH :=
 bnd (r 201 [x0, (aF 1), (.s [])] h0) fun v1 h1 =>
 aT v1 (
 bnd (r 202 [x0] h1) fun v2 h2 =>
 bnd (dA 1 v2 h2) fun v3 h3 =>
 bnd (aN [(.s [])] 1 [(0, 1, v3)] h3) fun v4 h4 =>
 bnd (aW 1 16 x3 v4 h4) fun v5 h5 =>
      kk6 x0 v5 h5) (
      eS r n x0 x3 h1)
noncomputable def tI (r : RT) (n : Nat) (m : Nat) : eM :=
 Nat.rec (motive := fun _ => eM) (fun _ _ _ => none) (fun _ ih => aPd r n ih) m
noncomputable def cIt (r : RT) (n : Nat) : eM := tI r n n
noncomputable def aTh (r : RT) (n : Nat) (x0 x3 : DV) (h0 : Hp) : aH :=
 cIt r n x0 x3 h0
noncomputable def aUa (r : RT) (n : Nat) (x0 x3 : DV) (h0 : Hp) : aH :=
 bnd (r 202 [x0] h0) fun v1 h1 =>
  aTh r n x0 x3 h1
noncomputable def aSn (r : RT) (n : Nat) (x0 x3 : DV) (h0 : Hp) : aH :=
 bnd (r 201 [x0, (aF 10), (.s [124])] h0) fun v1 h1 =>
 bnd (fV .not v1 h1) fun v2 h2 =>
 aT v2 (
 some (.l0, h2)) (
  aUa r n x0 x3 h2)
noncomputable def aTk (r : RT) (n : Nat) (x0 : DV) (h0 : Hp) : aH :=
 aSn r n x0 .l0 h0
noncomputable def s155 (r : RT) (n : Nat) (x0 : DV) (h0 : Hp) : aH :=
 aTk r n x0 h0
noncomputable abbrev c155 : Code := cf Tryz.f155
noncomputable abbrev aDw : Code := cR c155
noncomputable abbrev aEj : Code := cR aDw
noncomputable abbrev aHe : Code := cR aEj
noncomputable abbrev aKh : Code := cR aHe
noncomputable abbrev dLv : Code := cR aKh
noncomputable abbrev aMt : Code := cL aKh
noncomputable abbrev aCh : Code := cL aMt
noncomputable abbrev mQ : Code := cL aCh
noncomputable abbrev bSf : Code := cL aHe
noncomputable abbrev bGt : Code := cL aEj
noncomputable abbrev bFg : Code := cL aDw
noncomputable abbrev bFy : Code := cL c155
noncomputable abbrev r155 : K := aQ CF Tryz.f155
noncomputable def D155 (r : RT) (n : Nat) (c : Code) (X : Nat → K) (k : K) : K := aM CF r 20 n c X r155 k
theorem cPz : D155 r n dLv x0 r155 = (K2 (eS r n) 0 3) :=
 (by kernel_rfl)
theorem cEe (kk6 : eM) (q0 : eM) : D155 r n mQ (xs x0 0 (K2 q0 0 3)) (K2 kk6 0 3) = fun (env : aO) (h : Hp) =>
 bnd (r 201 [(env 0), (aF 1), (.s [])] h) fun v1 h1 =>
 aT v1 (
 bnd (r 202 [(env 0)] h1) fun v2 h2 =>
 bnd (dA 1 v2 h2) fun v3 h3 =>
 bnd (aN [(.s [])] 1 [(0, 1, v3)] h3) fun v4 h4 =>
 bnd (aW 1 16 (env 3) v4 h4) fun v5 h5 =>
      kk6 (env 0) v5 h5) (
      q0 (env 0) (env 3) h1) := by kernel_rfl
theorem bOb (kk6 : eM) : (fun (env : aO) (h : Hp) =>
 bnd (r 201 [(env 0), (aF 1), (.s [])] h) fun v1 h1 =>
 aT v1 (
 bnd (r 202 [(env 0)] h1) fun v2 h2 =>
 bnd (dA 1 v2 h2) fun v3 h3 =>
 bnd (aN [(.s [])] 1 [(0, 1, v3)] h3) fun v4 h4 =>
 bnd (aW 1 16 (env 3) v4 h4) fun v5 h5 =>
      kk6 (env 0) v5 h5) (
      eS r n (env 0) (env 3) h1)) = (K2 (aPd r n kk6) 0 3) := by kernel_rfl
theorem bPt (kk6 : eM) : D155 r n mQ (xs x0 0 (K2 (eS r n) 0 3)) (K2 kk6 0 3) = (K2 (aPd r n kk6) 0 3) :=
 (cEe r n kk6 (eS r n)).trans (bOb r n kk6)
theorem bYf (m : Nat) : aL (fun kk => D155 r n mQ (xs x0 0 (K2 (eS r n) 0 3)) kk) m = (K2 (tI r n m) 0 3) := by
 induction m with
 | zero => exact (by kernel_rfl : aL (fun kk => D155 r n mQ (xs x0 0 (K2 (eS r n) 0 3)) kk) 0 = (K2 (tI r n 0) 0 3))
 | succ m ih =>
  refine (by kernel_rfl : aL (fun kk => D155 r n mQ (xs x0 0 (K2 (eS r n) 0 3)) kk) (m + 1) = D155 r n mQ (xs x0 0 (K2 (eS r n) 0 3)) (aL (fun kk => D155 r n mQ (xs x0 0 (K2 (eS r n) 0 3)) kk) m)).trans ?_
  rw [ih]
  exact (bPt r n (tI r n m)).trans (by kernel_rfl)
theorem cTz : D155 r n aCh (xs x0 0 (K2 (eS r n) 0 3)) (K2 (eS r n) 0 3) = (K2 (cIt r n) 0 3) :=
 (by kernel_rfl : D155 r n aCh (xs x0 0 (K2 (eS r n) 0 3)) (K2 (eS r n) 0 3) = aL (fun kk => D155 r n mQ (xs x0 0 (K2 (eS r n) 0 3)) kk) n).trans ((bYf r n n).trans (by kernel_rfl))
theorem cHt : D155 r n aKh x0 r155 = D155 r n aMt x0 (K2 (eS r n) 0 3) :=
 congrArg (fun k => D155 r n aMt x0 k) (cPz r n)
theorem cTh : D155 r n aKh x0 r155 = (K2 (aTh r n) 0 3) :=
 (cHt r n).trans
 ((by kernel_rfl : D155 r n aMt x0 (K2 (eS r n) 0 3) = D155 r n aCh (xs x0 0 (K2 (eS r n) 0 3)) (K2 (eS r n) 0 3)).trans
 ((cTz r n).trans (by kernel_rfl)))
theorem cBc : D155 r n aHe x0 r155 = D155 r n bSf x0 (K2 (aTh r n) 0 3) :=
 congrArg (fun k => D155 r n bSf x0 k) (cTh r n)
theorem dAo : D155 r n aHe x0 r155 = (K2 (aUa r n) 0 3) :=
 (cBc r n).trans
 ((by kernel_rfl))
theorem cFa : D155 r n aEj x0 r155 = D155 r n bGt x0 (K2 (aUa r n) 0 3) :=
 congrArg (fun k => D155 r n bGt x0 k) (dAo r n)
theorem cVc : D155 r n aEj x0 r155 = (K2 (aSn r n) 0 3) :=
 (cFa r n).trans
 ((by kernel_rfl))
theorem bQd : D155 r n aDw x0 r155 = D155 r n bFg x0 (K2 (aSn r n) 0 3) :=
 congrArg (fun k => D155 r n bFg x0 k) (cVc r n)
theorem cOv : D155 r n aDw x0 r155 = (K1 (aTk r n) 0) :=
 (bQd r n).trans
 ((by kernel_rfl))
theorem dGc : D155 r n c155 x0 r155 = D155 r n bFy x0 (K1 (aTk r n) 0) :=
 congrArg (fun k => D155 r n bFy x0 k) (cOv r n)
theorem dUm : D155 r n c155 x0 r155 = (K1 (s155 r n) 0) :=
 (dGc r n).trans
 ((by kernel_rfl))
theorem dOe : aG CF r n 155 args h = s155 r n (aR args 0) h :=
 (by kernel_rfl : aG CF r n 155 args h = D155 r n c155 x0 r155 (aK args) h).trans ((congrFun (congrFun (dUm r n) (aK args)) h).trans (by kernel_rfl))
end Go.Dd

namespace Go.Dd
open Go.Proofs
variable (r : RT) (n : Nat) (args : List DV) (h : Hp)
noncomputable def bP (r : RT) (n : Nat) (x3 : DV) (h0 : Hp) : aH :=
 some (x3, h0)
noncomputable def fZ (r : RT) (n : Nat) (kk4 : eM) (x0 x3 : DV) (h0 : Hp) : aH :=
 bnd (r 203 [x0] h0) fun v1 h1 =>
 bnd (aN cV 1 [(0, 6, v1)] h1) fun v2 h2 =>
 bnd (aW 6 104 x3 v2 h2) fun v3 h3 =>
 bnd (r 201 [x0, (aF 10), (.s [46])] h3) fun v4 h4 =>
 bnd (fV .not v4 h4) fun v5 h5 =>
 aT v5 (
 some (v3, h5)) (
 bnd (r 202 [x0] h5) fun v6 h6 =>
  kk4 x0 v3 h6)
noncomputable def tT (r : RT) (n : Nat) (kk4 : eM) (x3 : DV) (h0 : Hp) : aH :=
 some (x3, h0)
noncomputable def qE (r : RT) (n : Nat) (kk4 : eM) (x0 x3 : DV) (h0 : Hp) : aH :=
 bnd (r 201 [x0, (aF 10), (.s [46])] h0) fun v1 h1 =>
 aT v1 (
 bnd (r 202 [x0] h1) fun v2 h2 =>
  tT r n kk4 x3 h2) (
  tT r n kk4 x3 h1)
noncomputable def aGf (r : RT) (n : Nat) (kk4 : eM) (x0 x3 : DV) (h0 : Hp) : aH :=
 bnd (r 203 [x0] h0) fun v1 h1 =>
 bnd (aN cV 1 [(0, 6, v1)] h1) fun v2 h2 =>
 bnd (bA cV [(0, 1, (aF 10)), (5, 1, v2)] h2) fun v3 h3 =>
 bnd (aN cV 1 [(0, 6, v3)] h3) fun v4 h4 =>
 bnd (aW 6 104 x3 v4 h4) fun v5 h5 =>
  qE r n kk4 x0 v5 h5
noncomputable def bZq (r : RT) (n : Nat) (kk4 : eM) (x0 x3 : DV) (h0 : Hp) : aH :=
 bnd (r 202 [x0] h0) fun v1 h1 =>
  aGf r n kk4 x0 x3 h1
noncomputable def aTo (r : RT) (n : Nat) (kk4 : eM) (x0 x3 x20 : DV) (h0 : Hp) : aH :=
 aT x20 (
  bZq r n kk4 x0 x3 h0) (
  fZ r n kk4 x0 x3 h0)
noncomputable def aXy (r : RT) (n : Nat) (kk4 : eM) (x0 x3 : DV) (h0 : Hp) : aH :=
 bnd (r 201 [x0, (aF 10), (.s [94])] h0) fun v1 h1 =>
  aTo r n kk4 x0 x3 v1 h1
noncomputable def bGl (r : RT) (n : Nat) (kk4 : eM) (x0 x3 : DV) (h0 : Hp) : aH :=
 bnd (aU x0 h0) fun v1 h1 =>
 bnd (aB 3 v1 h1) fun v2 h2 =>
 bnd (aA v2 h2) fun v3 h3 =>
 bnd (aE .eql v3 (aF 0) h3) fun v4 h4 =>
 bnd (gD v4 true (some (x0, h4)) h4) fun v5 h5 =>
 bnd (gD v4 true (r 201 [v5, (aF 0), (.s [])] h5) h5) fun v6 h6 =>
 bnd (gD v4 true (fV .not v6 h6) h6) fun v7 h7 =>
 bnd (aP v4 v7 (.b false) h7) fun v8 h8 =>
 bnd (gD v8 true (some (x0, h8)) h8) fun v9 h9 =>
 bnd (gD v8 true (r 201 [v9, (aF 10), (.s [93])] h9) h9) fun v10 h10 =>
 bnd (gD v8 true (fV .not v10 h10) h10) fun v11 h11 =>
 bnd (aP v8 v11 (.b false) h11) fun v12 h12 =>
 aT v12 (
   aXy r n kk4 x0 x3 h12) (
   bP r n x3 h12)
noncomputable def uW (r : RT) (n : Nat) (m : Nat) : eM :=
 Nat.rec (motive := fun _ => eM) (fun _ _ _ => none) (fun _ ih => bGl r n ih) m
noncomputable def cJu (r : RT) (n : Nat) : eM := uW r n n
noncomputable def aSa (r : RT) (n : Nat) (x0 x3 : DV) (h0 : Hp) : aH :=
 cJu r n x0 x3 h0
noncomputable def aVn (r : RT) (n : Nat) (x0 : DV) (h0 : Hp) : aH :=
 aSa r n x0 .l0 h0
noncomputable def s156 (r : RT) (n : Nat) (x0 : DV) (h0 : Hp) : aH :=
 aVn r n x0 h0
noncomputable abbrev c156 : Code := cf Tryz.f156
noncomputable abbrev aOd : Code := cR c156
noncomputable abbrev aFo : Code := cR aOd
noncomputable abbrev dKf : Code := cR aFo
noncomputable abbrev aOa : Code := cL aFo
noncomputable abbrev aKx : Code := cL aOa
noncomputable abbrev kF : Code := cL aKx
noncomputable abbrev aYs : Code := cR kF
noncomputable abbrev aCk : Code := cL aYs
noncomputable abbrev bSb : Code := cR aCk
noncomputable abbrev pC : Code := cL aCk
noncomputable abbrev pA : Code := cR pC
noncomputable abbrev pE : Code := cL pA
noncomputable abbrev uB : Code := cR pE
noncomputable abbrev wB : Code := cR uB
noncomputable abbrev dAs : Code := cR wB
noncomputable abbrev bFq : Code := cL wB
noncomputable abbrev aJv : Code := cL uB
noncomputable abbrev bBo : Code := cL pE
noncomputable abbrev cXm : Code := cR pA
noncomputable abbrev bDf : Code := cL pC
noncomputable abbrev bGh : Code := cL kF
noncomputable abbrev bCb : Code := cL aOd
noncomputable abbrev bAt : Code := cL c156
noncomputable abbrev r156 : K := aQ CF Tryz.f156
noncomputable def D156 (r : RT) (n : Nat) (c : Code) (X : Nat → K) (k : K) : K := aM CF r 47 n c X r156 k
theorem cZx : D156 r n dKf x0 r156 = (K1 (bP r n) 3) :=
 (by kernel_rfl)
theorem cDe (kk4 : eM) (q0 : TT1) : D156 r n bSb (xs (xs x0 0 (K1 q0 3)) 1 (K2 kk4 0 3)) (K2 kk4 0 3) = fun (env : aO) (h : Hp) =>
 bnd (r 203 [(env 0)] h) fun v1 h1 =>
 bnd (aN cV 1 [(0, 6, v1)] h1) fun v2 h2 =>
 bnd (aW 6 104 (env 3) v2 h2) fun v3 h3 =>
 bnd (r 201 [(env 0), (aF 10), (.s [46])] h3) fun v4 h4 =>
 bnd (fV .not v4 h4) fun v5 h5 =>
 aT v5 (
 some (v3, h5)) (
 bnd (r 202 [(env 0)] h5) fun v6 h6 =>
      kk4 (env 0) v3 h6) := by kernel_rfl
theorem bNq (kk4 : eM) : (fun (env : aO) (h : Hp) =>
 bnd (r 203 [(env 0)] h) fun v1 h1 =>
 bnd (aN cV 1 [(0, 6, v1)] h1) fun v2 h2 =>
 bnd (aW 6 104 (env 3) v2 h2) fun v3 h3 =>
 bnd (r 201 [(env 0), (aF 10), (.s [46])] h3) fun v4 h4 =>
 bnd (fV .not v4 h4) fun v5 h5 =>
 aT v5 (
 some (v3, h5)) (
 bnd (r 202 [(env 0)] h5) fun v6 h6 =>
      kk4 (env 0) v3 h6)) = (K2 (fZ r n kk4) 0 3) := by kernel_rfl
theorem cRq (kk4 : eM) : D156 r n bSb (xs (xs x0 0 (K1 (bP r n) 3)) 1 (K2 kk4 0 3)) (K2 kk4 0 3) = (K2 (fZ r n kk4) 0 3) :=
 (cDe r n kk4 (bP r n)).trans (bNq r n kk4)
theorem bUv (kk4 : eM) : D156 r n dAs (xs (xs x0 0 (K1 (bP r n) 3)) 1 (K2 kk4 0 3)) (K2 (fZ r n kk4) 0 3) = (K1 (tT r n kk4) 3) :=
 (by kernel_rfl)
theorem bOp (kk4 : eM) : D156 r n wB (xs (xs x0 0 (K1 (bP r n) 3)) 1 (K2 kk4 0 3)) (K2 (fZ r n kk4) 0 3) = D156 r n bFq (xs (xs x0 0 (K1 (bP r n) 3)) 1 (K2 kk4 0 3)) (K1 (tT r n kk4) 3) :=
 congrArg (fun k => D156 r n bFq (xs (xs x0 0 (K1 (bP r n) 3)) 1 (K2 kk4 0 3)) k) (bUv r n kk4)
theorem cEn (kk4 : eM) : D156 r n wB (xs (xs x0 0 (K1 (bP r n) 3)) 1 (K2 kk4 0 3)) (K2 (fZ r n kk4) 0 3) = (K2 (qE r n kk4) 0 3) :=
 (bOp r n kk4).trans
 ((by kernel_rfl))
theorem cKh (kk4 : eM) : D156 r n uB (xs (xs x0 0 (K1 (bP r n) 3)) 1 (K2 kk4 0 3)) (K2 (fZ r n kk4) 0 3) = D156 r n aJv (xs (xs x0 0 (K1 (bP r n) 3)) 1 (K2 kk4 0 3)) (K2 (qE r n kk4) 0 3) :=
 congrArg (fun k => D156 r n aJv (xs (xs x0 0 (K1 (bP r n) 3)) 1 (K2 kk4 0 3)) k) (cEn r n kk4)
theorem bUp (kk4 : eM) (q0 : eM) (q1 : TT1) : D156 r n aJv (xs (xs x0 0 (K1 q1 3)) 1 (K2 kk4 0 3)) (K2 q0 0 3) = fun (env : aO) (h : Hp) =>
 bnd (r 203 [(env 0)] h) fun v1 h1 =>
 bnd (aN cV 1 [(0, 6, v1)] h1) fun v2 h2 =>
 bnd (bA cV [(0, 1, (aF 10)), (5, 1, v2)] h2) fun v3 h3 =>
 bnd (aN cV 1 [(0, 6, v3)] h3) fun v4 h4 =>
 bnd (aW 6 104 (env 3) v4 h4) fun v5 h5 =>
  q0 (env 0) v5 h5 := by kernel_rfl
theorem bJh (kk4 : eM) : (fun (env : aO) (h : Hp) =>
 bnd (r 203 [(env 0)] h) fun v1 h1 =>
 bnd (aN cV 1 [(0, 6, v1)] h1) fun v2 h2 =>
 bnd (bA cV [(0, 1, (aF 10)), (5, 1, v2)] h2) fun v3 h3 =>
 bnd (aN cV 1 [(0, 6, v3)] h3) fun v4 h4 =>
 bnd (aW 6 104 (env 3) v4 h4) fun v5 h5 =>
  qE r n kk4 (env 0) v5 h5) = (K2 (aGf r n kk4) 0 3) := by kernel_rfl
theorem cWm (kk4 : eM) : D156 r n uB (xs (xs x0 0 (K1 (bP r n) 3)) 1 (K2 kk4 0 3)) (K2 (fZ r n kk4) 0 3) = (K2 (aGf r n kk4) 0 3) :=
 (cKh r n kk4).trans
 ((bUp r n kk4 (qE r n kk4) (bP r n)).trans (bJh r n kk4))
theorem bQv (kk4 : eM) : D156 r n pE (xs (xs x0 0 (K1 (bP r n) 3)) 1 (K2 kk4 0 3)) (K2 (fZ r n kk4) 0 3) = D156 r n bBo (xs (xs x0 0 (K1 (bP r n) 3)) 1 (K2 kk4 0 3)) (K2 (aGf r n kk4) 0 3) :=
 congrArg (fun k => D156 r n bBo (xs (xs x0 0 (K1 (bP r n) 3)) 1 (K2 kk4 0 3)) k) (cWm r n kk4)
theorem cQe (kk4 : eM) : D156 r n pE (xs (xs x0 0 (K1 (bP r n) 3)) 1 (K2 kk4 0 3)) (K2 (fZ r n kk4) 0 3) = (K2 (bZq r n kk4) 0 3) :=
 (bQv r n kk4).trans
 ((by kernel_rfl))
theorem cVa (kk4 : eM) : D156 r n pA (xs (xs x0 0 (K1 (bP r n) 3)) 1 (K2 kk4 0 3)) (K2 (fZ r n kk4) 0 3) = (K3 (aTo r n kk4) 0 3 20) :=
 (by kernel_rfl : D156 r n pA (xs (xs x0 0 (K1 (bP r n) 3)) 1 (K2 kk4 0 3)) (K2 (fZ r n kk4) 0 3) = (fun (env : aO) (h : Hp) => aT (opr env (cC pA)) (D156 r n pE (xs (xs x0 0 (K1 (bP r n) 3)) 1 (K2 kk4 0 3)) (K2 (fZ r n kk4) 0 3) env h) (D156 r n cXm (xs (xs x0 0 (K1 (bP r n) 3)) 1 (K2 kk4 0 3)) (K2 (fZ r n kk4) 0 3) env h))).trans (by rw [cQe r n kk4]; kernel_rfl)
theorem cDc (kk4 : eM) : D156 r n aCk (xs (xs x0 0 (K1 (bP r n) 3)) 1 (K2 kk4 0 3)) (K2 kk4 0 3) = D156 r n pC (xs (xs x0 0 (K1 (bP r n) 3)) 1 (K2 kk4 0 3)) (K2 (fZ r n kk4) 0 3) :=
 congrArg (fun k => D156 r n pC (xs (xs x0 0 (K1 (bP r n) 3)) 1 (K2 kk4 0 3)) k) (cRq r n kk4)
theorem bUw (kk4 : eM) : D156 r n pC (xs (xs x0 0 (K1 (bP r n) 3)) 1 (K2 kk4 0 3)) (K2 (fZ r n kk4) 0 3) = D156 r n bDf (xs (xs x0 0 (K1 (bP r n) 3)) 1 (K2 kk4 0 3)) (K3 (aTo r n kk4) 0 3 20) :=
 congrArg (fun k => D156 r n bDf (xs (xs x0 0 (K1 (bP r n) 3)) 1 (K2 kk4 0 3)) k) (cVa r n kk4)
theorem cPa (kk4 : eM) : D156 r n aYs (xs x0 0 (K1 (bP r n) 3)) (K2 kk4 0 3) = (K2 (aXy r n kk4) 0 3) :=
 (by kernel_rfl : D156 r n aYs (xs x0 0 (K1 (bP r n) 3)) (K2 kk4 0 3) = D156 r n aCk (xs (xs x0 0 (K1 (bP r n) 3)) 1 (K2 kk4 0 3)) (K2 kk4 0 3)).trans
 ((cDc r n kk4).trans
 ((bUw r n kk4).trans
 ((by kernel_rfl))))
theorem bQo (kk4 : eM) : D156 r n kF (xs x0 0 (K1 (bP r n) 3)) (K2 kk4 0 3) = D156 r n bGh (xs x0 0 (K1 (bP r n) 3)) (K2 (aXy r n kk4) 0 3) :=
 congrArg (fun k => D156 r n bGh (xs x0 0 (K1 (bP r n) 3)) k) (cPa r n kk4)
theorem cDo (kk4 : eM) : D156 r n kF (xs x0 0 (K1 (bP r n) 3)) (K2 kk4 0 3) = (K2 (bGl r n kk4) 0 3) :=
 (bQo r n kk4).trans
 ((by kernel_rfl))
theorem cHc (m : Nat) : aL (fun kk => D156 r n kF (xs x0 0 (K1 (bP r n) 3)) kk) m = (K2 (uW r n m) 0 3) := by
 induction m with
 | zero => exact (by kernel_rfl : aL (fun kk => D156 r n kF (xs x0 0 (K1 (bP r n) 3)) kk) 0 = (K2 (uW r n 0) 0 3))
 | succ m ih =>
  refine (by kernel_rfl : aL (fun kk => D156 r n kF (xs x0 0 (K1 (bP r n) 3)) kk) (m + 1) = D156 r n kF (xs x0 0 (K1 (bP r n) 3)) (aL (fun kk => D156 r n kF (xs x0 0 (K1 (bP r n) 3)) kk) m)).trans ?_
  rw [ih]
  exact (cDo r n (uW r n m)).trans (by kernel_rfl)
theorem cYo : D156 r n aKx (xs x0 0 (K1 (bP r n) 3)) (K1 (bP r n) 3) = (K2 (cJu r n) 0 3) :=
 (by kernel_rfl : D156 r n aKx (xs x0 0 (K1 (bP r n) 3)) (K1 (bP r n) 3) = aL (fun kk => D156 r n kF (xs x0 0 (K1 (bP r n) 3)) kk) n).trans ((cHc r n n).trans (by kernel_rfl))
theorem cJj : D156 r n aFo x0 r156 = D156 r n aOa x0 (K1 (bP r n) 3) :=
 congrArg (fun k => D156 r n aOa x0 k) (cZx r n)
theorem cQm : D156 r n aFo x0 r156 = (K2 (aSa r n) 0 3) :=
 (cJj r n).trans
 ((by kernel_rfl : D156 r n aOa x0 (K1 (bP r n) 3) = D156 r n aKx (xs x0 0 (K1 (bP r n) 3)) (K1 (bP r n) 3)).trans
 ((cYo r n).trans (by kernel_rfl)))
theorem bMs : D156 r n aOd x0 r156 = D156 r n bCb x0 (K2 (aSa r n) 0 3) :=
 congrArg (fun k => D156 r n bCb x0 k) (cQm r n)
theorem cLx : D156 r n aOd x0 r156 = (K1 (aVn r n) 0) :=
 (bMs r n).trans
 ((by kernel_rfl))
theorem cNf : D156 r n c156 x0 r156 = D156 r n bAt x0 (K1 (aVn r n) 0) :=
 congrArg (fun k => D156 r n bAt x0 k) (cLx r n)
theorem dQm : D156 r n c156 x0 r156 = (K1 (s156 r n) 0) :=
 (cNf r n).trans
 ((by kernel_rfl))
theorem dFs : aG CF r n 156 args h = s156 r n (aR args 0) h :=
 (by kernel_rfl : aG CF r n 156 args h = D156 r n c156 x0 r156 (aK args) h).trans ((congrFun (congrFun (dQm r n) (aK args)) h).trans (by kernel_rfl))
noncomputable def s157 (r : RT) (n : Nat) (x0 x1 x2 : DV) (h0 : Hp) : aH :=
 bnd (bD [(aF 0), (.s []), (aF 0), (aF 0)] h0) fun v1 h1 =>
 bnd (r 201 [x0, x1, x2] h1) fun v2 h2 =>
 bnd (fV .not v2 h2) fun v3 h3 =>
 aT v3 (
 bnd (r 205 [x0, (aF 0)] h3) fun v4 h4 =>
 bnd (r 204 [x0, v4, (aF 13)] h4) fun v5 h5 =>
 bnd (bA [(aF 0), (.s []), (aF 0), (aF 0)] [] h5) fun v6 h6 =>
 bnd (aC 4 v1 v6 h6) fun _ h7 =>
 bnd (aI 4 v1 h7) fun v8 _ =>
 some (v8, h7)) (
 bnd (r 202 [x0] h3) fun v9 h9 =>
 bnd (aC 4 v1 v9 h9) fun _ h10 =>
 bnd (aI 4 v1 h10) fun v11 _ =>
 some (v11, h10))
noncomputable abbrev c157 : Code := cf Tryz.f157
noncomputable abbrev r157 : K := aQ CF Tryz.f157
noncomputable def D157 (r : RT) (n : Nat) (c : Code) (X : Nat → K) (k : K) : K := aM CF r 19 n c X r157 k
theorem dXl : D157 r n c157 x0 r157 = (K3 (s157 r n) 0 1 2) :=
 (by kernel_rfl)
theorem dKt : aG CF r n 157 args h = s157 r n (aR args 0) (aR args 1) (aR args 2) h :=
 (by kernel_rfl : aG CF r n 157 args h = D157 r n c157 x0 r157 (aK args) h).trans ((congrFun (congrFun (dXl r n) (aK args)) h).trans (by kernel_rfl))
noncomputable def bIg (r : RT) (n : Nat) (kk6 : eO) (x0 x1 x4 : DV) (h0 : Hp) : aH :=
 bnd (gD x4 false (some (x0, h0)) h0) fun v1 h1 =>
 bnd (gD x4 false (r 201 [v1, (aF 2), (.s [])] h1) h1) fun v2 h2 =>
 bnd (aP x4 (.b true) v2 h2) fun v3 h3 =>
 aT v3 (
 bnd (aU x1 h3) fun v4 h4 =>
 bnd (aB 1 v4 h4) fun v5 h5 =>
 bnd (aA v5 h5) fun v6 h6 =>
 bnd (r 157 [x0, (aF 2), (.s [])] h6) fun v7 h7 =>
 cnd (aZ (aA v5 h7) v6 && true) (
 bnd (dA 1 v7 h7) fun v8 h8 =>
 bnd (dR .add v6 v8 h8) fun v9 h9 =>
 bnd (aU x1 h9) fun v10 h10 =>
 bnd (aB 1 v10 h10) fun v11 h11 =>
 bnd (aC 1 v11 v9 h11) fun v12 h12 =>
 bnd (aU x1 (resv 1 h12)) fun v13 h13 =>
 bnd (aB 3 v13 h13) fun v14 h14 =>
 bnd (aA v14 h14) fun v15 h15 =>
 bnd (aU x1 h15) fun v16 h16 =>
 bnd (aB 3 v16 h16) fun v17 h17 =>
 bnd (aA v17 h17) fun v18 h18 =>
 bnd (r 206 [x0, (aF 1), v18] h18) fun v19 h19 =>
 cnd (aZ (aA v14 h19) v15 && true) (
 bnd (aS (bB 0 h12.next) [(.s [])] 1 [(0, 1, v19)] h19) fun v20 h20 =>
 bnd (aW 1 16 v15 v20 h20) fun v21 h21 =>
 bnd (aU x1 h21) fun v22 h22 =>
 bnd (aB 3 v22 h22) fun v23 h23 =>
 bnd (aC 1 v23 v21 h23) fun v24 h24 =>
      kk6 x0 x1 (.b false) h24))) (
 some (.t [], h3))
noncomputable def uD (r : RT) (n : Nat) (m : Nat) : eO :=
 Nat.rec (motive := fun _ => eO) (fun _ _ _ _ => none) (fun _ ih => bIg r n ih) m
noncomputable def cJh (r : RT) (n : Nat) : eO := uD r n n
noncomputable def aTt (r : RT) (n : Nat) (x0 x1 x4 : DV) (h0 : Hp) : aH :=
 cJh r n x0 x1 x4 h0
noncomputable def cFd (r : RT) (n : Nat) (x0 x1 : DV) (h0 : Hp) : aH :=
 aTt r n x0 x1 (.b true) h0
noncomputable def aSe (r : RT) (n : Nat) (x0 x1 x44 : DV) (h0 : Hp) : aH :=
 aT x44 (
 bnd (r 202 [x0] h0) fun v1 h1 =>
 bnd (dA 1 v1 h1) fun v2 h2 =>
 bnd (aU x1 h2) fun v3 h3 =>
 bnd (aB 1 v3 h3) fun v4 h4 =>
 bnd (aC 1 v4 v2 h4) fun _ h5 =>
 bnd (aU x1 (resv 1 h5)) fun v6 h6 =>
 bnd (aB 3 v6 h6) fun v7 h7 =>
 bnd (aA v7 h7) fun v8 h8 =>
 bnd (aU x1 h8) fun v9 h9 =>
 bnd (aB 3 v9 h9) fun v10 h10 =>
 bnd (aA v10 h10) fun v11 h11 =>
 bnd (r 206 [x0, (aF 1), v11] h11) fun v12 h12 =>
 cnd (aZ (aA v7 h12) v8 && true) (
 bnd (aS (bB 0 h5.next) [(.s [])] 1 [(0, 1, v12)] h12) fun v13 h13 =>
 bnd (aW 1 16 v8 v13 h13) fun v14 h14 =>
 bnd (aU x1 h14) fun v15 h15 =>
 bnd (aB 3 v15 h15) fun v16 h16 =>
 bnd (aC 1 v16 v14 h16) fun v17 h17 =>
 some (.t [], h17))) (
  cFd r n x0 x1 h0)
noncomputable def bTo (r : RT) (n : Nat) (x0 x1 : DV) (h0 : Hp) : aH :=
 bnd (r 201 [x0, (aF 3), (.s [])] h0) fun v1 h1 =>
  aSe r n x0 x1 v1 h1
noncomputable def aSc (r : RT) (n : Nat) (x0 x1 x35 : DV) (h0 : Hp) : aH :=
 aT x35 (
 bnd (r 202 [x0] h0) fun v1 h1 =>
 bnd (dA 1 v1 h1) fun v2 h2 =>
 bnd (aU x1 h2) fun v3 h3 =>
 bnd (aB 1 v3 h3) fun v4 h4 =>
 bnd (aC 1 v4 v2 h4) fun _ h5 =>
 some (.t [], h5)) (
  bTo r n x0 x1 h0)
noncomputable def s158 (r : RT) (n : Nat) (x0 x1 : DV) (h0 : Hp) : aH :=
 bnd (r 201 [x0, (aF 1), (.s [])] h0) fun v1 h1 =>
  aSc r n x0 x1 v1 h1
noncomputable abbrev c158 : Code := cf Tryz.f158
noncomputable abbrev aEv : Code := cL c158
noncomputable abbrev zE : Code := cR aEv
noncomputable abbrev wR : Code := cR zE
noncomputable abbrev aAp : Code := cR wR
noncomputable abbrev yA : Code := cR aAp
noncomputable abbrev aUe : Code := cR yA
noncomputable abbrev aJt : Code := cL aUe
noncomputable abbrev nT : Code := cL aJt
noncomputable abbrev cBi : Code := cL yA
noncomputable abbrev dCe : Code := cL aAp
noncomputable abbrev bCw : Code := cL wR
noncomputable abbrev cQa : Code := cL zE
noncomputable abbrev bCq : Code := cL aEv
noncomputable abbrev r158 : K := aQ CF Tryz.f158
noncomputable def D158 (r : RT) (n : Nat) (c : Code) (X : Nat → K) (k : K) : K := aM CF r 68 n c X r158 k
theorem bSw (kk6 : eO) : D158 r n nT (xs (xs x0 0 r158) 1 r158) (K3 kk6 0 1 4) = (K3 (bIg r n kk6) 0 1 4) :=
 (by kernel_rfl)
theorem cFw (m : Nat) : aL (fun kk => D158 r n nT (xs (xs x0 0 r158) 1 r158) kk) m = (K3 (uD r n m) 0 1 4) := by
 induction m with
 | zero => exact (by kernel_rfl : aL (fun kk => D158 r n nT (xs (xs x0 0 r158) 1 r158) kk) 0 = (K3 (uD r n 0) 0 1 4))
 | succ m ih =>
  refine (by kernel_rfl : aL (fun kk => D158 r n nT (xs (xs x0 0 r158) 1 r158) kk) (m + 1) = D158 r n nT (xs (xs x0 0 r158) 1 r158) (aL (fun kk => D158 r n nT (xs (xs x0 0 r158) 1 r158) kk) m)).trans ?_
  rw [ih]
  exact (bSw r n (uD r n m)).trans (by kernel_rfl)
theorem cMm : D158 r n aJt (xs (xs x0 0 r158) 1 r158) r158 = (K3 (cJh r n) 0 1 4) :=
 (by kernel_rfl : D158 r n aJt (xs (xs x0 0 r158) 1 r158) r158 = aL (fun kk => D158 r n nT (xs (xs x0 0 r158) 1 r158) kk) n).trans ((cFw r n n).trans (by kernel_rfl))
theorem cZc : D158 r n aUe (xs x0 0 r158) r158 = (K3 (aTt r n) 0 1 4) :=
 (by kernel_rfl : D158 r n aUe (xs x0 0 r158) r158 = D158 r n aJt (xs (xs x0 0 r158) 1 r158) r158).trans
 ((cMm r n).trans (by kernel_rfl))
theorem cEv : D158 r n yA (xs x0 0 r158) r158 = D158 r n cBi (xs x0 0 r158) (K3 (aTt r n) 0 1 4) :=
 congrArg (fun k => D158 r n cBi (xs x0 0 r158) k) (cZc r n)
theorem cMp : D158 r n yA (xs x0 0 r158) r158 = (K2 (cFd r n) 0 1) :=
 (cEv r n).trans
 ((by kernel_rfl))
theorem cRc : D158 r n aAp (xs x0 0 r158) r158 = (K3 (aSe r n) 0 1 44) :=
 (by kernel_rfl : D158 r n aAp (xs x0 0 r158) r158 = (fun (env : aO) (h : Hp) => aT (opr env (cC aAp)) (D158 r n dCe (xs x0 0 r158) r158 env h) (D158 r n yA (xs x0 0 r158) r158 env h))).trans (by rw [cMp r n]; kernel_rfl)
theorem cCe : D158 r n wR (xs x0 0 r158) r158 = D158 r n bCw (xs x0 0 r158) (K3 (aSe r n) 0 1 44) :=
 congrArg (fun k => D158 r n bCw (xs x0 0 r158) k) (cRc r n)
theorem cWh : D158 r n wR (xs x0 0 r158) r158 = (K2 (bTo r n) 0 1) :=
 (cCe r n).trans
 ((by kernel_rfl))
theorem dAt : D158 r n zE (xs x0 0 r158) r158 = (K3 (aSc r n) 0 1 35) :=
 (by kernel_rfl : D158 r n zE (xs x0 0 r158) r158 = (fun (env : aO) (h : Hp) => aT (opr env (cC zE)) (D158 r n cQa (xs x0 0 r158) r158 env h) (D158 r n wR (xs x0 0 r158) r158 env h))).trans (by rw [cWh r n]; kernel_rfl)
theorem dIr : D158 r n aEv (xs x0 0 r158) r158 = D158 r n bCq (xs x0 0 r158) (K3 (aSc r n) 0 1 35) :=
 congrArg (fun k => D158 r n bCq (xs x0 0 r158) k) (dAt r n)
theorem dYr : D158 r n c158 x0 r158 = (K2 (s158 r n) 0 1) :=
 (by kernel_rfl : D158 r n c158 x0 r158 = D158 r n aEv (xs x0 0 r158) r158).trans
 ((dIr r n).trans
 ((by kernel_rfl)))
theorem dOu : aG CF r n 158 args h = s158 r n (aR args 0) (aR args 1) h :=
 (by kernel_rfl : aG CF r n 158 args h = D158 r n c158 x0 r158 (aK args) h).trans ((congrFun (congrFun (dYr r n) (aK args)) h).trans (by kernel_rfl))
noncomputable def aLg (r : RT) (n : Nat) (x0 x3 : DV) (h0 : Hp) : aH :=
 bnd (r 157 [x0, (aF 3), (.s [62])] h0) fun v1 h1 =>
 bnd (aB 2 x3 h1) fun v2 h2 =>
 bnd (aA v2 h2) fun v3 h3 =>
 some (v3, h3)
noncomputable def yP (r : RT) (n : Nat) (x0 x3 : DV) (h0 : Hp) : aH :=
 bnd (aB 2 x3 h0) fun v1 h1 =>
 bnd (aA v1 h1) fun v2 h2 =>
 bnd (aE .gtr v2 (aF 255) h2) fun v3 h3 =>
 aT v3 (
 bnd (aI 4 x3 h3) fun v4 h4 =>
 bnd (r 204 [x0, v4, (aF 2)] h4) fun v5 h5 =>
  aLg r n x0 x3 h5) (
  aLg r n x0 x3 h3)
noncomputable def aJe (r : RT) (n : Nat) (x0 : DV) (h0 : Hp) : aH :=
 bnd (r 157 [x0, (aF 4), (.s [])] h0) fun v1 h1 =>
 bnd (bD [(aF 0), (.s []), (aF 0), (aF 0)] h1) fun v2 h2 =>
 bnd (aC 4 v2 v1 h2) fun _ h3 =>
  yP r n x0 v2 h3
noncomputable def aWf (r : RT) (n : Nat) (x0 : DV) (h0 : Hp) : aH :=
 bnd (r 157 [x0, (aF 2), (.s [112, 114, 105, 109, 105, 116, 105, 118, 101, 58])] h0) fun v1 h1 =>
  aJe r n x0 h1
noncomputable def aYw (r : RT) (n : Nat) (x0 : DV) (h0 : Hp) : aH :=
 bnd (r 202 [x0] h0) fun v1 h1 =>
  aWf r n x0 h1
noncomputable def aSp (r : RT) (n : Nat) (x0 : DV) (h0 : Hp) : aH :=
 bnd (r 201 [x0, (aF 3), (.s [60])] h0) fun v1 h1 =>
 bnd (fV .not v1 h1) fun v2 h2 =>
 aT v2 (
 some ((aF 0), h2)) (
  aYw r n x0 h2)
noncomputable def s159 (r : RT) (n : Nat) (x0 : DV) (h0 : Hp) : aH :=
 aSp r n x0 h0
noncomputable abbrev c159 : Code := cf Tryz.f159
noncomputable abbrev aFd : Code := cR c159
noncomputable abbrev aEu : Code := cR aFd
noncomputable abbrev aKr : Code := cR aEu
noncomputable abbrev aMl : Code := cR aKr
noncomputable abbrev aGz : Code := cR aMl
noncomputable abbrev dMk : Code := cR aGz
noncomputable abbrev cGz : Code := cL aGz
noncomputable abbrev aZs : Code := cL aMl
noncomputable abbrev bYg : Code := cL aKr
noncomputable abbrev bBs : Code := cL aEu
noncomputable abbrev bCs : Code := cL aFd
noncomputable abbrev bCl : Code := cL c159
noncomputable abbrev r159 : K := aQ CF Tryz.f159
noncomputable def D159 (r : RT) (n : Nat) (c : Code) (X : Nat → K) (k : K) : K := aM CF r 23 n c X r159 k
theorem cLw : D159 r n dMk x0 r159 = (K2 (aLg r n) 0 3) :=
 (by kernel_rfl)
theorem cAo : D159 r n aGz x0 r159 = D159 r n cGz x0 (K2 (aLg r n) 0 3) :=
 congrArg (fun k => D159 r n cGz x0 k) (cLw r n)
theorem cZg : D159 r n aGz x0 r159 = (K2 (yP r n) 0 3) :=
 (cAo r n).trans
 ((by kernel_rfl))
theorem cHk : D159 r n aMl x0 r159 = D159 r n aZs x0 (K2 (yP r n) 0 3) :=
 congrArg (fun k => D159 r n aZs x0 k) (cZg r n)
theorem bZy (q0 : eM) : D159 r n aZs x0 (K2 q0 0 3) = fun (env : aO) (h : Hp) =>
 bnd (r 157 [(env 0), (aF 4), (.s [])] h) fun v1 h1 =>
 bnd (bD [(aF 0), (.s []), (aF 0), (aF 0)] h1) fun v2 h2 =>
 bnd (aC 4 v2 v1 h2) fun _ h3 =>
  q0 (env 0) v2 h3 := by kernel_rfl
theorem bLg : (fun (env : aO) (h : Hp) =>
 bnd (r 157 [(env 0), (aF 4), (.s [])] h) fun v1 h1 =>
 bnd (bD [(aF 0), (.s []), (aF 0), (aF 0)] h1) fun v2 h2 =>
 bnd (aC 4 v2 v1 h2) fun _ h3 =>
  yP r n (env 0) v2 h3) = (K1 (aJe r n) 0) := by kernel_rfl
theorem dCo : D159 r n aMl x0 r159 = (K1 (aJe r n) 0) :=
 (cHk r n).trans
 ((bZy r n (yP r n)).trans (bLg r n))
theorem cKz : D159 r n aKr x0 r159 = D159 r n bYg x0 (K1 (aJe r n) 0) :=
 congrArg (fun k => D159 r n bYg x0 k) (dCo r n)
theorem cLt : D159 r n aKr x0 r159 = (K1 (aWf r n) 0) :=
 (cKz r n).trans
 ((by kernel_rfl))
theorem bVu : D159 r n aEu x0 r159 = D159 r n bBs x0 (K1 (aWf r n) 0) :=
 congrArg (fun k => D159 r n bBs x0 k) (cLt r n)
theorem cUt : D159 r n aEu x0 r159 = (K1 (aYw r n) 0) :=
 (bVu r n).trans
 ((by kernel_rfl))
theorem bYk : D159 r n aFd x0 r159 = D159 r n bCs x0 (K1 (aYw r n) 0) :=
 congrArg (fun k => D159 r n bCs x0 k) (cUt r n)
theorem cXa : D159 r n aFd x0 r159 = (K1 (aSp r n) 0) :=
 (bYk r n).trans
 ((by kernel_rfl))
theorem dFy : D159 r n c159 x0 r159 = D159 r n bCl x0 (K1 (aSp r n) 0) :=
 congrArg (fun k => D159 r n bCl x0 k) (cXa r n)
theorem dYq : D159 r n c159 x0 r159 = (K1 (s159 r n) 0) :=
 (dFy r n).trans
 ((by kernel_rfl))
theorem dOp : aG CF r n 159 args h = s159 r n (aR args 0) h :=
 (by kernel_rfl : aG CF r n 159 args h = D159 r n c159 x0 r159 (aK args) h).trans ((congrFun (congrFun (dYq r n) (aK args)) h).trans (by kernel_rfl))
noncomputable def aHg (r : RT) (n : Nat) (x0 : DV) (h0 : Hp) : aH :=
 bnd (r 209 [x0, (aF 20), (aF 0), (aF 0)] h0) fun v1 h1 =>
 some (.t [], h1)
noncomputable def cM (r : RT) (n : Nat) (x0 x2 : DV) (h0 : Hp) : aH :=
 aT x2 (
 bnd (r 209 [x0, (aF 2), (aF 0), (aF 0)] h0) fun v1 h1 =>
  aHg r n x0 h1) (
 bnd (r 209 [x0, (aF 1), (aF 0), (aF 0)] h0) fun v2 h2 =>
  aHg r n x0 h2)
noncomputable def lG (r : RT) (n : Nat) (kk8 : dC) (x0 x2 x6 x22 x23 x24 : DV) (h0 : Hp) : aH :=
 bnd (aE .add x24 (aF 1) h0) fun v1 h1 =>
  kk8 x0 x2 x6 x22 x23 v1 h1
noncomputable def tS (r : RT) (n : Nat) (kk8 : dC) (x0 x2 x6 x22 x23 x24 : DV) (h0 : Hp) : aH :=
 bnd (aJ 6 x22 x24 h0) fun v1 h1 =>
 bnd (aI 6 v1 h1) fun v2 h2 =>
 bnd (bD cV h2) fun v3 h3 =>
 bnd (aC 6 v3 v2 h3) fun _ h4 =>
 bnd (aI 6 v3 h4) fun v5 h5 =>
 bnd (r 208 [x0, v5] h5) fun v6 h6 =>
 bnd (aE .eql x24 x6 h6) fun v7 h7 =>
 bnd (gD v7 true (aB 0 v3 h7) h7) fun v8 h8 =>
 bnd (gD v7 true (aA v8 h8) h8) fun v9 h9 =>
 bnd (gD v7 true (aE .eql v9 (aF 10) h9) h9) fun v10 h10 =>
 bnd (aP v7 v10 (.b false) h10) fun v11 h11 =>
 aT v11 (
 some (.t [], h11)) (
 bnd (aE .eql x24 x6 h11) fun v12 h12 =>
 bnd (gD v12 true (some (x2, h12)) h12) fun v13 h13 =>
 bnd (aP v12 v13 (.b false) h13) fun v14 h14 =>
 aT v14 (
 bnd (r 209 [x0, (aF 20), (aF 0), (aF 0)] h14) fun v15 h15 =>
 some (.t [], h15)) (
 bnd (aB 0 v3 h14) fun v16 h16 =>
 bnd (aA v16 h16) fun v17 h17 =>
 bnd (aE .eql v17 (aF 10) h17) fun v18 h18 =>
 aT v18 (
    lG r n kk8 x0 x2 x6 x22 x23 x24 h18) (
 bnd (r 209 [x0, (aF 12), (aF 0), (aF 0)] h18) fun v19 h19 =>
    lG r n kk8 x0 x2 x6 x22 x23 x24 h19)))
noncomputable def aZt (r : RT) (n : Nat) (kk8 : dC) (x0 x2 x6 x22 x23 x24 x25 : DV) (h0 : Hp) : aH :=
 aT x25 (
  tS r n kk8 x0 x2 x6 x22 x23 x24 h0) (
  cM r n x0 x2 h0)
noncomputable def bAy (r : RT) (n : Nat) (kk8 : dC) (x0 x2 x6 x22 x23 x24 : DV) (h0 : Hp) : aH :=
 bnd (aE .lss x24 x23 h0) fun v1 h1 =>
  aZt r n kk8 x0 x2 x6 x22 x23 x24 v1 h1
noncomputable def wE (r : RT) (n : Nat) (m : Nat) : dC :=
 Nat.rec (motive := fun _ => dC) (fun _ _ _ _ _ _ _ => none) (fun _ ih => bAy r n ih) m
noncomputable def bTx (r : RT) (n : Nat) : dC := wE r n n
noncomputable def aSi (r : RT) (n : Nat) (x0 x2 x6 x22 x23 x24 : DV) (h0 : Hp) : aH :=
 bTx r n x0 x2 x6 x22 x23 x24 h0
noncomputable def aZh (r : RT) (n : Nat) (x0 x2 x4 x6 : DV) (h0 : Hp) : aH :=
 bnd (aB 5 x4 h0) fun v1 h1 =>
 bnd (aA v1 h1) fun v2 h2 =>
 bnd (bT v2 h2) fun v3 h3 =>
  aSi r n x0 x2 x6 v2 v3 (aF 0) h3
noncomputable def aSu (r : RT) (n : Nat) (x0 x2 x4 : DV) (h0 : Hp) : aH :=
 bnd (aB 5 x4 h0) fun v1 h1 =>
 bnd (aA v1 h1) fun v2 h2 =>
 bnd (bT v2 h2) fun v3 h3 =>
 bnd (aE .sub v3 (aF 1) h3) fun v4 h4 =>
  aZh r n x0 x2 x4 v4 h4
noncomputable def aWi (r : RT) (n : Nat) (x0 x2 x4 : DV) (h0 : Hp) : aH :=
 bnd (aB 4 x4 h0) fun v1 h1 =>
 bnd (aA v1 h1) fun v2 h2 =>
 bnd (r 207 [x0, v2, (.b false)] h2) fun v3 h3 =>
  aSu r n x0 x2 x4 h3
noncomputable def xR (r : RT) (n : Nat) (x0 x2 x4 : DV) (h0 : Hp) : aH :=
 bnd (aB 3 x4 h0) fun v1 h1 =>
 bnd (aA v1 h1) fun v2 h2 =>
 bnd (r 207 [x0, v2, (.b true)] h2) fun v3 h3 =>
  aWi r n x0 x2 x4 h3
noncomputable def s160 (r : RT) (n : Nat) (x0 x1 x2 : DV) (h0 : Hp) : aH :=
 bnd (bN x1 h0) fun v1 h1 =>
  xR r n x0 x2 v1 h1
noncomputable abbrev c160 : Code := cf Tryz.f160
noncomputable abbrev aId : Code := cR c160
noncomputable abbrev aFz : Code := cR aId
noncomputable abbrev aIn : Code := cR aFz
noncomputable abbrev aHb : Code := cR aIn
noncomputable abbrev aLq : Code := cR aHb
noncomputable abbrev dNx : Code := cR aLq
noncomputable abbrev bXd : Code := cL aLq
noncomputable abbrev aAu : Code := cL aHb
noncomputable abbrev aTp : Code := cR aAu
noncomputable abbrev tM : Code := cL aTp
noncomputable abbrev iP : Code := cL tM
noncomputable abbrev uE : Code := cR iP
noncomputable abbrev vO : Code := cR uE
noncomputable abbrev cQk : Code := cR vO
noncomputable abbrev aKe : Code := cL vO
noncomputable abbrev bBr : Code := cL uE
noncomputable abbrev bHy : Code := cL iP
noncomputable abbrev bGx : Code := cL aAu
noncomputable abbrev bHu : Code := cL aIn
noncomputable abbrev bIh : Code := cL aFz
noncomputable abbrev bDk : Code := cL aId
noncomputable abbrev aGi : Code := cL c160
noncomputable abbrev r160 : K := aQ CF Tryz.f160
noncomputable def D160 (r : RT) (n : Nat) (c : Code) (X : Nat → K) (k : K) : K := aM CF r 64 n c X r160 k
theorem cXr : D160 r n dNx x0 r160 = (K1 (aHg r n) 0) :=
 (by kernel_rfl)
theorem cLh : D160 r n aLq x0 r160 = D160 r n bXd x0 (K1 (aHg r n) 0) :=
 congrArg (fun k => D160 r n bXd x0 k) (cXr r n)
theorem dAp : D160 r n aLq x0 r160 = (K2 (cM r n) 0 2) :=
 (cLh r n).trans
 ((by kernel_rfl))
theorem cIh (kk8 : dC) : D160 r n cQk (xs x0 0 (K2 (cM r n) 0 2)) (K6 kk8 0 2 6 22 23 24) = (K6 (lG r n kk8) 0 2 6 22 23 24) :=
 (by kernel_rfl)
theorem bMp (kk8 : dC) : D160 r n vO (xs x0 0 (K2 (cM r n) 0 2)) (K6 kk8 0 2 6 22 23 24) = D160 r n aKe (xs x0 0 (K2 (cM r n) 0 2)) (K6 (lG r n kk8) 0 2 6 22 23 24) :=
 congrArg (fun k => D160 r n aKe (xs x0 0 (K2 (cM r n) 0 2)) k) (cIh r n kk8)
theorem bKj (kk8 : dC) (q0 : dC) (q1 : eM) : D160 r n aKe (xs x0 0 (K2 q1 0 2)) (K6 q0 0 2 6 22 23 24) = fun (env : aO) (h : Hp) =>
 bnd (aJ 6 (env 22) (env 24) h) fun v1 h1 =>
 bnd (aI 6 v1 h1) fun v2 h2 =>
 bnd (bD cV h2) fun v3 h3 =>
 bnd (aC 6 v3 v2 h3) fun _ h4 =>
 bnd (aI 6 v3 h4) fun v5 h5 =>
 bnd (r 208 [(env 0), v5] h5) fun v6 h6 =>
 bnd (aE .eql (env 24) (env 6) h6) fun v7 h7 =>
 bnd (gD v7 true (aB 0 v3 h7) h7) fun v8 h8 =>
 bnd (gD v7 true (aA v8 h8) h8) fun v9 h9 =>
 bnd (gD v7 true (aE .eql v9 (aF 10) h9) h9) fun v10 h10 =>
 bnd (aP v7 v10 (.b false) h10) fun v11 h11 =>
 aT v11 (
 some (.t [], h11)) (
 bnd (aE .eql (env 24) (env 6) h11) fun v12 h12 =>
 bnd (gD v12 true (some ((env 2), h12)) h12) fun v13 h13 =>
 bnd (aP v12 v13 (.b false) h13) fun v14 h14 =>
 aT v14 (
 bnd (r 209 [(env 0), (aF 20), (aF 0), (aF 0)] h14) fun v15 h15 =>
 some (.t [], h15)) (
 bnd (aB 0 v3 h14) fun v16 h16 =>
 bnd (aA v16 h16) fun v17 h17 =>
 bnd (aE .eql v17 (aF 10) h17) fun v18 h18 =>
 aT v18 (
     q0 (env 0) (env 2) (env 6) (env 22) (env 23) (env 24) h18) (
 bnd (r 209 [(env 0), (aF 12), (aF 0), (aF 0)] h18) fun v19 h19 =>
     q0 (env 0) (env 2) (env 6) (env 22) (env 23) (env 24) h19))) := by kernel_rfl
theorem aWa (kk8 : dC) : (fun (env : aO) (h : Hp) =>
 bnd (aJ 6 (env 22) (env 24) h) fun v1 h1 =>
 bnd (aI 6 v1 h1) fun v2 h2 =>
 bnd (bD cV h2) fun v3 h3 =>
 bnd (aC 6 v3 v2 h3) fun _ h4 =>
 bnd (aI 6 v3 h4) fun v5 h5 =>
 bnd (r 208 [(env 0), v5] h5) fun v6 h6 =>
 bnd (aE .eql (env 24) (env 6) h6) fun v7 h7 =>
 bnd (gD v7 true (aB 0 v3 h7) h7) fun v8 h8 =>
 bnd (gD v7 true (aA v8 h8) h8) fun v9 h9 =>
 bnd (gD v7 true (aE .eql v9 (aF 10) h9) h9) fun v10 h10 =>
 bnd (aP v7 v10 (.b false) h10) fun v11 h11 =>
 aT v11 (
 some (.t [], h11)) (
 bnd (aE .eql (env 24) (env 6) h11) fun v12 h12 =>
 bnd (gD v12 true (some ((env 2), h12)) h12) fun v13 h13 =>
 bnd (aP v12 v13 (.b false) h13) fun v14 h14 =>
 aT v14 (
 bnd (r 209 [(env 0), (aF 20), (aF 0), (aF 0)] h14) fun v15 h15 =>
 some (.t [], h15)) (
 bnd (aB 0 v3 h14) fun v16 h16 =>
 bnd (aA v16 h16) fun v17 h17 =>
 bnd (aE .eql v17 (aF 10) h17) fun v18 h18 =>
 aT v18 (
     lG r n kk8 (env 0) (env 2) (env 6) (env 22) (env 23) (env 24) h18) (
 bnd (r 209 [(env 0), (aF 12), (aF 0), (aF 0)] h18) fun v19 h19 =>
     lG r n kk8 (env 0) (env 2) (env 6) (env 22) (env 23) (env 24) h19)))) = (K6 (tS r n kk8) 0 2 6 22 23 24) := by kernel_rfl
theorem cAc (kk8 : dC) : D160 r n vO (xs x0 0 (K2 (cM r n) 0 2)) (K6 kk8 0 2 6 22 23 24) = (K6 (tS r n kk8) 0 2 6 22 23 24) :=
 (bMp r n kk8).trans
 ((bKj r n kk8 (lG r n kk8) (cM r n)).trans (aWa r n kk8))
theorem bVg (kk8 : dC) : D160 r n uE (xs x0 0 (K2 (cM r n) 0 2)) (K6 kk8 0 2 6 22 23 24) = D160 r n bBr (xs x0 0 (K2 (cM r n) 0 2)) (K6 (tS r n kk8) 0 2 6 22 23 24) :=
 congrArg (fun k => D160 r n bBr (xs x0 0 (K2 (cM r n) 0 2)) k) (cAc r n kk8)
theorem cLv (kk8 : dC) : D160 r n uE (xs x0 0 (K2 (cM r n) 0 2)) (K6 kk8 0 2 6 22 23 24) = (K7 (aZt r n kk8) 0 2 6 22 23 24 25) :=
 (bVg r n kk8).trans
 ((by kernel_rfl))
theorem bUe (kk8 : dC) : D160 r n iP (xs x0 0 (K2 (cM r n) 0 2)) (K6 kk8 0 2 6 22 23 24) = D160 r n bHy (xs x0 0 (K2 (cM r n) 0 2)) (K7 (aZt r n kk8) 0 2 6 22 23 24 25) :=
 congrArg (fun k => D160 r n bHy (xs x0 0 (K2 (cM r n) 0 2)) k) (cLv r n kk8)
theorem bSy (kk8 : dC) : D160 r n iP (xs x0 0 (K2 (cM r n) 0 2)) (K6 kk8 0 2 6 22 23 24) = (K6 (bAy r n kk8) 0 2 6 22 23 24) :=
 (bUe r n kk8).trans
 ((by kernel_rfl))
theorem bVz (m : Nat) : aL (fun kk => D160 r n iP (xs x0 0 (K2 (cM r n) 0 2)) kk) m = (K6 (wE r n m) 0 2 6 22 23 24) := by
 induction m with
 | zero => exact (by kernel_rfl : aL (fun kk => D160 r n iP (xs x0 0 (K2 (cM r n) 0 2)) kk) 0 = (K6 (wE r n 0) 0 2 6 22 23 24))
 | succ m ih =>
  refine (by kernel_rfl : aL (fun kk => D160 r n iP (xs x0 0 (K2 (cM r n) 0 2)) kk) (m + 1) = D160 r n iP (xs x0 0 (K2 (cM r n) 0 2)) (aL (fun kk => D160 r n iP (xs x0 0 (K2 (cM r n) 0 2)) kk) m)).trans ?_
  rw [ih]
  exact (bSy r n (wE r n m)).trans (by kernel_rfl)
theorem cRn : D160 r n tM (xs x0 0 (K2 (cM r n) 0 2)) (K2 (cM r n) 0 2) = (K6 (bTx r n) 0 2 6 22 23 24) :=
 (by kernel_rfl : D160 r n tM (xs x0 0 (K2 (cM r n) 0 2)) (K2 (cM r n) 0 2) = aL (fun kk => D160 r n iP (xs x0 0 (K2 (cM r n) 0 2)) kk) n).trans ((bVz r n n).trans (by kernel_rfl))
theorem cWf : D160 r n aTp x0 (K2 (cM r n) 0 2) = (K6 (aSi r n) 0 2 6 22 23 24) :=
 (by kernel_rfl : D160 r n aTp x0 (K2 (cM r n) 0 2) = D160 r n tM (xs x0 0 (K2 (cM r n) 0 2)) (K2 (cM r n) 0 2)).trans
 ((cRn r n).trans (by kernel_rfl))
theorem cBn : D160 r n aHb x0 r160 = D160 r n aAu x0 (K2 (cM r n) 0 2) :=
 congrArg (fun k => D160 r n aAu x0 k) (dAp r n)
theorem bQb : D160 r n aAu x0 (K2 (cM r n) 0 2) = D160 r n bGx x0 (K6 (aSi r n) 0 2 6 22 23 24) :=
 congrArg (fun k => D160 r n bGx x0 k) (cWf r n)
theorem cUc : D160 r n aHb x0 r160 = (K4 (aZh r n) 0 2 4 6) :=
 (cBn r n).trans
 ((bQb r n).trans
 ((by kernel_rfl)))
theorem cIg : D160 r n aIn x0 r160 = D160 r n bHu x0 (K4 (aZh r n) 0 2 4 6) :=
 congrArg (fun k => D160 r n bHu x0 k) (cUc r n)
theorem cZz : D160 r n aIn x0 r160 = (K3 (aSu r n) 0 2 4) :=
 (cIg r n).trans
 ((by kernel_rfl))
theorem bXb : D160 r n aFz x0 r160 = D160 r n bIh x0 (K3 (aSu r n) 0 2 4) :=
 congrArg (fun k => D160 r n bIh x0 k) (cZz r n)
theorem cZh : D160 r n aFz x0 r160 = (K3 (aWi r n) 0 2 4) :=
 (bXb r n).trans
 ((by kernel_rfl))
theorem bMa : D160 r n aId x0 r160 = D160 r n bDk x0 (K3 (aWi r n) 0 2 4) :=
 congrArg (fun k => D160 r n bDk x0 k) (cZh r n)
theorem cTr : D160 r n aId x0 r160 = (K3 (xR r n) 0 2 4) :=
 (bMa r n).trans
 ((by kernel_rfl))
theorem cPi : D160 r n c160 x0 r160 = D160 r n aGi x0 (K3 (xR r n) 0 2 4) :=
 congrArg (fun k => D160 r n aGi x0 k) (cTr r n)
theorem cWc (q0 : eO) : D160 r n aGi x0 (K3 q0 0 2 4) = fun (env : aO) (h : Hp) =>
 bnd (bN (env 1) h) fun v1 h1 =>
  q0 (env 0) (env 2) v1 h1 := by kernel_rfl
theorem cJp : (fun (env : aO) (h : Hp) =>
 bnd (bN (env 1) h) fun v1 h1 =>
  xR r n (env 0) (env 2) v1 h1) = (K3 (s160 r n) 0 1 2) := by kernel_rfl
theorem dWg : D160 r n c160 x0 r160 = (K3 (s160 r n) 0 1 2) :=
 (cPi r n).trans
 ((cWc r n (xR r n)).trans (cJp r n))
theorem dPm : aG CF r n 160 args h = s160 r n (aR args 0) (aR args 1) (aR args 2) h :=
 (by kernel_rfl : aG CF r n 160 args h = D160 r n c160 x0 r160 (aK args) h).trans ((congrFun (congrFun (dWg r n) (aK args)) h).trans (by kernel_rfl))
noncomputable def eA (r : RT) (n : Nat) (x4 : DV) (h0 : Hp) : aH :=
 some (.t [x4, (aF 0)], h0)
noncomputable def aFi (r : RT) (n : Nat) (kk6 : dI) (x4 x10 x11 x12 : DV) (h0 : Hp) : aH :=
 bnd (aE .lss x12 x11 h0) fun v1 h1 =>
 aT v1 (
 bnd (aJ 3 x10 x12 h1) fun v2 h2 =>
 bnd (aI 3 v2 h2) fun v3 h3 =>
 bnd (bD [(aF 0), (aF 0), (aF 0)] h3) fun v4 h4 =>
 bnd (aC 3 v4 v3 h4) fun _ h5 =>
 bnd (aI 3 v4 h5) fun v6 h6 =>
 bnd (r 149 [v6] h6) fun v7 h7 =>
 bnd (fV .not v7 h7) fun v8 h8 =>
 aT v8 (
 some (.t [.l0, (aF 19)], h8)) (
 bnd (aB 0 v4 h8) fun v9 h9 =>
 bnd (aA v9 h9) fun v10 h10 =>
 bnd (eK .u8 v10 h10) fun v11 h11 =>
 bnd (aB 1 v4 h11) fun v12 h12 =>
 bnd (aA v12 h12) fun v13 h13 =>
 bnd (eK .u8 v13 h13) fun v14 h14 =>
 bnd (aB 2 v4 h14) fun v15 h15 =>
 bnd (aA v15 h15) fun v16 h16 =>
 bnd (eK .u8 v16 h16) fun v17 h17 =>
 bnd (aN [(.i .u8 (Int.ofNat 0)), (.i .u8 (Int.ofNat 0)), (.i .u8 (Int.ofNat 0))] 3 [(0, 1, v11), (1, 1, v14), (2, 1, v17)] h17) fun v18 h18 =>
 bnd (aW 1 1 x4 v18 h18) fun v19 h19 =>
 bnd (aE .add x12 (aF 1) h19) fun v20 h20 =>
    kk6 v19 x10 x11 v20 h20)) (
      eA r n x4 h1)
noncomputable def wN (r : RT) (n : Nat) (m : Nat) : dI :=
 Nat.rec (motive := fun _ => dI) (fun _ _ _ _ _ => none) (fun _ ih => aFi r n ih) m
noncomputable def cCh (r : RT) (n : Nat) : dI := wN r n n
noncomputable def aZb (r : RT) (n : Nat) (x4 x10 x11 x12 : DV) (h0 : Hp) : aH :=
 cCh r n x4 x10 x11 x12 h0
noncomputable def aXg (r : RT) (n : Nat) (x0 x4 : DV) (h0 : Hp) : aH :=
 bnd (bT x0 h0) fun v1 h1 =>
  aZb r n x4 x0 v1 (aF 0) h1
noncomputable def aSk (r : RT) (n : Nat) (x0 : DV) (h0 : Hp) : aH :=
 aXg r n x0 .l0 h0
noncomputable def aYv (r : RT) (n : Nat) (x0 : DV) (h0 : Hp) : aH :=
 bnd (bT x0 h0) fun v1 h1 =>
 bnd (aE .gtr v1 (aF 400) h1) fun v2 h2 =>
 aT v2 (
 some (.t [.l0, (aF 19)], h2)) (
  aSk r n x0 h2)
noncomputable def s161 (r : RT) (n : Nat) (x0 : DV) (h0 : Hp) : aH :=
 aYv r n x0 h0
noncomputable abbrev c161 : Code := cf Tryz.f161
noncomputable abbrev aMm : Code := cR c161
noncomputable abbrev aGp : Code := cR aMm
noncomputable abbrev aKv : Code := cR aGp
noncomputable abbrev dMv : Code := cR aKv
noncomputable abbrev wT : Code := cL aKv
noncomputable abbrev aVe : Code := cR wT
noncomputable abbrev aHl : Code := cL aVe
noncomputable abbrev mU : Code := cL aHl
noncomputable abbrev bUs : Code := cL wT
noncomputable abbrev bHe : Code := cL aGp
noncomputable abbrev bGq : Code := cL aMm
noncomputable abbrev bDm : Code := cL c161
noncomputable abbrev r161 : K := aQ CF Tryz.f161
noncomputable def D161 (r : RT) (n : Nat) (c : Code) (X : Nat → K) (k : K) : K := aM CF r 33 n c X r161 k
theorem cZw : D161 r n dMv x0 r161 = (K1 (eA r n) 4) :=
 (by kernel_rfl)
theorem bTm (kk6 : dI) (q0 : TT1) : D161 r n mU (xs x0 0 (K1 q0 4)) (K4 kk6 4 10 11 12) = fun (env : aO) (h : Hp) =>
 bnd (aE .lss (env 12) (env 11) h) fun v1 h1 =>
 aT v1 (
 bnd (aJ 3 (env 10) (env 12) h1) fun v2 h2 =>
 bnd (aI 3 v2 h2) fun v3 h3 =>
 bnd (bD [(aF 0), (aF 0), (aF 0)] h3) fun v4 h4 =>
 bnd (aC 3 v4 v3 h4) fun _ h5 =>
 bnd (aI 3 v4 h5) fun v6 h6 =>
 bnd (r 149 [v6] h6) fun v7 h7 =>
 bnd (fV .not v7 h7) fun v8 h8 =>
 aT v8 (
 some (.t [.l0, (aF 19)], h8)) (
 bnd (aB 0 v4 h8) fun v9 h9 =>
 bnd (aA v9 h9) fun v10 h10 =>
 bnd (eK .u8 v10 h10) fun v11 h11 =>
 bnd (aB 1 v4 h11) fun v12 h12 =>
 bnd (aA v12 h12) fun v13 h13 =>
 bnd (eK .u8 v13 h13) fun v14 h14 =>
 bnd (aB 2 v4 h14) fun v15 h15 =>
 bnd (aA v15 h15) fun v16 h16 =>
 bnd (eK .u8 v16 h16) fun v17 h17 =>
 bnd (aN [(.i .u8 (Int.ofNat 0)), (.i .u8 (Int.ofNat 0)), (.i .u8 (Int.ofNat 0))] 3 [(0, 1, v11), (1, 1, v14), (2, 1, v17)] h17) fun v18 h18 =>
 bnd (aW 1 1 (env 4) v18 h18) fun v19 h19 =>
 bnd (aE .add (env 12) (aF 1) h19) fun v20 h20 =>
    kk6 v19 (env 10) (env 11) v20 h20)) (
      q0 (env 4) h1) := by kernel_rfl
theorem bKr (kk6 : dI) : (fun (env : aO) (h : Hp) =>
 bnd (aE .lss (env 12) (env 11) h) fun v1 h1 =>
 aT v1 (
 bnd (aJ 3 (env 10) (env 12) h1) fun v2 h2 =>
 bnd (aI 3 v2 h2) fun v3 h3 =>
 bnd (bD [(aF 0), (aF 0), (aF 0)] h3) fun v4 h4 =>
 bnd (aC 3 v4 v3 h4) fun _ h5 =>
 bnd (aI 3 v4 h5) fun v6 h6 =>
 bnd (r 149 [v6] h6) fun v7 h7 =>
 bnd (fV .not v7 h7) fun v8 h8 =>
 aT v8 (
 some (.t [.l0, (aF 19)], h8)) (
 bnd (aB 0 v4 h8) fun v9 h9 =>
 bnd (aA v9 h9) fun v10 h10 =>
 bnd (eK .u8 v10 h10) fun v11 h11 =>
 bnd (aB 1 v4 h11) fun v12 h12 =>
 bnd (aA v12 h12) fun v13 h13 =>
 bnd (eK .u8 v13 h13) fun v14 h14 =>
 bnd (aB 2 v4 h14) fun v15 h15 =>
 bnd (aA v15 h15) fun v16 h16 =>
 bnd (eK .u8 v16 h16) fun v17 h17 =>
 bnd (aN [(.i .u8 (Int.ofNat 0)), (.i .u8 (Int.ofNat 0)), (.i .u8 (Int.ofNat 0))] 3 [(0, 1, v11), (1, 1, v14), (2, 1, v17)] h17) fun v18 h18 =>
 bnd (aW 1 1 (env 4) v18 h18) fun v19 h19 =>
 bnd (aE .add (env 12) (aF 1) h19) fun v20 h20 =>
    kk6 v19 (env 10) (env 11) v20 h20)) (
      eA r n (env 4) h1)) = (K4 (aFi r n kk6) 4 10 11 12) := by kernel_rfl
theorem cLf (kk6 : dI) : D161 r n mU (xs x0 0 (K1 (eA r n) 4)) (K4 kk6 4 10 11 12) = (K4 (aFi r n kk6) 4 10 11 12) :=
 (bTm r n kk6 (eA r n)).trans (bKr r n kk6)
theorem bTh (m : Nat) : aL (fun kk => D161 r n mU (xs x0 0 (K1 (eA r n) 4)) kk) m = (K4 (wN r n m) 4 10 11 12) := by
 induction m with
 | zero => exact (by kernel_rfl : aL (fun kk => D161 r n mU (xs x0 0 (K1 (eA r n) 4)) kk) 0 = (K4 (wN r n 0) 4 10 11 12))
 | succ m ih =>
  refine (by kernel_rfl : aL (fun kk => D161 r n mU (xs x0 0 (K1 (eA r n) 4)) kk) (m + 1) = D161 r n mU (xs x0 0 (K1 (eA r n) 4)) (aL (fun kk => D161 r n mU (xs x0 0 (K1 (eA r n) 4)) kk) m)).trans ?_
  rw [ih]
  exact (cLf r n (wN r n m)).trans (by kernel_rfl)
theorem cTi : D161 r n aHl (xs x0 0 (K1 (eA r n) 4)) (K1 (eA r n) 4) = (K4 (cCh r n) 4 10 11 12) :=
 (by kernel_rfl : D161 r n aHl (xs x0 0 (K1 (eA r n) 4)) (K1 (eA r n) 4) = aL (fun kk => D161 r n mU (xs x0 0 (K1 (eA r n) 4)) kk) n).trans ((bTh r n n).trans (by kernel_rfl))
theorem cMz : D161 r n aVe x0 (K1 (eA r n) 4) = (K4 (aZb r n) 4 10 11 12) :=
 (by kernel_rfl : D161 r n aVe x0 (K1 (eA r n) 4) = D161 r n aHl (xs x0 0 (K1 (eA r n) 4)) (K1 (eA r n) 4)).trans
 ((cTi r n).trans (by kernel_rfl))
theorem bTj : D161 r n aKv x0 r161 = D161 r n wT x0 (K1 (eA r n) 4) :=
 congrArg (fun k => D161 r n wT x0 k) (cZw r n)
theorem bQs : D161 r n wT x0 (K1 (eA r n) 4) = D161 r n bUs x0 (K4 (aZb r n) 4 10 11 12) :=
 congrArg (fun k => D161 r n bUs x0 k) (cMz r n)
theorem cMi : D161 r n aKv x0 r161 = (K2 (aXg r n) 0 4) :=
 (bTj r n).trans
 ((bQs r n).trans
 ((by kernel_rfl)))
theorem cDp : D161 r n aGp x0 r161 = D161 r n bHe x0 (K2 (aXg r n) 0 4) :=
 congrArg (fun k => D161 r n bHe x0 k) (cMi r n)
theorem cRa : D161 r n aGp x0 r161 = (K1 (aSk r n) 0) :=
 (cDp r n).trans
 ((by kernel_rfl))
theorem bTw : D161 r n aMm x0 r161 = D161 r n bGq x0 (K1 (aSk r n) 0) :=
 congrArg (fun k => D161 r n bGq x0 k) (cRa r n)
theorem cPh : D161 r n aMm x0 r161 = (K1 (aYv r n) 0) :=
 (bTw r n).trans
 ((by kernel_rfl))
theorem dGh : D161 r n c161 x0 r161 = D161 r n bDm x0 (K1 (aYv r n) 0) :=
 congrArg (fun k => D161 r n bDm x0 k) (cPh r n)
theorem dUj : D161 r n c161 x0 r161 = (K1 (s161 r n) 0) :=
 (dGh r n).trans
 ((by kernel_rfl))
theorem dJy : aG CF r n 161 args h = s161 r n (aR args 0) h :=
 (by kernel_rfl : aG CF r n 161 args h = D161 r n c161 x0 r161 (aK args) h).trans ((congrFun (congrFun (dUj r n) (aK args)) h).trans (by kernel_rfl))
noncomputable def fA (r : RT) (n : Nat) (x0 x6 : DV) (h0 : Hp) : aH :=
 bnd (r 45 [x0, x6] h0) fun v1 h1 =>
 bnd (aD 0 v1 h1) fun v2 h2 =>
 bnd (aD 1 v1 h2) fun v3 h3 =>
 some (.t [v2, v3], h3)
noncomputable def aEc (r : RT) (n : Nat) (kk4 : eO) (x0 x1 x6 : DV) (h0 : Hp) : aH :=
 bnd (bT x1 h0) fun v1 h1 =>
 bnd (aE .gtr v1 (aF 0) h1) fun v2 h2 =>
 aT v2 (
 bnd (bT x1 h2) fun v3 h3 =>
 bnd (aTd v3 (aF 240) h3) fun v4 h4 =>
 bnd (r 15 [x0, (aF 10)] h4) fun v5 h5 =>
 bnd (cS 1 x1 none (some v4) h5) fun v6 h6 =>
 cnd (aZ (cS 1 x1 none (some v4) h4) v6 && true) (
 bnd (iA v6 h6) fun v7 h7 =>
 cnd (aZ (iA v6 h4) v7 && true) (
 bnd (r 49 [x0, v5, v7] h7) fun v8 h8 =>
 bnd (aD 0 v8 h8) fun v9 h9 =>
 bnd (aD 1 v8 h9) fun v10 h10 =>
 bnd (aE .neq v10 (aF 0) h10) fun v11 h11 =>
 aT v11 (
 some (.t [(aF 0), v10], h11)) (
 bnd (aS (bB 0 h11.next) [(aF 0)] 1 [(0, 1, v9)] (resv 1 h11)) fun v12 h12 =>
 bnd (aW 1 8 x6 v12 h12) fun v13 h13 =>
 bnd (cS 1 x1 (some v4) none h13) fun v14 h14 =>
 cnd (aZ (cS 1 x1 (some v4) none (resv 1 h11)) v14 && true) (
    kk4 x0 v14 v13 h14))))) (
      fA r n x0 x6 h2)
noncomputable def vY (r : RT) (n : Nat) (m : Nat) : eO :=
 Nat.rec (motive := fun _ => eO) (fun _ _ _ _ => none) (fun _ ih => aEc r n ih) m
noncomputable def cBg (r : RT) (n : Nat) : eO := vY r n n
noncomputable def aZg (r : RT) (n : Nat) (x0 x1 x6 : DV) (h0 : Hp) : aH :=
 cBg r n x0 x1 x6 h0
noncomputable def aZw (r : RT) (n : Nat) (x0 x1 : DV) (h0 : Hp) : aH :=
 aZg r n x0 x1 .l0 h0
noncomputable def s162 (r : RT) (n : Nat) (x0 x1 : DV) (h0 : Hp) : aH :=
 aZw r n x0 x1 h0
noncomputable abbrev c162 : Code := cf Tryz.f162
noncomputable abbrev aOg : Code := cR c162
noncomputable abbrev aNm : Code := cR aOg
noncomputable abbrev dGu : Code := cR aNm
noncomputable abbrev aGg : Code := cL aNm
noncomputable abbrev aFh : Code := cL aGg
noncomputable abbrev mX : Code := cL aFh
noncomputable abbrev bTk : Code := cL aOg
noncomputable abbrev bXq : Code := cL c162
noncomputable abbrev r162 : K := aQ CF Tryz.f162
noncomputable def D162 (r : RT) (n : Nat) (c : Code) (X : Nat → K) (k : K) : K := aM CF r 42 n c X r162 k
theorem dBx : D162 r n dGu x0 r162 = (K2 (fA r n) 0 6) :=
 (by kernel_rfl)
theorem cEp (kk4 : eO) (q0 : eM) : D162 r n mX (xs x0 0 (K2 q0 0 6)) (K3 kk4 0 1 6) = fun (env : aO) (h : Hp) =>
 bnd (bT (env 1) h) fun v1 h1 =>
 bnd (aE .gtr v1 (aF 0) h1) fun v2 h2 =>
 aT v2 (
 bnd (bT (env 1) h2) fun v3 h3 =>
 bnd (aTd v3 (aF 240) h3) fun v4 h4 =>
 bnd (r 15 [(env 0), (aF 10)] h4) fun v5 h5 =>
 bnd (cS 1 (env 1) none (some v4) h5) fun v6 h6 =>
 cnd (aZ (cS 1 (env 1) none (some v4) h4) v6 && true) (
 bnd (iA v6 h6) fun v7 h7 =>
 cnd (aZ (iA v6 h4) v7 && true) (
 bnd (r 49 [(env 0), v5, v7] h7) fun v8 h8 =>
 bnd (aD 0 v8 h8) fun v9 h9 =>
 bnd (aD 1 v8 h9) fun v10 h10 =>
 bnd (aE .neq v10 (aF 0) h10) fun v11 h11 =>
 aT v11 (
 some (.t [(aF 0), v10], h11)) (
 bnd (aS (bB 0 h11.next) [(aF 0)] 1 [(0, 1, v9)] (resv 1 h11)) fun v12 h12 =>
 bnd (aW 1 8 (env 6) v12 h12) fun v13 h13 =>
 bnd (cS 1 (env 1) (some v4) none h13) fun v14 h14 =>
 cnd (aZ (cS 1 (env 1) (some v4) none (resv 1 h11)) v14 && true) (
    kk4 (env 0) v14 v13 h14))))) (
      q0 (env 0) (env 6) h2) := by kernel_rfl
theorem bLr (kk4 : eO) : (fun (env : aO) (h : Hp) =>
 bnd (bT (env 1) h) fun v1 h1 =>
 bnd (aE .gtr v1 (aF 0) h1) fun v2 h2 =>
 aT v2 (
 bnd (bT (env 1) h2) fun v3 h3 =>
 bnd (aTd v3 (aF 240) h3) fun v4 h4 =>
 bnd (r 15 [(env 0), (aF 10)] h4) fun v5 h5 =>
 bnd (cS 1 (env 1) none (some v4) h5) fun v6 h6 =>
 cnd (aZ (cS 1 (env 1) none (some v4) h4) v6 && true) (
 bnd (iA v6 h6) fun v7 h7 =>
 cnd (aZ (iA v6 h4) v7 && true) (
 bnd (r 49 [(env 0), v5, v7] h7) fun v8 h8 =>
 bnd (aD 0 v8 h8) fun v9 h9 =>
 bnd (aD 1 v8 h9) fun v10 h10 =>
 bnd (aE .neq v10 (aF 0) h10) fun v11 h11 =>
 aT v11 (
 some (.t [(aF 0), v10], h11)) (
 bnd (aS (bB 0 h11.next) [(aF 0)] 1 [(0, 1, v9)] (resv 1 h11)) fun v12 h12 =>
 bnd (aW 1 8 (env 6) v12 h12) fun v13 h13 =>
 bnd (cS 1 (env 1) (some v4) none h13) fun v14 h14 =>
 cnd (aZ (cS 1 (env 1) (some v4) none (resv 1 h11)) v14 && true) (
    kk4 (env 0) v14 v13 h14))))) (
      fA r n (env 0) (env 6) h2)) = (K3 (aEc r n kk4) 0 1 6) := by kernel_rfl
theorem bYn (kk4 : eO) : D162 r n mX (xs x0 0 (K2 (fA r n) 0 6)) (K3 kk4 0 1 6) = (K3 (aEc r n kk4) 0 1 6) :=
 (cEp r n kk4 (fA r n)).trans (bLr r n kk4)
theorem bPm (m : Nat) : aL (fun kk => D162 r n mX (xs x0 0 (K2 (fA r n) 0 6)) kk) m = (K3 (vY r n m) 0 1 6) := by
 induction m with
 | zero => exact (by kernel_rfl : aL (fun kk => D162 r n mX (xs x0 0 (K2 (fA r n) 0 6)) kk) 0 = (K3 (vY r n 0) 0 1 6))
 | succ m ih =>
  refine (by kernel_rfl : aL (fun kk => D162 r n mX (xs x0 0 (K2 (fA r n) 0 6)) kk) (m + 1) = D162 r n mX (xs x0 0 (K2 (fA r n) 0 6)) (aL (fun kk => D162 r n mX (xs x0 0 (K2 (fA r n) 0 6)) kk) m)).trans ?_
  rw [ih]
  exact (bYn r n (vY r n m)).trans (by kernel_rfl)
theorem cUp : D162 r n aFh (xs x0 0 (K2 (fA r n) 0 6)) (K2 (fA r n) 0 6) = (K3 (cBg r n) 0 1 6) :=
 (by kernel_rfl : D162 r n aFh (xs x0 0 (K2 (fA r n) 0 6)) (K2 (fA r n) 0 6) = aL (fun kk => D162 r n mX (xs x0 0 (K2 (fA r n) 0 6)) kk) n).trans ((bPm r n n).trans (by kernel_rfl))
theorem cId : D162 r n aNm x0 r162 = D162 r n aGg x0 (K2 (fA r n) 0 6) :=
 congrArg (fun k => D162 r n aGg x0 k) (dBx r n)
theorem cNl : D162 r n aNm x0 r162 = (K3 (aZg r n) 0 1 6) :=
 (cId r n).trans
 ((by kernel_rfl : D162 r n aGg x0 (K2 (fA r n) 0 6) = D162 r n aFh (xs x0 0 (K2 (fA r n) 0 6)) (K2 (fA r n) 0 6)).trans
 ((cUp r n).trans (by kernel_rfl)))
theorem bSt : D162 r n aOg x0 r162 = D162 r n bTk x0 (K3 (aZg r n) 0 1 6) :=
 congrArg (fun k => D162 r n bTk x0 k) (cNl r n)
theorem cXv : D162 r n aOg x0 r162 = (K2 (aZw r n) 0 1) :=
 (bSt r n).trans
 ((by kernel_rfl))
theorem dOj : D162 r n c162 x0 r162 = D162 r n bXq x0 (K2 (aZw r n) 0 1) :=
 congrArg (fun k => D162 r n bXq x0 k) (cXv r n)
theorem dSr : D162 r n c162 x0 r162 = (K2 (s162 r n) 0 1) :=
 (dOj r n).trans
 ((by kernel_rfl))
theorem dGs : aG CF r n 162 args h = s162 r n (aR args 0) (aR args 1) h :=
 (by kernel_rfl : aG CF r n 162 args h = D162 r n c162 x0 r162 (aK args) h).trans ((congrFun (congrFun (dSr r n) (aK args)) h).trans (by kernel_rfl))
noncomputable def eW (r : RT) (n : Nat) (h0 : Hp) : aH :=
 some ((.i .i64 (Int.negSucc 0)), h0)
noncomputable def bHp (r : RT) (n : Nat) (kk4 : dI) (x0 x1 x7 x8 : DV) (h0 : Hp) : aH :=
 bnd (aE .lss x8 x7 h0) fun v1 h1 =>
 aT v1 (
 bnd (aJ 4 x0 x8 h1) fun v2 h2 =>
 bnd (aI 4 v2 h2) fun v3 h3 =>
 bnd (dD CF r x1 [v3] h3) fun v4 h4 =>
 aT v4 (
 some (x8, h4)) (
 bnd (aE .add x8 (aF 1) h4) fun v5 h5 =>
    kk4 x0 x1 x7 v5 h5)) (
      eW r n h1)
noncomputable def vD (r : RT) (n : Nat) (m : Nat) : dI :=
 Nat.rec (motive := fun _ => dI) (fun _ _ _ _ _ => none) (fun _ ih => bHp r n ih) m
noncomputable def bXc (r : RT) (n : Nat) : dI := vD r n n
noncomputable def aWs (r : RT) (n : Nat) (x0 x1 x7 x8 : DV) (h0 : Hp) : aH :=
 bXc r n x0 x1 x7 x8 h0
noncomputable def aSo (r : RT) (n : Nat) (x0 x1 : DV) (h0 : Hp) : aH :=
 bnd (bT x0 h0) fun v1 h1 =>
  aWs r n x0 x1 v1 (aF 0) h1
noncomputable def s187 (r : RT) (n : Nat) (x0 x1 : DV) (h0 : Hp) : aH :=
 aSo r n x0 x1 h0
noncomputable abbrev c187 : Code := cf Tryz.f187
noncomputable abbrev aDo : Code := cR c187
noncomputable abbrev dFi : Code := cR aDo
noncomputable abbrev yH : Code := cL aDo
noncomputable abbrev aSh : Code := cR yH
noncomputable abbrev aFy : Code := cL aSh
noncomputable abbrev oU : Code := cL aFy
noncomputable abbrev bUx : Code := cL yH
noncomputable abbrev cGl : Code := cL c187
noncomputable abbrev r187 : K := aQ CF Tryz.f187
noncomputable def D187 (r : RT) (n : Nat) (c : Code) (X : Nat → K) (k : K) : K := aM CF r 19 n c X r187 k
theorem cUo : D187 r n dFi x0 r187 = (K0 (eW r n)) :=
 (by kernel_rfl)
theorem cBr (kk4 : dI) : D187 r n oU (xs x0 0 (K0 (eW r n))) (K4 kk4 0 1 7 8) = (K4 (bHp r n kk4) 0 1 7 8) :=
 (by kernel_rfl)
theorem cBf (m : Nat) : aL (fun kk => D187 r n oU (xs x0 0 (K0 (eW r n))) kk) m = (K4 (vD r n m) 0 1 7 8) := by
 induction m with
 | zero => exact (by kernel_rfl : aL (fun kk => D187 r n oU (xs x0 0 (K0 (eW r n))) kk) 0 = (K4 (vD r n 0) 0 1 7 8))
 | succ m ih =>
  refine (by kernel_rfl : aL (fun kk => D187 r n oU (xs x0 0 (K0 (eW r n))) kk) (m + 1) = D187 r n oU (xs x0 0 (K0 (eW r n))) (aL (fun kk => D187 r n oU (xs x0 0 (K0 (eW r n))) kk) m)).trans ?_
  rw [ih]
  exact (cBr r n (vD r n m)).trans (by kernel_rfl)
theorem cTx : D187 r n aFy (xs x0 0 (K0 (eW r n))) (K0 (eW r n)) = (K4 (bXc r n) 0 1 7 8) :=
 (by kernel_rfl : D187 r n aFy (xs x0 0 (K0 (eW r n))) (K0 (eW r n)) = aL (fun kk => D187 r n oU (xs x0 0 (K0 (eW r n))) kk) n).trans ((cBf r n n).trans (by kernel_rfl))
theorem cLr : D187 r n aSh x0 (K0 (eW r n)) = (K4 (aWs r n) 0 1 7 8) :=
 (by kernel_rfl : D187 r n aSh x0 (K0 (eW r n)) = D187 r n aFy (xs x0 0 (K0 (eW r n))) (K0 (eW r n))).trans
 ((cTx r n).trans (by kernel_rfl))
theorem cCs : D187 r n aDo x0 r187 = D187 r n yH x0 (K0 (eW r n)) :=
 congrArg (fun k => D187 r n yH x0 k) (cUo r n)
theorem bXj : D187 r n yH x0 (K0 (eW r n)) = D187 r n bUx x0 (K4 (aWs r n) 0 1 7 8) :=
 congrArg (fun k => D187 r n bUx x0 k) (cLr r n)
theorem cTs : D187 r n aDo x0 r187 = (K2 (aSo r n) 0 1) :=
 (cCs r n).trans
 ((bXj r n).trans
 ((by kernel_rfl)))
theorem dKz : D187 r n c187 x0 r187 = D187 r n cGl x0 (K2 (aSo r n) 0 1) :=
 congrArg (fun k => D187 r n cGl x0 k) (cTs r n)
theorem dSk : D187 r n c187 x0 r187 = (K2 (s187 r n) 0 1) :=
 (dKz r n).trans
 ((by kernel_rfl))
theorem dFh : aG CF r n 187 args h = s187 r n (aR args 0) (aR args 1) h :=
 (by kernel_rfl : aG CF r n 187 args h = D187 r n c187 x0 r187 (aK args) h).trans ((congrFun (congrFun (dSk r n) (aK args)) h).trans (by kernel_rfl))
noncomputable def cF (r : RT) (n : Nat) (x2 x3 : DV) (h0 : Hp) : aH :=
 some (.t [x2, x3], h0)
noncomputable def cP (r : RT) (n : Nat) (x3 : DV) (h0 : Hp) : aH :=
 cF r n (.b true) x3 h0
noncomputable def dG (r : RT) (n : Nat) (h0 : Hp) : aH :=
 cP r n (.b true) h0
noncomputable def oN (r : RT) (n : Nat) (x2 x3 : DV) (h0 : Hp) : aH :=
 cF r n x2 x3 h0
noncomputable def mD (r : RT) (n : Nat) (x2 x3 x11 : DV) (h0 : Hp) : aH :=
 aT x11 (
  cP r n x3 h0) (
  oN r n x2 x3 h0)
noncomputable def zH (r : RT) (n : Nat) (x2 x3 x4 : DV) (h0 : Hp) : aH :=
 bnd (aE .eql x4 (aF 6) h0) fun v1 h1 =>
 aT v1 (
  mD r n x2 x3 v1 h1) (
 bnd (aE .eql x4 (aF 7) h1) fun v2 h2 =>
 aT v2 (
   mD r n x2 x3 v2 h2) (
 bnd (aE .eql x4 (aF 8) h2) fun v3 h3 =>
 aT v3 (
    mD r n x2 x3 v3 h3) (
 bnd (aE .eql x4 (aF 9) h3) fun v4 h4 =>
 aT v4 (
     mD r n x2 x3 v4 h4) (
 bnd (aE .eql x4 (aF 10) h4) fun v5 h5 =>
 aT v5 (
      mD r n x2 x3 v5 h5) (
 bnd (aE .eql x4 (aF 11) h5) fun v6 h6 =>
      mD r n x2 x3 v6 h6)))))
noncomputable def nU (r : RT) (n : Nat) (x2 x3 x4 x5 : DV) (h0 : Hp) : aH :=
 aT x5 (
  dG r n h0) (
  zH r n x2 x3 x4 h0)
noncomputable def aXk (r : RT) (n : Nat) (x2 x3 x4 : DV) (h0 : Hp) : aH :=
 bnd (aE .eql x4 (aF 14) h0) fun v1 h1 =>
 aT v1 (
  nU r n x2 x3 x4 v1 h1) (
 bnd (aE .eql x4 (aF 15) h1) fun v2 h2 =>
 aT v2 (
   nU r n x2 x3 x4 v2 h2) (
 bnd (aE .eql x4 (aF 16) h2) fun v3 h3 =>
 aT v3 (
    nU r n x2 x3 x4 v3 h3) (
 bnd (aE .eql x4 (aF 17) h3) fun v4 h4 =>
 aT v4 (
     nU r n x2 x3 x4 v4 h4) (
 bnd (aE .eql x4 (aF 18) h4) fun v5 h5 =>
     nU r n x2 x3 x4 v5 h5))))
noncomputable def aWg (r : RT) (n : Nat) (x0 x2 x3 : DV) (h0 : Hp) : aH :=
 aXk r n x2 x3 x0 h0
noncomputable def s189 (r : RT) (n : Nat) (x0 : DV) (h0 : Hp) : aH :=
 aWg r n x0 (.b false) (.b false) h0
noncomputable abbrev c189 : Code := cf Tryz.f189
noncomputable abbrev aMr : Code := cR c189
noncomputable abbrev dMx : Code := cR aMr
noncomputable abbrev xX : Code := cL aMr
noncomputable abbrev aYm : Code := cR xX
noncomputable abbrev aGq : Code := cL aYm
noncomputable abbrev dJu : Code := cR aGq
noncomputable abbrev aJd : Code := cL aGq
noncomputable abbrev aNa : Code := cL aJd
noncomputable abbrev dEe : Code := cR aNa
noncomputable abbrev wA : Code := cL aNa
noncomputable abbrev vJ : Code := cL wA
noncomputable abbrev cVs : Code := cR vJ
noncomputable abbrev pU : Code := cL vJ
noncomputable abbrev vF : Code := cR pU
noncomputable abbrev cWk : Code := cR vF
noncomputable abbrev bFv : Code := cL vF
noncomputable abbrev pP : Code := cL pU
noncomputable abbrev cSz : Code := cR pP
noncomputable abbrev bBg : Code := cL pP
noncomputable abbrev bFl : Code := cL xX
noncomputable abbrev bIs : Code := cL c189
noncomputable abbrev r189 : K := aQ CF Tryz.f189
noncomputable def D189 (r : RT) (n : Nat) (c : Code) (X : Nat → K) (k : K) : K := aM CF r 20 n c X r189 k
theorem cLs : D189 r n dMx x0 r189 = (K2 (cF r n) 2 3) :=
 (by kernel_rfl)
theorem dBq : D189 r n dJu (xs x0 0 (K2 (cF r n) 2 3)) (K2 (cF r n) 2 3) = (K1 (cP r n) 3) :=
 (by kernel_rfl)
theorem dCs : D189 r n dEe (xs (xs x0 0 (K2 (cF r n) 2 3)) 2 (K1 (cP r n) 3)) (K1 (cP r n) 3) = (K0 (dG r n)) :=
 (by kernel_rfl)
theorem cMe : D189 r n cVs (xs (xs (xs x0 0 (K2 (cF r n) 2 3)) 2 (K1 (cP r n) 3)) 1 (K0 (dG r n))) (K0 (dG r n)) = (K2 (oN r n) 2 3) :=
 (by kernel_rfl)
theorem cTq : D189 r n cWk (xs (xs (xs x0 0 (K2 (cF r n) 2 3)) 2 (K1 (cP r n) 3)) 1 (K0 (dG r n))) (K2 (oN r n) 2 3) = (K3 (mD r n) 2 3 11) :=
 (by kernel_rfl)
theorem bUh : D189 r n vF (xs (xs (xs x0 0 (K2 (cF r n) 2 3)) 2 (K1 (cP r n) 3)) 1 (K0 (dG r n))) (K2 (oN r n) 2 3) = D189 r n bFv (xs (xs (xs x0 0 (K2 (cF r n) 2 3)) 2 (K1 (cP r n) 3)) 1 (K0 (dG r n))) (K3 (mD r n) 2 3 11) :=
 congrArg (fun k => D189 r n bFv (xs (xs (xs x0 0 (K2 (cF r n) 2 3)) 2 (K1 (cP r n) 3)) 1 (K0 (dG r n))) k) (cTq r n)
theorem cLq : D189 r n vF (xs (xs (xs x0 0 (K2 (cF r n) 2 3)) 2 (K1 (cP r n) 3)) 1 (K0 (dG r n))) (K2 (oN r n) 2 3) = (K3 (zH r n) 2 3 4) :=
 (bUh r n).trans
 ((by kernel_rfl))
theorem cOc : D189 r n cSz (xs (xs (xs x0 0 (K2 (cF r n) 2 3)) 2 (K1 (cP r n) 3)) 1 (K0 (dG r n))) (K3 (zH r n) 2 3 4) = (K4 (nU r n) 2 3 4 5) :=
 (by kernel_rfl)
theorem bTa : D189 r n aGq (xs x0 0 (K2 (cF r n) 2 3)) (K2 (cF r n) 2 3) = D189 r n aJd (xs x0 0 (K2 (cF r n) 2 3)) (K1 (cP r n) 3) :=
 congrArg (fun k => D189 r n aJd (xs x0 0 (K2 (cF r n) 2 3)) k) (dBq r n)
theorem cHo : D189 r n aNa (xs (xs x0 0 (K2 (cF r n) 2 3)) 2 (K1 (cP r n) 3)) (K1 (cP r n) 3) = D189 r n wA (xs (xs x0 0 (K2 (cF r n) 2 3)) 2 (K1 (cP r n) 3)) (K0 (dG r n)) :=
 congrArg (fun k => D189 r n wA (xs (xs x0 0 (K2 (cF r n) 2 3)) 2 (K1 (cP r n) 3)) k) (dCs r n)
theorem cKq : D189 r n vJ (xs (xs (xs x0 0 (K2 (cF r n) 2 3)) 2 (K1 (cP r n) 3)) 1 (K0 (dG r n))) (K0 (dG r n)) = D189 r n pU (xs (xs (xs x0 0 (K2 (cF r n) 2 3)) 2 (K1 (cP r n) 3)) 1 (K0 (dG r n))) (K2 (oN r n) 2 3) :=
 congrArg (fun k => D189 r n pU (xs (xs (xs x0 0 (K2 (cF r n) 2 3)) 2 (K1 (cP r n) 3)) 1 (K0 (dG r n))) k) (cMe r n)
theorem bWf : D189 r n pU (xs (xs (xs x0 0 (K2 (cF r n) 2 3)) 2 (K1 (cP r n) 3)) 1 (K0 (dG r n))) (K2 (oN r n) 2 3) = D189 r n pP (xs (xs (xs x0 0 (K2 (cF r n) 2 3)) 2 (K1 (cP r n) 3)) 1 (K0 (dG r n))) (K3 (zH r n) 2 3 4) :=
 congrArg (fun k => D189 r n pP (xs (xs (xs x0 0 (K2 (cF r n) 2 3)) 2 (K1 (cP r n) 3)) 1 (K0 (dG r n))) k) (cLq r n)
theorem cGc : D189 r n pP (xs (xs (xs x0 0 (K2 (cF r n) 2 3)) 2 (K1 (cP r n) 3)) 1 (K0 (dG r n))) (K3 (zH r n) 2 3 4) = D189 r n bBg (xs (xs (xs x0 0 (K2 (cF r n) 2 3)) 2 (K1 (cP r n) 3)) 1 (K0 (dG r n))) (K4 (nU r n) 2 3 4 5) :=
 congrArg (fun k => D189 r n bBg (xs (xs (xs x0 0 (K2 (cF r n) 2 3)) 2 (K1 (cP r n) 3)) 1 (K0 (dG r n))) k) (cOc r n)
theorem cNk : D189 r n aYm x0 (K2 (cF r n) 2 3) = (K3 (aXk r n) 2 3 4) :=
 (by kernel_rfl : D189 r n aYm x0 (K2 (cF r n) 2 3) = D189 r n aGq (xs x0 0 (K2 (cF r n) 2 3)) (K2 (cF r n) 2 3)).trans
 ((bTa r n).trans
 ((by kernel_rfl : D189 r n aJd (xs x0 0 (K2 (cF r n) 2 3)) (K1 (cP r n) 3) = D189 r n aNa (xs (xs x0 0 (K2 (cF r n) 2 3)) 2 (K1 (cP r n) 3)) (K1 (cP r n) 3)).trans
 ((cHo r n).trans
 ((by kernel_rfl : D189 r n wA (xs (xs x0 0 (K2 (cF r n) 2 3)) 2 (K1 (cP r n) 3)) (K0 (dG r n)) = D189 r n vJ (xs (xs (xs x0 0 (K2 (cF r n) 2 3)) 2 (K1 (cP r n) 3)) 1 (K0 (dG r n))) (K0 (dG r n))).trans
 ((cKq r n).trans
 ((bWf r n).trans
 ((cGc r n).trans
 ((by kernel_rfl)))))))))
theorem cJb : D189 r n aMr x0 r189 = D189 r n xX x0 (K2 (cF r n) 2 3) :=
 congrArg (fun k => D189 r n xX x0 k) (cLs r n)
theorem bRh : D189 r n xX x0 (K2 (cF r n) 2 3) = D189 r n bFl x0 (K3 (aXk r n) 2 3 4) :=
 congrArg (fun k => D189 r n bFl x0 k) (cNk r n)
theorem cSu : D189 r n aMr x0 r189 = (K3 (aWg r n) 0 2 3) :=
 (cJb r n).trans
 ((bRh r n).trans
 ((by kernel_rfl)))
theorem dFe : D189 r n c189 x0 r189 = D189 r n bIs x0 (K3 (aWg r n) 0 2 3) :=
 congrArg (fun k => D189 r n bIs x0 k) (cSu r n)
theorem dRt : D189 r n c189 x0 r189 = (K1 (s189 r n) 0) :=
 (dFe r n).trans
 ((by kernel_rfl))
theorem dPi : aG CF r n 189 args h = s189 r n (aR args 0) h :=
 (by kernel_rfl : aG CF r n 189 args h = D189 r n c189 x0 r189 (aK args) h).trans ((congrFun (congrFun (dRt r n) (aK args)) h).trans (by kernel_rfl))
noncomputable def s190 (r : RT) (n : Nat) (x0 x1 : DV) (h0 : Hp) : aH :=
 bnd (aE .eql x0 (aF 0) h0) fun v1 h1 =>
 bnd (gD v1 false (some (x1, h1)) h1) fun v2 h2 =>
 bnd (gD v1 false (some (v2, h2)) h2) fun v3 h3 =>
 bnd (gD v3 true (some (x0, h3)) h3) fun v4 h4 =>
 bnd (gD v3 true (aE .gtr v4 (aF 0) h4) h4) fun v5 h5 =>
 bnd (gD v1 false (aP v3 v5 (.b false) h5) h5) fun v6 h6 =>
 bnd (gD v1 false (some (v6, h6)) h6) fun v7 h7 =>
 bnd (gD v7 true (some (x0, h7)) h7) fun v8 h8 =>
 bnd (gD v7 true (aE .leq v8 (aF 255) h8) h8) fun v9 h9 =>
 bnd (gD v1 false (aP v7 v9 (.b false) h9) h9) fun v10 h10 =>
 bnd (aP v1 (.b true) v10 h10) fun v11 h11 =>
 some (v11, h11)
noncomputable abbrev c190 : Code := cf Tryz.f190
noncomputable abbrev r190 : K := aQ CF Tryz.f190
noncomputable def D190 (r : RT) (n : Nat) (c : Code) (X : Nat → K) (k : K) : K := aM CF r 18 n c X r190 k
theorem dRm : D190 r n c190 x0 r190 = (K2 (s190 r n) 0 1) :=
 (by kernel_rfl)
theorem dIb : aG CF r n 190 args h = s190 r n (aR args 0) (aR args 1) h :=
 (by kernel_rfl : aG CF r n 190 args h = D190 r n c190 x0 r190 (aK args) h).trans ((congrFun (congrFun (dRm r n) (aK args)) h).trans (by kernel_rfl))
noncomputable def cY (r : RT) (n : Nat) (x4 : DV) (h0 : Hp) : aH :=
 some (x4, h0)
noncomputable def aIl (r : RT) (n : Nat) (kk5 : dI) (x0 x1 x4 x5 : DV) (h0 : Hp) : aH :=
 bnd (aE .add x5 (aF 1) h0) fun v1 h1 =>
  kk5 x0 x1 x4 v1 h1
noncomputable def aYk (r : RT) (n : Nat) (kk5 : dI) (x0 x1 x4 x5 : DV) (h0 : Hp) : aH :=
 bnd (aA x1 h0) fun v1 h1 =>
 bnd (r 192 [v1, x5] h1) fun v2 h2 =>
 bnd (aD 0 v2 h2) fun v3 h3 =>
 bnd (aD 1 v2 h3) fun v4 h4 =>
 bnd (gD v4 true (some (x0, h4)) h4) fun v5 h5 =>
 bnd (gD v4 true (some (v3, h5)) h5) fun v6 h6 =>
 bnd (gD v4 true (aE .lss v5 v6 h6) h6) fun v7 h7 =>
 bnd (aP v4 v7 (.b false) h7) fun v8 h8 =>
 aT v8 (
  aIl r n kk5 x0 x1 x5 x5 h8) (
  aIl r n kk5 x0 x1 x4 x5 h8)
noncomputable def bCm (r : RT) (n : Nat) (kk5 : dI) (x0 x1 x4 x5 : DV) (h0 : Hp) : aH :=
 bnd (aE .add x5 (aF 2) h0) fun v1 h1 =>
 bnd (aE .leq v1 x0 h1) fun v2 h2 =>
 aT v2 (
   aYk r n kk5 x0 x1 x4 x5 h2) (
   cY r n x4 h2)
noncomputable def vN (r : RT) (n : Nat) (m : Nat) : dI :=
 Nat.rec (motive := fun _ => dI) (fun _ _ _ _ _ => none) (fun _ ih => bCm r n ih) m
noncomputable def cIu (r : RT) (n : Nat) : dI := vN r n n
noncomputable def aXu (r : RT) (n : Nat) (x0 x1 x4 x5 : DV) (h0 : Hp) : aH :=
 cIu r n x0 x1 x4 x5 h0
noncomputable def bAd (r : RT) (n : Nat) (x0 x1 x4 : DV) (h0 : Hp) : aH :=
 aXu r n x0 x1 x4 (aF 0) h0
noncomputable def aZn (r : RT) (n : Nat) (x0 x1 : DV) (h0 : Hp) : aH :=
 bAd r n x0 x1 (.i .i64 (Int.negSucc 0)) h0
noncomputable def s191 (r : RT) (n : Nat) (x0 x1 : DV) (h0 : Hp) : aH :=
 aZn r n x0 x1 h0
noncomputable abbrev c191 : Code := cf Tryz.f191
noncomputable abbrev aJk : Code := cR c191
noncomputable abbrev aOc : Code := cR aJk
noncomputable abbrev dJj : Code := cR aOc
noncomputable abbrev yZ : Code := cL aOc
noncomputable abbrev aSl : Code := cR yZ
noncomputable abbrev aHp : Code := cL aSl
noncomputable abbrev kE : Code := cL aHp
noncomputable abbrev aNg : Code := cR kE
noncomputable abbrev dOw : Code := cR aNg
noncomputable abbrev bDo : Code := cL aNg
noncomputable abbrev bIj : Code := cL kE
noncomputable abbrev bDr : Code := cL yZ
noncomputable abbrev bCn : Code := cL aJk
noncomputable abbrev bFh : Code := cL c191
noncomputable abbrev r191 : K := aQ CF Tryz.f191
noncomputable def D191 (r : RT) (n : Nat) (c : Code) (X : Nat → K) (k : K) : K := aM CF r 28 n c X r191 k
theorem cOu : D191 r n dJj x0 r191 = (K1 (cY r n) 4) :=
 (by kernel_rfl)
theorem dAf (kk5 : dI) : D191 r n dOw (xs x0 0 (K1 (cY r n) 4)) (K4 kk5 0 1 4 5) = (K4 (aIl r n kk5) 0 1 4 5) :=
 (by kernel_rfl)
theorem cIf (kk5 : dI) : D191 r n aNg (xs x0 0 (K1 (cY r n) 4)) (K4 kk5 0 1 4 5) = D191 r n bDo (xs x0 0 (K1 (cY r n) 4)) (K4 (aIl r n kk5) 0 1 4 5) :=
 congrArg (fun k => D191 r n bDo (xs x0 0 (K1 (cY r n) 4)) k) (dAf r n kk5)
theorem dCl (kk5 : dI) : D191 r n aNg (xs x0 0 (K1 (cY r n) 4)) (K4 kk5 0 1 4 5) = (K4 (aYk r n kk5) 0 1 4 5) :=
 (cIf r n kk5).trans
 ((by kernel_rfl))
theorem cAb (kk5 : dI) : D191 r n kE (xs x0 0 (K1 (cY r n) 4)) (K4 kk5 0 1 4 5) = D191 r n bIj (xs x0 0 (K1 (cY r n) 4)) (K4 (aYk r n kk5) 0 1 4 5) :=
 congrArg (fun k => D191 r n bIj (xs x0 0 (K1 (cY r n) 4)) k) (dCl r n kk5)
theorem cAq (kk5 : dI) : D191 r n kE (xs x0 0 (K1 (cY r n) 4)) (K4 kk5 0 1 4 5) = (K4 (bCm r n kk5) 0 1 4 5) :=
 (cAb r n kk5).trans
 ((by kernel_rfl))
theorem bYi (m : Nat) : aL (fun kk => D191 r n kE (xs x0 0 (K1 (cY r n) 4)) kk) m = (K4 (vN r n m) 0 1 4 5) := by
 induction m with
 | zero => exact (by kernel_rfl : aL (fun kk => D191 r n kE (xs x0 0 (K1 (cY r n) 4)) kk) 0 = (K4 (vN r n 0) 0 1 4 5))
 | succ m ih =>
  refine (by kernel_rfl : aL (fun kk => D191 r n kE (xs x0 0 (K1 (cY r n) 4)) kk) (m + 1) = D191 r n kE (xs x0 0 (K1 (cY r n) 4)) (aL (fun kk => D191 r n kE (xs x0 0 (K1 (cY r n) 4)) kk) m)).trans ?_
  rw [ih]
  exact (cAq r n (vN r n m)).trans (by kernel_rfl)
theorem cXt : D191 r n aHp (xs x0 0 (K1 (cY r n) 4)) (K1 (cY r n) 4) = (K4 (cIu r n) 0 1 4 5) :=
 (by kernel_rfl : D191 r n aHp (xs x0 0 (K1 (cY r n) 4)) (K1 (cY r n) 4) = aL (fun kk => D191 r n kE (xs x0 0 (K1 (cY r n) 4)) kk) n).trans ((bYi r n n).trans (by kernel_rfl))
theorem cMk : D191 r n aSl x0 (K1 (cY r n) 4) = (K4 (aXu r n) 0 1 4 5) :=
 (by kernel_rfl : D191 r n aSl x0 (K1 (cY r n) 4) = D191 r n aHp (xs x0 0 (K1 (cY r n) 4)) (K1 (cY r n) 4)).trans
 ((cXt r n).trans (by kernel_rfl))
theorem cFq : D191 r n aOc x0 r191 = D191 r n yZ x0 (K1 (cY r n) 4) :=
 congrArg (fun k => D191 r n yZ x0 k) (cOu r n)
theorem bRc : D191 r n yZ x0 (K1 (cY r n) 4) = D191 r n bDr x0 (K4 (aXu r n) 0 1 4 5) :=
 congrArg (fun k => D191 r n bDr x0 k) (cMk r n)
theorem cVv : D191 r n aOc x0 r191 = (K3 (bAd r n) 0 1 4) :=
 (cFq r n).trans
 ((bRc r n).trans
 ((by kernel_rfl)))
theorem bWz : D191 r n aJk x0 r191 = D191 r n bCn x0 (K3 (bAd r n) 0 1 4) :=
 congrArg (fun k => D191 r n bCn x0 k) (cVv r n)
theorem cQj : D191 r n aJk x0 r191 = (K2 (aZn r n) 0 1) :=
 (bWz r n).trans
 ((by kernel_rfl))
theorem dOh : D191 r n c191 x0 r191 = D191 r n bFh x0 (K2 (aZn r n) 0 1) :=
 congrArg (fun k => D191 r n bFh x0 k) (cQj r n)
theorem dXz : D191 r n c191 x0 r191 = (K2 (s191 r n) 0 1) :=
 (dOh r n).trans
 ((by kernel_rfl))
theorem dIu : aG CF r n 191 args h = s191 r n (aR args 0) (aR args 1) h :=
 (by kernel_rfl : aG CF r n 191 args h = D191 r n c191 x0 r191 (aK args) h).trans ((congrFun (congrFun (dXz r n) (aK args)) h).trans (by kernel_rfl))
noncomputable def s192 (r : RT) (n : Nat) (x0 x1 : DV) (h0 : Hp) : aH :=
 bnd (aJ 3 x0 x1 h0) fun v1 h1 =>
 bnd (aB 0 v1 h1) fun v2 h2 =>
 bnd (aA v2 h2) fun v3 h3 =>
 bnd (aE .neq v3 (aF 18) h3) fun v4 h4 =>
 bnd (gD v4 false (some (x1, h4)) h4) fun v5 h5 =>
 bnd (gD v4 false (aE .add v5 (aF 1) h5) h5) fun v6 h6 =>
 bnd (gD v4 false (some (x0, h6)) h6) fun v7 h7 =>
 bnd (gD v4 false (bT v7 h7) h7) fun v8 h8 =>
 bnd (gD v4 false (aE .geq v6 v8 h8) h8) fun v9 h9 =>
 bnd (aP v4 (.b true) v9 h9) fun v10 h10 =>
 bnd (gD v10 false (some (x0, h10)) h10) fun v11 h11 =>
 bnd (gD v10 false (some (x1, h11)) h11) fun v12 h12 =>
 bnd (gD v10 false (aE .add v12 (aF 1) h12) h12) fun v13 h13 =>
 bnd (gD v10 false (aJ 3 v11 v13 h13) h13) fun v14 h14 =>
 bnd (gD v10 false (aB 0 v14 h14) h14) fun v15 h15 =>
 bnd (gD v10 false (aA v15 h15) h15) fun v16 h16 =>
 bnd (gD v10 false (aE .neq v16 (aF 16) h16) h16) fun v17 h17 =>
 bnd (aP v10 (.b true) v17 h17) fun v18 h18 =>
 aT v18 (
 some (.t [(aF 0), (.b false)], h18)) (
 bnd (aE .add x1 (aF 1) h18) fun v19 h19 =>
 bnd (aJ 3 x0 v19 h19) fun v20 h20 =>
 bnd (aI 3 v20 h20) fun v21 h21 =>
 bnd (r 193 [v21] h21) fun v22 h22 =>
 bnd (aE .add x1 (aF 2) h22) fun v23 h23 =>
 bnd (aE .gtr v22 v23 h23) fun v24 h24 =>
 some (.t [v22, v24], h24))
noncomputable abbrev c192 : Code := cf Tryz.f192
noncomputable abbrev r192 : K := aQ CF Tryz.f192
noncomputable def D192 (r : RT) (n : Nat) (c : Code) (X : Nat → K) (k : K) : K := aM CF r 40 n c X r192 k
theorem dTj : D192 r n c192 x0 r192 = (K2 (s192 r n) 0 1) :=
 (by kernel_rfl)
theorem dLr : aG CF r n 192 args h = s192 r n (aR args 0) (aR args 1) h :=
 (by kernel_rfl : aG CF r n 192 args h = D192 r n c192 x0 r192 (aK args) h).trans ((congrFun (congrFun (dTj r n) (aK args)) h).trans (by kernel_rfl))
end Go.Dd

namespace Go.Dd
open Go.Proofs
variable (r : RT) (n : Nat) (args : List DV) (h : Hp)
noncomputable def s193 (r : RT) (n : Nat) (x0 : DV) (h0 : Hp) : aH :=
 bnd (bN x0 h0) fun v1 h1 =>
 bnd (aB 0 v1 h1) fun v2 h2 =>
 bnd (aA v2 h2) fun v3 h3 =>
 bnd (r 227 [v3] h3) fun v4 h4 =>
 bnd (fV .not v4 h4) fun v5 h5 =>
 aT v5 (
 some ((.i .i64 (Int.negSucc 0)), h5)) (
 bnd (aB 1 v1 h5) fun v6 h6 =>
 bnd (aA v6 h6) fun v7 h7 =>
 bnd (aB 2 v1 h7) fun v8 h8 =>
 bnd (aA v8 h8) fun v9 h9 =>
 bnd (dE .shl v9 (.i .u64 (Int.ofNat 8)) h9) fun v10 h10 =>
 bnd (aE .add v7 v10 h10) fun v11 h11 =>
 some (v11, h11))
noncomputable abbrev c193 : Code := cf Tryz.f193
noncomputable abbrev r193 : K := aQ CF Tryz.f193
noncomputable def D193 (r : RT) (n : Nat) (c : Code) (X : Nat → K) (k : K) : K := aM CF r 13 n c X r193 k
theorem dUi : D193 r n c193 x0 r193 = (K1 (s193 r n) 0) :=
 (by kernel_rfl)
theorem dHt : aG CF r n 193 args h = s193 r n (aR args 0) h :=
 (by kernel_rfl : aG CF r n 193 args h = D193 r n c193 x0 r193 (aK args) h).trans ((congrFun (congrFun (dUi r n) (aK args)) h).trans (by kernel_rfl))
noncomputable def s194 (r : RT) (n : Nat) (x0 x1 x2 x3 x4 x5 x6 x7 : DV) (h0 : Hp) : aH :=
 bnd (aA x3 h0) fun v1 h1 =>
 bnd (bT v1 h1) fun v2 h2 =>
 bnd (aE .geq x0 v2 h2) fun v3 h3 =>
 bnd (gD v3 false (aA x4 h3) h3) fun v4 h4 =>
 bnd (gD v3 false (some (x0, h4)) h4) fun v5 h5 =>
 bnd (gD v3 false (aJ 1 v4 v5 h5) h5) fun v6 h6 =>
 bnd (gD v3 false (aA v6 h6) h6) fun v7 h7 =>
 bnd (gD v3 false (some (x1, h7)) h7) fun v8 h8 =>
 bnd (gD v3 false (aE .neq v7 v8 h8) h8) fun v9 h9 =>
 bnd (aP v3 (.b true) v9 h9) fun v10 h10 =>
 bnd (gD v10 false (aA x5 h10) h10) fun v11 h11 =>
 bnd (gD v10 false (some (x0, h11)) h11) fun v12 h12 =>
 bnd (gD v10 false (aJ 1 v11 v12 h12) h12) fun v13 h13 =>
 bnd (gD v10 false (aA v13 h13) h13) fun v14 h14 =>
 bnd (gD v10 false (aE .geq v14 (aF 0) h14) h14) fun v15 h15 =>
 bnd (gD v10 false (some (v15, h15)) h15) fun v16 h16 =>
 bnd (gD v16 true (aA x5 h16) h16) fun v17 h17 =>
 bnd (gD v16 true (some (x0, h17)) h17) fun v18 h18 =>
 bnd (gD v16 true (aJ 1 v17 v18 h18) h18) fun v19 h19 =>
 bnd (gD v16 true (aA v19 h19) h19) fun v20 h20 =>
 bnd (gD v16 true (some (x2, h20)) h20) fun v21 h21 =>
 bnd (gD v16 true (aE .neq v20 v21 h21) h21) fun v22 h22 =>
 bnd (gD v10 false (aP v16 v22 (.b false) h22) h22) fun v23 h23 =>
 bnd (aP v10 (.b true) v23 h23) fun v24 h24 =>
 aT v24 (
 bnd (aC 1 x6 (.b false) h24) fun _ h25 =>
 some (.t [], h25)) (
 bnd (aA x5 h24) fun v26 h26 =>
 bnd (aJ 1 v26 x0 h26) fun v27 h27 =>
 bnd (aA v27 h27) fun v28 h28 =>
 bnd (aE .lss v28 (aF 0) h28) fun v29 h29 =>
 aT v29 (
 bnd (aA x5 h29) fun v30 h30 =>
 bnd (aJ 1 v30 x0 h30) fun v31 h31 =>
 bnd (aC 1 v31 x2 h31) fun _ h32 =>
 bnd (aA x7 h32) fun v33 h33 =>
 bnd (aN [(aF 0)] 1 [(0, 1, x0)] h33) fun v34 h34 =>
 bnd (aW 1 8 v33 v34 h34) fun v35 h35 =>
 bnd (aC 1 x7 v35 h35) fun _ h36 =>
 some (.t [], h36)) (
 some (.t [], h29)))
noncomputable abbrev c194 : Code := cf Tryz.f194
noncomputable abbrev r194 : K := aQ CF Tryz.f194
noncomputable def D194 (r : RT) (n : Nat) (c : Code) (X : Nat → K) (k : K) : K := aM CF r 53 n c X r194 k
theorem dVv : D194 r n c194 x0 r194 = (K8 (s194 r n) 0 1 2 3 4 5 6 7) :=
 (by kernel_rfl)
theorem dGe : aG CF r n 194 args h = s194 r n (aR args 0) (aR args 1) (aR args 2) (aR args 3) (aR args 4) (aR args 5) (aR args 6) (aR args 7) h :=
 (by kernel_rfl : aG CF r n 194 args h = D194 r n c194 x0 r194 (aK args) h).trans ((congrFun (congrFun (dVv r n) (aK args)) h).trans (by kernel_rfl))
noncomputable def bY (r : RT) (n : Nat) (h0 : Hp) : aH :=
 some ((aF 0), h0)
noncomputable def aFj (r : RT) (n : Nat) (x1 x22 : DV) (h0 : Hp) : aH :=
 aT x22 (
 bnd (aB 2 x1 h0) fun v1 h1 =>
 bnd (aA v1 h1) fun v2 h2 =>
 bnd (fV .neg v2 h2) fun v3 h3 =>
 some (v3, h3)) (
  bY r n h0)
noncomputable def cEg (r : RT) (n : Nat) (x1 x4 : DV) (h0 : Hp) : aH :=
 bnd (aE .eql x4 (aF 14) h0) fun v1 h1 =>
 aT v1 (
  aFj r n x1 v1 h1) (
 bnd (aE .eql x4 (aF 15) h1) fun v2 h2 =>
  aFj r n x1 v2 h2)
noncomputable def sD (r : RT) (n : Nat) (x1 x4 x17 : DV) (h0 : Hp) : aH :=
 aT x17 (
 some ((.i .i64 (Int.negSucc 0)), h0)) (
  cEg r n x1 x4 h0)
noncomputable def bVq (r : RT) (n : Nat) (x1 x4 : DV) (h0 : Hp) : aH :=
 bnd (aE .eql x4 (aF 12) h0) fun v1 h1 =>
 aT v1 (
  sD r n x1 x4 v1 h1) (
 bnd (aE .eql x4 (aF 17) h1) fun v2 h2 =>
 aT v2 (
   sD r n x1 x4 v2 h2) (
 bnd (aE .eql x4 (aF 19) h2) fun v3 h3 =>
 aT v3 (
    sD r n x1 x4 v3 h3) (
 bnd (aE .eql x4 (aF 20) h3) fun v4 h4 =>
    sD r n x1 x4 v4 h4)))
noncomputable def iL (r : RT) (n : Nat) (x1 x4 x5 : DV) (h0 : Hp) : aH :=
 aT x5 (
 some ((aF 1), h0)) (
  bVq r n x1 x4 h0)
noncomputable def bAl (r : RT) (n : Nat) (x1 x4 : DV) (h0 : Hp) : aH :=
 bnd (aE .eql x4 (aF 1) h0) fun v1 h1 =>
 aT v1 (
  iL r n x1 x4 v1 h1) (
 bnd (aE .eql x4 (aF 2) h1) fun v2 h2 =>
 aT v2 (
   iL r n x1 x4 v2 h2) (
 bnd (aE .eql x4 (aF 3) h2) fun v3 h3 =>
 aT v3 (
    iL r n x1 x4 v3 h3) (
 bnd (aE .eql x4 (aF 4) h3) fun v4 h4 =>
 aT v4 (
     iL r n x1 x4 v4 h4) (
 bnd (aE .eql x4 (aF 5) h4) fun v5 h5 =>
 aT v5 (
      iL r n x1 x4 v5 h5) (
 bnd (aE .eql x4 (aF 6) h5) fun v6 h6 =>
 aT v6 (
       iL r n x1 x4 v6 h6) (
 bnd (aE .eql x4 (aF 7) h6) fun v7 h7 =>
 aT v7 (
        iL r n x1 x4 v7 h7) (
 bnd (aE .eql x4 (aF 8) h7) fun v8 h8 =>
 aT v8 (
         iL r n x1 x4 v8 h8) (
 bnd (aE .eql x4 (aF 9) h8) fun v9 h9 =>
 aT v9 (
          iL r n x1 x4 v9 h9) (
 bnd (aE .eql x4 (aF 13) h9) fun v10 h10 =>
 aT v10 (
           iL r n x1 x4 v10 h10) (
 bnd (aE .eql x4 (aF 18) h10) fun v11 h11 =>
           iL r n x1 x4 v11 h11))))))))))
noncomputable def zB (r : RT) (n : Nat) (x1 : DV) (h0 : Hp) : aH :=
 bnd (aB 0 x1 h0) fun v1 h1 =>
 bnd (aA v1 h1) fun v2 h2 =>
  bAl r n x1 v2 h2
noncomputable def s195 (r : RT) (n : Nat) (x0 : DV) (h0 : Hp) : aH :=
 bnd (bN x0 h0) fun v1 h1 =>
  zB r n v1 h1
noncomputable abbrev c195 : Code := cf Tryz.f195
noncomputable abbrev aMy : Code := cR c195
noncomputable abbrev dFn : Code := cR aMy
noncomputable abbrev zI : Code := cL aMy
noncomputable abbrev aYq : Code := cR zI
noncomputable abbrev aPf : Code := cL aYq
noncomputable abbrev xY : Code := cR aPf
noncomputable abbrev aAw : Code := cR xY
noncomputable abbrev xA : Code := cR aAw
noncomputable abbrev yI : Code := cR xA
noncomputable abbrev cMx : Code := cR yI
noncomputable abbrev bIn : Code := cL yI
noncomputable abbrev cPo : Code := cL xA
noncomputable abbrev bCh : Code := cL aAw
noncomputable abbrev cVr : Code := cL xY
noncomputable abbrev bJb : Code := cL aPf
noncomputable abbrev bGs : Code := cL zI
noncomputable abbrev aKt : Code := cL c195
noncomputable abbrev r195 : K := aQ CF Tryz.f195
noncomputable def D195 (r : RT) (n : Nat) (c : Code) (X : Nat → K) (k : K) : K := aM CF r 28 n c X r195 k
theorem cVb : D195 r n dFn x0 r195 = (K0 (bY r n)) :=
 (by kernel_rfl)
theorem cWd : D195 r n cMx (xs x0 0 (K0 (bY r n))) (K0 (bY r n)) = (K2 (aFj r n) 1 22) :=
 (by kernel_rfl)
theorem bTv : D195 r n yI (xs x0 0 (K0 (bY r n))) (K0 (bY r n)) = D195 r n bIn (xs x0 0 (K0 (bY r n))) (K2 (aFj r n) 1 22) :=
 congrArg (fun k => D195 r n bIn (xs x0 0 (K0 (bY r n))) k) (cWd r n)
theorem cMf : D195 r n yI (xs x0 0 (K0 (bY r n))) (K0 (bY r n)) = (K2 (cEg r n) 1 4) :=
 (bTv r n).trans
 ((by kernel_rfl))
theorem cVw : D195 r n xA (xs x0 0 (K0 (bY r n))) (K0 (bY r n)) = (K3 (sD r n) 1 4 17) :=
 (by kernel_rfl : D195 r n xA (xs x0 0 (K0 (bY r n))) (K0 (bY r n)) = (fun (env : aO) (h : Hp) => aT (opr env (cC xA)) (D195 r n cPo (xs x0 0 (K0 (bY r n))) (K0 (bY r n)) env h) (D195 r n yI (xs x0 0 (K0 (bY r n))) (K0 (bY r n)) env h))).trans (by rw [cMf r n]; kernel_rfl)
theorem bRn : D195 r n aAw (xs x0 0 (K0 (bY r n))) (K0 (bY r n)) = D195 r n bCh (xs x0 0 (K0 (bY r n))) (K3 (sD r n) 1 4 17) :=
 congrArg (fun k => D195 r n bCh (xs x0 0 (K0 (bY r n))) k) (cVw r n)
theorem cUv : D195 r n aAw (xs x0 0 (K0 (bY r n))) (K0 (bY r n)) = (K2 (bVq r n) 1 4) :=
 (bRn r n).trans
 ((by kernel_rfl))
theorem dBk : D195 r n xY (xs x0 0 (K0 (bY r n))) (K0 (bY r n)) = (K3 (iL r n) 1 4 5) :=
 (by kernel_rfl : D195 r n xY (xs x0 0 (K0 (bY r n))) (K0 (bY r n)) = (fun (env : aO) (h : Hp) => aT (opr env (cC xY)) (D195 r n cVr (xs x0 0 (K0 (bY r n))) (K0 (bY r n)) env h) (D195 r n aAw (xs x0 0 (K0 (bY r n))) (K0 (bY r n)) env h))).trans (by rw [cUv r n]; kernel_rfl)
theorem bZi : D195 r n aPf (xs x0 0 (K0 (bY r n))) (K0 (bY r n)) = D195 r n bJb (xs x0 0 (K0 (bY r n))) (K3 (iL r n) 1 4 5) :=
 congrArg (fun k => D195 r n bJb (xs x0 0 (K0 (bY r n))) k) (dBk r n)
theorem cTw : D195 r n aYq x0 (K0 (bY r n)) = (K2 (bAl r n) 1 4) :=
 (by kernel_rfl : D195 r n aYq x0 (K0 (bY r n)) = D195 r n aPf (xs x0 0 (K0 (bY r n))) (K0 (bY r n))).trans
 ((bZi r n).trans
 ((by kernel_rfl)))
theorem cAe : D195 r n aMy x0 r195 = D195 r n zI x0 (K0 (bY r n)) :=
 congrArg (fun k => D195 r n zI x0 k) (cVb r n)
theorem cEs : D195 r n zI x0 (K0 (bY r n)) = D195 r n bGs x0 (K2 (bAl r n) 1 4) :=
 congrArg (fun k => D195 r n bGs x0 k) (cTw r n)
theorem dCt : D195 r n aMy x0 r195 = (K1 (zB r n) 1) :=
 (cAe r n).trans
 ((cEs r n).trans
 ((by kernel_rfl)))
theorem dOi : D195 r n c195 x0 r195 = D195 r n aKt x0 (K1 (zB r n) 1) :=
 congrArg (fun k => D195 r n aKt x0 k) (dCt r n)
theorem dJq (q0 : TT1) : D195 r n aKt x0 (K1 q0 1) = fun (env : aO) (h : Hp) =>
 bnd (bN (env 0) h) fun v1 h1 =>
  q0 v1 h1 := by kernel_rfl
theorem cPg : (fun (env : aO) (h : Hp) =>
 bnd (bN (env 0) h) fun v1 h1 =>
  zB r n v1 h1) = (K1 (s195 r n) 0) := by kernel_rfl
theorem dSx : D195 r n c195 x0 r195 = (K1 (s195 r n) 0) :=
 (dOi r n).trans
 ((dJq r n (zB r n)).trans (cPg r n))
theorem dNd : aG CF r n 195 args h = s195 r n (aR args 0) h :=
 (by kernel_rfl : aG CF r n 195 args h = D195 r n c195 x0 r195 (aK args) h).trans ((congrFun (congrFun (dSx r n) (aK args)) h).trans (by kernel_rfl))
noncomputable def cU (r : RT) (n : Nat) (h0 : Hp) : aH :=
 some ((aF 0), h0)
noncomputable def aKf (r : RT) (n : Nat) (x1 x13 : DV) (h0 : Hp) : aH :=
 aT x13 (
 bnd (aB 2 x1 h0) fun v1 h1 =>
 bnd (aA v1 h1) fun v2 h2 =>
 bnd (aE .add v2 (aF 1) h2) fun v3 h3 =>
 some (v3, h3)) (
  cU r n h0)
noncomputable def bRw (r : RT) (n : Nat) (x1 x4 : DV) (h0 : Hp) : aH :=
 bnd (aE .eql x4 (aF 14) h0) fun v1 h1 =>
 aT v1 (
  aKf r n x1 v1 h1) (
 bnd (aE .eql x4 (aF 15) h1) fun v2 h2 =>
  aKf r n x1 v2 h2)
noncomputable def lD (r : RT) (n : Nat) (x1 x4 x5 : DV) (h0 : Hp) : aH :=
 aT x5 (
 some ((aF 1), h0)) (
  bRw r n x1 x4 h0)
noncomputable def aTz (r : RT) (n : Nat) (x1 x4 : DV) (h0 : Hp) : aH :=
 bnd (aE .eql x4 (aF 12) h0) fun v1 h1 =>
 aT v1 (
  lD r n x1 x4 v1 h1) (
 bnd (aE .eql x4 (aF 13) h1) fun v2 h2 =>
 aT v2 (
   lD r n x1 x4 v2 h2) (
 bnd (aE .eql x4 (aF 10) h2) fun v3 h3 =>
 aT v3 (
    lD r n x1 x4 v3 h3) (
 bnd (aE .eql x4 (aF 11) h3) fun v4 h4 =>
 aT v4 (
     lD r n x1 x4 v4 h4) (
 bnd (aE .eql x4 (aF 17) h4) fun v5 h5 =>
 aT v5 (
      lD r n x1 x4 v5 h5) (
 bnd (aE .eql x4 (aF 20) h5) fun v6 h6 =>
 aT v6 (
       lD r n x1 x4 v6 h6) (
 bnd (aE .eql x4 (aF 19) h6) fun v7 h7 =>
       lD r n x1 x4 v7 h7))))))
noncomputable def xF (r : RT) (n : Nat) (x1 : DV) (h0 : Hp) : aH :=
 bnd (aB 0 x1 h0) fun v1 h1 =>
 bnd (aA v1 h1) fun v2 h2 =>
  aTz r n x1 v2 h2
noncomputable def s196 (r : RT) (n : Nat) (x0 : DV) (h0 : Hp) : aH :=
 bnd (bN x0 h0) fun v1 h1 =>
  xF r n v1 h1
noncomputable abbrev c196 : Code := cf Tryz.f196
noncomputable abbrev aEb : Code := cR c196
noncomputable abbrev dIw : Code := cR aEb
noncomputable abbrev aAr : Code := cL aEb
noncomputable abbrev aRv : Code := cR aAr
noncomputable abbrev aGc : Code := cL aRv
noncomputable abbrev xZ : Code := cR aGc
noncomputable abbrev xQ : Code := cR xZ
noncomputable abbrev dJi : Code := cR xQ
noncomputable abbrev bQh : Code := cL xQ
noncomputable abbrev cOe : Code := cL xZ
noncomputable abbrev bFu : Code := cL aGc
noncomputable abbrev bEp : Code := cL aAr
noncomputable abbrev aDr : Code := cL c196
noncomputable abbrev r196 : K := aQ CF Tryz.f196
noncomputable def D196 (r : RT) (n : Nat) (c : Code) (X : Nat → K) (k : K) : K := aM CF r 19 n c X r196 k
theorem cMw : D196 r n dIw x0 r196 = (K0 (cU r n)) :=
 (by kernel_rfl)
theorem cTj : D196 r n dJi (xs x0 0 (K0 (cU r n))) (K0 (cU r n)) = (K2 (aKf r n) 1 13) :=
 (by kernel_rfl)
theorem bZp : D196 r n xQ (xs x0 0 (K0 (cU r n))) (K0 (cU r n)) = D196 r n bQh (xs x0 0 (K0 (cU r n))) (K2 (aKf r n) 1 13) :=
 congrArg (fun k => D196 r n bQh (xs x0 0 (K0 (cU r n))) k) (cTj r n)
theorem cTp : D196 r n xQ (xs x0 0 (K0 (cU r n))) (K0 (cU r n)) = (K2 (bRw r n) 1 4) :=
 (bZp r n).trans
 ((by kernel_rfl))
theorem dCp : D196 r n xZ (xs x0 0 (K0 (cU r n))) (K0 (cU r n)) = (K3 (lD r n) 1 4 5) :=
 (by kernel_rfl : D196 r n xZ (xs x0 0 (K0 (cU r n))) (K0 (cU r n)) = (fun (env : aO) (h : Hp) => aT (opr env (cC xZ)) (D196 r n cOe (xs x0 0 (K0 (cU r n))) (K0 (cU r n)) env h) (D196 r n xQ (xs x0 0 (K0 (cU r n))) (K0 (cU r n)) env h))).trans (by rw [cTp r n]; kernel_rfl)
theorem cHv : D196 r n aGc (xs x0 0 (K0 (cU r n))) (K0 (cU r n)) = D196 r n bFu (xs x0 0 (K0 (cU r n))) (K3 (lD r n) 1 4 5) :=
 congrArg (fun k => D196 r n bFu (xs x0 0 (K0 (cU r n))) k) (dCp r n)
theorem cVt : D196 r n aRv x0 (K0 (cU r n)) = (K2 (aTz r n) 1 4) :=
 (by kernel_rfl : D196 r n aRv x0 (K0 (cU r n)) = D196 r n aGc (xs x0 0 (K0 (cU r n))) (K0 (cU r n))).trans
 ((cHv r n).trans
 ((by kernel_rfl)))
theorem bUf : D196 r n aEb x0 r196 = D196 r n aAr x0 (K0 (cU r n)) :=
 congrArg (fun k => D196 r n aAr x0 k) (cMw r n)
theorem bVf : D196 r n aAr x0 (K0 (cU r n)) = D196 r n bEp x0 (K2 (aTz r n) 1 4) :=
 congrArg (fun k => D196 r n bEp x0 k) (cVt r n)
theorem cSw : D196 r n aEb x0 r196 = (K1 (xF r n) 1) :=
 (bUf r n).trans
 ((bVf r n).trans
 ((by kernel_rfl)))
theorem dNn : D196 r n c196 x0 r196 = D196 r n aDr x0 (K1 (xF r n) 1) :=
 congrArg (fun k => D196 r n aDr x0 k) (cSw r n)
theorem dLp (q0 : TT1) : D196 r n aDr x0 (K1 q0 1) = fun (env : aO) (h : Hp) =>
 bnd (bN (env 0) h) fun v1 h1 =>
  q0 v1 h1 := by kernel_rfl
theorem cOd : (fun (env : aO) (h : Hp) =>
 bnd (bN (env 0) h) fun v1 h1 =>
  xF r n v1 h1) = (K1 (s196 r n) 0) := by kernel_rfl
theorem dRz : D196 r n c196 x0 r196 = (K1 (s196 r n) 0) :=
 (dNn r n).trans
 ((dLp r n (xF r n)).trans (cOd r n))
theorem dMa : aG CF r n 196 args h = s196 r n (aR args 0) h :=
 (by kernel_rfl : aG CF r n 196 args h = D196 r n c196 x0 r196 (aK args) h).trans ((congrFun (congrFun (dRz r n) (aK args)) h).trans (by kernel_rfl))
noncomputable def fQ (r : RT) (n : Nat) (x0 x7 : DV) (h0 : Hp) : aH :=
 bnd (aU x0 h0) fun v1 h1 =>
 bnd (aB 0 v1 h1) fun v2 h2 =>
 bnd (aA v2 h2) fun v3 h3 =>
 bnd (aU x0 h3) fun v4 h4 =>
 bnd (aB 1 v4 h4) fun v5 h5 =>
 bnd (aA v5 h5) fun v6 h6 =>
 bnd (jD v3 (some x7) (some v6) h6) fun v7 h7 =>
 some (v7, h7)
noncomputable def bEw (r : RT) (n : Nat) (kk4 : dI) (x0 x1 x2 x7 : DV) (h0 : Hp) : aH :=
 bnd (aU x0 h0) fun v1 h1 =>
 bnd (aB 1 v1 h1) fun v2 h2 =>
 bnd (aA v2 h2) fun v3 h3 =>
 bnd (aU x0 h3) fun v4 h4 =>
 bnd (aB 0 v4 h4) fun v5 h5 =>
 bnd (aA v5 h5) fun v6 h6 =>
 bnd (fS v6 h6) fun v7 h7 =>
 bnd (aE .lss v3 v7 h7) fun v8 h8 =>
 bnd (gD v8 true (some (x0, h8)) h8) fun v9 h9 =>
 bnd (gD v8 true (aU v9 h9) h9) fun v10 h10 =>
 bnd (gD v8 true (aB 1 v10 h10) h10) fun v11 h11 =>
 bnd (gD v8 true (aA v11 h11) h11) fun v12 h12 =>
 bnd (gD v8 true (some (x7, h12)) h12) fun v13 h13 =>
 bnd (gD v8 true (aE .sub v12 v13 h13) h13) fun v14 h14 =>
 bnd (gD v8 true (some (x2, h14)) h14) fun v15 h15 =>
 bnd (gD v8 true (aE .lss v14 v15 h15) h15) fun v16 h16 =>
 bnd (aP v8 v16 (.b false) h16) fun v17 h17 =>
 bnd (gD v17 true (some (x1, h17)) h17) fun v18 h18 =>
 bnd (gD v17 true (some (x0, h18)) h18) fun v19 h19 =>
 bnd (gD v17 true (aU v19 h19) h19) fun v20 h20 =>
 bnd (gD v17 true (aB 0 v20 h20) h20) fun v21 h21 =>
 bnd (gD v17 true (aA v21 h21) h21) fun v22 h22 =>
 bnd (gD v17 true (some (x0, h22)) h22) fun v23 h23 =>
 bnd (gD v17 true (aU v23 h23) h23) fun v24 h24 =>
 bnd (gD v17 true (aB 1 v24 h24) h24) fun v25 h25 =>
 bnd (gD v17 true (aA v25 h25) h25) fun v26 h26 =>
 bnd (gD v17 true (fF v22 v26 h26) h26) fun v27 h27 =>
 bnd (gD v17 true (dD CF r v18 [v27] h27) h27) fun v28 h28 =>
 bnd (aP v17 v28 (.b false) h28) fun v29 h29 =>
 aT v29 (
 bnd (aU x0 h29) fun v30 h30 =>
 bnd (aB 1 v30 h30) fun v31 h31 =>
 bnd (aA v31 h31) fun v32 h32 =>
 bnd (aE .add v32 (aF 1) h32) fun v33 h33 =>
 bnd (aU x0 h33) fun v34 h34 =>
 bnd (aB 1 v34 h34) fun v35 h35 =>
 bnd (aC 1 v35 v33 h35) fun _ h36 =>
      kk4 x0 x1 x2 x7 h36) (
      fQ r n x0 x7 h29)
noncomputable def uS (r : RT) (n : Nat) (m : Nat) : dI :=
 Nat.rec (motive := fun _ => dI) (fun _ _ _ _ _ => none) (fun _ ih => bEw r n ih) m
noncomputable def bYb (r : RT) (n : Nat) : dI := uS r n n
noncomputable def aZj (r : RT) (n : Nat) (x0 x1 x2 x7 : DV) (h0 : Hp) : aH :=
 bYb r n x0 x1 x2 x7 h0
noncomputable def aZy (r : RT) (n : Nat) (x0 x1 x2 : DV) (h0 : Hp) : aH :=
 bnd (aU x0 h0) fun v1 h1 =>
 bnd (aB 1 v1 h1) fun v2 h2 =>
 bnd (aA v2 h2) fun v3 h3 =>
  aZj r n x0 x1 x2 v3 h3
noncomputable def s197 (r : RT) (n : Nat) (x0 x1 x2 : DV) (h0 : Hp) : aH :=
 aZy r n x0 x1 x2 h0
noncomputable abbrev c197 : Code := cf Tryz.f197
noncomputable abbrev aMw : Code := cR c197
noncomputable abbrev aNx : Code := cR aMw
noncomputable abbrev dFt : Code := cR aNx
noncomputable abbrev aOx : Code := cL aNx
noncomputable abbrev aJb : Code := cL aOx
noncomputable abbrev oQ : Code := cL aJb
noncomputable abbrev cCf : Code := cL aMw
noncomputable abbrev cLa : Code := cL c197
noncomputable abbrev r197 : K := aQ CF Tryz.f197
noncomputable def D197 (r : RT) (n : Nat) (c : Code) (X : Nat → K) (k : K) : K := aM CF r 62 n c X r197 k
theorem cXo : D197 r n dFt x0 r197 = (K2 (fQ r n) 0 7) :=
 (by kernel_rfl)
theorem bRb (kk4 : dI) : D197 r n oQ (xs x0 0 (K2 (fQ r n) 0 7)) (K4 kk4 0 1 2 7) = (K4 (bEw r n kk4) 0 1 2 7) :=
 (by kernel_rfl)
theorem bZb (m : Nat) : aL (fun kk => D197 r n oQ (xs x0 0 (K2 (fQ r n) 0 7)) kk) m = (K4 (uS r n m) 0 1 2 7) := by
 induction m with
 | zero => exact (by kernel_rfl : aL (fun kk => D197 r n oQ (xs x0 0 (K2 (fQ r n) 0 7)) kk) 0 = (K4 (uS r n 0) 0 1 2 7))
 | succ m ih =>
  refine (by kernel_rfl : aL (fun kk => D197 r n oQ (xs x0 0 (K2 (fQ r n) 0 7)) kk) (m + 1) = D197 r n oQ (xs x0 0 (K2 (fQ r n) 0 7)) (aL (fun kk => D197 r n oQ (xs x0 0 (K2 (fQ r n) 0 7)) kk) m)).trans ?_
  rw [ih]
  exact (bRb r n (uS r n m)).trans (by kernel_rfl)
theorem cSl : D197 r n aJb (xs x0 0 (K2 (fQ r n) 0 7)) (K2 (fQ r n) 0 7) = (K4 (bYb r n) 0 1 2 7) :=
 (by kernel_rfl : D197 r n aJb (xs x0 0 (K2 (fQ r n) 0 7)) (K2 (fQ r n) 0 7) = aL (fun kk => D197 r n oQ (xs x0 0 (K2 (fQ r n) 0 7)) kk) n).trans ((bZb r n n).trans (by kernel_rfl))
theorem cEy : D197 r n aNx x0 r197 = D197 r n aOx x0 (K2 (fQ r n) 0 7) :=
 congrArg (fun k => D197 r n aOx x0 k) (cXo r n)
theorem dBl : D197 r n aNx x0 r197 = (K4 (aZj r n) 0 1 2 7) :=
 (cEy r n).trans
 ((by kernel_rfl : D197 r n aOx x0 (K2 (fQ r n) 0 7) = D197 r n aJb (xs x0 0 (K2 (fQ r n) 0 7)) (K2 (fQ r n) 0 7)).trans
 ((cSl r n).trans (by kernel_rfl)))
theorem bVp : D197 r n aMw x0 r197 = D197 r n cCf x0 (K4 (aZj r n) 0 1 2 7) :=
 congrArg (fun k => D197 r n cCf x0 k) (dBl r n)
theorem cUq : D197 r n aMw x0 r197 = (K3 (aZy r n) 0 1 2) :=
 (bVp r n).trans
 ((by kernel_rfl))
theorem dEz : D197 r n c197 x0 r197 = D197 r n cLa x0 (K3 (aZy r n) 0 1 2) :=
 congrArg (fun k => D197 r n cLa x0 k) (cUq r n)
theorem dWp : D197 r n c197 x0 r197 = (K3 (s197 r n) 0 1 2) :=
 (dEz r n).trans
 ((by kernel_rfl))
theorem dQb : aG CF r n 197 args h = s197 r n (aR args 0) (aR args 1) (aR args 2) h :=
 (by kernel_rfl : aG CF r n 197 args h = D197 r n c197 x0 r197 (aK args) h).trans ((congrFun (congrFun (dWp r n) (aK args)) h).trans (by kernel_rfl))
noncomputable def s198 (r : RT) (n : Nat) (x0 : DV) (h0 : Hp) : aH :=
 bnd (bN x0 h0) fun v1 h1 =>
 some ((.f 228 [] [v1]), h1)
noncomputable abbrev c198 : Code := cf Tryz.f198
noncomputable abbrev r198 : K := aQ CF Tryz.f198
noncomputable def D198 (r : RT) (n : Nat) (c : Code) (X : Nat → K) (k : K) : K := aM CF r 4 n c X r198 k
theorem dYl : D198 r n c198 x0 r198 = (K1 (s198 r n) 0) :=
 (by kernel_rfl)
theorem dMi : aG CF r n 198 args h = s198 r n (aR args 0) h :=
 (by kernel_rfl : aG CF r n 198 args h = D198 r n c198 x0 r198 (aK args) h).trans ((congrFun (congrFun (dYl r n) (aK args)) h).trans (by kernel_rfl))
noncomputable def s199 (r : RT) (n : Nat) (x0 x1 : DV) (h0 : Hp) : aH :=
 bnd (r 229 [x0, x1] h0) fun v1 h1 =>
 some (v1, h1)
noncomputable abbrev c199 : Code := cf Tryz.f199
noncomputable abbrev r199 : K := aQ CF Tryz.f199
noncomputable def D199 (r : RT) (n : Nat) (c : Code) (X : Nat → K) (k : K) : K := aM CF r 8 n c X r199 k
theorem dWh : D199 r n c199 x0 r199 = (K2 (s199 r n) 0 1) :=
 (by kernel_rfl)
theorem dEa : aG CF r n 199 args h = s199 r n (aR args 0) (aR args 1) h :=
 (by kernel_rfl : aG CF r n 199 args h = D199 r n c199 x0 r199 (aK args) h).trans ((congrFun (congrFun (dWh r n) (aK args)) h).trans (by kernel_rfl))
noncomputable def iM (r : RT) (n : Nat) (x2 x4 x5 : DV) (h0 : Hp) : aH :=
 bnd (aI 4 x4 h0) fun v1 h1 =>
 bnd (aC 4 x2 v1 h1) fun _ h2 =>
 bnd (aI 4 x2 h2) fun v3 _ =>
 some (.t [v3, x5], h2)
noncomputable def aTs (r : RT) (n : Nat) (x0 x2 x4 x5 x6 : DV) (h0 : Hp) : aH :=
 bnd (r 231 [x6] h0) fun v1 h1 =>
 aT v1 (
 bnd (aB 0 x4 h1) fun v2 h2 =>
 bnd (aC 1 v2 (aF 1) h2) fun _ h3 =>
 bnd (r 232 [x0] h3) fun v4 h4 =>
 bnd (aD 0 v4 h4) fun v5 h5 =>
 bnd (aD 1 v4 h5) fun v6 h6 =>
 bnd (aB 1 x4 h6) fun v7 h7 =>
 bnd (aC 1 v7 v5 h7) fun _ h8 =>
 bnd (aE .eql v6 (aF 0) h8) fun v9 h9 =>
 bnd (gD v9 true (some (x0, h9)) h9) fun v10 h10 =>
 bnd (gD v9 true (r 233 [v10] h10) h10) fun v11 h11 =>
 bnd (aP v9 v11 (.b false) h11) fun v12 h12 =>
 aT v12 (
 bnd (aB 1 x4 h12) fun v13 h13 =>
 bnd (aA v13 h13) fun v14 h14 =>
 bnd (dR .add v14 (.s [58]) h14) fun v15 h15 =>
 bnd (aB 0 x4 h15) fun v16 h16 =>
 bnd (aC 1 v16 (aF 2) h16) fun _ h17 =>
 bnd (aB 1 x4 h17) fun v18 h18 =>
 bnd (aC 1 v18 v15 h18) fun _ h19 =>
      iM r n x2 x4 v6 h19) (
      iM r n x2 x4 v6 h12)) (
 bnd (r 234 [x6] h1) fun v20 h20 =>
 aT v20 (
 bnd (aB 0 x4 h20) fun v21 h21 =>
 bnd (aC 1 v21 (aF 4) h21) fun _ h22 =>
 bnd (r 235 [x0] h22) fun v23 h23 =>
 bnd (aD 0 v23 h23) fun v24 h24 =>
 bnd (aD 1 v23 h24) fun v25 h25 =>
 bnd (aB 2 x4 h25) fun v26 h26 =>
 bnd (aC 1 v26 v24 h26) fun _ h27 =>
      iM r n x2 x4 v25 h27) (
 bnd (aE .eql x6 (.i .u8 (Int.ofNat 39)) h20) fun v28 h28 =>
 aT v28 (
 bnd (aU x0 h28) fun v29 h29 =>
 bnd (aB 1 v29 h29) fun v30 h30 =>
 bnd (aA v30 h30) fun v31 h31 =>
 bnd (aE .add v31 (aF 1) h31) fun v32 h32 =>
 bnd (aU x0 h32) fun v33 h33 =>
 bnd (aB 1 v33 h33) fun v34 h34 =>
 bnd (aC 1 v34 v32 h34) fun _ h35 =>
 bnd (aB 0 x4 h35) fun v36 h36 =>
 bnd (aC 1 v36 (aF 5) h36) fun _ h37 =>
 bnd (r 236 [x0] h37) fun v38 h38 =>
 bnd (aD 0 v38 h38) fun v39 h39 =>
 bnd (aD 1 v38 h39) fun v40 h40 =>
 bnd (aB 1 x4 h40) fun v41 h41 =>
 bnd (aC 1 v41 v39 h41) fun _ h42 =>
    iM r n x2 x4 v40 h42) (
 bnd (aE .eql x6 (.i .u8 (Int.ofNat 35)) h28) fun v43 h43 =>
 bnd (gD v43 true (some (x0, h43)) h43) fun v44 h44 =>
 bnd (gD v43 true (r 230 [v44, (aF 1)] h44) h44) fun v45 h45 =>
 bnd (gD v43 true (aE .eql v45 (.i .u8 (Int.ofNat 40)) h45) h45) fun v46 h46 =>
 bnd (aP v43 v46 (.b false) h46) fun v47 h47 =>
 aT v47 (
 bnd (aU x0 h47) fun v48 h48 =>
 bnd (aB 1 v48 h48) fun v49 h49 =>
 bnd (aA v49 h49) fun v50 h50 =>
 bnd (aE .add v50 (aF 2) h50) fun v51 h51 =>
 bnd (aU x0 h51) fun v52 h52 =>
 bnd (aB 1 v52 h52) fun v53 h53 =>
 bnd (aC 1 v53 v51 h53) fun _ h54 =>
 bnd (aB 0 x4 h54) fun v55 h55 =>
 bnd (aC 1 v55 (aF 7) h55) fun _ h56 =>
     iM r n x2 x4 x5 h56) (
 bnd (aE .eql x6 (.i .u8 (Int.ofNat 35)) h47) fun v57 h57 =>
 aT v57 (
 bnd (aU x0 h57) fun v58 h58 =>
 bnd (aB 1 v58 h58) fun v59 h59 =>
 bnd (aA v59 h59) fun v60 h60 =>
 bnd (aE .add v60 (aF 1) h60) fun v61 h61 =>
 bnd (aU x0 h61) fun v62 h62 =>
 bnd (aB 1 v62 h62) fun v63 h63 =>
 bnd (aC 1 v63 v61 h63) fun _ h64 =>
 bnd (aB 0 x4 h64) fun v65 h65 =>
 bnd (aC 1 v65 (aF 6) h65) fun _ h66 =>
 bnd (r 237 [x0] h66) fun v67 h67 =>
 bnd (aD 0 v67 h67) fun v68 h68 =>
 bnd (aD 1 v67 h68) fun v69 h69 =>
 bnd (aB 1 x4 h69) fun v70 h70 =>
 bnd (aC 1 v70 v68 h70) fun _ h71 =>
      iM r n x2 x4 v69 h71) (
 bnd (aE .eql x6 (.i .u8 (Int.ofNat 58)) h57) fun v72 h72 =>
 bnd (gD v72 true (some (x0, h72)) h72) fun v73 h73 =>
 bnd (gD v72 true (r 230 [v73, (aF 1)] h73) h73) fun v74 h74 =>
 bnd (gD v72 true (aE .eql v74 (.i .u8 (Int.ofNat 61)) h74) h74) fun v75 h75 =>
 bnd (aP v72 v75 (.b false) h75) fun v76 h76 =>
 aT v76 (
 bnd (aU x0 h76) fun v77 h77 =>
 bnd (aB 1 v77 h77) fun v78 h78 =>
 bnd (aA v78 h78) fun v79 h79 =>
 bnd (aE .add v79 (aF 2) h79) fun v80 h80 =>
 bnd (aU x0 h80) fun v81 h81 =>
 bnd (aB 1 v81 h81) fun v82 h82 =>
 bnd (aC 1 v82 v80 h82) fun _ h83 =>
 bnd (aB 0 x4 h83) fun v84 h84 =>
 bnd (aC 1 v84 (aF 9) h84) fun _ h85 =>
       iM r n x2 x4 x5 h85) (
 bnd (aE .eql x6 (.i .u8 (Int.ofNat 58)) h76) fun v86 h86 =>
 bnd (gD v86 true (some (x0, h86)) h86) fun v87 h87 =>
 bnd (gD v86 true (r 230 [v87, (aF 1)] h87) h87) fun v88 h88 =>
 bnd (gD v86 true (r 231 [v88] h88) h88) fun v89 h89 =>
 bnd (aP v86 v89 (.b false) h89) fun v90 h90 =>
 aT v90 (
 bnd (aU x0 h90) fun v91 h91 =>
 bnd (aB 1 v91 h91) fun v92 h92 =>
 bnd (aA v92 h92) fun v93 h93 =>
 bnd (aE .add v93 (aF 1) h93) fun v94 h94 =>
 bnd (aU x0 h94) fun v95 h95 =>
 bnd (aB 1 v95 h95) fun v96 h96 =>
 bnd (aC 1 v96 v94 h96) fun _ h97 =>
 bnd (aB 0 x4 h97) fun v98 h98 =>
 bnd (aC 1 v98 (aF 8) h98) fun _ h99 =>
 bnd (r 232 [x0] h99) fun v100 h100 =>
 bnd (aD 0 v100 h100) fun v101 h101 =>
 bnd (aD 1 v100 h101) fun v102 h102 =>
 bnd (aB 1 x4 h102) fun v103 h103 =>
 bnd (aC 1 v103 v101 h103) fun _ h104 =>
        iM r n x2 x4 v102 h104) (
 bnd (r 198 [(.s [43, 45, 42, 47, 60, 62, 61, 126, 44, 64, 38, 37])] h90) fun v105 h105 =>
 bnd (dD CF r v105 [x6] h105) fun v106 h106 =>
 aT v106 (
 bnd (r 198 [(.s [43, 45, 42, 47, 60, 62, 61, 126, 44, 64, 38, 37])] h106) fun v107 h107 =>
 bnd (r 197 [x0, v107, (aF 2)] h107) fun v108 h108 =>
 bnd (aB 0 x4 h108) fun v109 h109 =>
 bnd (aC 1 v109 (aF 3) h109) fun _ h110 =>
 bnd (aB 1 x4 h110) fun v111 h111 =>
 bnd (aC 1 v111 v108 h111) fun _ h112 =>
         iM r n x2 x4 x5 h112) (
 bnd (r 198 [(.s [94, 46, 59, 40, 41, 91, 93, 124])] h106) fun v113 h113 =>
 bnd (dD CF r v113 [x6] h113) fun v114 h114 =>
 aT v114 (
 bnd (r 198 [(.s [94, 46, 59, 40, 41, 91, 93, 124])] h114) fun v115 h115 =>
 bnd (r 197 [x0, v115, (aF 1)] h115) fun v116 h116 =>
 bnd (aB 0 x4 h116) fun v117 h117 =>
 bnd (aC 1 v117 (aF 10) h117) fun _ h118 =>
 bnd (aB 1 x4 h118) fun v119 h119 =>
 bnd (aC 1 v119 v116 h119) fun _ h120 =>
          iM r n x2 x4 x5 h120) (
          iM r n x2 x4 (aF 10) h114)))))))))
noncomputable def aSm (r : RT) (n : Nat) (x0 x2 x4 x5 : DV) (h0 : Hp) : aH :=
 bnd (r 230 [x0, (aF 0)] h0) fun v1 h1 =>
  aTs r n x0 x2 x4 x5 v1 h1
noncomputable def aAl (r : RT) (n : Nat) (x0 x2 x4 : DV) (h0 : Hp) : aH :=
 aSm r n x0 x2 x4 (aF 0) h0
noncomputable def rQ (r : RT) (n : Nat) (x0 x2 : DV) (h0 : Hp) : aH :=
 bnd (aU x0 h0) fun v1 h1 =>
 bnd (aB 1 v1 h1) fun v2 h2 =>
 bnd (aA v2 h2) fun v3 h3 =>
 bnd (bA [(aF 0), (.s []), (aF 0), (aF 0)] [(3, 1, v3)] h3) fun v4 h4 =>
 bnd (bD [(aF 0), (.s []), (aF 0), (aF 0)] h4) fun v5 h5 =>
 bnd (aC 4 v5 v4 h5) fun _ h6 =>
  aAl r n x0 x2 v5 h6
noncomputable def s200 (r : RT) (n : Nat) (x0 : DV) (h0 : Hp) : aH :=
 bnd (bD [(aF 0), (.s []), (aF 0), (aF 0)] h0) fun v1 h1 =>
  rQ r n x0 v1 h1
noncomputable abbrev c200 : Code := cf Tryz.f200
noncomputable abbrev aEs : Code := cR c200
noncomputable abbrev aDf : Code := cR aEs
noncomputable abbrev aIc : Code := cR aDf
noncomputable abbrev aHq : Code := cR aIc
noncomputable abbrev dKn : Code := cR aHq
noncomputable abbrev cGu : Code := cL aHq
noncomputable abbrev bSu : Code := cL aIc
noncomputable abbrev cCt : Code := cL aDf
noncomputable abbrev aUx : Code := cL aEs
noncomputable abbrev aIt : Code := cL c200
noncomputable abbrev r200 : K := aQ CF Tryz.f200
noncomputable def D200 (r : RT) (n : Nat) (c : Code) (X : Nat → K) (k : K) : K := aM CF r 153 n c X r200 k
theorem cUa : D200 r n dKn x0 r200 = (K3 (iM r n) 2 4 5) :=
 (by kernel_rfl)
theorem bUk : D200 r n aHq x0 r200 = D200 r n cGu x0 (K3 (iM r n) 2 4 5) :=
 congrArg (fun k => D200 r n cGu x0 k) (cUa r n)
theorem cXf : D200 r n aHq x0 r200 = (K5 (aTs r n) 0 2 4 5 6) :=
 (bUk r n).trans
 ((by kernel_rfl))
theorem cCv : D200 r n aIc x0 r200 = D200 r n bSu x0 (K5 (aTs r n) 0 2 4 5 6) :=
 congrArg (fun k => D200 r n bSu x0 k) (cXf r n)
theorem cZr : D200 r n aIc x0 r200 = (K4 (aSm r n) 0 2 4 5) :=
 (cCv r n).trans
 ((by kernel_rfl))
theorem cLd : D200 r n aDf x0 r200 = D200 r n cCt x0 (K4 (aSm r n) 0 2 4 5) :=
 congrArg (fun k => D200 r n cCt x0 k) (cZr r n)
theorem cZy : D200 r n aDf x0 r200 = (K3 (aAl r n) 0 2 4) :=
 (cLd r n).trans
 ((by kernel_rfl))
theorem bPo : D200 r n aEs x0 r200 = D200 r n aUx x0 (K3 (aAl r n) 0 2 4) :=
 congrArg (fun k => D200 r n aUx x0 k) (cZy r n)
theorem cKy (q0 : eO) : D200 r n aUx x0 (K3 q0 0 2 4) = fun (env : aO) (h : Hp) =>
 bnd (aU (env 0) h) fun v1 h1 =>
 bnd (aB 1 v1 h1) fun v2 h2 =>
 bnd (aA v2 h2) fun v3 h3 =>
 bnd (bA [(aF 0), (.s []), (aF 0), (aF 0)] [(3, 1, v3)] h3) fun v4 h4 =>
 bnd (bD [(aF 0), (.s []), (aF 0), (aF 0)] h4) fun v5 h5 =>
 bnd (aC 4 v5 v4 h5) fun _ h6 =>
  q0 (env 0) (env 2) v5 h6 := by kernel_rfl
theorem bNd : (fun (env : aO) (h : Hp) =>
 bnd (aU (env 0) h) fun v1 h1 =>
 bnd (aB 1 v1 h1) fun v2 h2 =>
 bnd (aA v2 h2) fun v3 h3 =>
 bnd (bA [(aF 0), (.s []), (aF 0), (aF 0)] [(3, 1, v3)] h3) fun v4 h4 =>
 bnd (bD [(aF 0), (.s []), (aF 0), (aF 0)] h4) fun v5 h5 =>
 bnd (aC 4 v5 v4 h5) fun _ h6 =>
  aAl r n (env 0) (env 2) v5 h6) = (K2 (rQ r n) 0 2) := by kernel_rfl
theorem dBh : D200 r n aEs x0 r200 = (K2 (rQ r n) 0 2) :=
 (bPo r n).trans
 ((cKy r n (aAl r n)).trans (bNd r n))
theorem dMj : D200 r n c200 x0 r200 = D200 r n aIt x0 (K2 (rQ r n) 0 2) :=
 congrArg (fun k => D200 r n aIt x0 k) (dBh r n)
theorem dFm (q0 : eM) : D200 r n aIt x0 (K2 q0 0 2) = fun (env : aO) (h : Hp) =>
 bnd (bD [(aF 0), (.s []), (aF 0), (aF 0)] h) fun v1 h1 =>
  q0 (env 0) v1 h1 := by kernel_rfl
theorem cNt : (fun (env : aO) (h : Hp) =>
 bnd (bD [(aF 0), (.s []), (aF 0), (aF 0)] h) fun v1 h1 =>
  rQ r n (env 0) v1 h1) = (K1 (s200 r n) 0) := by kernel_rfl
theorem dXc : D200 r n c200 x0 r200 = (K1 (s200 r n) 0) :=
 (dMj r n).trans
 ((dFm r n (rQ r n)).trans (cNt r n))
theorem dEd : aG CF r n 200 args h = s200 r n (aR args 0) h :=
 (by kernel_rfl : aG CF r n 200 args h = D200 r n c200 x0 r200 (aK args) h).trans ((congrFun (congrFun (dXc r n) (aK args)) h).trans (by kernel_rfl))
noncomputable def s201 (r : RT) (n : Nat) (x0 x1 x2 : DV) (h0 : Hp) : aH :=
 bnd (r 205 [x0, (aF 0)] h0) fun v1 h1 =>
 bnd (bD [(aF 0), (.s []), (aF 0), (aF 0)] h1) fun v2 h2 =>
 bnd (aC 4 v2 v1 h2) fun _ h3 =>
 bnd (aU x0 h3) fun v4 h4 =>
 bnd (aB 3 v4 h4) fun v5 h5 =>
 bnd (aA v5 h5) fun v6 h6 =>
 bnd (aE .eql v6 (aF 0) h6) fun v7 h7 =>
 bnd (gD v7 true (aB 0 v2 h7) h7) fun v8 h8 =>
 bnd (gD v7 true (aA v8 h8) h8) fun v9 h9 =>
 bnd (gD v7 true (some (x1, h9)) h9) fun v10 h10 =>
 bnd (gD v7 true (aE .eql v9 v10 h10) h10) fun v11 h11 =>
 bnd (aP v7 v11 (.b false) h11) fun v12 h12 =>
 bnd (gD v12 true (some (x2, h12)) h12) fun v13 h13 =>
 bnd (gD v12 true (dR .eql v13 (.s []) h13) h13) fun v14 h14 =>
 bnd (gD v12 true (some (v14, h14)) h14) fun v15 h15 =>
 bnd (gD v15 false (aB 1 v2 h15) h15) fun v16 h16 =>
 bnd (gD v15 false (aA v16 h16) h16) fun v17 h17 =>
 bnd (gD v15 false (some (x2, h17)) h17) fun v18 h18 =>
 bnd (gD v15 false (dR .eql v17 v18 h18) h18) fun v19 h19 =>
 bnd (gD v12 true (aP v15 (.b true) v19 h19) h19) fun v20 h20 =>
 bnd (aP v12 v20 (.b false) h20) fun v21 h21 =>
 some (v21, h21)
noncomputable abbrev c201 : Code := cf Tryz.f201
noncomputable abbrev r201 : K := aQ CF Tryz.f201
noncomputable def D201 (r : RT) (n : Nat) (c : Code) (X : Nat → K) (k : K) : K := aM CF r 31 n c X r201 k
theorem dYw : D201 r n c201 x0 r201 = (K3 (s201 r n) 0 1 2) :=
 (by kernel_rfl)
theorem dHp : aG CF r n 201 args h = s201 r n (aR args 0) (aR args 1) (aR args 2) h :=
 (by kernel_rfl : aG CF r n 201 args h = D201 r n c201 x0 r201 (aK args) h).trans ((congrFun (congrFun (dYw r n) (aK args)) h).trans (by kernel_rfl))
noncomputable def aGl (r : RT) (n : Nat) (x2 x3 : DV) (h0 : Hp) : aH :=
 bnd (aI 4 x3 h0) fun v1 h1 =>
 bnd (aC 4 x2 v1 h1) fun _ h2 =>
 bnd (aI 4 x2 h2) fun v3 _ =>
 some (v3, h2)
noncomputable def xT (r : RT) (n : Nat) (x0 x2 x3 : DV) (h0 : Hp) : aH :=
 bnd (aB 0 x3 h0) fun v1 h1 =>
 bnd (aA v1 h1) fun v2 h2 =>
 bnd (aE .neq v2 (aF 0) h2) fun v3 h3 =>
 aT v3 (
 bnd (aU x0 h3) fun v4 h4 =>
 bnd (aB 0 v4 h4) fun v5 h5 =>
 bnd (aA v5 h5) fun v6 h6 =>
 bnd (cS 4 v6 (some (aF 1)) none h6) fun v7 h7 =>
 bnd (aU x0 h7) fun v8 h8 =>
 bnd (aB 0 v8 h8) fun v9 h9 =>
 bnd (aC 1 v9 v7 h9) fun _ h10 =>
  aGl r n x2 x3 h10) (
  aGl r n x2 x3 h3)
noncomputable def qU (r : RT) (n : Nat) (x0 x2 : DV) (h0 : Hp) : aH :=
 bnd (r 205 [x0, (aF 0)] h0) fun v1 h1 =>
 bnd (bD [(aF 0), (.s []), (aF 0), (aF 0)] h1) fun v2 h2 =>
 bnd (aC 4 v2 v1 h2) fun _ h3 =>
  xT r n x0 x2 v2 h3
noncomputable def s202 (r : RT) (n : Nat) (x0 : DV) (h0 : Hp) : aH :=
 bnd (bD [(aF 0), (.s []), (aF 0), (aF 0)] h0) fun v1 h1 =>
  qU r n x0 v1 h1
noncomputable abbrev c202 : Code := cf Tryz.f202
noncomputable abbrev aGe : Code := cR c202
noncomputable abbrev aOl : Code := cR aGe
noncomputable abbrev dFo : Code := cR aOl
noncomputable abbrev bWm : Code := cL aOl
noncomputable abbrev aWv : Code := cL aGe
noncomputable abbrev bAf : Code := cL c202
noncomputable abbrev r202 : K := aQ CF Tryz.f202
noncomputable def D202 (r : RT) (n : Nat) (c : Code) (X : Nat → K) (k : K) : K := aM CF r 18 n c X r202 k
theorem cNg : D202 r n dFo x0 r202 = (K2 (aGl r n) 2 3) :=
 (by kernel_rfl)
theorem cCa : D202 r n aOl x0 r202 = D202 r n bWm x0 (K2 (aGl r n) 2 3) :=
 congrArg (fun k => D202 r n bWm x0 k) (cNg r n)
theorem cVp : D202 r n aOl x0 r202 = (K3 (xT r n) 0 2 3) :=
 (cCa r n).trans
 ((by kernel_rfl))
theorem cKb : D202 r n aGe x0 r202 = D202 r n aWv x0 (K3 (xT r n) 0 2 3) :=
 congrArg (fun k => D202 r n aWv x0 k) (cVp r n)
theorem cBb (q0 : eO) : D202 r n aWv x0 (K3 q0 0 2 3) = fun (env : aO) (h : Hp) =>
 bnd (r 205 [(env 0), (aF 0)] h) fun v1 h1 =>
 bnd (bD [(aF 0), (.s []), (aF 0), (aF 0)] h1) fun v2 h2 =>
 bnd (aC 4 v2 v1 h2) fun _ h3 =>
  q0 (env 0) (env 2) v2 h3 := by kernel_rfl
theorem bOl : (fun (env : aO) (h : Hp) =>
 bnd (r 205 [(env 0), (aF 0)] h) fun v1 h1 =>
 bnd (bD [(aF 0), (.s []), (aF 0), (aF 0)] h1) fun v2 h2 =>
 bnd (aC 4 v2 v1 h2) fun _ h3 =>
  xT r n (env 0) (env 2) v2 h3) = (K2 (qU r n) 0 2) := by kernel_rfl
theorem cYq : D202 r n aGe x0 r202 = (K2 (qU r n) 0 2) :=
 (cKb r n).trans
 ((cBb r n (xT r n)).trans (bOl r n))
theorem dKg : D202 r n c202 x0 r202 = D202 r n bAf x0 (K2 (qU r n) 0 2) :=
 congrArg (fun k => D202 r n bAf x0 k) (cYq r n)
theorem dMz (q0 : eM) : D202 r n bAf x0 (K2 q0 0 2) = fun (env : aO) (h : Hp) =>
 bnd (bD [(aF 0), (.s []), (aF 0), (aF 0)] h) fun v1 h1 =>
  q0 (env 0) v1 h1 := by kernel_rfl
theorem cPu : (fun (env : aO) (h : Hp) =>
 bnd (bD [(aF 0), (.s []), (aF 0), (aF 0)] h) fun v1 h1 =>
  qU r n (env 0) v1 h1) = (K1 (s202 r n) 0) := by kernel_rfl
theorem dVr : D202 r n c202 x0 r202 = (K1 (s202 r n) 0) :=
 (dKg r n).trans
 ((dMz r n (qU r n)).trans (cPu r n))
theorem dEu : aG CF r n 202 args h = s202 r n (aR args 0) h :=
 (by kernel_rfl : aG CF r n 202 args h = D202 r n c202 x0 r202 (aK args) h).trans ((congrFun (congrFun (dVr r n) (aK args)) h).trans (by kernel_rfl))
noncomputable def s203 (r : RT) (n : Nat) (x0 : DV) (h0 : Hp) : aH :=
 bnd (bD cV h0) fun v1 h1 =>
 bnd (r 201 [x0, (aF 1), (.s [])] h1) fun v2 h2 =>
 bnd (gD v2 true (some (x0, h2)) h2) fun v3 h3 =>
 bnd (gD v2 true (r 205 [v3, (aF 1)] h3) h3) fun v4 h4 =>
 bnd (gD v2 true (dA 0 v4 h4) h4) fun v5 h5 =>
 bnd (gD v2 true (aE .eql v5 (aF 9) h5) h5) fun v6 h6 =>
 bnd (aP v2 v6 (.b false) h6) fun v7 h7 =>
 aT v7 (
 bnd (r 202 [x0] h7) fun v8 h8 =>
 bnd (dA 1 v8 h8) fun v9 h9 =>
 bnd (bA cV [(0, 1, (aF 6)), (1, 1, v9)] h9) fun v10 h10 =>
 bnd (bD cV h10) fun v11 h11 =>
 bnd (aC 6 v11 v10 h11) fun _ h12 =>
 bnd (r 202 [x0] h12) fun v13 h13 =>
 bnd (r 203 [x0] h13) fun v14 h14 =>
 bnd (aN cV 1 [(0, 6, v14)] h14) fun v15 h15 =>
 bnd (aB 5 v11 h15) fun v16 h16 =>
 bnd (aC 1 v16 v15 h16) fun _ h17 =>
 bnd (aI 6 v11 h17) fun v18 h18 =>
 bnd (aC 6 v1 v18 h18) fun _ h19 =>
 bnd (aI 6 v1 h19) fun v20 _ =>
 some (v20, h19)) (
 bnd (r 238 [x0] h7) fun v21 h21 =>
 bnd (aC 6 v1 v21 h21) fun _ h22 =>
 bnd (aI 6 v1 h22) fun v23 _ =>
 some (v23, h22))
noncomputable abbrev c203 : Code := cf Tryz.f203
noncomputable abbrev r203 : K := aQ CF Tryz.f203
noncomputable def D203 (r : RT) (n : Nat) (c : Code) (X : Nat → K) (k : K) : K := aM CF r 25 n c X r203 k
theorem dXg : D203 r n c203 x0 r203 = (K1 (s203 r n) 0) :=
 (by kernel_rfl)
theorem dPn : aG CF r n 203 args h = s203 r n (aR args 0) h :=
 (by kernel_rfl : aG CF r n 203 args h = D203 r n c203 x0 r203 (aK args) h).trans ((congrFun (congrFun (dXg r n) (aK args)) h).trans (by kernel_rfl))
noncomputable def s205 (r : RT) (n : Nat) (x0 x1 : DV) (h0 : Hp) : aH :=
 bnd (bD [(aF 0), (.s []), (aF 0), (aF 0)] h0) fun v1 h1 =>
 bnd (aU x0 h1) fun v2 h2 =>
 bnd (aB 0 v2 h2) fun v3 h3 =>
 bnd (aA v3 h3) fun v4 h4 =>
 bnd (aU x0 h4) fun v5 h5 =>
 bnd (aB 0 v5 h5) fun v6 h6 =>
 bnd (aA v6 h6) fun v7 h7 =>
 bnd (bT v7 h7) fun v8 h8 =>
 bnd (aE .sub v8 (aF 1) h8) fun v9 h9 =>
 bnd (aTd x1 v9 h9) fun v10 h10 =>
 bnd (aJ 4 v4 v10 h10) fun v11 h11 =>
 bnd (aI 4 v11 h11) fun v12 h12 =>
 bnd (aC 4 v1 v12 h12) fun v13 h13 =>
 bnd (aI 4 v1 h13) fun v14 _ =>
 some (v14, h13)
noncomputable abbrev c205 : Code := cf Tryz.f205
noncomputable abbrev r205 : K := aQ CF Tryz.f205
noncomputable def D205 (r : RT) (n : Nat) (c : Code) (X : Nat → K) (k : K) : K := aM CF r 19 n c X r205 k
theorem dQp : D205 r n c205 x0 r205 = (K2 (s205 r n) 0 1) :=
 (by kernel_rfl)
theorem dEb : aG CF r n 205 args h = s205 r n (aR args 0) (aR args 1) h :=
 (by kernel_rfl : aG CF r n 205 args h = D205 r n c205 x0 r205 (aK args) h).trans ((congrFun (congrFun (dQp r n) (aK args)) h).trans (by kernel_rfl))
noncomputable def aLh (r : RT) (n : Nat) (x7 : DV) (h0 : Hp) : aH :=
 bnd (aB 1 x7 h0) fun v1 h1 =>
 bnd (aA v1 h1) fun v2 h2 =>
 some (v2, h2)
noncomputable def wY (r : RT) (n : Nat) (x0 x2 x7 : DV) (h0 : Hp) : aH :=
 bnd (bT x2 h0) fun v1 h1 =>
 bnd (aE .eql v1 (aF 4) h1) fun v2 h2 =>
 aT v2 (
 bnd (aI 4 x7 h2) fun v3 h3 =>
 bnd (r 204 [x0, v3, (aF 18)] h3) fun v4 h4 =>
  aLh r n x7 h4) (
  aLh r n x7 h2)
noncomputable def aOn (r : RT) (n : Nat) (x0 x1 x2 : DV) (h0 : Hp) : aH :=
 bnd (r 157 [x0, x1, (.s [])] h0) fun v1 h1 =>
 bnd (bD [(aF 0), (.s []), (aF 0), (aF 0)] h1) fun v2 h2 =>
 bnd (aC 4 v2 v1 h2) fun _ h3 =>
  wY r n x0 x2 v2 h3
noncomputable def s206 (r : RT) (n : Nat) (x0 x1 x2 : DV) (h0 : Hp) : aH :=
 aOn r n x0 x1 x2 h0
noncomputable abbrev c206 : Code := cf Tryz.f206
noncomputable abbrev aMv : Code := cR c206
noncomputable abbrev aOf : Code := cR aMv
noncomputable abbrev dJf : Code := cR aOf
noncomputable abbrev cIa : Code := cL aOf
noncomputable abbrev aTb : Code := cL aMv
noncomputable abbrev cGv : Code := cL c206
noncomputable abbrev r206 : K := aQ CF Tryz.f206
noncomputable def D206 (r : RT) (n : Nat) (c : Code) (X : Nat → K) (k : K) : K := aM CF r 19 n c X r206 k
theorem cMd : D206 r n dJf x0 r206 = (K1 (aLh r n) 7) :=
 (by kernel_rfl)
theorem bPh : D206 r n aOf x0 r206 = D206 r n cIa x0 (K1 (aLh r n) 7) :=
 congrArg (fun k => D206 r n cIa x0 k) (cMd r n)
theorem cWt : D206 r n aOf x0 r206 = (K3 (wY r n) 0 2 7) :=
 (bPh r n).trans
 ((by kernel_rfl))
theorem cCw : D206 r n aMv x0 r206 = D206 r n aTb x0 (K3 (wY r n) 0 2 7) :=
 congrArg (fun k => D206 r n aTb x0 k) (cWt r n)
theorem cKs (q0 : eO) : D206 r n aTb x0 (K3 q0 0 2 7) = fun (env : aO) (h : Hp) =>
 bnd (r 157 [(env 0), (env 1), (.s [])] h) fun v1 h1 =>
 bnd (bD [(aF 0), (.s []), (aF 0), (aF 0)] h1) fun v2 h2 =>
 bnd (aC 4 v2 v1 h2) fun _ h3 =>
  q0 (env 0) (env 2) v2 h3 := by kernel_rfl
theorem bNu : (fun (env : aO) (h : Hp) =>
 bnd (r 157 [(env 0), (env 1), (.s [])] h) fun v1 h1 =>
 bnd (bD [(aF 0), (.s []), (aF 0), (aF 0)] h1) fun v2 h2 =>
 bnd (aC 4 v2 v1 h2) fun _ h3 =>
  wY r n (env 0) (env 2) v2 h3) = (K3 (aOn r n) 0 1 2) := by kernel_rfl
theorem cQw : D206 r n aMv x0 r206 = (K3 (aOn r n) 0 1 2) :=
 (cCw r n).trans
 ((cKs r n (wY r n)).trans (bNu r n))
theorem dNs : D206 r n c206 x0 r206 = D206 r n cGv x0 (K3 (aOn r n) 0 1 2) :=
 congrArg (fun k => D206 r n cGv x0 k) (cQw r n)
theorem dYh : D206 r n c206 x0 r206 = (K3 (s206 r n) 0 1 2) :=
 (dNs r n).trans
 ((by kernel_rfl))
theorem dEi : aG CF r n 206 args h = s206 r n (aR args 0) (aR args 1) (aR args 2) h :=
 (by kernel_rfl : aG CF r n 206 args h = D206 r n c206 x0 r206 (aK args) h).trans ((congrFun (congrFun (dYh r n) (aK args)) h).trans (by kernel_rfl))
noncomputable def cX (r : RT) (n : Nat) (kk2 : cD) (x0 x2 x10 x11 x12 : DV) (h0 : Hp) : aH :=
 bnd (aE .add x12 (aF 1) h0) fun v1 h1 =>
  kk2 x0 x2 x10 x11 v1 h1
noncomputable def yU (r : RT) (n : Nat) (kk2 : cD) (x0 x2 x7 x10 x11 x12 : DV) (h0 : Hp) : aH :=
 bnd (aU x0 h0) fun v1 h1 =>
 bnd (aB 8 v1 h1) fun v2 h2 =>
 bnd (aA v2 h2) fun v3 h3 =>
 bnd (aE .neq v3 (aF 0) h3) fun v4 h4 =>
 aT v4 (
 some (.t [], h4)) (
 bnd (aU x0 (resv 1 h4)) fun v5 h5 =>
 bnd (aB 6 v5 h5) fun v6 h6 =>
 bnd (aA v6 h6) fun v7 h7 =>
 bnd (aU x0 h7) fun v8 h8 =>
 bnd (aB 0 v8 h8) fun v9 h9 =>
 bnd (aB 2 v9 h9) fun v10 h10 =>
 bnd (aA v10 h10) fun v11 h11 =>
 bnd (bA [(.s []), (.b false), (.b false), (aF 0)] [(0, 1, x7), (1, 1, (.b false)), (2, 1, x2), (3, 1, v11)] h11) fun v12 h12 =>
 bnd (aS (bB 0 h4.next) [(.s []), (.b false), (.b false), (aF 0)] 1 [(0, 4, v12)] h12) fun v13 h13 =>
 bnd (aW 4 32 v7 v13 h13) fun v14 h14 =>
 bnd (aU x0 h14) fun v15 h15 =>
 bnd (aB 6 v15 h15) fun v16 h16 =>
 bnd (aC 1 v16 v14 h16) fun v17 h17 =>
 bnd (aU x0 h17) fun v18 h18 =>
 bnd (aB 0 v18 h18) fun v19 h19 =>
 bnd (aB 2 v19 h19) fun v20 h20 =>
 bnd (aA v20 h20) fun v21 h21 =>
 bnd (aE .add v21 (aF 1) h21) fun v22 h22 =>
 bnd (aU x0 h22) fun v23 h23 =>
 bnd (aB 0 v23 h23) fun v24 h24 =>
 bnd (aB 2 v24 h24) fun v25 h25 =>
 bnd (aC 1 v25 v22 h25) fun _ h26 =>
  cX r n kk2 x0 x2 x10 x11 x12 h26)
noncomputable def nV (r : RT) (n : Nat) (kk2 : cD) (x0 x2 x7 x10 x11 x12 : DV) (h0 : Hp) : aH :=
 bnd (aU x0 h0) fun v1 h1 =>
 bnd (aB 0 v1 h1) fun v2 h2 =>
 bnd (aB 2 v2 h2) fun v3 h3 =>
 bnd (aA v3 h3) fun v4 h4 =>
 bnd (aE .eql v4 (aF 24) h4) fun v5 h5 =>
 aT v5 (
 bnd (r 241 [x0, x7, (aF 18)] h5) fun v6 h6 =>
  yU r n kk2 x0 x2 x7 x10 x11 x12 h6) (
  yU r n kk2 x0 x2 x7 x10 x11 x12 h5)
noncomputable def aKp (r : RT) (n : Nat) (kk2 : cD) (x0 x2 x7 x10 x11 x12 : DV) (h0 : Hp) : aH :=
 bnd (r 239 [x0, x7] h0) fun v1 h1 =>
 bnd (aD 0 v1 h1) fun v2 h2 =>
 bnd (aD 1 v1 h2) fun v3 h3 =>
 bnd (bD [(.s []), (.b false), (.b false), (aF 0)] h3) fun v4 h4 =>
 bnd (aC 4 v4 v2 h4) fun _ h5 =>
 bnd (gD v3 false (some (x7, h5)) h5) fun v6 h6 =>
 bnd (gD v3 false (r 240 [v6] h6) h6) fun v7 h7 =>
 bnd (aP v3 (.b true) v7 h7) fun v8 h8 =>
 aT v8 (
 bnd (r 241 [x0, x7, (aF 16)] h8) fun v9 h9 =>
  nV r n kk2 x0 x2 x7 x10 x11 x12 h9) (
  nV r n kk2 x0 x2 x7 x10 x11 x12 h8)
noncomputable def aTm (r : RT) (n : Nat) (kk2 : cD) (x0 x2 x10 x11 x12 : DV) (h0 : Hp) : aH :=
 bnd (aJ 1 x10 x12 h0) fun v1 h1 =>
 bnd (aA v1 h1) fun v2 h2 =>
  aKp r n kk2 x0 x2 v2 x10 x11 x12 h2
noncomputable def aSs (r : RT) (n : Nat) (kk2 : cD) (x0 x2 x10 x11 x12 x13 : DV) (h0 : Hp) : aH :=
 aT x13 (
  aTm r n kk2 x0 x2 x10 x11 x12 h0) (
 some (.t [], h0))
noncomputable def bIv (r : RT) (n : Nat) (kk2 : cD) (x0 x2 x10 x11 x12 : DV) (h0 : Hp) : aH :=
 bnd (aE .lss x12 x11 h0) fun v1 h1 =>
  aSs r n kk2 x0 x2 x10 x11 x12 v1 h1
noncomputable def uU (r : RT) (n : Nat) (m : Nat) : cD :=
 Nat.rec (motive := fun _ => cD) (fun _ _ _ _ _ _ => none) (fun _ ih => bIv r n ih) m
noncomputable def cHw (r : RT) (n : Nat) : cD := uU r n n
noncomputable def bAo (r : RT) (n : Nat) (x0 x2 x10 x11 x12 : DV) (h0 : Hp) : aH :=
 cHw r n x0 x2 x10 x11 x12 h0
noncomputable def s207 (r : RT) (n : Nat) (x0 x1 x2 : DV) (h0 : Hp) : aH :=
 bnd (bT x1 h0) fun v1 h1 =>
  bAo r n x0 x2 x1 v1 (aF 0) h1
noncomputable abbrev c207 : Code := cf Tryz.f207
noncomputable abbrev aVf : Code := cR c207
noncomputable abbrev aJu : Code := cL aVf
noncomputable abbrev kD : Code := cL aJu
noncomputable abbrev aIw : Code := cR kD
noncomputable abbrev aIa : Code := cR aIw
noncomputable abbrev dNp : Code := cR aIa
noncomputable abbrev aDn : Code := cL aIa
noncomputable abbrev aFf : Code := cL aDn
noncomputable abbrev aKc : Code := cR aFf
noncomputable abbrev tU : Code := cR aKc
noncomputable abbrev bEa : Code := cR tU
noncomputable abbrev bCr : Code := cL tU
noncomputable abbrev aLa : Code := cL aKc
noncomputable abbrev bIk : Code := cL aFf
noncomputable abbrev bBb : Code := cL aIw
noncomputable abbrev bDh : Code := cL kD
noncomputable abbrev bDl : Code := cL c207
noncomputable abbrev r207 : K := aQ CF Tryz.f207
noncomputable def D207 (r : RT) (n : Nat) (c : Code) (X : Nat → K) (k : K) : K := aM CF r 71 n c X r207 k
theorem dBs (kk2 : cD) : D207 r n dNp (xs x0 0 r207) (K5 kk2 0 2 10 11 12) = (K5 (cX r n kk2) 0 2 10 11 12) :=
 (by kernel_rfl)
theorem cKm (kk2 : cD) (q0 : cD) : D207 r n bEa (xs (xs x0 0 r207) 1 (K5 q0 0 2 10 11 12)) (K5 q0 0 2 10 11 12) = fun (env : aO) (h : Hp) =>
 bnd (aU (env 0) h) fun v1 h1 =>
 bnd (aB 8 v1 h1) fun v2 h2 =>
 bnd (aA v2 h2) fun v3 h3 =>
 bnd (aE .neq v3 (aF 0) h3) fun v4 h4 =>
 aT v4 (
 some (.t [], h4)) (
 bnd (aU (env 0) (resv 1 h4)) fun v5 h5 =>
 bnd (aB 6 v5 h5) fun v6 h6 =>
 bnd (aA v6 h6) fun v7 h7 =>
 bnd (aU (env 0) h7) fun v8 h8 =>
 bnd (aB 0 v8 h8) fun v9 h9 =>
 bnd (aB 2 v9 h9) fun v10 h10 =>
 bnd (aA v10 h10) fun v11 h11 =>
 bnd (bA [(.s []), (.b false), (.b false), (aF 0)] [(0, 1, (env 7)), (1, 1, (.b false)), (2, 1, (env 2)), (3, 1, v11)] h11) fun v12 h12 =>
 bnd (aS (bB 0 h4.next) [(.s []), (.b false), (.b false), (aF 0)] 1 [(0, 4, v12)] h12) fun v13 h13 =>
 bnd (aW 4 32 v7 v13 h13) fun v14 h14 =>
 bnd (aU (env 0) h14) fun v15 h15 =>
 bnd (aB 6 v15 h15) fun v16 h16 =>
 bnd (aC 1 v16 v14 h16) fun v17 h17 =>
 bnd (aU (env 0) h17) fun v18 h18 =>
 bnd (aB 0 v18 h18) fun v19 h19 =>
 bnd (aB 2 v19 h19) fun v20 h20 =>
 bnd (aA v20 h20) fun v21 h21 =>
 bnd (aE .add v21 (aF 1) h21) fun v22 h22 =>
 bnd (aU (env 0) h22) fun v23 h23 =>
 bnd (aB 0 v23 h23) fun v24 h24 =>
 bnd (aB 2 v24 h24) fun v25 h25 =>
 bnd (aC 1 v25 v22 h25) fun _ h26 =>
      q0 (env 0) (env 2) (env 10) (env 11) (env 12) h26) := by kernel_rfl
theorem bMr (kk2 : cD) : (fun (env : aO) (h : Hp) =>
 bnd (aU (env 0) h) fun v1 h1 =>
 bnd (aB 8 v1 h1) fun v2 h2 =>
 bnd (aA v2 h2) fun v3 h3 =>
 bnd (aE .neq v3 (aF 0) h3) fun v4 h4 =>
 aT v4 (
 some (.t [], h4)) (
 bnd (aU (env 0) (resv 1 h4)) fun v5 h5 =>
 bnd (aB 6 v5 h5) fun v6 h6 =>
 bnd (aA v6 h6) fun v7 h7 =>
 bnd (aU (env 0) h7) fun v8 h8 =>
 bnd (aB 0 v8 h8) fun v9 h9 =>
 bnd (aB 2 v9 h9) fun v10 h10 =>
 bnd (aA v10 h10) fun v11 h11 =>
 bnd (bA [(.s []), (.b false), (.b false), (aF 0)] [(0, 1, (env 7)), (1, 1, (.b false)), (2, 1, (env 2)), (3, 1, v11)] h11) fun v12 h12 =>
 bnd (aS (bB 0 h4.next) [(.s []), (.b false), (.b false), (aF 0)] 1 [(0, 4, v12)] h12) fun v13 h13 =>
 bnd (aW 4 32 v7 v13 h13) fun v14 h14 =>
 bnd (aU (env 0) h14) fun v15 h15 =>
 bnd (aB 6 v15 h15) fun v16 h16 =>
 bnd (aC 1 v16 v14 h16) fun v17 h17 =>
 bnd (aU (env 0) h17) fun v18 h18 =>
 bnd (aB 0 v18 h18) fun v19 h19 =>
 bnd (aB 2 v19 h19) fun v20 h20 =>
 bnd (aA v20 h20) fun v21 h21 =>
 bnd (aE .add v21 (aF 1) h21) fun v22 h22 =>
 bnd (aU (env 0) h22) fun v23 h23 =>
 bnd (aB 0 v23 h23) fun v24 h24 =>
 bnd (aB 2 v24 h24) fun v25 h25 =>
 bnd (aC 1 v25 v22 h25) fun _ h26 =>
      cX r n kk2 (env 0) (env 2) (env 10) (env 11) (env 12) h26)) = (K6 (yU r n kk2) 0 2 7 10 11 12) := by kernel_rfl
theorem cZd (kk2 : cD) : D207 r n bEa (xs (xs x0 0 r207) 1 (K5 (cX r n kk2) 0 2 10 11 12)) (K5 (cX r n kk2) 0 2 10 11 12) = (K6 (yU r n kk2) 0 2 7 10 11 12) :=
 (cKm r n kk2 (cX r n kk2)).trans (bMr r n kk2)
theorem cKf (kk2 : cD) : D207 r n tU (xs (xs x0 0 r207) 1 (K5 (cX r n kk2) 0 2 10 11 12)) (K5 (cX r n kk2) 0 2 10 11 12) = D207 r n bCr (xs (xs x0 0 r207) 1 (K5 (cX r n kk2) 0 2 10 11 12)) (K6 (yU r n kk2) 0 2 7 10 11 12) :=
 congrArg (fun k => D207 r n bCr (xs (xs x0 0 r207) 1 (K5 (cX r n kk2) 0 2 10 11 12)) k) (cZd r n kk2)
theorem cYu (kk2 : cD) : D207 r n tU (xs (xs x0 0 r207) 1 (K5 (cX r n kk2) 0 2 10 11 12)) (K5 (cX r n kk2) 0 2 10 11 12) = (K6 (nV r n kk2) 0 2 7 10 11 12) :=
 (cKf r n kk2).trans
 ((by kernel_rfl))
theorem cCk (kk2 : cD) : D207 r n aKc (xs (xs x0 0 r207) 1 (K5 (cX r n kk2) 0 2 10 11 12)) (K5 (cX r n kk2) 0 2 10 11 12) = D207 r n aLa (xs (xs x0 0 r207) 1 (K5 (cX r n kk2) 0 2 10 11 12)) (K6 (nV r n kk2) 0 2 7 10 11 12) :=
 congrArg (fun k => D207 r n aLa (xs (xs x0 0 r207) 1 (K5 (cX r n kk2) 0 2 10 11 12)) k) (cYu r n kk2)
theorem bUj (kk2 : cD) (q0 : dC) (q1 : cD) : D207 r n aLa (xs (xs x0 0 r207) 1 (K5 q1 0 2 10 11 12)) (K6 q0 0 2 7 10 11 12) = fun (env : aO) (h : Hp) =>
 bnd (r 239 [(env 0), (env 7)] h) fun v1 h1 =>
 bnd (aD 0 v1 h1) fun v2 h2 =>
 bnd (aD 1 v1 h2) fun v3 h3 =>
 bnd (bD [(.s []), (.b false), (.b false), (aF 0)] h3) fun v4 h4 =>
 bnd (aC 4 v4 v2 h4) fun _ h5 =>
 bnd (gD v3 false (some ((env 7), h5)) h5) fun v6 h6 =>
 bnd (gD v3 false (r 240 [v6] h6) h6) fun v7 h7 =>
 bnd (aP v3 (.b true) v7 h7) fun v8 h8 =>
 aT v8 (
 bnd (r 241 [(env 0), (env 7), (aF 16)] h8) fun v9 h9 =>
      q0 (env 0) (env 2) (env 7) (env 10) (env 11) (env 12) h9) (
      q0 (env 0) (env 2) (env 7) (env 10) (env 11) (env 12) h8) := by kernel_rfl
theorem bLz (kk2 : cD) : (fun (env : aO) (h : Hp) =>
 bnd (r 239 [(env 0), (env 7)] h) fun v1 h1 =>
 bnd (aD 0 v1 h1) fun v2 h2 =>
 bnd (aD 1 v1 h2) fun v3 h3 =>
 bnd (bD [(.s []), (.b false), (.b false), (aF 0)] h3) fun v4 h4 =>
 bnd (aC 4 v4 v2 h4) fun _ h5 =>
 bnd (gD v3 false (some ((env 7), h5)) h5) fun v6 h6 =>
 bnd (gD v3 false (r 240 [v6] h6) h6) fun v7 h7 =>
 bnd (aP v3 (.b true) v7 h7) fun v8 h8 =>
 aT v8 (
 bnd (r 241 [(env 0), (env 7), (aF 16)] h8) fun v9 h9 =>
      nV r n kk2 (env 0) (env 2) (env 7) (env 10) (env 11) (env 12) h9) (
      nV r n kk2 (env 0) (env 2) (env 7) (env 10) (env 11) (env 12) h8)) = (K6 (aKp r n kk2) 0 2 7 10 11 12) := by kernel_rfl
theorem cTy (kk2 : cD) : D207 r n aKc (xs (xs x0 0 r207) 1 (K5 (cX r n kk2) 0 2 10 11 12)) (K5 (cX r n kk2) 0 2 10 11 12) = (K6 (aKp r n kk2) 0 2 7 10 11 12) :=
 (cCk r n kk2).trans
 ((bUj r n kk2 (nV r n kk2) (cX r n kk2)).trans (bLz r n kk2))
theorem cBz (kk2 : cD) : D207 r n aIa (xs x0 0 r207) (K5 kk2 0 2 10 11 12) = D207 r n aDn (xs x0 0 r207) (K5 (cX r n kk2) 0 2 10 11 12) :=
 congrArg (fun k => D207 r n aDn (xs x0 0 r207) k) (dBs r n kk2)
theorem cDy (kk2 : cD) : D207 r n aFf (xs (xs x0 0 r207) 1 (K5 (cX r n kk2) 0 2 10 11 12)) (K5 (cX r n kk2) 0 2 10 11 12) = D207 r n bIk (xs (xs x0 0 r207) 1 (K5 (cX r n kk2) 0 2 10 11 12)) (K6 (aKp r n kk2) 0 2 7 10 11 12) :=
 congrArg (fun k => D207 r n bIk (xs (xs x0 0 r207) 1 (K5 (cX r n kk2) 0 2 10 11 12)) k) (cTy r n kk2)
theorem cQq (kk2 : cD) : D207 r n aIa (xs x0 0 r207) (K5 kk2 0 2 10 11 12) = (K5 (aTm r n kk2) 0 2 10 11 12) :=
 (cBz r n kk2).trans
 ((by kernel_rfl : D207 r n aDn (xs x0 0 r207) (K5 (cX r n kk2) 0 2 10 11 12) = D207 r n aFf (xs (xs x0 0 r207) 1 (K5 (cX r n kk2) 0 2 10 11 12)) (K5 (cX r n kk2) 0 2 10 11 12)).trans
 ((cDy r n kk2).trans
 ((by kernel_rfl))))
theorem bWi (kk2 : cD) : D207 r n aIw (xs x0 0 r207) (K5 kk2 0 2 10 11 12) = D207 r n bBb (xs x0 0 r207) (K5 (aTm r n kk2) 0 2 10 11 12) :=
 congrArg (fun k => D207 r n bBb (xs x0 0 r207) k) (cQq r n kk2)
theorem cSr (kk2 : cD) : D207 r n aIw (xs x0 0 r207) (K5 kk2 0 2 10 11 12) = (K6 (aSs r n kk2) 0 2 10 11 12 13) :=
 (bWi r n kk2).trans
 ((by kernel_rfl))
theorem cJz (kk2 : cD) : D207 r n kD (xs x0 0 r207) (K5 kk2 0 2 10 11 12) = D207 r n bDh (xs x0 0 r207) (K6 (aSs r n kk2) 0 2 10 11 12 13) :=
 congrArg (fun k => D207 r n bDh (xs x0 0 r207) k) (cSr r n kk2)
theorem bRf (kk2 : cD) : D207 r n kD (xs x0 0 r207) (K5 kk2 0 2 10 11 12) = (K5 (bIv r n kk2) 0 2 10 11 12) :=
 (cJz r n kk2).trans
 ((by kernel_rfl))
theorem bPz (m : Nat) : aL (fun kk => D207 r n kD (xs x0 0 r207) kk) m = (K5 (uU r n m) 0 2 10 11 12) := by
 induction m with
 | zero => exact (by kernel_rfl : aL (fun kk => D207 r n kD (xs x0 0 r207) kk) 0 = (K5 (uU r n 0) 0 2 10 11 12))
 | succ m ih =>
  refine (by kernel_rfl : aL (fun kk => D207 r n kD (xs x0 0 r207) kk) (m + 1) = D207 r n kD (xs x0 0 r207) (aL (fun kk => D207 r n kD (xs x0 0 r207) kk) m)).trans ?_
  rw [ih]
  exact (bRf r n (uU r n m)).trans (by kernel_rfl)
theorem cNp : D207 r n aJu (xs x0 0 r207) r207 = (K5 (cHw r n) 0 2 10 11 12) :=
 (by kernel_rfl : D207 r n aJu (xs x0 0 r207) r207 = aL (fun kk => D207 r n kD (xs x0 0 r207) kk) n).trans ((bPz r n n).trans (by kernel_rfl))
theorem dCy : D207 r n aVf x0 r207 = (K5 (bAo r n) 0 2 10 11 12) :=
 (by kernel_rfl : D207 r n aVf x0 r207 = D207 r n aJu (xs x0 0 r207) r207).trans
 ((cNp r n).trans (by kernel_rfl))
theorem dMy : D207 r n c207 x0 r207 = D207 r n bDl x0 (K5 (bAo r n) 0 2 10 11 12) :=
 congrArg (fun k => D207 r n bDl x0 k) (dCy r n)
theorem dYt : D207 r n c207 x0 r207 = (K3 (s207 r n) 0 1 2) :=
 (dMy r n).trans
 ((by kernel_rfl))
theorem dLu : aG CF r n 207 args h = s207 r n (aR args 0) (aR args 1) (aR args 2) h :=
 (by kernel_rfl : aG CF r n 207 args h = D207 r n c207 x0 r207 (aK args) h).trans ((congrFun (congrFun (dYt r n) (aK args)) h).trans (by kernel_rfl))
noncomputable def rK (r : RT) (n : Nat) (x0 x3 x11 x14 : DV) (h0 : Hp) : aH :=
 aT x14 (
 bnd (aI 6 x3 h0) fun v1 h1 =>
 bnd (r 243 [x0, v1] h1) fun v2 h2 =>
 bnd (lI [x0, v2] h2) fun v3 h3 =>
 bnd (r 209 [x0, (aF 6), v3, (aF 0)] h3) fun v4 h4 =>
 some (.t [], h4)) (
 bnd (aE .eql x11 (aF 5) h0) fun v5 h5 =>
 aT v5 (
 bnd (aB 1 x3 h5) fun v6 h6 =>
 bnd (aA v6 h6) fun v7 h7 =>
 bnd (r 244 [x0, v7] h7) fun v8 h8 =>
 some (.t [], h8)) (
 bnd (aE .eql x11 (aF 6) h5) fun v9 h9 =>
 aT v9 (
 bnd (aI 6 x3 h9) fun v10 h10 =>
 bnd (r 245 [x0, v10] h10) fun v11 h11 =>
 some (.t [], h11)) (
 bnd (aE .eql x11 (aF 7) h9) fun v12 h12 =>
 aT v12 (
 bnd (aI 6 x3 h12) fun v13 h13 =>
 bnd (r 246 [x0, v13] h13) fun v14 h14 =>
 some (.t [], h14)) (
 bnd (aE .eql x11 (aF 8) h12) fun v15 h15 =>
 aT v15 (
 bnd (aI 6 x3 h15) fun v16 h16 =>
 bnd (r 247 [x0, v16] h16) fun v17 h17 =>
 some (.t [], h17)) (
 bnd (aE .eql x11 (aF 9) h15) fun v18 h18 =>
 aT v18 (
 bnd (aU x0 h18) fun v19 h19 =>
 bnd (aB 0 v19 h19) fun v20 h20 =>
 bnd (aB 2 v20 h20) fun v21 h21 =>
 bnd (aA v21 h21) fun v22 h22 =>
 bnd (aB 3 x3 h22) fun v23 h23 =>
 bnd (aA v23 h23) fun v24 h24 =>
 bnd (bT v24 h24) fun v25 h25 =>
 bnd (r 209 [x0, (aF 18), v22, v25] h25) fun v26 h26 =>
 bnd (r 248 [x0, (aF 16)] h26) fun v27 h27 =>
 bnd (aI 6 x3 h27) fun v28 h28 =>
 bnd (r 249 [x0, v28] h28) fun v29 h29 =>
 bnd (r 209 [x0, (aF 19), (aF 0), (aF 0)] h29) fun v30 h30 =>
 bnd (dD CF r v27 [] h30) fun v31 h31 =>
 some (.t [], h31)) (
 bnd (aE .eql x11 (aF 10) h18) fun v32 h32 =>
 aT v32 (
 bnd (aI 6 x3 h32) fun v33 h33 =>
 bnd (r 250 [x0, v33] h33) fun v34 h34 =>
 aT v34 (
 bnd (aB 5 x3 h34) fun v35 h35 =>
 bnd (aA v35 h35) fun v36 h36 =>
 bnd (aJ 6 v36 (aF 0) h36) fun v37 h37 =>
 bnd (aI 6 v37 h37) fun v38 h38 =>
 bnd (r 208 [x0, v38] h38) fun v39 h39 =>
 bnd (r 209 [x0, (aF 20), (aF 0), (aF 0)] h39) fun v40 h40 =>
 some (.t [], h40)) (
 some (.t [], h34))) (
 bnd (r 241 [x0, (.s []), (aF 1)] h32) fun v41 h41 =>
 some (.t [], h41))))))))
noncomputable def aUj (r : RT) (n : Nat) (x0 x3 x11 : DV) (h0 : Hp) : aH :=
 bnd (aE .eql x11 (aF 1) h0) fun v1 h1 =>
 aT v1 (
  rK r n x0 x3 x11 v1 h1) (
 bnd (aE .eql x11 (aF 2) h1) fun v2 h2 =>
 aT v2 (
   rK r n x0 x3 x11 v2 h2) (
 bnd (aE .eql x11 (aF 3) h2) fun v3 h3 =>
 aT v3 (
    rK r n x0 x3 x11 v3 h3) (
 bnd (aE .eql x11 (aF 4) h3) fun v4 h4 =>
    rK r n x0 x3 x11 v4 h4)))
noncomputable def aVx (r : RT) (n : Nat) (x0 x3 : DV) (h0 : Hp) : aH :=
 bnd (aB 0 x3 h0) fun v1 h1 =>
 bnd (aA v1 h1) fun v2 h2 =>
  aUj r n x0 x3 v2 h2
noncomputable def yS (r : RT) (n : Nat) (x0 x3 : DV) (h0 : Hp) : aH :=
 bnd (aU x0 h0) fun v1 h1 =>
 bnd (aB 8 v1 h1) fun v2 h2 =>
 bnd (aA v2 h2) fun v3 h3 =>
 bnd (aE .neq v3 (aF 0) h3) fun v4 h4 =>
 aT v4 (
 some (.t [], h4)) (
  aVx r n x0 x3 h4)
noncomputable def s208 (r : RT) (n : Nat) (x0 x1 : DV) (h0 : Hp) : aH :=
 bnd (bN x1 h0) fun v1 h1 =>
  yS r n x0 v1 h1
noncomputable abbrev c208 : Code := cf Tryz.f208
noncomputable abbrev aKg : Code := cR c208
noncomputable abbrev aLw : Code := cR aKg
noncomputable abbrev aWr : Code := cR aLw
noncomputable abbrev aMe : Code := cL aWr
noncomputable abbrev dPp : Code := cR aMe
noncomputable abbrev cKw : Code := cL aMe
noncomputable abbrev cGy : Code := cL aLw
noncomputable abbrev bQz : Code := cL aKg
noncomputable abbrev aSd : Code := cL c208
noncomputable abbrev r208 : K := aQ CF Tryz.f208
noncomputable def D208 (r : RT) (n : Nat) (c : Code) (X : Nat → K) (k : K) : K := aM CF r 81 n c X r208 k
theorem cYr : D208 r n dPp (xs x0 0 r208) r208 = (K4 (rK r n) 0 3 11 14) :=
 (by kernel_rfl)
theorem cDa : D208 r n aMe (xs x0 0 r208) r208 = D208 r n cKw (xs x0 0 r208) (K4 (rK r n) 0 3 11 14) :=
 congrArg (fun k => D208 r n cKw (xs x0 0 r208) k) (cYr r n)
theorem cNi : D208 r n aWr x0 r208 = (K3 (aUj r n) 0 3 11) :=
 (by kernel_rfl : D208 r n aWr x0 r208 = D208 r n aMe (xs x0 0 r208) r208).trans
 ((cDa r n).trans
 ((by kernel_rfl)))
theorem bZd : D208 r n aLw x0 r208 = D208 r n cGy x0 (K3 (aUj r n) 0 3 11) :=
 congrArg (fun k => D208 r n cGy x0 k) (cNi r n)
theorem cYd : D208 r n aLw x0 r208 = (K2 (aVx r n) 0 3) :=
 (bZd r n).trans
 ((by kernel_rfl))
theorem cFn : D208 r n aKg x0 r208 = D208 r n bQz x0 (K2 (aVx r n) 0 3) :=
 congrArg (fun k => D208 r n bQz x0 k) (cYd r n)
theorem cQx : D208 r n aKg x0 r208 = (K2 (yS r n) 0 3) :=
 (cFn r n).trans
 ((by kernel_rfl))
theorem dGl : D208 r n c208 x0 r208 = D208 r n aSd x0 (K2 (yS r n) 0 3) :=
 congrArg (fun k => D208 r n aSd x0 k) (cQx r n)
theorem dGf (q0 : eM) : D208 r n aSd x0 (K2 q0 0 3) = fun (env : aO) (h : Hp) =>
 bnd (bN (env 1) h) fun v1 h1 =>
  q0 (env 0) v1 h1 := by kernel_rfl
theorem cQn : (fun (env : aO) (h : Hp) =>
 bnd (bN (env 1) h) fun v1 h1 =>
  yS r n (env 0) v1 h1) = (K2 (s208 r n) 0 1) := by kernel_rfl
theorem dSh : D208 r n c208 x0 r208 = (K2 (s208 r n) 0 1) :=
 (dGl r n).trans
 ((dGf r n (yS r n)).trans (cQn r n))
theorem dMd : aG CF r n 208 args h = s208 r n (aR args 0) (aR args 1) h :=
 (by kernel_rfl : aG CF r n 208 args h = D208 r n c208 x0 r208 (aK args) h).trans ((congrFun (congrFun (dSh r n) (aK args)) h).trans (by kernel_rfl))
noncomputable def s209 (r : RT) (n : Nat) (x0 x1 x2 x3 : DV) (h0 : Hp) : aH :=
 bnd (aU x0 h0) fun v1 h1 =>
 bnd (aB 0 v1 h1) fun v2 h2 =>
 bnd (aB 5 v2 h2) fun v3 h3 =>
 bnd (aA v3 h3) fun v4 h4 =>
 bnd (bA [(aF 0), (aF 0), (aF 0)] [(0, 1, x1), (1, 1, x2), (2, 1, x3)] h4) fun v5 h5 =>
 bnd (aN [(aF 0), (aF 0), (aF 0)] 1 [(0, 3, v5)] h5) fun v6 h6 =>
 bnd (aW 3 24 v4 v6 h6) fun v7 h7 =>
 bnd (aU x0 h7) fun v8 h8 =>
 bnd (aB 0 v8 h8) fun v9 h9 =>
 bnd (aB 5 v9 h9) fun v10 h10 =>
 bnd (aC 1 v10 v7 h10) fun _ h11 =>
 some (.t [], h11)
noncomputable abbrev c209 : Code := cf Tryz.f209
noncomputable abbrev r209 : K := aQ CF Tryz.f209
noncomputable def D209 (r : RT) (n : Nat) (c : Code) (X : Nat → K) (k : K) : K := aM CF r 23 n c X r209 k
theorem dXx : D209 r n c209 x0 r209 = (K4 (s209 r n) 0 1 2 3) :=
 (by kernel_rfl)
theorem dNu : aG CF r n 209 args h = s209 r n (aR args 0) (aR args 1) (aR args 2) (aR args 3) h :=
 (by kernel_rfl : aG CF r n 209 args h = D209 r n c209 x0 r209 (aK args) h).trans ((congrFun (congrFun (dXx r n) (aK args)) h).trans (by kernel_rfl))
noncomputable def s227 (r : RT) (n : Nat) (x0 : DV) (h0 : Hp) : aH :=
 bnd (aE .eql x0 (aF 16) h0) fun v1 h1 =>
 bnd (gD v1 false (some (x0, h1)) h1) fun v2 h2 =>
 bnd (gD v1 false (aE .eql v2 (aF 17) h2) h2) fun v3 h3 =>
 bnd (aP v1 (.b true) v3 h3) fun v4 h4 =>
 some (v4, h4)
noncomputable abbrev c227 : Code := cf Tryz.f227
noncomputable abbrev r227 : K := aQ CF Tryz.f227
noncomputable def D227 (r : RT) (n : Nat) (c : Code) (X : Nat → K) (k : K) : K := aM CF r 9 n c X r227 k
theorem dWb : D227 r n c227 x0 r227 = (K1 (s227 r n) 0) :=
 (by kernel_rfl)
theorem dJz : aG CF r n 227 args h = s227 r n (aR args 0) h :=
 (by kernel_rfl : aG CF r n 227 args h = D227 r n c227 x0 r227 (aK args) h).trans ((congrFun (congrFun (dWb r n) (aK args)) h).trans (by kernel_rfl))
noncomputable def s228 (r : RT) (n : Nat) (x0 x1 : DV) (h0 : Hp) : aH :=
 bnd (aA x1 h0) fun v1 h1 =>
 bnd (r 199 [v1, x0] h1) fun v2 h2 =>
 bnd (aE .geq v2 (aF 0) h2) fun v3 h3 =>
 some (v3, h3)
noncomputable abbrev c228 : Code := cf Tryz.f228
noncomputable abbrev r228 : K := aQ CF Tryz.f228
noncomputable def D228 (r : RT) (n : Nat) (c : Code) (X : Nat → K) (k : K) : K := aM CF r 8 n c X r228 k
theorem dRr : D228 r n c228 x0 r228 = (K2 (s228 r n) 0 1) :=
 (by kernel_rfl)
theorem dLh : aG CF r n 228 args h = s228 r n (aR args 0) (aR args 1) h :=
 (by kernel_rfl : aG CF r n 228 args h = D228 r n c228 x0 r228 (aK args) h).trans ((congrFun (congrFun (dRr r n) (aK args)) h).trans (by kernel_rfl))
noncomputable def s229 (r : RT) (n : Nat) (x0 x1 : DV) (h0 : Hp) : aH :=
 bnd (lV [x0, x1] h0) fun v1 h1 =>
 some (v1, h1)
noncomputable abbrev c229 : Code := cf Tryz.f229
noncomputable abbrev r229 : K := aQ CF Tryz.f229
noncomputable def D229 (r : RT) (n : Nat) (c : Code) (X : Nat → K) (k : K) : K := aM CF r 8 n c X r229 k
theorem dWj : D229 r n c229 x0 r229 = (K2 (s229 r n) 0 1) :=
 (by kernel_rfl)
theorem dNf : aG CF r n 229 args h = s229 r n (aR args 0) (aR args 1) h :=
 (by kernel_rfl : aG CF r n 229 args h = D229 r n c229 x0 r229 (aK args) h).trans ((congrFun (congrFun (dWj r n) (aK args)) h).trans (by kernel_rfl))
noncomputable def s230 (r : RT) (n : Nat) (x0 x1 : DV) (h0 : Hp) : aH :=
 bnd (aU x0 h0) fun v1 h1 =>
 bnd (aB 1 v1 h1) fun v2 h2 =>
 bnd (aA v2 h2) fun v3 h3 =>
 bnd (aE .add v3 x1 h3) fun v4 h4 =>
 bnd (aU x0 h4) fun v5 h5 =>
 bnd (aB 0 v5 h5) fun v6 h6 =>
 bnd (aA v6 h6) fun v7 h7 =>
 bnd (fS v7 h7) fun v8 h8 =>
 bnd (aE .geq v4 v8 h8) fun v9 h9 =>
 aT v9 (
 some ((.i .u8 (Int.ofNat 0)), h9)) (
 bnd (aU x0 h9) fun v10 h10 =>
 bnd (aB 0 v10 h10) fun v11 h11 =>
 bnd (aA v11 h11) fun v12 h12 =>
 bnd (aU x0 h12) fun v13 h13 =>
 bnd (aB 1 v13 h13) fun v14 h14 =>
 bnd (aA v14 h14) fun v15 h15 =>
 bnd (aE .add v15 x1 h15) fun v16 h16 =>
 bnd (fF v12 v16 h16) fun v17 h17 =>
 some (v17, h17))
noncomputable abbrev c230 : Code := cf Tryz.f230
noncomputable abbrev r230 : K := aQ CF Tryz.f230
noncomputable def D230 (r : RT) (n : Nat) (c : Code) (X : Nat → K) (k : K) : K := aM CF r 28 n c X r230 k
theorem dVz : D230 r n c230 x0 r230 = (K2 (s230 r n) 0 1) :=
 (by kernel_rfl)
theorem dLo : aG CF r n 230 args h = s230 r n (aR args 0) (aR args 1) h :=
 (by kernel_rfl : aG CF r n 230 args h = D230 r n c230 x0 r230 (aK args) h).trans ((congrFun (congrFun (dVz r n) (aK args)) h).trans (by kernel_rfl))
noncomputable def s231 (r : RT) (n : Nat) (x0 : DV) (h0 : Hp) : aH :=
 bnd (aE .geq x0 (.i .u8 (Int.ofNat 97)) h0) fun v1 h1 =>
 bnd (gD v1 true (some (x0, h1)) h1) fun v2 h2 =>
 bnd (gD v1 true (aE .leq v2 (.i .u8 (Int.ofNat 122)) h2) h2) fun v3 h3 =>
 bnd (aP v1 v3 (.b false) h3) fun v4 h4 =>
 bnd (gD v4 false (some (x0, h4)) h4) fun v5 h5 =>
 bnd (gD v4 false (aE .geq v5 (.i .u8 (Int.ofNat 65)) h5) h5) fun v6 h6 =>
 bnd (gD v4 false (some (v6, h6)) h6) fun v7 h7 =>
 bnd (gD v7 true (some (x0, h7)) h7) fun v8 h8 =>
 bnd (gD v7 true (aE .leq v8 (.i .u8 (Int.ofNat 90)) h8) h8) fun v9 h9 =>
 bnd (gD v4 false (aP v7 v9 (.b false) h9) h9) fun v10 h10 =>
 bnd (aP v4 (.b true) v10 h10) fun v11 h11 =>
 some (v11, h11)
noncomputable abbrev c231 : Code := cf Tryz.f231
noncomputable abbrev r231 : K := aQ CF Tryz.f231
noncomputable def D231 (r : RT) (n : Nat) (c : Code) (X : Nat → K) (k : K) : K := aM CF r 17 n c X r231 k
theorem dXm : D231 r n c231 x0 r231 = (K1 (s231 r n) 0) :=
 (by kernel_rfl)
theorem dEp : aG CF r n 231 args h = s231 r n (aR args 0) h :=
 (by kernel_rfl : aG CF r n 231 args h = D231 r n c231 x0 r231 (aK args) h).trans ((congrFun (congrFun (dXm r n) (aK args)) h).trans (by kernel_rfl))
noncomputable def s232 (r : RT) (n : Nat) (x0 : DV) (h0 : Hp) : aH :=
 bnd (aU x0 h0) fun v1 h1 =>
 bnd (aB 0 v1 h1) fun v2 h2 =>
 bnd (aA v2 h2) fun v3 h3 =>
 bnd (fS v3 h3) fun v4 h4 =>
 bnd (r 197 [x0, (.f 267 [] []), v4] h4) fun v5 h5 =>
 bnd (fS v5 h5) fun v6 h6 =>
 bnd (aE .gtr v6 (aF 24) h6) fun v7 h7 =>
 aT v7 (
 some (.t [(.s []), (aF 12)], h7)) (
 some (.t [v5, (aF 0)], h7))
noncomputable abbrev c232 : Code := cf Tryz.f232
noncomputable abbrev r232 : K := aQ CF Tryz.f232
noncomputable def D232 (r : RT) (n : Nat) (c : Code) (X : Nat → K) (k : K) : K := aM CF r 16 n c X r232 k
theorem dVc : D232 r n c232 x0 r232 = (K1 (s232 r n) 0) :=
 (by kernel_rfl)
theorem dPa : aG CF r n 232 args h = s232 r n (aR args 0) h :=
 (by kernel_rfl : aG CF r n 232 args h = D232 r n c232 x0 r232 (aK args) h).trans ((congrFun (congrFun (dVc r n) (aK args)) h).trans (by kernel_rfl))
noncomputable def s233 (r : RT) (n : Nat) (x0 : DV) (h0 : Hp) : aH :=
 bnd (r 230 [x0, (aF 0)] h0) fun v1 h1 =>
 bnd (aE .neq v1 (.i .u8 (Int.ofNat 58)) h1) fun v2 h2 =>
 bnd (gD v2 false (some (x0, h2)) h2) fun v3 h3 =>
 bnd (gD v2 false (r 230 [v3, (aF 1)] h3) h3) fun v4 h4 =>
 bnd (gD v2 false (aE .eql v4 (.i .u8 (Int.ofNat 61)) h4) h4) fun v5 h5 =>
 bnd (aP v2 (.b true) v5 h5) fun v6 h6 =>
 aT v6 (
 some ((.b false), h6)) (
 bnd (aU x0 h6) fun v7 h7 =>
 bnd (aB 1 v7 h7) fun v8 h8 =>
 bnd (aA v8 h8) fun v9 h9 =>
 bnd (aE .add v9 (aF 1) h9) fun v10 h10 =>
 bnd (aU x0 h10) fun v11 h11 =>
 bnd (aB 1 v11 h11) fun v12 h12 =>
 bnd (aC 1 v12 v10 h12) fun _ h13 =>
 some ((.b true), h13))
noncomputable abbrev c233 : Code := cf Tryz.f233
noncomputable abbrev r233 : K := aQ CF Tryz.f233
noncomputable def D233 (r : RT) (n : Nat) (c : Code) (X : Nat → K) (k : K) : K := aM CF r 18 n c X r233 k
theorem dVl : D233 r n c233 x0 r233 = (K1 (s233 r n) 0) :=
 (by kernel_rfl)
theorem dLf : aG CF r n 233 args h = s233 r n (aR args 0) h :=
 (by kernel_rfl : aG CF r n 233 args h = D233 r n c233 x0 r233 (aK args) h).trans ((congrFun (congrFun (dVl r n) (aK args)) h).trans (by kernel_rfl))
noncomputable def s234 (r : RT) (n : Nat) (x0 : DV) (h0 : Hp) : aH :=
 bnd (aE .geq x0 (.i .u8 (Int.ofNat 48)) h0) fun v1 h1 =>
 bnd (gD v1 true (some (x0, h1)) h1) fun v2 h2 =>
 bnd (gD v1 true (aE .leq v2 (.i .u8 (Int.ofNat 57)) h2) h2) fun v3 h3 =>
 bnd (aP v1 v3 (.b false) h3) fun v4 h4 =>
 some (v4, h4)
noncomputable abbrev c234 : Code := cf Tryz.f234
noncomputable abbrev r234 : K := aQ CF Tryz.f234
noncomputable def D234 (r : RT) (n : Nat) (c : Code) (X : Nat → K) (k : K) : K := aM CF r 9 n c X r234 k
theorem dXq : D234 r n c234 x0 r234 = (K1 (s234 r n) 0) :=
 (by kernel_rfl)
theorem dQc : aG CF r n 234 args h = s234 r n (aR args 0) h :=
 (by kernel_rfl : aG CF r n 234 args h = D234 r n c234 x0 r234 (aK args) h).trans ((congrFun (congrFun (dXq r n) (aK args)) h).trans (by kernel_rfl))
noncomputable def fG (r : RT) (n : Nat) (x4 : DV) (h0 : Hp) : aH :=
 some (.t [x4, (aF 0)], h0)
noncomputable def bGo (r : RT) (n : Nat) (kk5 : eM) (x4 x14 : DV) (h0 : Hp) : aH :=
 bnd (sY x14 h0) fun v1 h1 =>
 bnd (aD 0 v1 h1) fun v2 h2 =>
 aT v2 (
 bnd (aD 2 v1 h2) fun v3 h3 =>
 bnd (aE .gtr x4 (aF 115292150460684697) h3) fun v4 h4 =>
 aT v4 (
 some (.t [(aF 0), (aF 2)], h4)) (
 bnd (aE .mul x4 (aF 10) h4) fun v5 h5 =>
 bnd (aE .sub v3 (.i .i32 (Int.ofNat 48)) h5) fun v6 h6 =>
 bnd (eK .i64 v6 h6) fun v7 h7 =>
 bnd (aE .add v5 v7 h7) fun v8 h8 =>
 bnd (aE .gtr v8 (aF 1152921504606846976) h8) fun v9 h9 =>
 aT v9 (
 some (.t [(aF 0), (aF 2)], h9)) (
     kk5 v8 x14 h9))) (
   fG r n x4 h2)
noncomputable def uF (r : RT) (n : Nat) (m : Nat) : eM :=
 Nat.rec (motive := fun _ => eM) (fun _ _ _ => none) (fun _ ih => bGo r n ih) m
noncomputable def cGn (r : RT) (n : Nat) : eM := uF r n n
noncomputable def aXs (r : RT) (n : Nat) (x4 x14 : DV) (h0 : Hp) : aH :=
 cGn r n x4 x14 h0
noncomputable def aYx (r : RT) (n : Nat) (x0 x4 : DV) (h0 : Hp) : aH :=
 bnd (aU x0 h0) fun v1 h1 =>
 bnd (aB 0 v1 h1) fun v2 h2 =>
 bnd (aA v2 h2) fun v3 h3 =>
 bnd (fS v3 h3) fun v4 h4 =>
 bnd (r 197 [x0, (.f 234 [] []), v4] h4) fun v5 h5 =>
 bnd (mV v5 h5) fun v6 h6 =>
  aXs r n x4 v6 h6
noncomputable def aXa (r : RT) (n : Nat) (x0 : DV) (h0 : Hp) : aH :=
 aYx r n x0 (aF 0) h0
noncomputable def s235 (r : RT) (n : Nat) (x0 : DV) (h0 : Hp) : aH :=
 aXa r n x0 h0
noncomputable abbrev c235 : Code := cf Tryz.f235
noncomputable abbrev aGy : Code := cR c235
noncomputable abbrev aOq : Code := cR aGy
noncomputable abbrev dOs : Code := cR aOq
noncomputable abbrev aAm : Code := cL aOq
noncomputable abbrev aSq : Code := cR aAm
noncomputable abbrev aIo : Code := cL aSq
noncomputable abbrev oX : Code := cL aIo
noncomputable abbrev cAm : Code := cL aAm
noncomputable abbrev bPk : Code := cL aGy
noncomputable abbrev bEq : Code := cL c235
noncomputable abbrev r235 : K := aQ CF Tryz.f235
noncomputable def D235 (r : RT) (n : Nat) (c : Code) (X : Nat → K) (k : K) : K := aM CF r 29 n c X r235 k
theorem cYe : D235 r n dOs x0 r235 = (K1 (fG r n) 4) :=
 (by kernel_rfl)
theorem bTd (kk5 : eM) : D235 r n oX (xs x0 0 (K1 (fG r n) 4)) (K2 kk5 4 14) = (K2 (bGo r n kk5) 4 14) :=
 (by kernel_rfl)
theorem bPl (m : Nat) : aL (fun kk => D235 r n oX (xs x0 0 (K1 (fG r n) 4)) kk) m = (K2 (uF r n m) 4 14) := by
 induction m with
 | zero => exact (by kernel_rfl : aL (fun kk => D235 r n oX (xs x0 0 (K1 (fG r n) 4)) kk) 0 = (K2 (uF r n 0) 4 14))
 | succ m ih =>
  refine (by kernel_rfl : aL (fun kk => D235 r n oX (xs x0 0 (K1 (fG r n) 4)) kk) (m + 1) = D235 r n oX (xs x0 0 (K1 (fG r n) 4)) (aL (fun kk => D235 r n oX (xs x0 0 (K1 (fG r n) 4)) kk) m)).trans ?_
  rw [ih]
  exact (bTd r n (uF r n m)).trans (by kernel_rfl)
theorem cUi : D235 r n aIo (xs x0 0 (K1 (fG r n) 4)) (K1 (fG r n) 4) = (K2 (cGn r n) 4 14) :=
 (by kernel_rfl : D235 r n aIo (xs x0 0 (K1 (fG r n) 4)) (K1 (fG r n) 4) = aL (fun kk => D235 r n oX (xs x0 0 (K1 (fG r n) 4)) kk) n).trans ((bPl r n n).trans (by kernel_rfl))
theorem dCw : D235 r n aSq x0 (K1 (fG r n) 4) = (K2 (aXs r n) 4 14) :=
 (by kernel_rfl : D235 r n aSq x0 (K1 (fG r n) 4) = D235 r n aIo (xs x0 0 (K1 (fG r n) 4)) (K1 (fG r n) 4)).trans
 ((cUi r n).trans (by kernel_rfl))
theorem bWd : D235 r n aOq x0 r235 = D235 r n aAm x0 (K1 (fG r n) 4) :=
 congrArg (fun k => D235 r n aAm x0 k) (cYe r n)
theorem bPu : D235 r n aAm x0 (K1 (fG r n) 4) = D235 r n cAm x0 (K2 (aXs r n) 4 14) :=
 congrArg (fun k => D235 r n cAm x0 k) (dCw r n)
theorem cXs : D235 r n aOq x0 r235 = (K2 (aYx r n) 0 4) :=
 (bWd r n).trans
 ((bPu r n).trans
 ((by kernel_rfl)))
theorem bTs : D235 r n aGy x0 r235 = D235 r n bPk x0 (K2 (aYx r n) 0 4) :=
 congrArg (fun k => D235 r n bPk x0 k) (cXs r n)
theorem dAv : D235 r n aGy x0 r235 = (K1 (aXa r n) 0) :=
 (bTs r n).trans
 ((by kernel_rfl))
theorem dIx : D235 r n c235 x0 r235 = D235 r n bEq x0 (K1 (aXa r n) 0) :=
 congrArg (fun k => D235 r n bEq x0 k) (dAv r n)
theorem dTg : D235 r n c235 x0 r235 = (K1 (s235 r n) 0) :=
 (dIx r n).trans
 ((by kernel_rfl))
theorem dNg : aG CF r n 235 args h = s235 r n (aR args 0) h :=
 (by kernel_rfl : aG CF r n 235 args h = D235 r n c235 x0 r235 (aK args) h).trans ((congrFun (congrFun (dTg r n) (aK args)) h).trans (by kernel_rfl))
end Go.Dd

