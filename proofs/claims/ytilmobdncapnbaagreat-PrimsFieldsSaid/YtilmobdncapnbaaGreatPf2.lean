/- A part of the proof: Q3 Q4 Q5 Q6 Q7 Q8: each text has a comment of its own. -/
import Derived.Test.YtilmobdncapnbaaGreatPf1
set_option linter.unusedVariables false
set_option linter.unusedSimpArgs false
set_option linter.constructorNameAsVariable false
set_option maxRecDepth 100000
namespace Go.Dd
open Go.Proofs
variable (r : RT) (n : Nat) (args : List DV) (h : Hp)
noncomputable def s95 (r : RT) (n : Nat) (x0 : DV) (h0 : Hp) : aI :=
 aS x0 (
 some (.t [(aE 2), (aE 0)], h0)) (
 some (.t [(aE 4), (aE 0)], h0))
noncomputable abbrev c95 : Code := cf Tryz.f95
noncomputable abbrev r95 : K := aU CF Tryz.f95
noncomputable def D95 (r : RT) (n : Nat) (c : Code) (X : Nat → K) (k : K) : K := aM CF r 5 n c X r95 k
theorem dMo : D95 r n c95 x0 r95 = (K1 (s95 r n) 0) :=
 (by kernel_rfl)
theorem dHe : aF CF r n 95 args h = s95 r n (aR args 0) h :=
 (by kernel_rfl : aF CF r n 95 args h = D95 r n c95 x0 r95 (aH args) h).trans ((congrFun (congrFun (dMo r n) (aH args)) h).trans (by kernel_rfl))
noncomputable def s96 (r : RT) (n : Nat) (x0 x1 : DV) (h0 : Hp) : aI :=
 bnd (bR x0 h0) fun v1 h1 =>
 bnd (aA v1 (resv 1 h1)) fun v2 h2 =>
 bnd (aO v2 h2) fun v3 h3 =>
 bnd (aB 0 v3 h3) fun v4 h4 =>
 bnd (aA v4 h4) fun v5 h5 =>
 bnd (aA v1 h5) fun v6 h6 =>
 bnd (aO v6 h6) fun v7 h7 =>
 bnd (aB 2 v7 h7) fun v8 h8 =>
 bnd (aA v8 h8) fun v9 h9 =>
 bnd (r 25 [v5, v9] h9) fun v10 h10 =>
 bnd (iK (bW 0 h1.next) [(.i .i64 (Int.ofNat 0))] h10) fun v11 h11 =>
 bnd (aG 1 v11 v10 h11) fun v12 h12 =>
 bnd (r 52 [x1, (.f 109 [] [v1, v11])] h12) fun v13 h13 =>
 some (v13, h13)
noncomputable abbrev c96 : Code := cf Tryz.f96
noncomputable abbrev r96 : K := aU CF Tryz.f96
noncomputable def D96 (r : RT) (n : Nat) (c : Code) (X : Nat → K) (k : K) : K := aM CF r 18 n c X r96 k
theorem dLr : D96 r n c96 x0 r96 = (K2 (s96 r n) 0 1) :=
 (by kernel_rfl)
theorem cPo : aF CF r n 96 args h = s96 r n (aR args 0) (aR args 1) h :=
 (by kernel_rfl : aF CF r n 96 args h = D96 r n c96 x0 r96 (aH args) h).trans ((congrFun (congrFun (dLr r n) (aH args)) h).trans (by kernel_rfl))
noncomputable def s97 (r : RT) (n : Nat) (x0 : DV) (h0 : Hp) : aI :=
 bnd (aO x0 h0) fun v1 h1 =>
 bnd (aB 0 v1 h1) fun v2 h2 =>
 bnd (aA v2 h2) fun v3 h3 =>
 bnd (aO x0 h3) fun v4 h4 =>
 bnd (aB 3 v4 h4) fun v5 h5 =>
 bnd (aA v5 h5) fun v6 h6 =>
 bnd (aJ 1 v6 (.i .i64 (Int.ofNat 0)) h6) fun v7 h7 =>
 bnd (aA v7 h7) fun v8 h8 =>
 bnd (r 15 [v3, v8] h8) fun v9 h9 =>
 bnd (aC 0 v9 h9) fun v10 h10 =>
 bnd (aC 1 v9 h10) fun v11 h11 =>
 bnd (aD .sub v10 (.i .i64 (Int.ofNat 1)) h11) fun v12 h12 =>
 bnd (gD v11 true (some (v10, h12)) h12) fun v13 h13 =>
 bnd (gD v11 true (aD .geq v13 (.i .i64 (Int.ofNat 1)) h13) h13) fun v14 h14 =>
 bnd (aP v11 v14 (.b false) h14) fun v15 h15 =>
 bnd (gD v15 true (some (v10, h15)) h15) fun v16 h16 =>
 bnd (gD v15 true (some (x0, h16)) h16) fun v17 h17 =>
 bnd (gD v15 true (aO v17 h17) h17) fun v18 h18 =>
 bnd (gD v15 true (aB 0 v18 h18) h18) fun v19 h19 =>
 bnd (gD v15 true (aA v19 h19) h19) fun v20 h20 =>
 bnd (gD v15 true (r 23 [v20] h20) h20) fun v21 h21 =>
 bnd (gD v15 true (some (x0, h21)) h21) fun v22 h22 =>
 bnd (gD v15 true (aO v22 h22) h22) fun v23 h23 =>
 bnd (gD v15 true (aB 2 v23 h23) h23) fun v24 h24 =>
 bnd (gD v15 true (aA v24 h24) h24) fun v25 h25 =>
 cnd (bG (gD v15 true (aA v24 h11) h11) v25 && true) (
 bnd (gD v15 true (eJ [v21, v25] h25) h25) fun v26 h26 =>
 bnd (gD v15 true (aD .leq v16 v26 h26) h26) fun v27 h27 =>
 bnd (aP v15 v27 (.b false) h27) fun v28 h28 =>
 some (.t [v12, v28], h28))
noncomputable abbrev c97 : Code := cf Tryz.f97
noncomputable abbrev r97 : K := aU CF Tryz.f97
noncomputable def D97 (r : RT) (n : Nat) (c : Code) (X : Nat → K) (k : K) : K := aM CF r 41 n c X r97 k
theorem dKv : D97 r n c97 x0 r97 = (K1 (s97 r n) 0) :=
 (by kernel_rfl)
theorem cQe : aF CF r n 97 args h = s97 r n (aR args 0) h :=
 (by kernel_rfl : aF CF r n 97 args h = D97 r n c97 x0 r97 (aH args) h).trans ((congrFun (congrFun (dKv r n) (aH args)) h).trans (by kernel_rfl))
noncomputable def s99 (r : RT) (n : Nat) (x0 : DV) (h0 : Hp) : aI :=
 bnd (bL jZ h0) fun v1 h1 =>
 bnd (r 110 [x0, (.f 111 [] [])] h1) fun v2 h2 =>
 bnd (aC 0 v2 h2) fun v3 h3 =>
 bnd (aC 1 v2 h3) fun v4 h4 =>
 bnd (aC 2 v2 h4) fun v5 h5 =>
 bnd (aG 6 v1 v3 h5) fun _ h6 =>
 bnd (aK 6 v1 h6) fun v7 _ =>
 some (.t [v7, v4, v5], h6)
noncomputable abbrev c99 : Code := cf Tryz.f99
noncomputable abbrev r99 : K := aU CF Tryz.f99
noncomputable def D99 (r : RT) (n : Nat) (c : Code) (X : Nat → K) (k : K) : K := aM CF r 10 n c X r99 k
theorem dMx : D99 r n c99 x0 r99 = (K1 (s99 r n) 0) :=
 (by kernel_rfl)
theorem dEc : aF CF r n 99 args h = s99 r n (aR args 0) h :=
 (by kernel_rfl : aF CF r n 99 args h = D99 r n c99 x0 r99 (aH args) h).trans ((congrFun (congrFun (dMx r n) (aH args)) h).trans (by kernel_rfl))
noncomputable def s100 (r : RT) (n : Nat) (x0 x1 : DV) (h0 : Hp) : aI :=
 bnd (bR x0 h0) fun v1 h1 =>
 bnd (bL [(.s []), (aE 0), (aE 0), (aE 0), .l0, .l0] h1) fun v2 h2 =>
 bnd (aK 6 v1 h2) fun v3 h3 =>
 bnd (r 112 [v3, x1, (.b false)] h3) fun v4 h4 =>
 bnd (aC 0 v4 h4) fun v5 h5 =>
 bnd (aC 1 v4 h5) fun v6 h6 =>
 bnd (aC 2 v4 h6) fun v7 h7 =>
 bnd (aG 6 v2 v5 h7) fun _ h8 =>
 bnd (aK 6 v2 h8) fun v9 _ =>
 some (.t [v9, v6, v7], h8)
noncomputable abbrev c100 : Code := cf Tryz.f100
noncomputable abbrev r100 : K := aU CF Tryz.f100
noncomputable def D100 (r : RT) (n : Nat) (c : Code) (X : Nat → K) (k : K) : K := aM CF r 13 n c X r100 k
theorem dIv : D100 r n c100 x0 r100 = (K2 (s100 r n) 0 1) :=
 (by kernel_rfl)
theorem dBi : aF CF r n 100 args h = s100 r n (aR args 0) (aR args 1) h :=
 (by kernel_rfl : aF CF r n 100 args h = D100 r n c100 x0 r100 (aH args) h).trans ((congrFun (congrFun (dIv r n) (aH args)) h).trans (by kernel_rfl))
noncomputable def s101 (r : RT) (n : Nat) (x0 x1 x2 : DV) (h0 : Hp) : aI :=
 bnd (bR x2 h0) fun v1 h1 =>
 bnd (aK 6 v1 h1) fun v2 h2 =>
 bnd (r 113 [x0, x1, v2] h2) fun v3 h3 =>
 bnd (aC 0 v3 h3) fun v4 h4 =>
 bnd (aC 1 v3 h4) fun v5 h5 =>
 bnd (aD .neq v5 (aE 0) h5) fun v6 h6 =>
 aS v6 (
 some (.t [(aE 0), v5], h6)) (
 bnd (r 51 [x0, v4, (aE 0)] h6) fun v7 h7 =>
 bnd (r 114 [x0, x1, v7, v4] h7) fun v8 h8 =>
 bnd (aD .neq v8 (aE 0) h8) fun v9 h9 =>
 aS v9 (
 some (.t [(aE 0), v8], h9)) (
 some (.t [v4, (aE 0)], h9)))
noncomputable abbrev c101 : Code := cf Tryz.f101
noncomputable abbrev r101 : K := aU CF Tryz.f101
noncomputable def D101 (r : RT) (n : Nat) (c : Code) (X : Nat → K) (k : K) : K := aM CF r 32 n c X r101 k
theorem dCz : D101 r n c101 x0 r101 = (K3 (s101 r n) 0 1 2) :=
 (by kernel_rfl)
theorem cWz : aF CF r n 101 args h = s101 r n (aR args 0) (aR args 1) (aR args 2) h :=
 (by kernel_rfl : aF CF r n 101 args h = D101 r n c101 x0 r101 (aH args) h).trans ((congrFun (congrFun (dCz r n) (aH args)) h).trans (by kernel_rfl))
noncomputable def s109 (r : RT) (n : Nat) (x0 x1 x2 : DV) (h0 : Hp) : aI :=
 bnd (aA x1 h0) fun v1 h1 =>
 bnd (aO v1 h1) fun v2 h2 =>
 bnd (aB 0 v2 h2) fun v3 h3 =>
 bnd (aA v3 h3) fun v4 h4 =>
 bnd (r 30 [v4, x0] h4) fun v5 h5 =>
 bnd (aA x2 h5) fun v6 h6 =>
 cnd (bG (aA x2 h0) v6 && true) (
 bnd (aD .eql v5 v6 h6) fun v7 h7 =>
 some (v7, h7))
noncomputable abbrev c109 : Code := cf Tryz.f109
noncomputable abbrev r109 : K := aU CF Tryz.f109
noncomputable def D109 (r : RT) (n : Nat) (c : Code) (X : Nat → K) (k : K) : K := aM CF r 13 n c X r109 k
theorem dHm : D109 r n c109 x0 r109 = (K3 (s109 r n) 0 1 2) :=
 (by kernel_rfl)
theorem bWg : aF CF r n 109 args h = s109 r n (aR args 0) (aR args 1) (aR args 2) h :=
 (by kernel_rfl : aF CF r n 109 args h = D109 r n c109 x0 r109 (aH args) h).trans ((congrFun (congrFun (dHm r n) (aH args)) h).trans (by kernel_rfl))
noncomputable def s110 (r : RT) (n : Nat) (x0 x1 : DV) (h0 : Hp) : aI :=
 bnd (bL jZ h0) fun v1 h1 =>
 bnd (r 117 [x0] h1) fun v2 h2 =>
 bnd (aC 0 v2 h2) fun v3 h3 =>
 bnd (aC 1 v2 h3) fun v4 h4 =>
 bnd (aC 2 v2 h4) fun v5 h5 =>
 bnd (aD .neq v5 (aE 0) h5) fun v6 h6 =>
 aS v6 (
 bnd (bB jZ [] h6) fun v7 h7 =>
 bnd (aG 6 v1 v7 h7) fun _ h8 =>
 bnd (aK 6 v1 h8) fun v9 _ =>
 some (.t [v9, v4, v5], h8)) (
 bnd (bB [.l0, (aE 0), (aE 0), (aE 0)] [(0, 1, v3)] h6) fun v10 h10 =>
 bnd (bR v10 h10) fun v11 h11 =>
 bnd (cX CF r x1 [v11] h11) fun v12 h12 =>
 bnd (bL jZ h12) fun v13 h13 =>
 bnd (aG 6 v13 v12 h13) fun _ h14 =>
 bnd (r 118 [v11] h14) fun v15 h15 =>
 bnd (aB 4 v13 h15) fun v16 h16 =>
 bnd (aG 1 v16 v15 h16) fun _ h17 =>
 bnd (r 119 [v11] h17) fun v18 h18 =>
 bnd (aB 5 v13 h18) fun v19 h19 =>
 bnd (aG 1 v19 v18 h19) fun _ h20 =>
 bnd (r 120 [v11, (aE 0), (.s [])] h20) fun v21 h21 =>
 bnd (aO v11 h21) fun v22 h22 =>
 bnd (aB 3 v22 h22) fun v23 h23 =>
 bnd (aA v23 h23) fun v24 h24 =>
 bnd (aD .neq v24 (aE 0) h24) fun v25 h25 =>
 aS v25 (
 bnd (bB jZ [] h25) fun v26 h26 =>
 bnd (aO v11 h26) fun v27 h27 =>
 bnd (aB 2 v27 h27) fun v28 h28 =>
 bnd (aA v28 h28) fun v29 h29 =>
 bnd (aO v11 h29) fun v30 h30 =>
 bnd (aB 3 v30 h30) fun v31 h31 =>
 bnd (aA v31 h31) fun v32 h32 =>
 bnd (aG 6 v1 v26 h32) fun v33 h33 =>
 cnd (bG (aA v31 h33) v32 && (bG (aA v28 h33) v29 && true)) (
 bnd (aK 6 v1 h33) fun v34 _ =>
 some (.t [v34, v29, v32], h33))) (
 bnd (aK 6 v13 h25) fun v35 h35 =>
 bnd (aG 6 v1 v35 h35) fun _ h36 =>
 bnd (aK 6 v1 h36) fun v37 _ =>
 some (.t [v37, (aE 0), (aE 0)], h36)))
noncomputable abbrev c110 : Code := cf Tryz.f110
noncomputable abbrev r110 : K := aU CF Tryz.f110
noncomputable def D110 (r : RT) (n : Nat) (c : Code) (X : Nat → K) (k : K) : K := aM CF r 52 n c X r110 k
theorem dEb : D110 r n c110 x0 r110 = (K2 (s110 r n) 0 1) :=
 (by kernel_rfl)
theorem dAo : aF CF r n 110 args h = s110 r n (aR args 0) (aR args 1) h :=
 (by kernel_rfl : aF CF r n 110 args h = D110 r n c110 x0 r110 (aH args) h).trans ((congrFun (congrFun (dEb r n) (aH args)) h).trans (by kernel_rfl))
noncomputable def s111 (r : RT) (n : Nat) (x0 : DV) (h0 : Hp) : aI :=
 bnd (bL jZ h0) fun v1 h1 =>
 bnd (bB jZ [(0, 1, (aE 11))] h1) fun v2 h2 =>
 bnd (bL jZ h2) fun v3 h3 =>
 bnd (aG 6 v3 v2 h3) fun _ h4 =>
 bnd (r 121 [x0, v3] h4) fun v5 h5 =>
 bnd (r 122 [x0] h5) fun v6 h6 =>
 bnd (aB 2 v3 h6) fun v7 h7 =>
 bnd (aG 1 v7 v6 h7) fun _ h8 =>
 bnd (aK 6 v3 h8) fun v9 h9 =>
 bnd (aG 6 v1 v9 h9) fun _ h10 =>
 bnd (aK 6 v1 h10) fun v11 _ =>
 some (v11, h10)
noncomputable abbrev c111 : Code := cf Tryz.f111
noncomputable abbrev r111 : K := aU CF Tryz.f111
noncomputable def D111 (r : RT) (n : Nat) (c : Code) (X : Nat → K) (k : K) : K := aM CF r 11 n c X r111 k
theorem dFe : D111 r n c111 x0 r111 = (K1 (s111 r n) 0) :=
 (by kernel_rfl)
theorem cZj : aF CF r n 111 args h = s111 r n (aR args 0) h :=
 (by kernel_rfl : aF CF r n 111 args h = D111 r n c111 x0 r111 (aH args) h).trans ((congrFun (congrFun (dFe r n) (aH args)) h).trans (by kernel_rfl))
noncomputable def eD (r : RT) (n : Nat) (x6 x9 : DV) (h0 : Hp) : aI :=
 bnd (aO x9 h0) fun v1 h1 =>
 bnd (aB 0 v1 h1) fun v2 h2 =>
 bnd (aK 6 v2 h2) fun v3 h3 =>
 bnd (aG 6 x6 v3 h3) fun _ h4 =>
 bnd (aK 6 x6 h4) fun v5 _ =>
 some (.t [v5, (.s []), (aE 0)], h4)
noncomputable def aJf (r : RT) (n : Nat) (kk9 : cG) (x6 x9 x94 x95 x96 : DV) (h0 : Hp) : aI :=
 bnd (aD .lss x96 x95 h0) fun v1 h1 =>
 aS v1 (
 bnd (aJ 3 x94 x96 h1) fun v2 h2 =>
 bnd (aK 3 v2 h2) fun v3 h3 =>
 bnd (bL [(aE 0), (aE 0), (aE 0)] h3) fun v4 h4 =>
 bnd (aG 3 v4 v3 h4) fun _ h5 =>
 bnd (aK 3 v4 h5) fun v6 h6 =>
 bnd (r 124 [v6] h6) fun v7 h7 =>
 bnd (gX .not v7 h7) fun v8 h8 =>
 aS v8 (
 bnd (bB [(.s []), (aE 0), (aE 0), (aE 0), .l0, .l0] [] h8) fun v9 h9 =>
 bnd (aG 6 x6 v9 h9) fun _ h10 =>
 bnd (aK 6 x6 h10) fun v11 _ =>
 some (.t [v11, (.s []), (aE 12)], h10)) (
 bnd (aD .add x96 (aE 1) h8) fun v12 h12 =>
    kk9 x6 x9 x94 x95 v12 h12)) (
      eD r n x6 x9 h1)
noncomputable def uM (r : RT) (n : Nat) (m : Nat) : cG :=
 Nat.rec (motive := fun _ => cG) (fun _ _ _ _ _ _ => none) (fun _ ih => aJf r n ih) m
noncomputable def bSn (r : RT) (n : Nat) : cG := uM r n n
noncomputable def aPi (r : RT) (n : Nat) (x6 x9 x94 x95 x96 : DV) (h0 : Hp) : aI :=
 bSn r n x6 x9 x94 x95 x96 h0
noncomputable def vC (r : RT) (n : Nat) (x6 x9 : DV) (h0 : Hp) : aI :=
 bnd (aO x9 h0) fun v1 h1 =>
 bnd (aB 0 v1 h1) fun v2 h2 =>
 bnd (aB 5 v2 h2) fun v3 h3 =>
 bnd (aA v3 h3) fun v4 h4 =>
 bnd (bZ v4 h4) fun v5 h5 =>
  aPi r n x6 x9 v4 v5 (aE 0) h5
noncomputable def aBn (r : RT) (n : Nat) (x6 x9 : DV) (h0 : Hp) : aI :=
 bnd (aO x9 h0) fun v1 h1 =>
 bnd (aB 8 v1 h1) fun v2 h2 =>
 bnd (aA v2 h2) fun v3 h3 =>
 bnd (aD .neq v3 (aE 0) h3) fun v4 h4 =>
 aS v4 (
 bnd (bB [(.s []), (aE 0), (aE 0), (aE 0), .l0, .l0] [] h4) fun v5 h5 =>
 bnd (aO x9 h5) fun v6 h6 =>
 bnd (aB 7 v6 h6) fun v7 h7 =>
 bnd (aA v7 h7) fun v8 h8 =>
 bnd (aO x9 h8) fun v9 h9 =>
 bnd (aB 8 v9 h9) fun v10 h10 =>
 bnd (aA v10 h10) fun v11 h11 =>
 bnd (aG 6 x6 v5 h11) fun v12 h12 =>
 cnd (bG (aA v10 h12) v11 && (bG (aA v7 h12) v8 && true)) (
 bnd (aK 6 x6 h12) fun v13 _ =>
 some (.t [v13, v8, v11], h12))) (
 bnd (aO x9 h4) fun v14 h14 =>
 bnd (aB 0 v14 h14) fun v15 h15 =>
 bnd (aB 4 v15 h15) fun v16 h16 =>
 bnd (aA v16 h16) fun v17 h17 =>
 bnd (bZ v17 h17) fun v18 h18 =>
 bnd (aD .gtr v18 (aE 60) h18) fun v19 h19 =>
 aS v19 (
 bnd (bB [(.s []), (aE 0), (aE 0), (aE 0), .l0, .l0] [] h19) fun v20 h20 =>
 bnd (aG 6 x6 v20 h20) fun _ h21 =>
 bnd (aK 6 x6 h21) fun v22 _ =>
 some (.t [v22, (.s []), (aE 18)], h21)) (
 bnd (aO x9 h19) fun v23 h23 =>
 bnd (aB 0 v23 h23) fun v24 h24 =>
 bnd (aB 5 v24 h24) fun v25 h25 =>
 bnd (aA v25 h25) fun v26 h26 =>
 bnd (bZ v26 h26) fun v27 h27 =>
 bnd (aD .gtr v27 (aE 400) h27) fun v28 h28 =>
 aS v28 (
 bnd (bB [(.s []), (aE 0), (aE 0), (aE 0), .l0, .l0] [] h28) fun v29 h29 =>
 bnd (aG 6 x6 v29 h29) fun _ h30 =>
 bnd (aK 6 x6 h30) fun v31 _ =>
 some (.t [v31, (.s []), (aE 12)], h30)) (
    vC r n x6 x9 h28)))
noncomputable def eB (r : RT) (n : Nat) (x2 x3 x6 x9 : DV) (h0 : Hp) : aI :=
 bnd (aK 6 x3 h0) fun v1 h1 =>
 bnd (r 123 [x9, v1, x2] h1) fun v2 h2 =>
  aBn r n x6 x9 h2
noncomputable def wY (r : RT) (n : Nat) (kk11 : TT7) (x2 x3 x6 x9 x33 x34 x35 : DV) (h0 : Hp) : aI :=
 bnd (aD .lss x35 x34 h0) fun v1 h1 =>
 aS v1 (
 bnd (aJ 1 x33 x35 h1) fun v2 h2 =>
 bnd (aA v2 h2) fun v3 h3 =>
 bnd (aO x9 h3) fun v4 h4 =>
 bnd (aB 6 v4 h4) fun v5 h5 =>
 bnd (aA v5 h5) fun v6 h6 =>
 bnd (bB [(.s []), (.b false), (.b false), (aE 0)] [(0, 1, v3), (1, 1, (.b true)), (2, 1, (.b false)), (3, 1, x35)] h6) fun v7 h7 =>
 bnd (aL [(.s []), (.b false), (.b false), (aE 0)] 1 [(0, 4, v7)] h7) fun v8 h8 =>
 bnd (bA 4 32 v6 v8 h8) fun v9 h9 =>
 bnd (aO x9 h9) fun v10 h10 =>
 bnd (aB 6 v10 h10) fun v11 h11 =>
 bnd (aG 1 v11 v9 h11) fun _ h12 =>
 bnd (aD .add x35 (aE 1) h12) fun v13 h13 =>
      kk11 x2 x3 x6 x9 x33 x34 v13 h13) (
      eB r n x2 x3 x6 x9 h1)
noncomputable def pB (r : RT) (n : Nat) (m : Nat) : TT7 :=
 Nat.rec (motive := fun _ => TT7) (fun _ _ _ _ _ _ _ _ => none) (fun _ ih => wY r n ih) m
noncomputable def aVs (r : RT) (n : Nat) : TT7 := pB r n n
noncomputable def aEd (r : RT) (n : Nat) (x2 x3 x6 x9 x33 x34 x35 : DV) (h0 : Hp) : aI :=
 aVs r n x2 x3 x6 x9 x33 x34 x35 h0
noncomputable def vR (r : RT) (n : Nat) (x1 x2 x3 x6 x9 : DV) (h0 : Hp) : aI :=
 bnd (bZ x1 h0) fun v1 h1 =>
  aEd r n x2 x3 x6 x9 x1 v1 (aE 0) h1
noncomputable def pZ (r : RT) (n : Nat) (x1 x2 x3 x6 : DV) (h0 : Hp) : aI :=
 bnd (aB 1 x3 h0) fun v1 h1 =>
 bnd (aA v1 h1) fun v2 h2 =>
 bnd (aB 3 x3 h2) fun v3 h3 =>
 bnd (aA v3 h3) fun v4 h4 =>
 bnd (bZ v4 h4) fun v5 h5 =>
 bnd (aB 2 x3 h5) fun v6 h6 =>
 bnd (aA v6 h6) fun v7 h7 =>
 bnd (bB [(.s []), (aE 0), (aE 0), (aE 0), .l0, .l0] [(0, 1, v2), (1, 1, v5), (3, 1, v7)] h7) fun v8 h8 =>
 bnd (bB [(.s []), (aE 0), (aE 0), (aE 0), .l0, .l0, .l0, (.s []), (aE 0)] [(0, 6, v8)] h8) fun v9 h9 =>
 bnd (bR v9 h9) fun v10 h10 =>
  vR r n x1 x2 x3 x6 v10 h10
noncomputable def qN (r : RT) (n : Nat) (x1 x2 x3 x6 : DV) (h0 : Hp) : aI :=
 bnd (aB 0 x3 h0) fun v1 h1 =>
 bnd (aA v1 h1) fun v2 h2 =>
 bnd (aD .neq v2 (aE 11) h2) fun v3 h3 =>
 bnd (gD v3 false (some (x1, h3)) h3) fun v4 h4 =>
 bnd (gD v3 false (bZ v4 h4) h4) fun v5 h5 =>
 bnd (gD v3 false (aD .gtr v5 (aE 8) h5) h5) fun v6 h6 =>
 bnd (aP v3 (.b true) v6 h6) fun v7 h7 =>
 aS v7 (
 bnd (bB [(.s []), (aE 0), (aE 0), (aE 0), .l0, .l0] [] h7) fun v8 h8 =>
 bnd (aG 6 x6 v8 h8) fun _ h9 =>
 bnd (aK 6 x6 h9) fun v10 _ =>
 some (.t [v10, (.s []), (aE 1)], h9)) (
  pZ r n x1 x2 x3 x6 h7)
noncomputable def s112 (r : RT) (n : Nat) (x0 x1 x2 : DV) (h0 : Hp) : aI :=
 bnd (bR x0 h0) fun v1 h1 =>
 bnd (bL [(.s []), (aE 0), (aE 0), (aE 0), .l0, .l0] h1) fun v2 h2 =>
  qN r n x1 x2 v1 v2 h2
noncomputable abbrev c112 : Code := cf Tryz.f112
noncomputable abbrev aAw : Code := cR c112
noncomputable abbrev aFf : Code := cR aAw
noncomputable abbrev aEu : Code := cR aFf
noncomputable abbrev aJj : Code := cR aEu
noncomputable abbrev aAo : Code := cR aJj
noncomputable abbrev aCl : Code := cR aAo
noncomputable abbrev cVz : Code := cR aCl
noncomputable abbrev yQ : Code := cL aCl
noncomputable abbrev aRx : Code := cR yQ
noncomputable abbrev sI : Code := cL aRx
noncomputable abbrev jS : Code := cL sI
noncomputable abbrev aYi : Code := cL yQ
noncomputable abbrev aFm : Code := cL aAo
noncomputable abbrev aWx : Code := cL aJj
noncomputable abbrev pN : Code := cL aEu
noncomputable abbrev aIy : Code := cR pN
noncomputable abbrev tQ : Code := cL aIy
noncomputable abbrev jU : Code := cL tQ
noncomputable abbrev aZy : Code := cL pN
noncomputable abbrev aDs : Code := cL aFf
noncomputable abbrev aFr : Code := cL aAw
noncomputable abbrev aFy : Code := cL c112
noncomputable abbrev r112 : K := aU CF Tryz.f112
noncomputable def D112 (r : RT) (n : Nat) (c : Code) (X : Nat → K) (k : K) : K := aM CF r 109 n c X r112 k
theorem cJz : D112 r n cVz x0 r112 = (K2 (eD r n) 6 9) :=
 (by kernel_rfl)
theorem bJi (kk9 : cG) (q0 : oK) : D112 r n jS (xs x0 3 (K2 q0 6 9)) (K5 kk9 6 9 94 95 96) = fun (env : aZ) (h : Hp) =>
 bnd (aD .lss (env 96) (env 95) h) fun v1 h1 =>
 aS v1 (
 bnd (aJ 3 (env 94) (env 96) h1) fun v2 h2 =>
 bnd (aK 3 v2 h2) fun v3 h3 =>
 bnd (bL [(aE 0), (aE 0), (aE 0)] h3) fun v4 h4 =>
 bnd (aG 3 v4 v3 h4) fun _ h5 =>
 bnd (aK 3 v4 h5) fun v6 h6 =>
 bnd (r 124 [v6] h6) fun v7 h7 =>
 bnd (gX .not v7 h7) fun v8 h8 =>
 aS v8 (
 bnd (bB [(.s []), (aE 0), (aE 0), (aE 0), .l0, .l0] [] h8) fun v9 h9 =>
 bnd (aG 6 (env 6) v9 h9) fun _ h10 =>
 bnd (aK 6 (env 6) h10) fun v11 _ =>
 some (.t [v11, (.s []), (aE 12)], h10)) (
 bnd (aD .add (env 96) (aE 1) h8) fun v12 h12 =>
    kk9 (env 6) (env 9) (env 94) (env 95) v12 h12)) (
      q0 (env 6) (env 9) h1) := by kernel_rfl
theorem bDy (kk9 : cG) : (fun (env : aZ) (h : Hp) =>
 bnd (aD .lss (env 96) (env 95) h) fun v1 h1 =>
 aS v1 (
 bnd (aJ 3 (env 94) (env 96) h1) fun v2 h2 =>
 bnd (aK 3 v2 h2) fun v3 h3 =>
 bnd (bL [(aE 0), (aE 0), (aE 0)] h3) fun v4 h4 =>
 bnd (aG 3 v4 v3 h4) fun _ h5 =>
 bnd (aK 3 v4 h5) fun v6 h6 =>
 bnd (r 124 [v6] h6) fun v7 h7 =>
 bnd (gX .not v7 h7) fun v8 h8 =>
 aS v8 (
 bnd (bB [(.s []), (aE 0), (aE 0), (aE 0), .l0, .l0] [] h8) fun v9 h9 =>
 bnd (aG 6 (env 6) v9 h9) fun _ h10 =>
 bnd (aK 6 (env 6) h10) fun v11 _ =>
 some (.t [v11, (.s []), (aE 12)], h10)) (
 bnd (aD .add (env 96) (aE 1) h8) fun v12 h12 =>
    kk9 (env 6) (env 9) (env 94) (env 95) v12 h12)) (
      eD r n (env 6) (env 9) h1)) = (K5 (aJf r n kk9) 6 9 94 95 96) := by kernel_rfl
theorem bKc (kk9 : cG) : D112 r n jS (xs x0 3 (K2 (eD r n) 6 9)) (K5 kk9 6 9 94 95 96) = (K5 (aJf r n kk9) 6 9 94 95 96) :=
 (bJi r n kk9 (eD r n)).trans (bDy r n kk9)
theorem bQa (m : Nat) : aN (fun kk => D112 r n jS (xs x0 3 (K2 (eD r n) 6 9)) kk) m = (K5 (uM r n m) 6 9 94 95 96) := by
 induction m with
 | zero => exact (by kernel_rfl : aN (fun kk => D112 r n jS (xs x0 3 (K2 (eD r n) 6 9)) kk) 0 = (K5 (uM r n 0) 6 9 94 95 96))
 | succ m ih =>
  refine (by kernel_rfl : aN (fun kk => D112 r n jS (xs x0 3 (K2 (eD r n) 6 9)) kk) (m + 1) = D112 r n jS (xs x0 3 (K2 (eD r n) 6 9)) (aN (fun kk => D112 r n jS (xs x0 3 (K2 (eD r n) 6 9)) kk) m)).trans ?_
  rw [ih]
  exact (bKc r n (uM r n m)).trans (by kernel_rfl)
theorem cHv : D112 r n sI (xs x0 3 (K2 (eD r n) 6 9)) (K2 (eD r n) 6 9) = (K5 (bSn r n) 6 9 94 95 96) :=
 (by kernel_rfl : D112 r n sI (xs x0 3 (K2 (eD r n) 6 9)) (K2 (eD r n) 6 9) = aN (fun kk => D112 r n jS (xs x0 3 (K2 (eD r n) 6 9)) kk) n).trans ((bQa r n n).trans (by kernel_rfl))
theorem cAq : D112 r n aRx x0 (K2 (eD r n) 6 9) = (K5 (aPi r n) 6 9 94 95 96) :=
 (by kernel_rfl : D112 r n aRx x0 (K2 (eD r n) 6 9) = D112 r n sI (xs x0 3 (K2 (eD r n) 6 9)) (K2 (eD r n) 6 9)).trans
 ((cHv r n).trans (by kernel_rfl))
theorem bKb : D112 r n aCl x0 r112 = D112 r n yQ x0 (K2 (eD r n) 6 9) :=
 congrArg (fun k => D112 r n yQ x0 k) (cJz r n)
theorem bWp : D112 r n yQ x0 (K2 (eD r n) 6 9) = D112 r n aYi x0 (K5 (aPi r n) 6 9 94 95 96) :=
 congrArg (fun k => D112 r n aYi x0 k) (cAq r n)
theorem cLj : D112 r n aCl x0 r112 = (K2 (vC r n) 6 9) :=
 (bKb r n).trans
 ((bWp r n).trans
 ((by kernel_rfl)))
theorem bZi : D112 r n aAo x0 r112 = D112 r n aFm x0 (K2 (vC r n) 6 9) :=
 congrArg (fun k => D112 r n aFm x0 k) (cLj r n)
theorem bSf (q0 : oK) : D112 r n aFm x0 (K2 q0 6 9) = fun (env : aZ) (h : Hp) =>
 bnd (aO (env 9) h) fun v1 h1 =>
 bnd (aB 8 v1 h1) fun v2 h2 =>
 bnd (aA v2 h2) fun v3 h3 =>
 bnd (aD .neq v3 (aE 0) h3) fun v4 h4 =>
 aS v4 (
 bnd (bB [(.s []), (aE 0), (aE 0), (aE 0), .l0, .l0] [] h4) fun v5 h5 =>
 bnd (aO (env 9) h5) fun v6 h6 =>
 bnd (aB 7 v6 h6) fun v7 h7 =>
 bnd (aA v7 h7) fun v8 h8 =>
 bnd (aO (env 9) h8) fun v9 h9 =>
 bnd (aB 8 v9 h9) fun v10 h10 =>
 bnd (aA v10 h10) fun v11 h11 =>
 bnd (aG 6 (env 6) v5 h11) fun v12 h12 =>
 cnd (bG (aA v10 h12) v11 && (bG (aA v7 h12) v8 && true)) (
 bnd (aK 6 (env 6) h12) fun v13 _ =>
 some (.t [v13, v8, v11], h12))) (
 bnd (aO (env 9) h4) fun v14 h14 =>
 bnd (aB 0 v14 h14) fun v15 h15 =>
 bnd (aB 4 v15 h15) fun v16 h16 =>
 bnd (aA v16 h16) fun v17 h17 =>
 bnd (bZ v17 h17) fun v18 h18 =>
 bnd (aD .gtr v18 (aE 60) h18) fun v19 h19 =>
 aS v19 (
 bnd (bB [(.s []), (aE 0), (aE 0), (aE 0), .l0, .l0] [] h19) fun v20 h20 =>
 bnd (aG 6 (env 6) v20 h20) fun _ h21 =>
 bnd (aK 6 (env 6) h21) fun v22 _ =>
 some (.t [v22, (.s []), (aE 18)], h21)) (
 bnd (aO (env 9) h19) fun v23 h23 =>
 bnd (aB 0 v23 h23) fun v24 h24 =>
 bnd (aB 5 v24 h24) fun v25 h25 =>
 bnd (aA v25 h25) fun v26 h26 =>
 bnd (bZ v26 h26) fun v27 h27 =>
 bnd (aD .gtr v27 (aE 400) h27) fun v28 h28 =>
 aS v28 (
 bnd (bB [(.s []), (aE 0), (aE 0), (aE 0), .l0, .l0] [] h28) fun v29 h29 =>
 bnd (aG 6 (env 6) v29 h29) fun _ h30 =>
 bnd (aK 6 (env 6) h30) fun v31 _ =>
 some (.t [v31, (.s []), (aE 12)], h30)) (
     q0 (env 6) (env 9) h28))) := by kernel_rfl
theorem bBt : (fun (env : aZ) (h : Hp) =>
 bnd (aO (env 9) h) fun v1 h1 =>
 bnd (aB 8 v1 h1) fun v2 h2 =>
 bnd (aA v2 h2) fun v3 h3 =>
 bnd (aD .neq v3 (aE 0) h3) fun v4 h4 =>
 aS v4 (
 bnd (bB [(.s []), (aE 0), (aE 0), (aE 0), .l0, .l0] [] h4) fun v5 h5 =>
 bnd (aO (env 9) h5) fun v6 h6 =>
 bnd (aB 7 v6 h6) fun v7 h7 =>
 bnd (aA v7 h7) fun v8 h8 =>
 bnd (aO (env 9) h8) fun v9 h9 =>
 bnd (aB 8 v9 h9) fun v10 h10 =>
 bnd (aA v10 h10) fun v11 h11 =>
 bnd (aG 6 (env 6) v5 h11) fun v12 h12 =>
 cnd (bG (aA v10 h12) v11 && (bG (aA v7 h12) v8 && true)) (
 bnd (aK 6 (env 6) h12) fun v13 _ =>
 some (.t [v13, v8, v11], h12))) (
 bnd (aO (env 9) h4) fun v14 h14 =>
 bnd (aB 0 v14 h14) fun v15 h15 =>
 bnd (aB 4 v15 h15) fun v16 h16 =>
 bnd (aA v16 h16) fun v17 h17 =>
 bnd (bZ v17 h17) fun v18 h18 =>
 bnd (aD .gtr v18 (aE 60) h18) fun v19 h19 =>
 aS v19 (
 bnd (bB [(.s []), (aE 0), (aE 0), (aE 0), .l0, .l0] [] h19) fun v20 h20 =>
 bnd (aG 6 (env 6) v20 h20) fun _ h21 =>
 bnd (aK 6 (env 6) h21) fun v22 _ =>
 some (.t [v22, (.s []), (aE 18)], h21)) (
 bnd (aO (env 9) h19) fun v23 h23 =>
 bnd (aB 0 v23 h23) fun v24 h24 =>
 bnd (aB 5 v24 h24) fun v25 h25 =>
 bnd (aA v25 h25) fun v26 h26 =>
 bnd (bZ v26 h26) fun v27 h27 =>
 bnd (aD .gtr v27 (aE 400) h27) fun v28 h28 =>
 aS v28 (
 bnd (bB [(.s []), (aE 0), (aE 0), (aE 0), .l0, .l0] [] h28) fun v29 h29 =>
 bnd (aG 6 (env 6) v29 h29) fun _ h30 =>
 bnd (aK 6 (env 6) h30) fun v31 _ =>
 some (.t [v31, (.s []), (aE 12)], h30)) (
     vC r n (env 6) (env 9) h28)))) = (K2 (aBn r n) 6 9) := by kernel_rfl
theorem cIv : D112 r n aAo x0 r112 = (K2 (aBn r n) 6 9) :=
 (bZi r n).trans
 ((bSf r n (vC r n)).trans (bBt r n))
theorem bLs : D112 r n aJj x0 r112 = D112 r n aWx x0 (K2 (aBn r n) 6 9) :=
 congrArg (fun k => D112 r n aWx x0 k) (cIv r n)
theorem cJg : D112 r n aJj x0 r112 = (K4 (eB r n) 2 3 6 9) :=
 (bLs r n).trans
 ((by kernel_rfl))
theorem bCp (kk11 : TT7) (q0 : dJ) : D112 r n jU (xs x0 0 (K4 q0 2 3 6 9)) (K7 kk11 2 3 6 9 33 34 35) = fun (env : aZ) (h : Hp) =>
 bnd (aD .lss (env 35) (env 34) h) fun v1 h1 =>
 aS v1 (
 bnd (aJ 1 (env 33) (env 35) h1) fun v2 h2 =>
 bnd (aA v2 h2) fun v3 h3 =>
 bnd (aO (env 9) h3) fun v4 h4 =>
 bnd (aB 6 v4 h4) fun v5 h5 =>
 bnd (aA v5 h5) fun v6 h6 =>
 bnd (bB [(.s []), (.b false), (.b false), (aE 0)] [(0, 1, v3), (1, 1, (.b true)), (2, 1, (.b false)), (3, 1, (env 35))] h6) fun v7 h7 =>
 bnd (aL [(.s []), (.b false), (.b false), (aE 0)] 1 [(0, 4, v7)] h7) fun v8 h8 =>
 bnd (bA 4 32 v6 v8 h8) fun v9 h9 =>
 bnd (aO (env 9) h9) fun v10 h10 =>
 bnd (aB 6 v10 h10) fun v11 h11 =>
 bnd (aG 1 v11 v9 h11) fun _ h12 =>
 bnd (aD .add (env 35) (aE 1) h12) fun v13 h13 =>
      kk11 (env 2) (env 3) (env 6) (env 9) (env 33) (env 34) v13 h13) (
      q0 (env 2) (env 3) (env 6) (env 9) h1) := by kernel_rfl
theorem aNt (kk11 : TT7) : (fun (env : aZ) (h : Hp) =>
 bnd (aD .lss (env 35) (env 34) h) fun v1 h1 =>
 aS v1 (
 bnd (aJ 1 (env 33) (env 35) h1) fun v2 h2 =>
 bnd (aA v2 h2) fun v3 h3 =>
 bnd (aO (env 9) h3) fun v4 h4 =>
 bnd (aB 6 v4 h4) fun v5 h5 =>
 bnd (aA v5 h5) fun v6 h6 =>
 bnd (bB [(.s []), (.b false), (.b false), (aE 0)] [(0, 1, v3), (1, 1, (.b true)), (2, 1, (.b false)), (3, 1, (env 35))] h6) fun v7 h7 =>
 bnd (aL [(.s []), (.b false), (.b false), (aE 0)] 1 [(0, 4, v7)] h7) fun v8 h8 =>
 bnd (bA 4 32 v6 v8 h8) fun v9 h9 =>
 bnd (aO (env 9) h9) fun v10 h10 =>
 bnd (aB 6 v10 h10) fun v11 h11 =>
 bnd (aG 1 v11 v9 h11) fun _ h12 =>
 bnd (aD .add (env 35) (aE 1) h12) fun v13 h13 =>
      kk11 (env 2) (env 3) (env 6) (env 9) (env 33) (env 34) v13 h13) (
      eB r n (env 2) (env 3) (env 6) (env 9) h1)) = (K7 (wY r n kk11) 2 3 6 9 33 34 35) := by kernel_rfl
theorem bEu (kk11 : TT7) : D112 r n jU (xs x0 0 (K4 (eB r n) 2 3 6 9)) (K7 kk11 2 3 6 9 33 34 35) = (K7 (wY r n kk11) 2 3 6 9 33 34 35) :=
 (bCp r n kk11 (eB r n)).trans (aNt r n kk11)
theorem bEf (m : Nat) : aN (fun kk => D112 r n jU (xs x0 0 (K4 (eB r n) 2 3 6 9)) kk) m = (K7 (pB r n m) 2 3 6 9 33 34 35) := by
 induction m with
 | zero => exact (by kernel_rfl : aN (fun kk => D112 r n jU (xs x0 0 (K4 (eB r n) 2 3 6 9)) kk) 0 = (K7 (pB r n 0) 2 3 6 9 33 34 35))
 | succ m ih =>
  refine (by kernel_rfl : aN (fun kk => D112 r n jU (xs x0 0 (K4 (eB r n) 2 3 6 9)) kk) (m + 1) = D112 r n jU (xs x0 0 (K4 (eB r n) 2 3 6 9)) (aN (fun kk => D112 r n jU (xs x0 0 (K4 (eB r n) 2 3 6 9)) kk) m)).trans ?_
  rw [ih]
  exact (bEu r n (pB r n m)).trans (by kernel_rfl)
theorem bLt : D112 r n tQ (xs x0 0 (K4 (eB r n) 2 3 6 9)) (K4 (eB r n) 2 3 6 9) = (K7 (aVs r n) 2 3 6 9 33 34 35) :=
 (by kernel_rfl : D112 r n tQ (xs x0 0 (K4 (eB r n) 2 3 6 9)) (K4 (eB r n) 2 3 6 9) = aN (fun kk => D112 r n jU (xs x0 0 (K4 (eB r n) 2 3 6 9)) kk) n).trans ((bEf r n n).trans (by kernel_rfl))
theorem bPd : D112 r n aIy x0 (K4 (eB r n) 2 3 6 9) = (K7 (aEd r n) 2 3 6 9 33 34 35) :=
 (by kernel_rfl : D112 r n aIy x0 (K4 (eB r n) 2 3 6 9) = D112 r n tQ (xs x0 0 (K4 (eB r n) 2 3 6 9)) (K4 (eB r n) 2 3 6 9)).trans
 ((bLt r n).trans (by kernel_rfl))
theorem bGr : D112 r n aEu x0 r112 = D112 r n pN x0 (K4 (eB r n) 2 3 6 9) :=
 congrArg (fun k => D112 r n pN x0 k) (cJg r n)
theorem bHq : D112 r n pN x0 (K4 (eB r n) 2 3 6 9) = D112 r n aZy x0 (K7 (aEd r n) 2 3 6 9 33 34 35) :=
 congrArg (fun k => D112 r n aZy x0 k) (bPd r n)
theorem cKa : D112 r n aEu x0 r112 = (K5 (vR r n) 1 2 3 6 9) :=
 (bGr r n).trans
 ((bHq r n).trans
 ((by kernel_rfl)))
theorem bDo : D112 r n aFf x0 r112 = D112 r n aDs x0 (K5 (vR r n) 1 2 3 6 9) :=
 congrArg (fun k => D112 r n aDs x0 k) (cKa r n)
theorem bDc (q0 : cG) : D112 r n aDs x0 (K5 q0 1 2 3 6 9) = fun (env : aZ) (h : Hp) =>
 bnd (aB 1 (env 3) h) fun v1 h1 =>
 bnd (aA v1 h1) fun v2 h2 =>
 bnd (aB 3 (env 3) h2) fun v3 h3 =>
 bnd (aA v3 h3) fun v4 h4 =>
 bnd (bZ v4 h4) fun v5 h5 =>
 bnd (aB 2 (env 3) h5) fun v6 h6 =>
 bnd (aA v6 h6) fun v7 h7 =>
 bnd (bB [(.s []), (aE 0), (aE 0), (aE 0), .l0, .l0] [(0, 1, v2), (1, 1, v5), (3, 1, v7)] h7) fun v8 h8 =>
 bnd (bB [(.s []), (aE 0), (aE 0), (aE 0), .l0, .l0, .l0, (.s []), (aE 0)] [(0, 6, v8)] h8) fun v9 h9 =>
 bnd (bR v9 h9) fun v10 h10 =>
  q0 (env 1) (env 2) (env 3) (env 6) v10 h10 := by kernel_rfl
theorem aNw : (fun (env : aZ) (h : Hp) =>
 bnd (aB 1 (env 3) h) fun v1 h1 =>
 bnd (aA v1 h1) fun v2 h2 =>
 bnd (aB 3 (env 3) h2) fun v3 h3 =>
 bnd (aA v3 h3) fun v4 h4 =>
 bnd (bZ v4 h4) fun v5 h5 =>
 bnd (aB 2 (env 3) h5) fun v6 h6 =>
 bnd (aA v6 h6) fun v7 h7 =>
 bnd (bB [(.s []), (aE 0), (aE 0), (aE 0), .l0, .l0] [(0, 1, v2), (1, 1, v5), (3, 1, v7)] h7) fun v8 h8 =>
 bnd (bB [(.s []), (aE 0), (aE 0), (aE 0), .l0, .l0, .l0, (.s []), (aE 0)] [(0, 6, v8)] h8) fun v9 h9 =>
 bnd (bR v9 h9) fun v10 h10 =>
  vR r n (env 1) (env 2) (env 3) (env 6) v10 h10) = (K4 (pZ r n) 1 2 3 6) := by kernel_rfl
theorem cOt : D112 r n aFf x0 r112 = (K4 (pZ r n) 1 2 3 6) :=
 (bDo r n).trans
 ((bDc r n (vR r n)).trans (aNw r n))
theorem bDb : D112 r n aAw x0 r112 = D112 r n aFr x0 (K4 (pZ r n) 1 2 3 6) :=
 congrArg (fun k => D112 r n aFr x0 k) (cOt r n)
theorem bBy (q0 : dJ) : D112 r n aFr x0 (K4 q0 1 2 3 6) = fun (env : aZ) (h : Hp) =>
 bnd (aB 0 (env 3) h) fun v1 h1 =>
 bnd (aA v1 h1) fun v2 h2 =>
 bnd (aD .neq v2 (aE 11) h2) fun v3 h3 =>
 bnd (gD v3 false (some ((env 1), h3)) h3) fun v4 h4 =>
 bnd (gD v3 false (bZ v4 h4) h4) fun v5 h5 =>
 bnd (gD v3 false (aD .gtr v5 (aE 8) h5) h5) fun v6 h6 =>
 bnd (aP v3 (.b true) v6 h6) fun v7 h7 =>
 aS v7 (
 bnd (bB [(.s []), (aE 0), (aE 0), (aE 0), .l0, .l0] [] h7) fun v8 h8 =>
 bnd (aG 6 (env 6) v8 h8) fun _ h9 =>
 bnd (aK 6 (env 6) h9) fun v10 _ =>
 some (.t [v10, (.s []), (aE 1)], h9)) (
   q0 (env 1) (env 2) (env 3) (env 6) h7) := by kernel_rfl
theorem aPw : (fun (env : aZ) (h : Hp) =>
 bnd (aB 0 (env 3) h) fun v1 h1 =>
 bnd (aA v1 h1) fun v2 h2 =>
 bnd (aD .neq v2 (aE 11) h2) fun v3 h3 =>
 bnd (gD v3 false (some ((env 1), h3)) h3) fun v4 h4 =>
 bnd (gD v3 false (bZ v4 h4) h4) fun v5 h5 =>
 bnd (gD v3 false (aD .gtr v5 (aE 8) h5) h5) fun v6 h6 =>
 bnd (aP v3 (.b true) v6 h6) fun v7 h7 =>
 aS v7 (
 bnd (bB [(.s []), (aE 0), (aE 0), (aE 0), .l0, .l0] [] h7) fun v8 h8 =>
 bnd (aG 6 (env 6) v8 h8) fun _ h9 =>
 bnd (aK 6 (env 6) h9) fun v10 _ =>
 some (.t [v10, (.s []), (aE 1)], h9)) (
   pZ r n (env 1) (env 2) (env 3) (env 6) h7)) = (K4 (qN r n) 1 2 3 6) := by kernel_rfl
theorem cHx : D112 r n aAw x0 r112 = (K4 (qN r n) 1 2 3 6) :=
 (bDb r n).trans
 ((bBy r n (pZ r n)).trans (aPw r n))
theorem cBy : D112 r n c112 x0 r112 = D112 r n aFy x0 (K4 (qN r n) 1 2 3 6) :=
 congrArg (fun k => D112 r n aFy x0 k) (cHx r n)
theorem cCj (q0 : dJ) : D112 r n aFy x0 (K4 q0 1 2 3 6) = fun (env : aZ) (h : Hp) =>
 bnd (bR (env 0) h) fun v1 h1 =>
 bnd (bL [(.s []), (aE 0), (aE 0), (aE 0), .l0, .l0] h1) fun v2 h2 =>
  q0 (env 1) (env 2) v1 v2 h2 := by kernel_rfl
theorem bHi : (fun (env : aZ) (h : Hp) =>
 bnd (bR (env 0) h) fun v1 h1 =>
 bnd (bL [(.s []), (aE 0), (aE 0), (aE 0), .l0, .l0] h1) fun v2 h2 =>
  qN r n (env 1) (env 2) v1 v2 h2) = (K3 (s112 r n) 0 1 2) := by kernel_rfl
theorem dHt : D112 r n c112 x0 r112 = (K3 (s112 r n) 0 1 2) :=
 (cBy r n).trans
 ((cCj r n (qN r n)).trans (bHi r n))
theorem cZt : aF CF r n 112 args h = s112 r n (aR args 0) (aR args 1) (aR args 2) h :=
 (by kernel_rfl : aF CF r n 112 args h = D112 r n c112 x0 r112 (aH args) h).trans ((congrFun (congrFun (dHt r n) (aH args)) h).trans (by kernel_rfl))
noncomputable def s113 (r : RT) (n : Nat) (x0 x1 x2 : DV) (h0 : Hp) : aI :=
 bnd (bR x2 h0) fun v1 h1 =>
 bnd (r 67 [x0, x1] h1) fun v2 h2 =>
 bnd (gX .not v2 h2) fun v3 h3 =>
 aS v3 (
 some (.t [(aE 0), (aE 24)], h3)) (
 bnd (aK 6 v1 h3) fun v4 h4 =>
 bnd (r 37 [x0, x1] h4) fun v5 h5 =>
 cnd (bG (aK 6 v1 h5) v4 && true) (
 bnd (r 125 [v4, v5] h5) fun v6 h6 =>
 bnd (aD .neq v6 (aE 0) h6) fun v7 h7 =>
 aS v7 (
 some (.t [(aE 0), v6], h7)) (
 bnd (aB 0 v1 h7) fun v8 h8 =>
 bnd (aA v8 h8) fun v9 h9 =>
 bnd (r 44 [x0, v9] h9) fun v10 h10 =>
 bnd (aC 0 v10 h10) fun v11 h11 =>
 bnd (aC 1 v10 h11) fun v12 h12 =>
 bnd (aD .neq v12 (aE 0) h12) fun v13 h13 =>
 aS v13 (
 some (.t [(aE 0), v12], h13)) (
 bnd (aB 4 v1 h13) fun v14 h14 =>
 bnd (aA v14 h14) fun v15 h15 =>
 bnd (bB [(aE 0), (.s []), (aE 0), .l0] [(0, 1, (aE 4)), (3, 1, v15)] h15) fun v16 h16 =>
 bnd (r 126 [x0, v16] h16) fun v17 h17 =>
 bnd (aC 0 v17 h17) fun v18 h18 =>
 bnd (aC 1 v17 h18) fun v19 h19 =>
 bnd (aD .neq v19 (aE 0) h19) fun v20 h20 =>
 aS v20 (
 some (.t [(aE 0), v19], h20)) (
 bnd (aB 5 v1 h20) fun v21 h21 =>
 bnd (aA v21 h21) fun v22 h22 =>
 bnd (r 127 [v22] h22) fun v23 h23 =>
 bnd (aC 0 v23 h23) fun v24 h24 =>
 bnd (aC 1 v23 h24) fun v25 h25 =>
 bnd (r 128 [x0, v24] h25) fun v26 h26 =>
 bnd (aC 0 v26 h26) fun v27 h27 =>
 bnd (aC 1 v26 h27) fun v28 h28 =>
 bnd (aD .neq v28 (aE 0) h28) fun v29 h29 =>
 aS v29 (
 some (.t [(aE 0), v28], h29)) (
 bnd (r 30 [x0, (aE 14)] (resv 1 h29)) fun v30 h30 =>
 bnd (aB 1 v1 h30) fun v31 h31 =>
 bnd (aA v31 h31) fun v32 h32 =>
 cnd (bG (aA v31 (resv 1 h29)) v32 && true) (
 bnd (r 71 [v32] h32) fun v33 h33 =>
 bnd (aB 2 v1 h33) fun v34 h34 =>
 bnd (aA v34 h34) fun v35 h35 =>
 cnd (bG (aA v34 h30) v35 && (bG (aA v34 (resv 1 h29)) v35 && true)) (
 bnd (r 71 [v35] h35) fun v36 h36 =>
 bnd (aB 3 v1 h36) fun v37 h37 =>
 bnd (aA v37 h37) fun v38 h38 =>
 cnd (bG (aA v37 h33) v38 && (bG (aA v37 h30) v38 && (bG (aA v37 (resv 1 h29)) v38 && true))) (
 bnd (r 71 [v38] h38) fun v39 h39 =>
 bnd (bK (bW 0 h29.next) [(aE 0), (aE 0), (aE 0), (aE 0), (aE 0), (aE 0), (aE 0)] 7 [(0, 1, v11), (1, 1, v33), (2, 1, v36), (3, 1, v39), (4, 1, v18), (5, 1, v27), (6, 1, x1)] h39) fun v40 h40 =>
 bnd (r 82 [x0, v30, (aE 0), v40] h40) fun v41 h41 =>
 bnd (aC 0 v41 h41) fun v42 h42 =>
 bnd (aC 1 v41 h42) fun v43 h43 =>
 some (.t [v42, v43], h43))))))))))
noncomputable abbrev c113 : Code := cf Tryz.f113
noncomputable abbrev r113 : K := aU CF Tryz.f113
noncomputable def D113 (r : RT) (n : Nat) (c : Code) (X : Nat → K) (k : K) : K := aM CF r 83 n c X r113 k
theorem dEk : D113 r n c113 x0 r113 = (K3 (s113 r n) 0 1 2) :=
 (by kernel_rfl)
theorem cRc : aF CF r n 113 args h = s113 r n (aR args 0) (aR args 1) (aR args 2) h :=
 (by kernel_rfl : aF CF r n 113 args h = D113 r n c113 x0 r113 (aH args) h).trans ((congrFun (congrFun (dEk r n) (aH args)) h).trans (by kernel_rfl))
noncomputable def eR (r : RT) (n : Nat) (x0 x1 x3 : DV) (h0 : Hp) : aI :=
 bnd (r 51 [x0, x1, (aE 4)] h0) fun v1 h1 =>
 bnd (r 73 [x0, x3, v1] h1) fun v2 h2 =>
 bnd (aC 0 v2 h2) fun v3 h3 =>
 bnd (aC 1 v2 h3) fun v4 h4 =>
 bnd (aD .neq v4 (aE 0) h4) fun v5 h5 =>
 aS v5 (
 some (v4, h5)) (
 bnd (aO x0 h5) fun v6 h6 =>
 bnd (aB 0 v6 h6) fun v7 h7 =>
 bnd (aA v7 h7) fun v8 h8 =>
 bnd (zN [v8, x1, (aE 4), v3] h8) fun v9 h9 =>
 some (v9, h9))
noncomputable def aUj (r : RT) (n : Nat) (kk5 : fF) (x0 x1 x2 x3 x9 x10 : DV) (h0 : Hp) : aI :=
 bnd (aD .gtr x10 (aE 0) h0) fun v1 h1 =>
 bnd (gD v1 true (some (x0, h1)) h1) fun v2 h2 =>
 bnd (gD v1 true (aO v2 h2) h2) fun v3 h3 =>
 bnd (gD v1 true (aB 0 v3 h3) h3) fun v4 h4 =>
 bnd (gD v1 true (aA v4 h4) h4) fun v5 h5 =>
 bnd (gD v1 true (some (x9, h5)) h5) fun v6 h6 =>
 bnd (gD v1 true (isF [v5, v6] h6) h6) fun v7 h7 =>
 bnd (aP v1 v7 (.b false) h7) fun v8 h8 =>
 aS v8 (
 bnd (r 51 [x0, x9, (aE 0)] h8) fun v9 h9 =>
 bnd (r 51 [x0, v9, (aE 0)] h9) fun v10 h10 =>
 bnd (aD .eql v10 x2 h10) fun v11 h11 =>
 aS v11 (
 bnd (aO x0 h11) fun v12 h12 =>
 bnd (aB 0 v12 h12) fun v13 h13 =>
 bnd (aA v13 h13) fun v14 h14 =>
 bnd (zN [v14, x9, (aE 0), x3] h14) fun v15 h15 =>
 some (v15, h15)) (
 bnd (r 51 [x0, x9, (aE 1)] h11) fun v16 h16 =>
 bnd (aD .sub x10 (aE 1) h16) fun v17 h17 =>
    kk5 x0 x1 x2 x3 v16 v17 h17)) (
      eR r n x0 x1 x3 h8)
noncomputable def tD (r : RT) (n : Nat) (m : Nat) : fF :=
 Nat.rec (motive := fun _ => fF) (fun _ _ _ _ _ _ _ => none) (fun _ ih => aUj r n ih) m
noncomputable def bIx (r : RT) (n : Nat) : fF := tD r n n
noncomputable def aPp (r : RT) (n : Nat) (x0 x1 x2 x3 x9 x10 : DV) (h0 : Hp) : aI :=
 bIx r n x0 x1 x2 x3 x9 x10 h0
noncomputable def aSy (r : RT) (n : Nat) (x0 x1 x2 x3 x9 : DV) (h0 : Hp) : aI :=
 bnd (aO x0 h0) fun v1 h1 =>
 bnd (aB 0 v1 h1) fun v2 h2 =>
 bnd (aA v2 h2) fun v3 h3 =>
 bnd (zZ [v3] h3) fun v4 h4 =>
  aPp r n x0 x1 x2 x3 x9 v4 h4
noncomputable def aPv (r : RT) (n : Nat) (x0 x1 x2 x3 : DV) (h0 : Hp) : aI :=
 bnd (r 51 [x0, x1, (aE 4)] h0) fun v1 h1 =>
  aSy r n x0 x1 x2 x3 v1 h1
noncomputable def s114 (r : RT) (n : Nat) (x0 x1 x2 x3 : DV) (h0 : Hp) : aI :=
 aPv r n x0 x1 x2 x3 h0
noncomputable abbrev c114 : Code := cf Tryz.f114
noncomputable abbrev aEv : Code := cR c114
noncomputable abbrev aIr : Code := cR aEv
noncomputable abbrev cRe : Code := cR aIr
noncomputable abbrev wR : Code := cL aIr
noncomputable abbrev aTf : Code := cR wR
noncomputable abbrev aFq : Code := cL aTf
noncomputable abbrev nT : Code := cL aFq
noncomputable abbrev bUh : Code := cL wR
noncomputable abbrev cAk : Code := cL aEv
noncomputable abbrev aWl : Code := cL c114
noncomputable abbrev r114 : K := aU CF Tryz.f114
noncomputable def D114 (r : RT) (n : Nat) (c : Code) (X : Nat → K) (k : K) : K := aM CF r 69 n c X r114 k
theorem cHw : D114 r n cRe x0 r114 = (K3 (eR r n) 0 1 3) :=
 (by kernel_rfl)
theorem bHe (kk5 : fF) : D114 r n nT (xs x0 0 (K3 (eR r n) 0 1 3)) (K6 kk5 0 1 2 3 9 10) = (K6 (aUj r n kk5) 0 1 2 3 9 10) :=
 (by kernel_rfl)
theorem bYs (m : Nat) : aN (fun kk => D114 r n nT (xs x0 0 (K3 (eR r n) 0 1 3)) kk) m = (K6 (tD r n m) 0 1 2 3 9 10) := by
 induction m with
 | zero => exact (by kernel_rfl : aN (fun kk => D114 r n nT (xs x0 0 (K3 (eR r n) 0 1 3)) kk) 0 = (K6 (tD r n 0) 0 1 2 3 9 10))
 | succ m ih =>
  refine (by kernel_rfl : aN (fun kk => D114 r n nT (xs x0 0 (K3 (eR r n) 0 1 3)) kk) (m + 1) = D114 r n nT (xs x0 0 (K3 (eR r n) 0 1 3)) (aN (fun kk => D114 r n nT (xs x0 0 (K3 (eR r n) 0 1 3)) kk) m)).trans ?_
  rw [ih]
  exact (bHe r n (tD r n m)).trans (by kernel_rfl)
theorem cLu : D114 r n aFq (xs x0 0 (K3 (eR r n) 0 1 3)) (K3 (eR r n) 0 1 3) = (K6 (bIx r n) 0 1 2 3 9 10) :=
 (by kernel_rfl : D114 r n aFq (xs x0 0 (K3 (eR r n) 0 1 3)) (K3 (eR r n) 0 1 3) = aN (fun kk => D114 r n nT (xs x0 0 (K3 (eR r n) 0 1 3)) kk) n).trans ((bYs r n n).trans (by kernel_rfl))
theorem cKy : D114 r n aTf x0 (K3 (eR r n) 0 1 3) = (K6 (aPp r n) 0 1 2 3 9 10) :=
 (by kernel_rfl : D114 r n aTf x0 (K3 (eR r n) 0 1 3) = D114 r n aFq (xs x0 0 (K3 (eR r n) 0 1 3)) (K3 (eR r n) 0 1 3)).trans
 ((cLu r n).trans (by kernel_rfl))
theorem bMt : D114 r n aIr x0 r114 = D114 r n wR x0 (K3 (eR r n) 0 1 3) :=
 congrArg (fun k => D114 r n wR x0 k) (cHw r n)
theorem bZm : D114 r n wR x0 (K3 (eR r n) 0 1 3) = D114 r n bUh x0 (K6 (aPp r n) 0 1 2 3 9 10) :=
 congrArg (fun k => D114 r n bUh x0 k) (cKy r n)
theorem cCx : D114 r n aIr x0 r114 = (K5 (aSy r n) 0 1 2 3 9) :=
 (bMt r n).trans
 ((bZm r n).trans
 ((by kernel_rfl)))
theorem bGq : D114 r n aEv x0 r114 = D114 r n cAk x0 (K5 (aSy r n) 0 1 2 3 9) :=
 congrArg (fun k => D114 r n cAk x0 k) (cCx r n)
theorem cEr : D114 r n aEv x0 r114 = (K4 (aPv r n) 0 1 2 3) :=
 (bGq r n).trans
 ((by kernel_rfl))
theorem cYk : D114 r n c114 x0 r114 = D114 r n aWl x0 (K4 (aPv r n) 0 1 2 3) :=
 congrArg (fun k => D114 r n aWl x0 k) (cEr r n)
theorem dEa : D114 r n c114 x0 r114 = (K4 (s114 r n) 0 1 2 3) :=
 (cYk r n).trans
 ((by kernel_rfl))
theorem cXg : aF CF r n 114 args h = s114 r n (aR args 0) (aR args 1) (aR args 2) (aR args 3) h :=
 (by kernel_rfl : aF CF r n 114 args h = D114 r n c114 x0 r114 (aH args) h).trans ((congrFun (congrFun (dEa r n) (aH args)) h).trans (by kernel_rfl))
noncomputable def eW (r : RT) (n : Nat) (x0 x6 : DV) (h0 : Hp) : aI :=
 bnd (dU x0 h0) fun v1 h1 =>
 bnd (bB [(aE 0), (.s []), (aE 0), (aE 0)] [(3, 1, v1)] h1) fun v2 h2 =>
 bnd (aL [(aE 0), (.s []), (aE 0), (aE 0)] 1 [(0, 4, v2)] h2) fun v3 h3 =>
 bnd (bA 4 40 x6 v3 h3) fun v4 h4 =>
 some (.t [v4, (aE 0), (aE 0)], h4)
noncomputable def aJg (r : RT) (n : Nat) (kk7 : mN) (x0 x5 x6 : DV) (h0 : Hp) : aI :=
 bnd (r 130 [(.s [9, 10, 13, 32])] h0) fun v1 h1 =>
 bnd (dU x0 h1) fun v2 h2 =>
 bnd (r 129 [x5, v1, v2] h2) fun v3 h3 =>
 bnd (aO x5 h3) fun v4 h4 =>
 bnd (aB 1 v4 h4) fun v5 h5 =>
 bnd (aA v5 h5) fun v6 h6 =>
 bnd (dU x0 h6) fun v7 h7 =>
 bnd (aD .geq v6 v7 h7) fun v8 h8 =>
 aS v8 (
   eW r n x0 x6 h8) (
 bnd (aO x5 h8) fun v9 h9 =>
 bnd (aB 1 v9 h9) fun v10 h10 =>
 bnd (aA v10 h10) fun v11 h11 =>
 bnd (fE x0 v11 h11) fun v12 h12 =>
 bnd (aD .eql v12 (.i .u8 (Int.ofNat 34)) h12) fun v13 h13 =>
 aS v13 (
 bnd (aO x5 h13) fun v14 h14 =>
 bnd (aB 1 v14 h14) fun v15 h15 =>
 bnd (aA v15 h15) fun v16 h16 =>
 bnd (aD .add v16 (aE 1) h16) fun v17 h17 =>
 bnd (fH x0 (some v17) none h17) fun v18 h18 =>
 bnd (r 131 [v18, (.i .u8 (Int.ofNat 34))] h18) fun v19 h19 =>
 bnd (aD .lss v19 (aE 0) h19) fun v20 h20 =>
 aS v20 (
 bnd (aO x5 h20) fun v21 h21 =>
 bnd (aB 1 v21 h21) fun v22 h22 =>
 bnd (aA v22 h22) fun v23 h23 =>
 some (.t [.l0, v23, (aE 11)], h23)) (
 bnd (aO x5 h20) fun v24 h24 =>
 bnd (aB 1 v24 h24) fun v25 h25 =>
 bnd (aA v25 h25) fun v26 h26 =>
 bnd (aD .add v19 (aE 2) h26) fun v27 h27 =>
 bnd (aD .add v26 v27 h27) fun v28 h28 =>
 bnd (aO x5 h28) fun v29 h29 =>
 bnd (aB 1 v29 h29) fun v30 h30 =>
 bnd (aG 1 v30 v28 h30) fun _ h31 =>
     kk7 x0 x5 x6 h31)) (
 bnd (r 132 [x5] h13) fun v32 h32 =>
 bnd (aC 0 v32 h32) fun v33 h33 =>
 bnd (aC 1 v32 h33) fun v34 h34 =>
 bnd (bL [(aE 0), (.s []), (aE 0), (aE 0)] h34) fun v35 h35 =>
 bnd (aG 4 v35 v33 h35) fun _ h36 =>
 bnd (aD .neq v34 (aE 0) h36) fun v37 h37 =>
 aS v37 (
 bnd (aB 3 v35 h37) fun v38 h38 =>
 bnd (aA v38 h38) fun v39 h39 =>
 some (.t [.l0, v39, v34], h39)) (
 bnd (aK 4 v35 h37) fun v40 h40 =>
 bnd (aL [(aE 0), (.s []), (aE 0), (aE 0)] 1 [(0, 4, v40)] h40) fun v41 h41 =>
 bnd (bA 4 40 x6 v41 h41) fun v42 h42 =>
     kk7 x0 x5 v42 h42)))
noncomputable def sX (r : RT) (n : Nat) (m : Nat) : mN :=
 Nat.rec (motive := fun _ => mN) (fun _ _ _ _ => none) (fun _ ih => aJg r n ih) m
noncomputable def bIf (r : RT) (n : Nat) : mN := sX r n n
noncomputable def aRd (r : RT) (n : Nat) (x0 x5 x6 : DV) (h0 : Hp) : aI :=
 bIf r n x0 x5 x6 h0
noncomputable def aPk (r : RT) (n : Nat) (x0 x5 x6 : DV) (h0 : Hp) : aI :=
 aRd r n x0 x5 x6 h0
noncomputable def wO (r : RT) (n : Nat) (x0 x5 : DV) (h0 : Hp) : aI :=
 aPk r n x0 x5 .l0 h0
noncomputable def aJo (r : RT) (n : Nat) (x0 : DV) (h0 : Hp) : aI :=
 bnd (bB [(.s []), (aE 0)] [(0, 1, x0)] h0) fun v1 h1 =>
 bnd (bR v1 h1) fun v2 h2 =>
  wO r n x0 v2 h2
noncomputable def aRk (r : RT) (n : Nat) (x0 : DV) (h0 : Hp) : aI :=
 bnd (dU x0 h0) fun v1 h1 =>
 bnd (aD .gtr v1 (aE 2000) h1) fun v2 h2 =>
 aS v2 (
 some (.t [.l0, (aE 0), (aE 12)], h2)) (
  aJo r n x0 h2)
noncomputable def s117 (r : RT) (n : Nat) (x0 : DV) (h0 : Hp) : aI :=
 aRk r n x0 h0
noncomputable abbrev c117 : Code := cf Tryz.f117
noncomputable abbrev aNh : Code := cR c117
noncomputable abbrev aJt : Code := cL aNh
noncomputable abbrev aDt : Code := cR aJt
noncomputable abbrev aCx : Code := cR aDt
noncomputable abbrev aGh : Code := cR aCx
noncomputable abbrev aJy : Code := cR aGh
noncomputable abbrev dBj : Code := cR aJy
noncomputable abbrev aBs : Code := cL aJy
noncomputable abbrev aBk : Code := cL aBs
noncomputable abbrev jR : Code := cL aBk
noncomputable abbrev bAj : Code := cL aGh
noncomputable abbrev aUp : Code := cL aCx
noncomputable abbrev aEa : Code := cL aDt
noncomputable abbrev aVi : Code := cL aJt
noncomputable abbrev aYb : Code := cL c117
noncomputable abbrev r117 : K := aU CF Tryz.f117
noncomputable def D117 (r : RT) (n : Nat) (c : Code) (X : Nat → K) (k : K) : K := aM CF r 80 n c X r117 k
theorem cCv : D117 r n dBj x0 r117 = (K2 (eW r n) 0 6) :=
 (by kernel_rfl)
theorem bWl (kk7 : mN) (q0 : oK) : D117 r n jR (xs x0 0 (K2 q0 0 6)) (K3 kk7 0 5 6) = fun (env : aZ) (h : Hp) =>
 bnd (r 130 [(.s [9, 10, 13, 32])] h) fun v1 h1 =>
 bnd (dU (env 0) h1) fun v2 h2 =>
 bnd (r 129 [(env 5), v1, v2] h2) fun v3 h3 =>
 bnd (aO (env 5) h3) fun v4 h4 =>
 bnd (aB 1 v4 h4) fun v5 h5 =>
 bnd (aA v5 h5) fun v6 h6 =>
 bnd (dU (env 0) h6) fun v7 h7 =>
 bnd (aD .geq v6 v7 h7) fun v8 h8 =>
 aS v8 (
   q0 (env 0) (env 6) h8) (
 bnd (aO (env 5) h8) fun v9 h9 =>
 bnd (aB 1 v9 h9) fun v10 h10 =>
 bnd (aA v10 h10) fun v11 h11 =>
 bnd (fE (env 0) v11 h11) fun v12 h12 =>
 bnd (aD .eql v12 (.i .u8 (Int.ofNat 34)) h12) fun v13 h13 =>
 aS v13 (
 bnd (aO (env 5) h13) fun v14 h14 =>
 bnd (aB 1 v14 h14) fun v15 h15 =>
 bnd (aA v15 h15) fun v16 h16 =>
 bnd (aD .add v16 (aE 1) h16) fun v17 h17 =>
 bnd (fH (env 0) (some v17) none h17) fun v18 h18 =>
 bnd (r 131 [v18, (.i .u8 (Int.ofNat 34))] h18) fun v19 h19 =>
 bnd (aD .lss v19 (aE 0) h19) fun v20 h20 =>
 aS v20 (
 bnd (aO (env 5) h20) fun v21 h21 =>
 bnd (aB 1 v21 h21) fun v22 h22 =>
 bnd (aA v22 h22) fun v23 h23 =>
 some (.t [.l0, v23, (aE 11)], h23)) (
 bnd (aO (env 5) h20) fun v24 h24 =>
 bnd (aB 1 v24 h24) fun v25 h25 =>
 bnd (aA v25 h25) fun v26 h26 =>
 bnd (aD .add v19 (aE 2) h26) fun v27 h27 =>
 bnd (aD .add v26 v27 h27) fun v28 h28 =>
 bnd (aO (env 5) h28) fun v29 h29 =>
 bnd (aB 1 v29 h29) fun v30 h30 =>
 bnd (aG 1 v30 v28 h30) fun _ h31 =>
     kk7 (env 0) (env 5) (env 6) h31)) (
 bnd (r 132 [(env 5)] h13) fun v32 h32 =>
 bnd (aC 0 v32 h32) fun v33 h33 =>
 bnd (aC 1 v32 h33) fun v34 h34 =>
 bnd (bL [(aE 0), (.s []), (aE 0), (aE 0)] h34) fun v35 h35 =>
 bnd (aG 4 v35 v33 h35) fun _ h36 =>
 bnd (aD .neq v34 (aE 0) h36) fun v37 h37 =>
 aS v37 (
 bnd (aB 3 v35 h37) fun v38 h38 =>
 bnd (aA v38 h38) fun v39 h39 =>
 some (.t [.l0, v39, v34], h39)) (
 bnd (aK 4 v35 h37) fun v40 h40 =>
 bnd (aL [(aE 0), (.s []), (aE 0), (aE 0)] 1 [(0, 4, v40)] h40) fun v41 h41 =>
 bnd (bA 4 40 (env 6) v41 h41) fun v42 h42 =>
     kk7 (env 0) (env 5) v42 h42))) := by kernel_rfl
theorem bEl (kk7 : mN) : (fun (env : aZ) (h : Hp) =>
 bnd (r 130 [(.s [9, 10, 13, 32])] h) fun v1 h1 =>
 bnd (dU (env 0) h1) fun v2 h2 =>
 bnd (r 129 [(env 5), v1, v2] h2) fun v3 h3 =>
 bnd (aO (env 5) h3) fun v4 h4 =>
 bnd (aB 1 v4 h4) fun v5 h5 =>
 bnd (aA v5 h5) fun v6 h6 =>
 bnd (dU (env 0) h6) fun v7 h7 =>
 bnd (aD .geq v6 v7 h7) fun v8 h8 =>
 aS v8 (
   eW r n (env 0) (env 6) h8) (
 bnd (aO (env 5) h8) fun v9 h9 =>
 bnd (aB 1 v9 h9) fun v10 h10 =>
 bnd (aA v10 h10) fun v11 h11 =>
 bnd (fE (env 0) v11 h11) fun v12 h12 =>
 bnd (aD .eql v12 (.i .u8 (Int.ofNat 34)) h12) fun v13 h13 =>
 aS v13 (
 bnd (aO (env 5) h13) fun v14 h14 =>
 bnd (aB 1 v14 h14) fun v15 h15 =>
 bnd (aA v15 h15) fun v16 h16 =>
 bnd (aD .add v16 (aE 1) h16) fun v17 h17 =>
 bnd (fH (env 0) (some v17) none h17) fun v18 h18 =>
 bnd (r 131 [v18, (.i .u8 (Int.ofNat 34))] h18) fun v19 h19 =>
 bnd (aD .lss v19 (aE 0) h19) fun v20 h20 =>
 aS v20 (
 bnd (aO (env 5) h20) fun v21 h21 =>
 bnd (aB 1 v21 h21) fun v22 h22 =>
 bnd (aA v22 h22) fun v23 h23 =>
 some (.t [.l0, v23, (aE 11)], h23)) (
 bnd (aO (env 5) h20) fun v24 h24 =>
 bnd (aB 1 v24 h24) fun v25 h25 =>
 bnd (aA v25 h25) fun v26 h26 =>
 bnd (aD .add v19 (aE 2) h26) fun v27 h27 =>
 bnd (aD .add v26 v27 h27) fun v28 h28 =>
 bnd (aO (env 5) h28) fun v29 h29 =>
 bnd (aB 1 v29 h29) fun v30 h30 =>
 bnd (aG 1 v30 v28 h30) fun _ h31 =>
     kk7 (env 0) (env 5) (env 6) h31)) (
 bnd (r 132 [(env 5)] h13) fun v32 h32 =>
 bnd (aC 0 v32 h32) fun v33 h33 =>
 bnd (aC 1 v32 h33) fun v34 h34 =>
 bnd (bL [(aE 0), (.s []), (aE 0), (aE 0)] h34) fun v35 h35 =>
 bnd (aG 4 v35 v33 h35) fun _ h36 =>
 bnd (aD .neq v34 (aE 0) h36) fun v37 h37 =>
 aS v37 (
 bnd (aB 3 v35 h37) fun v38 h38 =>
 bnd (aA v38 h38) fun v39 h39 =>
 some (.t [.l0, v39, v34], h39)) (
 bnd (aK 4 v35 h37) fun v40 h40 =>
 bnd (aL [(aE 0), (.s []), (aE 0), (aE 0)] 1 [(0, 4, v40)] h40) fun v41 h41 =>
 bnd (bA 4 40 (env 6) v41 h41) fun v42 h42 =>
     kk7 (env 0) (env 5) v42 h42)))) = (K3 (aJg r n kk7) 0 5 6) := by kernel_rfl
theorem bHb (kk7 : mN) : D117 r n jR (xs x0 0 (K2 (eW r n) 0 6)) (K3 kk7 0 5 6) = (K3 (aJg r n kk7) 0 5 6) :=
 (bWl r n kk7 (eW r n)).trans (bEl r n kk7)
theorem bGm (m : Nat) : aN (fun kk => D117 r n jR (xs x0 0 (K2 (eW r n) 0 6)) kk) m = (K3 (sX r n m) 0 5 6) := by
 induction m with
 | zero => exact (by kernel_rfl : aN (fun kk => D117 r n jR (xs x0 0 (K2 (eW r n) 0 6)) kk) 0 = (K3 (sX r n 0) 0 5 6))
 | succ m ih =>
  refine (by kernel_rfl : aN (fun kk => D117 r n jR (xs x0 0 (K2 (eW r n) 0 6)) kk) (m + 1) = D117 r n jR (xs x0 0 (K2 (eW r n) 0 6)) (aN (fun kk => D117 r n jR (xs x0 0 (K2 (eW r n) 0 6)) kk) m)).trans ?_
  rw [ih]
  exact (bHb r n (sX r n m)).trans (by kernel_rfl)
theorem cDe : D117 r n aBk (xs x0 0 (K2 (eW r n) 0 6)) (K2 (eW r n) 0 6) = (K3 (bIf r n) 0 5 6) :=
 (by kernel_rfl : D117 r n aBk (xs x0 0 (K2 (eW r n) 0 6)) (K2 (eW r n) 0 6) = aN (fun kk => D117 r n jR (xs x0 0 (K2 (eW r n) 0 6)) kk) n).trans ((bGm r n n).trans (by kernel_rfl))
theorem bRy : D117 r n aJy x0 r117 = D117 r n aBs x0 (K2 (eW r n) 0 6) :=
 congrArg (fun k => D117 r n aBs x0 k) (cCv r n)
theorem cIn : D117 r n aJy x0 r117 = (K3 (aRd r n) 0 5 6) :=
 (bRy r n).trans
 ((by kernel_rfl : D117 r n aBs x0 (K2 (eW r n) 0 6) = D117 r n aBk (xs x0 0 (K2 (eW r n) 0 6)) (K2 (eW r n) 0 6)).trans
 ((cDe r n).trans (by kernel_rfl)))
theorem bXp : D117 r n aGh x0 r117 = D117 r n bAj x0 (K3 (aRd r n) 0 5 6) :=
 congrArg (fun k => D117 r n bAj x0 k) (cIn r n)
theorem cIg : D117 r n aGh x0 r117 = (K3 (aPk r n) 0 5 6) :=
 (bXp r n).trans
 ((by kernel_rfl))
theorem bXb : D117 r n aCx x0 r117 = D117 r n aUp x0 (K3 (aPk r n) 0 5 6) :=
 congrArg (fun k => D117 r n aUp x0 k) (cIg r n)
theorem cHg : D117 r n aCx x0 r117 = (K2 (wO r n) 0 5) :=
 (bXb r n).trans
 ((by kernel_rfl))
theorem bRi : D117 r n aDt x0 r117 = D117 r n aEa x0 (K2 (wO r n) 0 5) :=
 congrArg (fun k => D117 r n aEa x0 k) (cHg r n)
theorem bLw (q0 : oK) : D117 r n aEa x0 (K2 q0 0 5) = fun (env : aZ) (h : Hp) =>
 bnd (bB [(.s []), (aE 0)] [(0, 1, (env 0))] h) fun v1 h1 =>
 bnd (bR v1 h1) fun v2 h2 =>
  q0 (env 0) v2 h2 := by kernel_rfl
theorem bFs : (fun (env : aZ) (h : Hp) =>
 bnd (bB [(.s []), (aE 0)] [(0, 1, (env 0))] h) fun v1 h1 =>
 bnd (bR v1 h1) fun v2 h2 =>
  wO r n (env 0) v2 h2) = (K1 (aJo r n) 0) := by kernel_rfl
theorem cEa : D117 r n aDt x0 r117 = (K1 (aJo r n) 0) :=
 (bRi r n).trans
 ((bLw r n (wO r n)).trans (bFs r n))
theorem bYo : D117 r n aJt x0 r117 = D117 r n aVi x0 (K1 (aJo r n) 0) :=
 congrArg (fun k => D117 r n aVi x0 k) (cEa r n)
theorem cKr : D117 r n aNh x0 r117 = (K1 (aRk r n) 0) :=
 (by kernel_rfl : D117 r n aNh x0 r117 = D117 r n aJt x0 r117).trans
 ((bYo r n).trans
 ((by kernel_rfl)))
theorem dBz : D117 r n c117 x0 r117 = D117 r n aYb x0 (K1 (aRk r n) 0) :=
 congrArg (fun k => D117 r n aYb x0 k) (cKr r n)
theorem dHn : D117 r n c117 x0 r117 = (K1 (s117 r n) 0) :=
 (dBz r n).trans
 ((by kernel_rfl))
theorem cSr : aF CF r n 117 args h = s117 r n (aR args 0) h :=
 (by kernel_rfl : aF CF r n 117 args h = D117 r n c117 x0 r117 (aH args) h).trans ((congrFun (congrFun (dHn r n) (aH args)) h).trans (by kernel_rfl))
end Go.Dd

namespace Go.Dd
open Go.Proofs
variable (r : RT) (n : Nat) (args : List DV) (h : Hp)
noncomputable def s120 (r : RT) (n : Nat) (x0 x1 x2 : DV) (h0 : Hp) : aI :=
 bnd (bL [(aE 0), (.s []), (aE 0), (aE 0)] h0) fun v1 h1 =>
 bnd (r 133 [x0, x1, x2] h1) fun v2 h2 =>
 bnd (gX .not v2 h2) fun v3 h3 =>
 aS v3 (
 bnd (r 137 [x0, (aE 0)] h3) fun v4 h4 =>
 bnd (r 136 [x0, v4, (aE 13)] h4) fun v5 h5 =>
 bnd (bB [(aE 0), (.s []), (aE 0), (aE 0)] [] h5) fun v6 h6 =>
 bnd (aG 4 v1 v6 h6) fun _ h7 =>
 bnd (aK 4 v1 h7) fun v8 _ =>
 some (v8, h7)) (
 bnd (r 134 [x0] h3) fun v9 h9 =>
 bnd (aG 4 v1 v9 h9) fun _ h10 =>
 bnd (aK 4 v1 h10) fun v11 _ =>
 some (v11, h10))
noncomputable abbrev c120 : Code := cf Tryz.f120
noncomputable abbrev r120 : K := aU CF Tryz.f120
noncomputable def D120 (r : RT) (n : Nat) (c : Code) (X : Nat → K) (k : K) : K := aM CF r 19 n c X r120 k
theorem dCv : D120 r n c120 x0 r120 = (K3 (s120 r n) 0 1 2) :=
 (by kernel_rfl)
theorem cZu : aF CF r n 120 args h = s120 r n (aR args 0) (aR args 1) (aR args 2) h :=
 (by kernel_rfl : aF CF r n 120 args h = D120 r n c120 x0 r120 (aH args) h).trans ((congrFun (congrFun (dCv r n) (aH args)) h).trans (by kernel_rfl))
noncomputable def aYl (r : RT) (n : Nat) (kk6 : mN) (x0 x1 x4 : DV) (h0 : Hp) : aI :=
 bnd (gD x4 false (some (x0, h0)) h0) fun v1 h1 =>
 bnd (gD x4 false (r 133 [v1, (aE 2), (.s [])] h1) h1) fun v2 h2 =>
 bnd (aP x4 (.b true) v2 h2) fun v3 h3 =>
 aS v3 (
 bnd (aO x1 h3) fun v4 h4 =>
 bnd (aB 1 v4 h4) fun v5 h5 =>
 bnd (aA v5 h5) fun v6 h6 =>
 bnd (r 120 [x0, (aE 2), (.s [])] h6) fun v7 h7 =>
 cnd (bG (aA v5 h7) v6 && true) (
 bnd (fN 1 v7 h7) fun v8 h8 =>
 bnd (fO .add v6 v8 h8) fun v9 h9 =>
 bnd (aO x1 h9) fun v10 h10 =>
 bnd (aB 1 v10 h10) fun v11 h11 =>
 bnd (aG 1 v11 v9 h11) fun v12 h12 =>
 bnd (aO x1 (resv 1 h12)) fun v13 h13 =>
 bnd (aB 3 v13 h13) fun v14 h14 =>
 bnd (aA v14 h14) fun v15 h15 =>
 bnd (aO x1 h15) fun v16 h16 =>
 bnd (aB 3 v16 h16) fun v17 h17 =>
 bnd (aA v17 h17) fun v18 h18 =>
 bnd (r 138 [x0, (aE 1), v18] h18) fun v19 h19 =>
 cnd (bG (aA v14 h19) v15 && true) (
 bnd (bK (bW 0 h12.next) [(.s [])] 1 [(0, 1, v19)] h19) fun v20 h20 =>
 bnd (bA 1 16 v15 v20 h20) fun v21 h21 =>
 bnd (aO x1 h21) fun v22 h22 =>
 bnd (aB 3 v22 h22) fun v23 h23 =>
 bnd (aG 1 v23 v21 h23) fun v24 h24 =>
      kk6 x0 x1 (.b false) h24))) (
 some (.t [], h3))
noncomputable def uA (r : RT) (n : Nat) (m : Nat) : mN :=
 Nat.rec (motive := fun _ => mN) (fun _ _ _ _ => none) (fun _ ih => aYl r n ih) m
noncomputable def bUy (r : RT) (n : Nat) : mN := uA r n n
noncomputable def aOl (r : RT) (n : Nat) (x0 x1 x4 : DV) (h0 : Hp) : aI :=
 bUy r n x0 x1 x4 h0
noncomputable def bOs (r : RT) (n : Nat) (x0 x1 : DV) (h0 : Hp) : aI :=
 aOl r n x0 x1 (.b true) h0
noncomputable def aTv (r : RT) (n : Nat) (x0 x1 x44 : DV) (h0 : Hp) : aI :=
 aS x44 (
 bnd (r 134 [x0] h0) fun v1 h1 =>
 bnd (fN 1 v1 h1) fun v2 h2 =>
 bnd (aO x1 h2) fun v3 h3 =>
 bnd (aB 1 v3 h3) fun v4 h4 =>
 bnd (aG 1 v4 v2 h4) fun _ h5 =>
 bnd (aO x1 (resv 1 h5)) fun v6 h6 =>
 bnd (aB 3 v6 h6) fun v7 h7 =>
 bnd (aA v7 h7) fun v8 h8 =>
 bnd (aO x1 h8) fun v9 h9 =>
 bnd (aB 3 v9 h9) fun v10 h10 =>
 bnd (aA v10 h10) fun v11 h11 =>
 bnd (r 138 [x0, (aE 1), v11] h11) fun v12 h12 =>
 cnd (bG (aA v7 h12) v8 && true) (
 bnd (bK (bW 0 h5.next) [(.s [])] 1 [(0, 1, v12)] h12) fun v13 h13 =>
 bnd (bA 1 16 v8 v13 h13) fun v14 h14 =>
 bnd (aO x1 h14) fun v15 h15 =>
 bnd (aB 3 v15 h15) fun v16 h16 =>
 bnd (aG 1 v16 v14 h16) fun v17 h17 =>
 some (.t [], h17))) (
  bOs r n x0 x1 h0)
noncomputable def bVu (r : RT) (n : Nat) (x0 x1 : DV) (h0 : Hp) : aI :=
 bnd (r 133 [x0, (aE 3), (.s [])] h0) fun v1 h1 =>
  aTv r n x0 x1 v1 h1
noncomputable def aOi (r : RT) (n : Nat) (x0 x1 x35 : DV) (h0 : Hp) : aI :=
 aS x35 (
 bnd (r 134 [x0] h0) fun v1 h1 =>
 bnd (fN 1 v1 h1) fun v2 h2 =>
 bnd (aO x1 h2) fun v3 h3 =>
 bnd (aB 1 v3 h3) fun v4 h4 =>
 bnd (aG 1 v4 v2 h4) fun _ h5 =>
 some (.t [], h5)) (
  bVu r n x0 x1 h0)
noncomputable def s121 (r : RT) (n : Nat) (x0 x1 : DV) (h0 : Hp) : aI :=
 bnd (r 133 [x0, (aE 1), (.s [])] h0) fun v1 h1 =>
  aOi r n x0 x1 v1 h1
noncomputable abbrev c121 : Code := cf Tryz.f121
noncomputable abbrev aCu : Code := cL c121
noncomputable abbrev wQ : Code := cR aCu
noncomputable abbrev zB : Code := cR wQ
noncomputable abbrev wN : Code := cR zB
noncomputable abbrev vY : Code := cR wN
noncomputable abbrev aSa : Code := cR vY
noncomputable abbrev aJc : Code := cL aSa
noncomputable abbrev nR : Code := cL aJc
noncomputable abbrev bGl : Code := cL vY
noncomputable abbrev cIw : Code := cL wN
noncomputable abbrev aXm : Code := cL zB
noncomputable abbrev cBv : Code := cL wQ
noncomputable abbrev aVz : Code := cL aCu
noncomputable abbrev r121 : K := aU CF Tryz.f121
noncomputable def D121 (r : RT) (n : Nat) (c : Code) (X : Nat → K) (k : K) : K := aM CF r 68 n c X r121 k
theorem bNx (kk6 : mN) : D121 r n nR (xs (xs x0 0 r121) 1 r121) (K3 kk6 0 1 4) = (K3 (aYl r n kk6) 0 1 4) :=
 (by kernel_rfl)
theorem bSh (m : Nat) : aN (fun kk => D121 r n nR (xs (xs x0 0 r121) 1 r121) kk) m = (K3 (uA r n m) 0 1 4) := by
 induction m with
 | zero => exact (by kernel_rfl : aN (fun kk => D121 r n nR (xs (xs x0 0 r121) 1 r121) kk) 0 = (K3 (uA r n 0) 0 1 4))
 | succ m ih =>
  refine (by kernel_rfl : aN (fun kk => D121 r n nR (xs (xs x0 0 r121) 1 r121) kk) (m + 1) = D121 r n nR (xs (xs x0 0 r121) 1 r121) (aN (fun kk => D121 r n nR (xs (xs x0 0 r121) 1 r121) kk) m)).trans ?_
  rw [ih]
  exact (bNx r n (uA r n m)).trans (by kernel_rfl)
theorem cDw : D121 r n aJc (xs (xs x0 0 r121) 1 r121) r121 = (K3 (bUy r n) 0 1 4) :=
 (by kernel_rfl : D121 r n aJc (xs (xs x0 0 r121) 1 r121) r121 = aN (fun kk => D121 r n nR (xs (xs x0 0 r121) 1 r121) kk) n).trans ((bSh r n n).trans (by kernel_rfl))
theorem cJb : D121 r n aSa (xs x0 0 r121) r121 = (K3 (aOl r n) 0 1 4) :=
 (by kernel_rfl : D121 r n aSa (xs x0 0 r121) r121 = D121 r n aJc (xs (xs x0 0 r121) 1 r121) r121).trans
 ((cDw r n).trans (by kernel_rfl))
theorem bLo : D121 r n vY (xs x0 0 r121) r121 = D121 r n bGl (xs x0 0 r121) (K3 (aOl r n) 0 1 4) :=
 congrArg (fun k => D121 r n bGl (xs x0 0 r121) k) (cJb r n)
theorem cLw : D121 r n vY (xs x0 0 r121) r121 = (K2 (bOs r n) 0 1) :=
 (bLo r n).trans
 ((by kernel_rfl))
theorem cCk : D121 r n wN (xs x0 0 r121) r121 = (K3 (aTv r n) 0 1 44) :=
 (by kernel_rfl : D121 r n wN (xs x0 0 r121) r121 = (fun (env : aZ) (h : Hp) => aS (opr env (cC wN)) (D121 r n cIw (xs x0 0 r121) r121 env h) (D121 r n vY (xs x0 0 r121) r121 env h))).trans (by rw [cLw r n]; kernel_rfl)
theorem bGo : D121 r n zB (xs x0 0 r121) r121 = D121 r n aXm (xs x0 0 r121) (K3 (aTv r n) 0 1 44) :=
 congrArg (fun k => D121 r n aXm (xs x0 0 r121) k) (cCk r n)
theorem cLq : D121 r n zB (xs x0 0 r121) r121 = (K2 (bVu r n) 0 1) :=
 (bGo r n).trans
 ((by kernel_rfl))
theorem cBe : D121 r n wQ (xs x0 0 r121) r121 = (K3 (aOi r n) 0 1 35) :=
 (by kernel_rfl : D121 r n wQ (xs x0 0 r121) r121 = (fun (env : aZ) (h : Hp) => aS (opr env (cC wQ)) (D121 r n cBv (xs x0 0 r121) r121 env h) (D121 r n zB (xs x0 0 r121) r121 env h))).trans (by rw [cLq r n]; kernel_rfl)
theorem cWr : D121 r n aCu (xs x0 0 r121) r121 = D121 r n aVz (xs x0 0 r121) (K3 (aOi r n) 0 1 35) :=
 congrArg (fun k => D121 r n aVz (xs x0 0 r121) k) (cBe r n)
theorem dIq : D121 r n c121 x0 r121 = (K2 (s121 r n) 0 1) :=
 (by kernel_rfl : D121 r n c121 x0 r121 = D121 r n aCu (xs x0 0 r121) r121).trans
 ((cWr r n).trans
 ((by kernel_rfl)))
theorem cYi : aF CF r n 121 args h = s121 r n (aR args 0) (aR args 1) h :=
 (by kernel_rfl : aF CF r n 121 args h = D121 r n c121 x0 r121 (aH args) h).trans ((congrFun (congrFun (dIq r n) (aH args)) h).trans (by kernel_rfl))
noncomputable def aIv (r : RT) (n : Nat) (x0 x3 : DV) (h0 : Hp) : aI :=
 bnd (r 120 [x0, (aE 3), (.s [62])] h0) fun v1 h1 =>
 bnd (aB 2 x3 h1) fun v2 h2 =>
 bnd (aA v2 h2) fun v3 h3 =>
 some (v3, h3)
noncomputable def vE (r : RT) (n : Nat) (x0 x3 : DV) (h0 : Hp) : aI :=
 bnd (aB 2 x3 h0) fun v1 h1 =>
 bnd (aA v1 h1) fun v2 h2 =>
 bnd (aD .gtr v2 (aE 255) h2) fun v3 h3 =>
 aS v3 (
 bnd (aK 4 x3 h3) fun v4 h4 =>
 bnd (r 136 [x0, v4, (aE 2)] h4) fun v5 h5 =>
  aIv r n x0 x3 h5) (
  aIv r n x0 x3 h3)
noncomputable def aGw (r : RT) (n : Nat) (x0 : DV) (h0 : Hp) : aI :=
 bnd (r 120 [x0, (aE 4), (.s [])] h0) fun v1 h1 =>
 bnd (bL [(aE 0), (.s []), (aE 0), (aE 0)] h1) fun v2 h2 =>
 bnd (aG 4 v2 v1 h2) fun _ h3 =>
  vE r n x0 v2 h3
noncomputable def aRv (r : RT) (n : Nat) (x0 : DV) (h0 : Hp) : aI :=
 bnd (r 120 [x0, (aE 2), (.s [112, 114, 105, 109, 105, 116, 105, 118, 101, 58])] h0) fun v1 h1 =>
  aGw r n x0 h1
noncomputable def aQm (r : RT) (n : Nat) (x0 : DV) (h0 : Hp) : aI :=
 bnd (r 134 [x0] h0) fun v1 h1 =>
  aRv r n x0 h1
noncomputable def aQn (r : RT) (n : Nat) (x0 : DV) (h0 : Hp) : aI :=
 bnd (r 133 [x0, (aE 3), (.s [60])] h0) fun v1 h1 =>
 bnd (gX .not v1 h1) fun v2 h2 =>
 aS v2 (
 some ((aE 0), h2)) (
  aQm r n x0 h2)
noncomputable def s122 (r : RT) (n : Nat) (x0 : DV) (h0 : Hp) : aI :=
 aQn r n x0 h0
noncomputable abbrev c122 : Code := cf Tryz.f122
noncomputable abbrev aBu : Code := cR c122
noncomputable abbrev aCn : Code := cR aBu
noncomputable abbrev aDh : Code := cR aCn
noncomputable abbrev aDf : Code := cR aDh
noncomputable abbrev aAt : Code := cR aDf
noncomputable abbrev cVs : Code := cR aAt
noncomputable abbrev cAa : Code := cL aAt
noncomputable abbrev aQb : Code := cL aDf
noncomputable abbrev bHu : Code := cL aDh
noncomputable abbrev aZi : Code := cL aCn
noncomputable abbrev aVk : Code := cL aBu
noncomputable abbrev aYg : Code := cL c122
noncomputable abbrev r122 : K := aU CF Tryz.f122
noncomputable def D122 (r : RT) (n : Nat) (c : Code) (X : Nat → K) (k : K) : K := aM CF r 23 n c X r122 k
theorem cMn : D122 r n cVs x0 r122 = (K2 (aIv r n) 0 3) :=
 (by kernel_rfl)
theorem bZx : D122 r n aAt x0 r122 = D122 r n cAa x0 (K2 (aIv r n) 0 3) :=
 congrArg (fun k => D122 r n cAa x0 k) (cMn r n)
theorem cLy : D122 r n aAt x0 r122 = (K2 (vE r n) 0 3) :=
 (bZx r n).trans
 ((by kernel_rfl))
theorem bLp : D122 r n aDf x0 r122 = D122 r n aQb x0 (K2 (vE r n) 0 3) :=
 congrArg (fun k => D122 r n aQb x0 k) (cLy r n)
theorem bWb (q0 : oK) : D122 r n aQb x0 (K2 q0 0 3) = fun (env : aZ) (h : Hp) =>
 bnd (r 120 [(env 0), (aE 4), (.s [])] h) fun v1 h1 =>
 bnd (bL [(aE 0), (.s []), (aE 0), (aE 0)] h1) fun v2 h2 =>
 bnd (aG 4 v2 v1 h2) fun _ h3 =>
  q0 (env 0) v2 h3 := by kernel_rfl
theorem bCc : (fun (env : aZ) (h : Hp) =>
 bnd (r 120 [(env 0), (aE 4), (.s [])] h) fun v1 h1 =>
 bnd (bL [(aE 0), (.s []), (aE 0), (aE 0)] h1) fun v2 h2 =>
 bnd (aG 4 v2 v1 h2) fun _ h3 =>
  vE r n (env 0) v2 h3) = (K1 (aGw r n) 0) := by kernel_rfl
theorem cLb : D122 r n aDf x0 r122 = (K1 (aGw r n) 0) :=
 (bLp r n).trans
 ((bWb r n (vE r n)).trans (bCc r n))
theorem bHd : D122 r n aDh x0 r122 = D122 r n bHu x0 (K1 (aGw r n) 0) :=
 congrArg (fun k => D122 r n bHu x0 k) (cLb r n)
theorem cGo : D122 r n aDh x0 r122 = (K1 (aRv r n) 0) :=
 (bHd r n).trans
 ((by kernel_rfl))
theorem bQp : D122 r n aCn x0 r122 = D122 r n aZi x0 (K1 (aRv r n) 0) :=
 congrArg (fun k => D122 r n aZi x0 k) (cGo r n)
theorem cBr : D122 r n aCn x0 r122 = (K1 (aQm r n) 0) :=
 (bQp r n).trans
 ((by kernel_rfl))
theorem bKx : D122 r n aBu x0 r122 = D122 r n aVk x0 (K1 (aQm r n) 0) :=
 congrArg (fun k => D122 r n aVk x0 k) (cBr r n)
theorem cGz : D122 r n aBu x0 r122 = (K1 (aQn r n) 0) :=
 (bKx r n).trans
 ((by kernel_rfl))
theorem cXr : D122 r n c122 x0 r122 = D122 r n aYg x0 (K1 (aQn r n) 0) :=
 congrArg (fun k => D122 r n aYg x0 k) (cGz r n)
theorem dJy : D122 r n c122 x0 r122 = (K1 (s122 r n) 0) :=
 (cXr r n).trans
 ((by kernel_rfl))
theorem dBg : aF CF r n 122 args h = s122 r n (aR args 0) h :=
 (by kernel_rfl : aF CF r n 122 args h = D122 r n c122 x0 r122 (aH args) h).trans ((congrFun (congrFun (dJy r n) (aH args)) h).trans (by kernel_rfl))
noncomputable def aHx (r : RT) (n : Nat) (x0 : DV) (h0 : Hp) : aI :=
 bnd (r 141 [x0, (aE 20), (aE 0), (aE 0)] h0) fun v1 h1 =>
 some (.t [], h1)
noncomputable def cP (r : RT) (n : Nat) (x0 x2 : DV) (h0 : Hp) : aI :=
 aS x2 (
 bnd (r 141 [x0, (aE 2), (aE 0), (aE 0)] h0) fun v1 h1 =>
  aHx r n x0 h1) (
 bnd (r 141 [x0, (aE 1), (aE 0), (aE 0)] h0) fun v2 h2 =>
  aHx r n x0 h2)
noncomputable def lJ (r : RT) (n : Nat) (kk8 : fF) (x0 x2 x6 x22 x23 x24 : DV) (h0 : Hp) : aI :=
 bnd (aD .add x24 (aE 1) h0) fun v1 h1 =>
  kk8 x0 x2 x6 x22 x23 v1 h1
noncomputable def uJ (r : RT) (n : Nat) (kk8 : fF) (x0 x2 x6 x22 x23 x24 : DV) (h0 : Hp) : aI :=
 bnd (aJ 6 x22 x24 h0) fun v1 h1 =>
 bnd (aK 6 v1 h1) fun v2 h2 =>
 bnd (bL jZ h2) fun v3 h3 =>
 bnd (aG 6 v3 v2 h3) fun _ h4 =>
 bnd (aK 6 v3 h4) fun v5 h5 =>
 bnd (r 140 [x0, v5] h5) fun v6 h6 =>
 bnd (aD .eql x24 x6 h6) fun v7 h7 =>
 bnd (gD v7 true (aB 0 v3 h7) h7) fun v8 h8 =>
 bnd (gD v7 true (aA v8 h8) h8) fun v9 h9 =>
 bnd (gD v7 true (aD .eql v9 (aE 10) h9) h9) fun v10 h10 =>
 bnd (aP v7 v10 (.b false) h10) fun v11 h11 =>
 aS v11 (
 some (.t [], h11)) (
 bnd (aD .eql x24 x6 h11) fun v12 h12 =>
 bnd (gD v12 true (some (x2, h12)) h12) fun v13 h13 =>
 bnd (aP v12 v13 (.b false) h13) fun v14 h14 =>
 aS v14 (
 bnd (r 141 [x0, (aE 20), (aE 0), (aE 0)] h14) fun v15 h15 =>
 some (.t [], h15)) (
 bnd (aB 0 v3 h14) fun v16 h16 =>
 bnd (aA v16 h16) fun v17 h17 =>
 bnd (aD .eql v17 (aE 10) h17) fun v18 h18 =>
 aS v18 (
    lJ r n kk8 x0 x2 x6 x22 x23 x24 h18) (
 bnd (r 141 [x0, (aE 12), (aE 0), (aE 0)] h18) fun v19 h19 =>
    lJ r n kk8 x0 x2 x6 x22 x23 x24 h19)))
noncomputable def aOw (r : RT) (n : Nat) (kk8 : fF) (x0 x2 x6 x22 x23 x24 x25 : DV) (h0 : Hp) : aI :=
 aS x25 (
  uJ r n kk8 x0 x2 x6 x22 x23 x24 h0) (
  cP r n x0 x2 h0)
noncomputable def bAf (r : RT) (n : Nat) (kk8 : fF) (x0 x2 x6 x22 x23 x24 : DV) (h0 : Hp) : aI :=
 bnd (aD .lss x24 x23 h0) fun v1 h1 =>
  aOw r n kk8 x0 x2 x6 x22 x23 x24 v1 h1
noncomputable def tG (r : RT) (n : Nat) (m : Nat) : fF :=
 Nat.rec (motive := fun _ => fF) (fun _ _ _ _ _ _ _ => none) (fun _ ih => bAf r n ih) m
noncomputable def bFy (r : RT) (n : Nat) : fF := tG r n n
noncomputable def aTm (r : RT) (n : Nat) (x0 x2 x6 x22 x23 x24 : DV) (h0 : Hp) : aI :=
 bFy r n x0 x2 x6 x22 x23 x24 h0
noncomputable def aQl (r : RT) (n : Nat) (x0 x2 x4 x6 : DV) (h0 : Hp) : aI :=
 bnd (aB 5 x4 h0) fun v1 h1 =>
 bnd (aA v1 h1) fun v2 h2 =>
 bnd (bZ v2 h2) fun v3 h3 =>
  aTm r n x0 x2 x6 v2 v3 (aE 0) h3
noncomputable def aRf (r : RT) (n : Nat) (x0 x2 x4 : DV) (h0 : Hp) : aI :=
 bnd (aB 5 x4 h0) fun v1 h1 =>
 bnd (aA v1 h1) fun v2 h2 =>
 bnd (bZ v2 h2) fun v3 h3 =>
 bnd (aD .sub v3 (aE 1) h3) fun v4 h4 =>
  aQl r n x0 x2 x4 v4 h4
noncomputable def aOy (r : RT) (n : Nat) (x0 x2 x4 : DV) (h0 : Hp) : aI :=
 bnd (aB 4 x4 h0) fun v1 h1 =>
 bnd (aA v1 h1) fun v2 h2 =>
 bnd (r 139 [x0, v2, (.b false)] h2) fun v3 h3 =>
  aRf r n x0 x2 x4 h3
noncomputable def vT (r : RT) (n : Nat) (x0 x2 x4 : DV) (h0 : Hp) : aI :=
 bnd (aB 3 x4 h0) fun v1 h1 =>
 bnd (aA v1 h1) fun v2 h2 =>
 bnd (r 139 [x0, v2, (.b true)] h2) fun v3 h3 =>
  aOy r n x0 x2 x4 h3
noncomputable def s123 (r : RT) (n : Nat) (x0 x1 x2 : DV) (h0 : Hp) : aI :=
 bnd (bR x1 h0) fun v1 h1 =>
  vT r n x0 x2 v1 h1
noncomputable abbrev c123 : Code := cf Tryz.f123
noncomputable abbrev aIg : Code := cR c123
noncomputable abbrev aCt : Code := cR aIg
noncomputable abbrev aEo : Code := cR aCt
noncomputable abbrev aBh : Code := cR aEo
noncomputable abbrev aDq : Code := cR aBh
noncomputable abbrev dBs : Code := cR aDq
noncomputable abbrev bNa : Code := cL aDq
noncomputable abbrev vU : Code := cL aBh
noncomputable abbrev aOf : Code := cR vU
noncomputable abbrev tH : Code := cL aOf
noncomputable abbrev iC : Code := cL tH
noncomputable abbrev sK : Code := cR iC
noncomputable abbrev uR : Code := cR sK
noncomputable abbrev cGp : Code := cR uR
noncomputable abbrev aAq : Code := cL uR
noncomputable abbrev aYa : Code := cL sK
noncomputable abbrev aXw : Code := cL iC
noncomputable abbrev aVu : Code := cL vU
noncomputable abbrev aZg : Code := cL aEo
noncomputable abbrev aYe : Code := cL aCt
noncomputable abbrev aXy : Code := cL aIg
noncomputable abbrev aJs : Code := cL c123
noncomputable abbrev r123 : K := aU CF Tryz.f123
noncomputable def D123 (r : RT) (n : Nat) (c : Code) (X : Nat → K) (k : K) : K := aM CF r 64 n c X r123 k
theorem cOj : D123 r n dBs x0 r123 = (K1 (aHx r n) 0) :=
 (by kernel_rfl)
theorem bXz : D123 r n aDq x0 r123 = D123 r n bNa x0 (K1 (aHx r n) 0) :=
 congrArg (fun k => D123 r n bNa x0 k) (cOj r n)
theorem cOa : D123 r n aDq x0 r123 = (K2 (cP r n) 0 2) :=
 (bXz r n).trans
 ((by kernel_rfl))
theorem bHh (kk8 : fF) : D123 r n cGp (xs x0 0 (K2 (cP r n) 0 2)) (K6 kk8 0 2 6 22 23 24) = (K6 (lJ r n kk8) 0 2 6 22 23 24) :=
 (by kernel_rfl)
theorem bFt (kk8 : fF) : D123 r n uR (xs x0 0 (K2 (cP r n) 0 2)) (K6 kk8 0 2 6 22 23 24) = D123 r n aAq (xs x0 0 (K2 (cP r n) 0 2)) (K6 (lJ r n kk8) 0 2 6 22 23 24) :=
 congrArg (fun k => D123 r n aAq (xs x0 0 (K2 (cP r n) 0 2)) k) (bHh r n kk8)
theorem bBu (kk8 : fF) (q0 : fF) (q1 : oK) : D123 r n aAq (xs x0 0 (K2 q1 0 2)) (K6 q0 0 2 6 22 23 24) = fun (env : aZ) (h : Hp) =>
 bnd (aJ 6 (env 22) (env 24) h) fun v1 h1 =>
 bnd (aK 6 v1 h1) fun v2 h2 =>
 bnd (bL jZ h2) fun v3 h3 =>
 bnd (aG 6 v3 v2 h3) fun _ h4 =>
 bnd (aK 6 v3 h4) fun v5 h5 =>
 bnd (r 140 [(env 0), v5] h5) fun v6 h6 =>
 bnd (aD .eql (env 24) (env 6) h6) fun v7 h7 =>
 bnd (gD v7 true (aB 0 v3 h7) h7) fun v8 h8 =>
 bnd (gD v7 true (aA v8 h8) h8) fun v9 h9 =>
 bnd (gD v7 true (aD .eql v9 (aE 10) h9) h9) fun v10 h10 =>
 bnd (aP v7 v10 (.b false) h10) fun v11 h11 =>
 aS v11 (
 some (.t [], h11)) (
 bnd (aD .eql (env 24) (env 6) h11) fun v12 h12 =>
 bnd (gD v12 true (some ((env 2), h12)) h12) fun v13 h13 =>
 bnd (aP v12 v13 (.b false) h13) fun v14 h14 =>
 aS v14 (
 bnd (r 141 [(env 0), (aE 20), (aE 0), (aE 0)] h14) fun v15 h15 =>
 some (.t [], h15)) (
 bnd (aB 0 v3 h14) fun v16 h16 =>
 bnd (aA v16 h16) fun v17 h17 =>
 bnd (aD .eql v17 (aE 10) h17) fun v18 h18 =>
 aS v18 (
     q0 (env 0) (env 2) (env 6) (env 22) (env 23) (env 24) h18) (
 bnd (r 141 [(env 0), (aE 12), (aE 0), (aE 0)] h18) fun v19 h19 =>
     q0 (env 0) (env 2) (env 6) (env 22) (env 23) (env 24) h19))) := by kernel_rfl
theorem aSm (kk8 : fF) : (fun (env : aZ) (h : Hp) =>
 bnd (aJ 6 (env 22) (env 24) h) fun v1 h1 =>
 bnd (aK 6 v1 h1) fun v2 h2 =>
 bnd (bL jZ h2) fun v3 h3 =>
 bnd (aG 6 v3 v2 h3) fun _ h4 =>
 bnd (aK 6 v3 h4) fun v5 h5 =>
 bnd (r 140 [(env 0), v5] h5) fun v6 h6 =>
 bnd (aD .eql (env 24) (env 6) h6) fun v7 h7 =>
 bnd (gD v7 true (aB 0 v3 h7) h7) fun v8 h8 =>
 bnd (gD v7 true (aA v8 h8) h8) fun v9 h9 =>
 bnd (gD v7 true (aD .eql v9 (aE 10) h9) h9) fun v10 h10 =>
 bnd (aP v7 v10 (.b false) h10) fun v11 h11 =>
 aS v11 (
 some (.t [], h11)) (
 bnd (aD .eql (env 24) (env 6) h11) fun v12 h12 =>
 bnd (gD v12 true (some ((env 2), h12)) h12) fun v13 h13 =>
 bnd (aP v12 v13 (.b false) h13) fun v14 h14 =>
 aS v14 (
 bnd (r 141 [(env 0), (aE 20), (aE 0), (aE 0)] h14) fun v15 h15 =>
 some (.t [], h15)) (
 bnd (aB 0 v3 h14) fun v16 h16 =>
 bnd (aA v16 h16) fun v17 h17 =>
 bnd (aD .eql v17 (aE 10) h17) fun v18 h18 =>
 aS v18 (
     lJ r n kk8 (env 0) (env 2) (env 6) (env 22) (env 23) (env 24) h18) (
 bnd (r 141 [(env 0), (aE 12), (aE 0), (aE 0)] h18) fun v19 h19 =>
     lJ r n kk8 (env 0) (env 2) (env 6) (env 22) (env 23) (env 24) h19)))) = (K6 (uJ r n kk8) 0 2 6 22 23 24) := by kernel_rfl
theorem bSs (kk8 : fF) : D123 r n uR (xs x0 0 (K2 (cP r n) 0 2)) (K6 kk8 0 2 6 22 23 24) = (K6 (uJ r n kk8) 0 2 6 22 23 24) :=
 (bFt r n kk8).trans
 ((bBu r n kk8 (lJ r n kk8) (cP r n)).trans (aSm r n kk8))
theorem bOx (kk8 : fF) : D123 r n sK (xs x0 0 (K2 (cP r n) 0 2)) (K6 kk8 0 2 6 22 23 24) = D123 r n aYa (xs x0 0 (K2 (cP r n) 0 2)) (K6 (uJ r n kk8) 0 2 6 22 23 24) :=
 congrArg (fun k => D123 r n aYa (xs x0 0 (K2 (cP r n) 0 2)) k) (bSs r n kk8)
theorem cFl (kk8 : fF) : D123 r n sK (xs x0 0 (K2 (cP r n) 0 2)) (K6 kk8 0 2 6 22 23 24) = (K7 (aOw r n kk8) 0 2 6 22 23 24 25) :=
 (bOx r n kk8).trans
 ((by kernel_rfl))
theorem bWq (kk8 : fF) : D123 r n iC (xs x0 0 (K2 (cP r n) 0 2)) (K6 kk8 0 2 6 22 23 24) = D123 r n aXw (xs x0 0 (K2 (cP r n) 0 2)) (K7 (aOw r n kk8) 0 2 6 22 23 24 25) :=
 congrArg (fun k => D123 r n aXw (xs x0 0 (K2 (cP r n) 0 2)) k) (cFl r n kk8)
theorem cAd (kk8 : fF) : D123 r n iC (xs x0 0 (K2 (cP r n) 0 2)) (K6 kk8 0 2 6 22 23 24) = (K6 (bAf r n kk8) 0 2 6 22 23 24) :=
 (bWq r n kk8).trans
 ((by kernel_rfl))
theorem bHg (m : Nat) : aN (fun kk => D123 r n iC (xs x0 0 (K2 (cP r n) 0 2)) kk) m = (K6 (tG r n m) 0 2 6 22 23 24) := by
 induction m with
 | zero => exact (by kernel_rfl : aN (fun kk => D123 r n iC (xs x0 0 (K2 (cP r n) 0 2)) kk) 0 = (K6 (tG r n 0) 0 2 6 22 23 24))
 | succ m ih =>
  refine (by kernel_rfl : aN (fun kk => D123 r n iC (xs x0 0 (K2 (cP r n) 0 2)) kk) (m + 1) = D123 r n iC (xs x0 0 (K2 (cP r n) 0 2)) (aN (fun kk => D123 r n iC (xs x0 0 (K2 (cP r n) 0 2)) kk) m)).trans ?_
  rw [ih]
  exact (cAd r n (tG r n m)).trans (by kernel_rfl)
theorem cNb : D123 r n tH (xs x0 0 (K2 (cP r n) 0 2)) (K2 (cP r n) 0 2) = (K6 (bFy r n) 0 2 6 22 23 24) :=
 (by kernel_rfl : D123 r n tH (xs x0 0 (K2 (cP r n) 0 2)) (K2 (cP r n) 0 2) = aN (fun kk => D123 r n iC (xs x0 0 (K2 (cP r n) 0 2)) kk) n).trans ((bHg r n n).trans (by kernel_rfl))
theorem cJu : D123 r n aOf x0 (K2 (cP r n) 0 2) = (K6 (aTm r n) 0 2 6 22 23 24) :=
 (by kernel_rfl : D123 r n aOf x0 (K2 (cP r n) 0 2) = D123 r n tH (xs x0 0 (K2 (cP r n) 0 2)) (K2 (cP r n) 0 2)).trans
 ((cNb r n).trans (by kernel_rfl))
theorem bTr : D123 r n aBh x0 r123 = D123 r n vU x0 (K2 (cP r n) 0 2) :=
 congrArg (fun k => D123 r n vU x0 k) (cOa r n)
theorem bVh : D123 r n vU x0 (K2 (cP r n) 0 2) = D123 r n aVu x0 (K6 (aTm r n) 0 2 6 22 23 24) :=
 congrArg (fun k => D123 r n aVu x0 k) (cJu r n)
theorem cKh : D123 r n aBh x0 r123 = (K4 (aQl r n) 0 2 4 6) :=
 (bTr r n).trans
 ((bVh r n).trans
 ((by kernel_rfl)))
theorem bOu : D123 r n aEo x0 r123 = D123 r n aZg x0 (K4 (aQl r n) 0 2 4 6) :=
 congrArg (fun k => D123 r n aZg x0 k) (cKh r n)
theorem cDn : D123 r n aEo x0 r123 = (K3 (aRf r n) 0 2 4) :=
 (bOu r n).trans
 ((by kernel_rfl))
theorem bJg : D123 r n aCt x0 r123 = D123 r n aYe x0 (K3 (aRf r n) 0 2 4) :=
 congrArg (fun k => D123 r n aYe x0 k) (cDn r n)
theorem cNq : D123 r n aCt x0 r123 = (K3 (aOy r n) 0 2 4) :=
 (bJg r n).trans
 ((by kernel_rfl))
theorem bFl : D123 r n aIg x0 r123 = D123 r n aXy x0 (K3 (aOy r n) 0 2 4) :=
 congrArg (fun k => D123 r n aXy x0 k) (cNq r n)
theorem cMz : D123 r n aIg x0 r123 = (K3 (vT r n) 0 2 4) :=
 (bFl r n).trans
 ((by kernel_rfl))
theorem cLd : D123 r n c123 x0 r123 = D123 r n aJs x0 (K3 (vT r n) 0 2 4) :=
 congrArg (fun k => D123 r n aJs x0 k) (cMz r n)
theorem cDj (q0 : mN) : D123 r n aJs x0 (K3 q0 0 2 4) = fun (env : aZ) (h : Hp) =>
 bnd (bR (env 1) h) fun v1 h1 =>
  q0 (env 0) (env 2) v1 h1 := by kernel_rfl
theorem bUd : (fun (env : aZ) (h : Hp) =>
 bnd (bR (env 1) h) fun v1 h1 =>
  vT r n (env 0) (env 2) v1 h1) = (K3 (s123 r n) 0 1 2) := by kernel_rfl
theorem dFn : D123 r n c123 x0 r123 = (K3 (s123 r n) 0 1 2) :=
 (cLd r n).trans
 ((cDj r n (vT r n)).trans (bUd r n))
theorem cRq : aF CF r n 123 args h = s123 r n (aR args 0) (aR args 1) (aR args 2) h :=
 (by kernel_rfl : aF CF r n 123 args h = D123 r n c123 x0 r123 (aH args) h).trans ((congrFun (congrFun (dFn r n) (aH args)) h).trans (by kernel_rfl))
noncomputable def s124 (r : RT) (n : Nat) (x0 : DV) (h0 : Hp) : aI :=
 bnd (bR x0 h0) fun v1 h1 =>
 bnd (aB 0 v1 h1) fun v2 h2 =>
 bnd (aA v2 h2) fun v3 h3 =>
 bnd (r 142 [v3] h3) fun v4 h4 =>
 bnd (aC 0 v4 h4) fun v5 h5 =>
 bnd (aC 1 v4 h5) fun v6 h6 =>
 bnd (aB 0 v1 h6) fun v7 h7 =>
 bnd (aA v7 h7) fun v8 h8 =>
 bnd (aD .geq v8 (aE 1) h8) fun v9 h9 =>
 bnd (gD v9 true (aB 0 v1 h9) h9) fun v10 h10 =>
 bnd (gD v9 true (aA v10 h10) h10) fun v11 h11 =>
 bnd (gD v9 true (aD .leq v11 (aE 20) h11) h11) fun v12 h12 =>
 bnd (aP v9 v12 (.b false) h12) fun v13 h13 =>
 bnd (gD v13 true (aB 1 v1 h13) h13) fun v14 h14 =>
 bnd (gD v13 true (aA v14 h14) h14) fun v15 h15 =>
 bnd (gD v13 true (some (v5, h15)) h15) fun v16 h16 =>
 bnd (gD v13 true (r 143 [v15, v16] h16) h16) fun v17 h17 =>
 bnd (aP v13 v17 (.b false) h17) fun v18 h18 =>
 bnd (gD v18 true (aB 2 v1 h18) h18) fun v19 h19 =>
 bnd (gD v18 true (aA v19 h19) h19) fun v20 h20 =>
 bnd (gD v18 true (some (v6, h20)) h20) fun v21 h21 =>
 bnd (gD v18 true (r 143 [v20, v21] h21) h21) fun v22 h22 =>
 bnd (aP v18 v22 (.b false) h22) fun v23 h23 =>
 some (v23, h23)
noncomputable abbrev c124 : Code := cf Tryz.f124
noncomputable abbrev r124 : K := aU CF Tryz.f124
noncomputable def D124 (r : RT) (n : Nat) (c : Code) (X : Nat → K) (k : K) : K := aM CF r 31 n c X r124 k
theorem dGh : D124 r n c124 x0 r124 = (K1 (s124 r n) 0) :=
 (by kernel_rfl)
theorem cSa : aF CF r n 124 args h = s124 r n (aR args 0) h :=
 (by kernel_rfl : aF CF r n 124 args h = D124 r n c124 x0 r124 (aH args) h).trans ((congrFun (congrFun (dGh r n) (aH args)) h).trans (by kernel_rfl))
noncomputable def s125 (r : RT) (n : Nat) (x0 x1 : DV) (h0 : Hp) : aI :=
 bnd (bR x0 h0) fun v1 h1 =>
 bnd (aK 6 v1 h1) fun v2 h2 =>
 bnd (r 144 [v2, x1] h2) fun v3 h3 =>
 bnd (aC 0 v3 h3) fun v4 h4 =>
 bnd (aC 1 v3 h4) fun v5 h5 =>
 some (v5, h5)
noncomputable abbrev c125 : Code := cf Tryz.f125
noncomputable abbrev r125 : K := aU CF Tryz.f125
noncomputable def D125 (r : RT) (n : Nat) (c : Code) (X : Nat → K) (k : K) : K := aM CF r 14 n c X r125 k
theorem dJe : D125 r n c125 x0 r125 = (K2 (s125 r n) 0 1) :=
 (by kernel_rfl)
theorem cSw : aF CF r n 125 args h = s125 r n (aR args 0) (aR args 1) h :=
 (by kernel_rfl : aF CF r n 125 args h = D125 r n c125 x0 r125 (aH args) h).trans ((congrFun (congrFun (dJe r n) (aH args)) h).trans (by kernel_rfl))
noncomputable def eE (r : RT) (n : Nat) (x0 x6 : DV) (h0 : Hp) : aI :=
 bnd (r 46 [x0, x6] h0) fun v1 h1 =>
 bnd (aC 0 v1 h1) fun v2 h2 =>
 bnd (aC 1 v1 h2) fun v3 h3 =>
 some (.t [v2, v3], h3)
noncomputable def aBg (r : RT) (n : Nat) (kk6 : cG) (x0 x6 x38 x39 x40 : DV) (h0 : Hp) : aI :=
 bnd (aD .lss x40 x39 h0) fun v1 h1 =>
 aS v1 (
 bnd (aJ 4 x38 x40 h1) fun v2 h2 =>
 bnd (aK 4 v2 h2) fun v3 h3 =>
 bnd (bL [(aE 0), (.s []), (aE 0), .l0] h3) fun v4 h4 =>
 bnd (aG 4 v4 v3 h4) fun _ h5 =>
 bnd (aK 4 v4 h5) fun v6 h6 =>
 bnd (r 126 [x0, v6] h6) fun v7 h7 =>
 bnd (aC 0 v7 h7) fun v8 h8 =>
 bnd (aC 1 v7 h8) fun v9 h9 =>
 bnd (aD .neq v9 (aE 0) h9) fun v10 h10 =>
 aS v10 (
 some (.t [(aE 0), v9], h10)) (
 bnd (aL [(aE 0)] 1 [(0, 1, v8)] h10) fun v11 h11 =>
 bnd (bA 1 8 x6 v11 h11) fun v12 h12 =>
 bnd (aD .add x40 (aE 1) h12) fun v13 h13 =>
    kk6 x0 v12 x38 x39 v13 h13)) (
      eE r n x0 x6 h1)
noncomputable def uP (r : RT) (n : Nat) (m : Nat) : cG :=
 Nat.rec (motive := fun _ => cG) (fun _ _ _ _ _ _ => none) (fun _ ih => aBg r n ih) m
noncomputable def bLa (r : RT) (n : Nat) : cG := uP r n n
noncomputable def aOe (r : RT) (n : Nat) (x0 x6 x38 x39 x40 : DV) (h0 : Hp) : aI :=
 bLa r n x0 x6 x38 x39 x40 h0
noncomputable def aSk (r : RT) (n : Nat) (x0 x3 x6 : DV) (h0 : Hp) : aI :=
 bnd (aB 3 x3 h0) fun v1 h1 =>
 bnd (aA v1 h1) fun v2 h2 =>
 bnd (bZ v2 h2) fun v3 h3 =>
  aOe r n x0 x6 v2 v3 (aE 0) h3
noncomputable def aRe (r : RT) (n : Nat) (x0 x3 : DV) (h0 : Hp) : aI :=
 aSk r n x0 x3 .l0 h0
noncomputable def wV (r : RT) (n : Nat) (x0 x3 : DV) (h0 : Hp) : aI :=
 bnd (aB 0 x3 h0) fun v1 h1 =>
 bnd (aA v1 h1) fun v2 h2 =>
 bnd (aD .eql v2 (aE 1) h2) fun v3 h3 =>
 aS v3 (
 bnd (aB 2 x3 h3) fun v4 h4 =>
 bnd (aA v4 h4) fun v5 h5 =>
 bnd (r 42 [x0, v5] h5) fun v6 h6 =>
 bnd (aC 0 v6 h6) fun v7 h7 =>
 bnd (aC 1 v6 h7) fun v8 h8 =>
 some (.t [v7, v8], h8)) (
 bnd (aD .eql v2 (aE 2) h3) fun v9 h9 =>
 aS v9 (
 bnd (aB 1 x3 h9) fun v10 h10 =>
 bnd (aA v10 h10) fun v11 h11 =>
 bnd (r 43 [x0, v11] h11) fun v12 h12 =>
 bnd (aC 0 v12 h12) fun v13 h13 =>
 bnd (aC 1 v12 h13) fun v14 h14 =>
 some (.t [v13, v14], h14)) (
 bnd (aD .eql v2 (aE 3) h9) fun v15 h15 =>
 aS v15 (
 bnd (aB 1 x3 h15) fun v16 h16 =>
 bnd (aA v16 h16) fun v17 h17 =>
 bnd (r 44 [x0, v17] h17) fun v18 h18 =>
 bnd (aC 0 v18 h18) fun v19 h19 =>
 bnd (aC 1 v18 h19) fun v20 h20 =>
 some (.t [v19, v20], h20)) (
    aRe r n x0 x3 h15)))
noncomputable def s126 (r : RT) (n : Nat) (x0 x1 : DV) (h0 : Hp) : aI :=
 bnd (bR x1 h0) fun v1 h1 =>
  wV r n x0 v1 h1
noncomputable abbrev c126 : Code := cf Tryz.f126
noncomputable abbrev aJh : Code := cR c126
noncomputable abbrev aJp : Code := cR aJh
noncomputable abbrev aHs : Code := cR aJp
noncomputable abbrev cXt : Code := cR aHs
noncomputable abbrev vQ : Code := cL aHs
noncomputable abbrev aPl : Code := cR vQ
noncomputable abbrev aCv : Code := cL aPl
noncomputable abbrev lP : Code := cL aCv
noncomputable abbrev bQc : Code := cL vQ
noncomputable abbrev aZu : Code := cL aJp
noncomputable abbrev bBi : Code := cL aJh
noncomputable abbrev aCc : Code := cL c126
noncomputable abbrev r126 : K := aU CF Tryz.f126
noncomputable def D126 (r : RT) (n : Nat) (c : Code) (X : Nat → K) (k : K) : K := aM CF r 63 n c X r126 k
theorem cLp : D126 r n cXt x0 r126 = (K2 (eE r n) 0 6) :=
 (by kernel_rfl)
theorem bGs (kk6 : cG) (q0 : oK) : D126 r n lP (xs x0 1 (K2 q0 0 6)) (K5 kk6 0 6 38 39 40) = fun (env : aZ) (h : Hp) =>
 bnd (aD .lss (env 40) (env 39) h) fun v1 h1 =>
 aS v1 (
 bnd (aJ 4 (env 38) (env 40) h1) fun v2 h2 =>
 bnd (aK 4 v2 h2) fun v3 h3 =>
 bnd (bL [(aE 0), (.s []), (aE 0), .l0] h3) fun v4 h4 =>
 bnd (aG 4 v4 v3 h4) fun _ h5 =>
 bnd (aK 4 v4 h5) fun v6 h6 =>
 bnd (r 126 [(env 0), v6] h6) fun v7 h7 =>
 bnd (aC 0 v7 h7) fun v8 h8 =>
 bnd (aC 1 v7 h8) fun v9 h9 =>
 bnd (aD .neq v9 (aE 0) h9) fun v10 h10 =>
 aS v10 (
 some (.t [(aE 0), v9], h10)) (
 bnd (aL [(aE 0)] 1 [(0, 1, v8)] h10) fun v11 h11 =>
 bnd (bA 1 8 (env 6) v11 h11) fun v12 h12 =>
 bnd (aD .add (env 40) (aE 1) h12) fun v13 h13 =>
    kk6 (env 0) v12 (env 38) (env 39) v13 h13)) (
      q0 (env 0) (env 6) h1) := by kernel_rfl
theorem bCb (kk6 : cG) : (fun (env : aZ) (h : Hp) =>
 bnd (aD .lss (env 40) (env 39) h) fun v1 h1 =>
 aS v1 (
 bnd (aJ 4 (env 38) (env 40) h1) fun v2 h2 =>
 bnd (aK 4 v2 h2) fun v3 h3 =>
 bnd (bL [(aE 0), (.s []), (aE 0), .l0] h3) fun v4 h4 =>
 bnd (aG 4 v4 v3 h4) fun _ h5 =>
 bnd (aK 4 v4 h5) fun v6 h6 =>
 bnd (r 126 [(env 0), v6] h6) fun v7 h7 =>
 bnd (aC 0 v7 h7) fun v8 h8 =>
 bnd (aC 1 v7 h8) fun v9 h9 =>
 bnd (aD .neq v9 (aE 0) h9) fun v10 h10 =>
 aS v10 (
 some (.t [(aE 0), v9], h10)) (
 bnd (aL [(aE 0)] 1 [(0, 1, v8)] h10) fun v11 h11 =>
 bnd (bA 1 8 (env 6) v11 h11) fun v12 h12 =>
 bnd (aD .add (env 40) (aE 1) h12) fun v13 h13 =>
    kk6 (env 0) v12 (env 38) (env 39) v13 h13)) (
      eE r n (env 0) (env 6) h1)) = (K5 (aBg r n kk6) 0 6 38 39 40) := by kernel_rfl
theorem bRw (kk6 : cG) : D126 r n lP (xs x0 1 (K2 (eE r n) 0 6)) (K5 kk6 0 6 38 39 40) = (K5 (aBg r n kk6) 0 6 38 39 40) :=
 (bGs r n kk6 (eE r n)).trans (bCb r n kk6)
theorem bNy (m : Nat) : aN (fun kk => D126 r n lP (xs x0 1 (K2 (eE r n) 0 6)) kk) m = (K5 (uP r n m) 0 6 38 39 40) := by
 induction m with
 | zero => exact (by kernel_rfl : aN (fun kk => D126 r n lP (xs x0 1 (K2 (eE r n) 0 6)) kk) 0 = (K5 (uP r n 0) 0 6 38 39 40))
 | succ m ih =>
  refine (by kernel_rfl : aN (fun kk => D126 r n lP (xs x0 1 (K2 (eE r n) 0 6)) kk) (m + 1) = D126 r n lP (xs x0 1 (K2 (eE r n) 0 6)) (aN (fun kk => D126 r n lP (xs x0 1 (K2 (eE r n) 0 6)) kk) m)).trans ?_
  rw [ih]
  exact (bRw r n (uP r n m)).trans (by kernel_rfl)
theorem cGq : D126 r n aCv (xs x0 1 (K2 (eE r n) 0 6)) (K2 (eE r n) 0 6) = (K5 (bLa r n) 0 6 38 39 40) :=
 (by kernel_rfl : D126 r n aCv (xs x0 1 (K2 (eE r n) 0 6)) (K2 (eE r n) 0 6) = aN (fun kk => D126 r n lP (xs x0 1 (K2 (eE r n) 0 6)) kk) n).trans ((bNy r n n).trans (by kernel_rfl))
theorem cMm : D126 r n aPl x0 (K2 (eE r n) 0 6) = (K5 (aOe r n) 0 6 38 39 40) :=
 (by kernel_rfl : D126 r n aPl x0 (K2 (eE r n) 0 6) = D126 r n aCv (xs x0 1 (K2 (eE r n) 0 6)) (K2 (eE r n) 0 6)).trans
 ((cGq r n).trans (by kernel_rfl))
theorem bWt : D126 r n aHs x0 r126 = D126 r n vQ x0 (K2 (eE r n) 0 6) :=
 congrArg (fun k => D126 r n vQ x0 k) (cLp r n)
theorem bJz : D126 r n vQ x0 (K2 (eE r n) 0 6) = D126 r n bQc x0 (K5 (aOe r n) 0 6 38 39 40) :=
 congrArg (fun k => D126 r n bQc x0 k) (cMm r n)
theorem cHo : D126 r n aHs x0 r126 = (K3 (aSk r n) 0 3 6) :=
 (bWt r n).trans
 ((bJz r n).trans
 ((by kernel_rfl)))
theorem bUo : D126 r n aJp x0 r126 = D126 r n aZu x0 (K3 (aSk r n) 0 3 6) :=
 congrArg (fun k => D126 r n aZu x0 k) (cHo r n)
theorem cAr : D126 r n aJp x0 r126 = (K2 (aRe r n) 0 3) :=
 (bUo r n).trans
 ((by kernel_rfl))
theorem bOy : D126 r n aJh x0 r126 = D126 r n bBi x0 (K2 (aRe r n) 0 3) :=
 congrArg (fun k => D126 r n bBi x0 k) (cAr r n)
theorem cFd : D126 r n aJh x0 r126 = (K2 (wV r n) 0 3) :=
 (bOy r n).trans
 ((by kernel_rfl))
theorem cZi : D126 r n c126 x0 r126 = D126 r n aCc x0 (K2 (wV r n) 0 3) :=
 congrArg (fun k => D126 r n aCc x0 k) (cFd r n)
theorem cVm (q0 : oK) : D126 r n aCc x0 (K2 q0 0 3) = fun (env : aZ) (h : Hp) =>
 bnd (bR (env 1) h) fun v1 h1 =>
  q0 (env 0) v1 h1 := by kernel_rfl
theorem cKc : (fun (env : aZ) (h : Hp) =>
 bnd (bR (env 1) h) fun v1 h1 =>
  wV r n (env 0) v1 h1) = (K2 (s126 r n) 0 1) := by kernel_rfl
theorem dHc : D126 r n c126 x0 r126 = (K2 (s126 r n) 0 1) :=
 (cZi r n).trans
 ((cVm r n (wV r n)).trans (cKc r n))
theorem cUc : aF CF r n 126 args h = s126 r n (aR args 0) (aR args 1) h :=
 (by kernel_rfl : aF CF r n 126 args h = D126 r n c126 x0 r126 (aH args) h).trans ((congrFun (congrFun (dHc r n) (aH args)) h).trans (by kernel_rfl))
noncomputable def eF (r : RT) (n : Nat) (x4 : DV) (h0 : Hp) : aI :=
 some (.t [x4, (aE 0)], h0)
noncomputable def aHh (r : RT) (n : Nat) (kk6 : dJ) (x4 x10 x11 x12 : DV) (h0 : Hp) : aI :=
 bnd (aD .lss x12 x11 h0) fun v1 h1 =>
 aS v1 (
 bnd (aJ 3 x10 x12 h1) fun v2 h2 =>
 bnd (aK 3 v2 h2) fun v3 h3 =>
 bnd (bL [(aE 0), (aE 0), (aE 0)] h3) fun v4 h4 =>
 bnd (aG 3 v4 v3 h4) fun _ h5 =>
 bnd (aK 3 v4 h5) fun v6 h6 =>
 bnd (r 124 [v6] h6) fun v7 h7 =>
 bnd (gX .not v7 h7) fun v8 h8 =>
 aS v8 (
 some (.t [.l0, (aE 19)], h8)) (
 bnd (aB 0 v4 h8) fun v9 h9 =>
 bnd (aA v9 h9) fun v10 h10 =>
 bnd (eC .u8 v10 h10) fun v11 h11 =>
 bnd (aB 1 v4 h11) fun v12 h12 =>
 bnd (aA v12 h12) fun v13 h13 =>
 bnd (eC .u8 v13 h13) fun v14 h14 =>
 bnd (aB 2 v4 h14) fun v15 h15 =>
 bnd (aA v15 h15) fun v16 h16 =>
 bnd (eC .u8 v16 h16) fun v17 h17 =>
 bnd (aL [(.i .u8 (Int.ofNat 0)), (.i .u8 (Int.ofNat 0)), (.i .u8 (Int.ofNat 0))] 3 [(0, 1, v11), (1, 1, v14), (2, 1, v17)] h17) fun v18 h18 =>
 bnd (bA 1 1 x4 v18 h18) fun v19 h19 =>
 bnd (aD .add x12 (aE 1) h19) fun v20 h20 =>
    kk6 v19 x10 x11 v20 h20)) (
      eF r n x4 h1)
noncomputable def uB (r : RT) (n : Nat) (m : Nat) : dJ :=
 Nat.rec (motive := fun _ => dJ) (fun _ _ _ _ _ => none) (fun _ ih => aHh r n ih) m
noncomputable def bHl (r : RT) (n : Nat) : dJ := uB r n n
noncomputable def aTe (r : RT) (n : Nat) (x4 x10 x11 x12 : DV) (h0 : Hp) : aI :=
 bHl r n x4 x10 x11 x12 h0
noncomputable def aOq (r : RT) (n : Nat) (x0 x4 : DV) (h0 : Hp) : aI :=
 bnd (bZ x0 h0) fun v1 h1 =>
  aTe r n x4 x0 v1 (aE 0) h1
noncomputable def aTa (r : RT) (n : Nat) (x0 : DV) (h0 : Hp) : aI :=
 aOq r n x0 .l0 h0
noncomputable def aNr (r : RT) (n : Nat) (x0 : DV) (h0 : Hp) : aI :=
 bnd (bZ x0 h0) fun v1 h1 =>
 bnd (aD .gtr v1 (aE 400) h1) fun v2 h2 =>
 aS v2 (
 some (.t [.l0, (aE 19)], h2)) (
  aTa r n x0 h2)
noncomputable def s127 (r : RT) (n : Nat) (x0 : DV) (h0 : Hp) : aI :=
 aNr r n x0 h0
noncomputable abbrev c127 : Code := cf Tryz.f127
noncomputable abbrev aGz : Code := cR c127
noncomputable abbrev aJq : Code := cR aGz
noncomputable abbrev aGo : Code := cR aJq
noncomputable abbrev cYg : Code := cR aGo
noncomputable abbrev wT : Code := cL aGo
noncomputable abbrev aOh : Code := cR wT
noncomputable abbrev aBx : Code := cL aOh
noncomputable abbrev lY : Code := cL aBx
noncomputable abbrev bUu : Code := cL wT
noncomputable abbrev bBk : Code := cL aJq
noncomputable abbrev bBf : Code := cL aGz
noncomputable abbrev aUf : Code := cL c127
noncomputable abbrev r127 : K := aU CF Tryz.f127
noncomputable def D127 (r : RT) (n : Nat) (c : Code) (X : Nat → K) (k : K) : K := aM CF r 33 n c X r127 k
theorem cFt : D127 r n cYg x0 r127 = (K1 (eF r n) 4) :=
 (by kernel_rfl)
theorem bTg (kk6 : dJ) (q0 : TT1) : D127 r n lY (xs x0 0 (K1 q0 4)) (K4 kk6 4 10 11 12) = fun (env : aZ) (h : Hp) =>
 bnd (aD .lss (env 12) (env 11) h) fun v1 h1 =>
 aS v1 (
 bnd (aJ 3 (env 10) (env 12) h1) fun v2 h2 =>
 bnd (aK 3 v2 h2) fun v3 h3 =>
 bnd (bL [(aE 0), (aE 0), (aE 0)] h3) fun v4 h4 =>
 bnd (aG 3 v4 v3 h4) fun _ h5 =>
 bnd (aK 3 v4 h5) fun v6 h6 =>
 bnd (r 124 [v6] h6) fun v7 h7 =>
 bnd (gX .not v7 h7) fun v8 h8 =>
 aS v8 (
 some (.t [.l0, (aE 19)], h8)) (
 bnd (aB 0 v4 h8) fun v9 h9 =>
 bnd (aA v9 h9) fun v10 h10 =>
 bnd (eC .u8 v10 h10) fun v11 h11 =>
 bnd (aB 1 v4 h11) fun v12 h12 =>
 bnd (aA v12 h12) fun v13 h13 =>
 bnd (eC .u8 v13 h13) fun v14 h14 =>
 bnd (aB 2 v4 h14) fun v15 h15 =>
 bnd (aA v15 h15) fun v16 h16 =>
 bnd (eC .u8 v16 h16) fun v17 h17 =>
 bnd (aL [(.i .u8 (Int.ofNat 0)), (.i .u8 (Int.ofNat 0)), (.i .u8 (Int.ofNat 0))] 3 [(0, 1, v11), (1, 1, v14), (2, 1, v17)] h17) fun v18 h18 =>
 bnd (bA 1 1 (env 4) v18 h18) fun v19 h19 =>
 bnd (aD .add (env 12) (aE 1) h19) fun v20 h20 =>
    kk6 v19 (env 10) (env 11) v20 h20)) (
      q0 (env 4) h1) := by kernel_rfl
theorem bFc (kk6 : dJ) : (fun (env : aZ) (h : Hp) =>
 bnd (aD .lss (env 12) (env 11) h) fun v1 h1 =>
 aS v1 (
 bnd (aJ 3 (env 10) (env 12) h1) fun v2 h2 =>
 bnd (aK 3 v2 h2) fun v3 h3 =>
 bnd (bL [(aE 0), (aE 0), (aE 0)] h3) fun v4 h4 =>
 bnd (aG 3 v4 v3 h4) fun _ h5 =>
 bnd (aK 3 v4 h5) fun v6 h6 =>
 bnd (r 124 [v6] h6) fun v7 h7 =>
 bnd (gX .not v7 h7) fun v8 h8 =>
 aS v8 (
 some (.t [.l0, (aE 19)], h8)) (
 bnd (aB 0 v4 h8) fun v9 h9 =>
 bnd (aA v9 h9) fun v10 h10 =>
 bnd (eC .u8 v10 h10) fun v11 h11 =>
 bnd (aB 1 v4 h11) fun v12 h12 =>
 bnd (aA v12 h12) fun v13 h13 =>
 bnd (eC .u8 v13 h13) fun v14 h14 =>
 bnd (aB 2 v4 h14) fun v15 h15 =>
 bnd (aA v15 h15) fun v16 h16 =>
 bnd (eC .u8 v16 h16) fun v17 h17 =>
 bnd (aL [(.i .u8 (Int.ofNat 0)), (.i .u8 (Int.ofNat 0)), (.i .u8 (Int.ofNat 0))] 3 [(0, 1, v11), (1, 1, v14), (2, 1, v17)] h17) fun v18 h18 =>
 bnd (bA 1 1 (env 4) v18 h18) fun v19 h19 =>
 bnd (aD .add (env 12) (aE 1) h19) fun v20 h20 =>
    kk6 v19 (env 10) (env 11) v20 h20)) (
      eF r n (env 4) h1)) = (K4 (aHh r n kk6) 4 10 11 12) := by kernel_rfl
theorem bRd (kk6 : dJ) : D127 r n lY (xs x0 0 (K1 (eF r n) 4)) (K4 kk6 4 10 11 12) = (K4 (aHh r n kk6) 4 10 11 12) :=
 (bTg r n kk6 (eF r n)).trans (bFc r n kk6)
theorem bNt (m : Nat) : aN (fun kk => D127 r n lY (xs x0 0 (K1 (eF r n) 4)) kk) m = (K4 (uB r n m) 4 10 11 12) := by
 induction m with
 | zero => exact (by kernel_rfl : aN (fun kk => D127 r n lY (xs x0 0 (K1 (eF r n) 4)) kk) 0 = (K4 (uB r n 0) 4 10 11 12))
 | succ m ih =>
  refine (by kernel_rfl : aN (fun kk => D127 r n lY (xs x0 0 (K1 (eF r n) 4)) kk) (m + 1) = D127 r n lY (xs x0 0 (K1 (eF r n) 4)) (aN (fun kk => D127 r n lY (xs x0 0 (K1 (eF r n) 4)) kk) m)).trans ?_
  rw [ih]
  exact (bRd r n (uB r n m)).trans (by kernel_rfl)
theorem cMj : D127 r n aBx (xs x0 0 (K1 (eF r n) 4)) (K1 (eF r n) 4) = (K4 (bHl r n) 4 10 11 12) :=
 (by kernel_rfl : D127 r n aBx (xs x0 0 (K1 (eF r n) 4)) (K1 (eF r n) 4) = aN (fun kk => D127 r n lY (xs x0 0 (K1 (eF r n) 4)) kk) n).trans ((bNt r n n).trans (by kernel_rfl))
theorem cAs : D127 r n aOh x0 (K1 (eF r n) 4) = (K4 (aTe r n) 4 10 11 12) :=
 (by kernel_rfl : D127 r n aOh x0 (K1 (eF r n) 4) = D127 r n aBx (xs x0 0 (K1 (eF r n) 4)) (K1 (eF r n) 4)).trans
 ((cMj r n).trans (by kernel_rfl))
theorem bZh : D127 r n aGo x0 r127 = D127 r n wT x0 (K1 (eF r n) 4) :=
 congrArg (fun k => D127 r n wT x0 k) (cFt r n)
theorem bQg : D127 r n wT x0 (K1 (eF r n) 4) = D127 r n bUu x0 (K4 (aTe r n) 4 10 11 12) :=
 congrArg (fun k => D127 r n bUu x0 k) (cAs r n)
theorem cCp : D127 r n aGo x0 r127 = (K2 (aOq r n) 0 4) :=
 (bZh r n).trans
 ((bQg r n).trans
 ((by kernel_rfl)))
theorem bPg : D127 r n aJq x0 r127 = D127 r n bBk x0 (K2 (aOq r n) 0 4) :=
 congrArg (fun k => D127 r n bBk x0 k) (cCp r n)
theorem cKi : D127 r n aJq x0 r127 = (K1 (aTa r n) 0) :=
 (bPg r n).trans
 ((by kernel_rfl))
theorem bKz : D127 r n aGz x0 r127 = D127 r n bBf x0 (K1 (aTa r n) 0) :=
 congrArg (fun k => D127 r n bBf x0 k) (cKi r n)
theorem cHy : D127 r n aGz x0 r127 = (K1 (aNr r n) 0) :=
 (bKz r n).trans
 ((by kernel_rfl))
theorem dAp : D127 r n c127 x0 r127 = D127 r n aUf x0 (K1 (aNr r n) 0) :=
 congrArg (fun k => D127 r n aUf x0 k) (cHy r n)
theorem dFh : D127 r n c127 x0 r127 = (K1 (s127 r n) 0) :=
 (dAp r n).trans
 ((by kernel_rfl))
theorem cWe : aF CF r n 127 args h = s127 r n (aR args 0) h :=
 (by kernel_rfl : aF CF r n 127 args h = D127 r n c127 x0 r127 (aH args) h).trans ((congrFun (congrFun (dFh r n) (aH args)) h).trans (by kernel_rfl))
noncomputable def eX (r : RT) (n : Nat) (x0 x6 : DV) (h0 : Hp) : aI :=
 bnd (r 46 [x0, x6] h0) fun v1 h1 =>
 bnd (aC 0 v1 h1) fun v2 h2 =>
 bnd (aC 1 v1 h2) fun v3 h3 =>
 some (.t [v2, v3], h3)
noncomputable def aDu (r : RT) (n : Nat) (kk4 : mN) (x0 x1 x6 : DV) (h0 : Hp) : aI :=
 bnd (bZ x1 h0) fun v1 h1 =>
 bnd (aD .gtr v1 (aE 0) h1) fun v2 h2 =>
 aS v2 (
 bnd (bZ x1 h2) fun v3 h3 =>
 bnd (aPr v3 (aE 240) h3) fun v4 h4 =>
 bnd (r 30 [x0, (aE 10)] h4) fun v5 h5 =>
 bnd (cU 1 x1 none (some v4) h5) fun v6 h6 =>
 cnd (bG (cU 1 x1 none (some v4) h4) v6 && true) (
 bnd (gP v6 h6) fun v7 h7 =>
 cnd (bG (gP v6 h4) v7 && true) (
 bnd (r 83 [x0, v5, v7] h7) fun v8 h8 =>
 bnd (aC 0 v8 h8) fun v9 h9 =>
 bnd (aC 1 v8 h9) fun v10 h10 =>
 bnd (aD .neq v10 (aE 0) h10) fun v11 h11 =>
 aS v11 (
 some (.t [(aE 0), v10], h11)) (
 bnd (bK (bW 0 h11.next) [(aE 0)] 1 [(0, 1, v9)] (resv 1 h11)) fun v12 h12 =>
 bnd (bA 1 8 x6 v12 h12) fun v13 h13 =>
 bnd (cU 1 x1 (some v4) none h13) fun v14 h14 =>
 cnd (bG (cU 1 x1 (some v4) none (resv 1 h11)) v14 && true) (
    kk4 x0 v14 v13 h14))))) (
      eX r n x0 x6 h2)
noncomputable def tR (r : RT) (n : Nat) (m : Nat) : mN :=
 Nat.rec (motive := fun _ => mN) (fun _ _ _ _ => none) (fun _ ih => aDu r n ih) m
noncomputable def bQh (r : RT) (n : Nat) : mN := tR r n n
noncomputable def aRj (r : RT) (n : Nat) (x0 x1 x6 : DV) (h0 : Hp) : aI :=
 bQh r n x0 x1 x6 h0
noncomputable def aNy (r : RT) (n : Nat) (x0 x1 : DV) (h0 : Hp) : aI :=
 aRj r n x0 x1 .l0 h0
noncomputable def s128 (r : RT) (n : Nat) (x0 x1 : DV) (h0 : Hp) : aI :=
 aNy r n x0 x1 h0
noncomputable abbrev c128 : Code := cf Tryz.f128
noncomputable abbrev aBm : Code := cR c128
noncomputable abbrev aDg : Code := cR aBm
noncomputable abbrev dAj : Code := cR aDg
noncomputable abbrev aJn : Code := cL aDg
noncomputable abbrev aGe : Code := cL aJn
noncomputable abbrev mJ : Code := cL aGe
noncomputable abbrev bKl : Code := cL aBm
noncomputable abbrev bQl : Code := cL c128
noncomputable abbrev r128 : K := aU CF Tryz.f128
noncomputable def D128 (r : RT) (n : Nat) (c : Code) (X : Nat → K) (k : K) : K := aM CF r 42 n c X r128 k
theorem cGs : D128 r n dAj x0 r128 = (K2 (eX r n) 0 6) :=
 (by kernel_rfl)
theorem bSw (kk4 : mN) (q0 : oK) : D128 r n mJ (xs x0 0 (K2 q0 0 6)) (K3 kk4 0 1 6) = fun (env : aZ) (h : Hp) =>
 bnd (bZ (env 1) h) fun v1 h1 =>
 bnd (aD .gtr v1 (aE 0) h1) fun v2 h2 =>
 aS v2 (
 bnd (bZ (env 1) h2) fun v3 h3 =>
 bnd (aPr v3 (aE 240) h3) fun v4 h4 =>
 bnd (r 30 [(env 0), (aE 10)] h4) fun v5 h5 =>
 bnd (cU 1 (env 1) none (some v4) h5) fun v6 h6 =>
 cnd (bG (cU 1 (env 1) none (some v4) h4) v6 && true) (
 bnd (gP v6 h6) fun v7 h7 =>
 cnd (bG (gP v6 h4) v7 && true) (
 bnd (r 83 [(env 0), v5, v7] h7) fun v8 h8 =>
 bnd (aC 0 v8 h8) fun v9 h9 =>
 bnd (aC 1 v8 h9) fun v10 h10 =>
 bnd (aD .neq v10 (aE 0) h10) fun v11 h11 =>
 aS v11 (
 some (.t [(aE 0), v10], h11)) (
 bnd (bK (bW 0 h11.next) [(aE 0)] 1 [(0, 1, v9)] (resv 1 h11)) fun v12 h12 =>
 bnd (bA 1 8 (env 6) v12 h12) fun v13 h13 =>
 bnd (cU 1 (env 1) (some v4) none h13) fun v14 h14 =>
 cnd (bG (cU 1 (env 1) (some v4) none (resv 1 h11)) v14 && true) (
    kk4 (env 0) v14 v13 h14))))) (
      q0 (env 0) (env 6) h2) := by kernel_rfl
theorem bEv (kk4 : mN) : (fun (env : aZ) (h : Hp) =>
 bnd (bZ (env 1) h) fun v1 h1 =>
 bnd (aD .gtr v1 (aE 0) h1) fun v2 h2 =>
 aS v2 (
 bnd (bZ (env 1) h2) fun v3 h3 =>
 bnd (aPr v3 (aE 240) h3) fun v4 h4 =>
 bnd (r 30 [(env 0), (aE 10)] h4) fun v5 h5 =>
 bnd (cU 1 (env 1) none (some v4) h5) fun v6 h6 =>
 cnd (bG (cU 1 (env 1) none (some v4) h4) v6 && true) (
 bnd (gP v6 h6) fun v7 h7 =>
 cnd (bG (gP v6 h4) v7 && true) (
 bnd (r 83 [(env 0), v5, v7] h7) fun v8 h8 =>
 bnd (aC 0 v8 h8) fun v9 h9 =>
 bnd (aC 1 v8 h9) fun v10 h10 =>
 bnd (aD .neq v10 (aE 0) h10) fun v11 h11 =>
 aS v11 (
 some (.t [(aE 0), v10], h11)) (
 bnd (bK (bW 0 h11.next) [(aE 0)] 1 [(0, 1, v9)] (resv 1 h11)) fun v12 h12 =>
 bnd (bA 1 8 (env 6) v12 h12) fun v13 h13 =>
 bnd (cU 1 (env 1) (some v4) none h13) fun v14 h14 =>
 cnd (bG (cU 1 (env 1) (some v4) none (resv 1 h11)) v14 && true) (
    kk4 (env 0) v14 v13 h14))))) (
      eX r n (env 0) (env 6) h2)) = (K3 (aDu r n kk4) 0 1 6) := by kernel_rfl
theorem bJo (kk4 : mN) : D128 r n mJ (xs x0 0 (K2 (eX r n) 0 6)) (K3 kk4 0 1 6) = (K3 (aDu r n kk4) 0 1 6) :=
 (bSw r n kk4 (eX r n)).trans (bEv r n kk4)
theorem bGd (m : Nat) : aN (fun kk => D128 r n mJ (xs x0 0 (K2 (eX r n) 0 6)) kk) m = (K3 (tR r n m) 0 1 6) := by
 induction m with
 | zero => exact (by kernel_rfl : aN (fun kk => D128 r n mJ (xs x0 0 (K2 (eX r n) 0 6)) kk) 0 = (K3 (tR r n 0) 0 1 6))
 | succ m ih =>
  refine (by kernel_rfl : aN (fun kk => D128 r n mJ (xs x0 0 (K2 (eX r n) 0 6)) kk) (m + 1) = D128 r n mJ (xs x0 0 (K2 (eX r n) 0 6)) (aN (fun kk => D128 r n mJ (xs x0 0 (K2 (eX r n) 0 6)) kk) m)).trans ?_
  rw [ih]
  exact (bJo r n (tR r n m)).trans (by kernel_rfl)
theorem cHd : D128 r n aGe (xs x0 0 (K2 (eX r n) 0 6)) (K2 (eX r n) 0 6) = (K3 (bQh r n) 0 1 6) :=
 (by kernel_rfl : D128 r n aGe (xs x0 0 (K2 (eX r n) 0 6)) (K2 (eX r n) 0 6) = aN (fun kk => D128 r n mJ (xs x0 0 (K2 (eX r n) 0 6)) kk) n).trans ((bGd r n n).trans (by kernel_rfl))
theorem bRs : D128 r n aDg x0 r128 = D128 r n aJn x0 (K2 (eX r n) 0 6) :=
 congrArg (fun k => D128 r n aJn x0 k) (cGs r n)
theorem cCw : D128 r n aDg x0 r128 = (K3 (aRj r n) 0 1 6) :=
 (bRs r n).trans
 ((by kernel_rfl : D128 r n aJn x0 (K2 (eX r n) 0 6) = D128 r n aGe (xs x0 0 (K2 (eX r n) 0 6)) (K2 (eX r n) 0 6)).trans
 ((cHd r n).trans (by kernel_rfl)))
theorem bVm : D128 r n aBm x0 r128 = D128 r n bKl x0 (K3 (aRj r n) 0 1 6) :=
 congrArg (fun k => D128 r n bKl x0 k) (cCw r n)
theorem cAv : D128 r n aBm x0 r128 = (K2 (aNy r n) 0 1) :=
 (bVm r n).trans
 ((by kernel_rfl))
theorem dAt : D128 r n c128 x0 r128 = D128 r n bQl x0 (K2 (aNy r n) 0 1) :=
 congrArg (fun k => D128 r n bQl x0 k) (cAv r n)
theorem dIg : D128 r n c128 x0 r128 = (K2 (s128 r n) 0 1) :=
 (dAt r n).trans
 ((by kernel_rfl))
theorem cXe : aF CF r n 128 args h = s128 r n (aR args 0) (aR args 1) h :=
 (by kernel_rfl : aF CF r n 128 args h = D128 r n c128 x0 r128 (aH args) h).trans ((congrFun (congrFun (dIg r n) (aH args)) h).trans (by kernel_rfl))
noncomputable def fQ (r : RT) (n : Nat) (x0 x7 : DV) (h0 : Hp) : aI :=
 bnd (aO x0 h0) fun v1 h1 =>
 bnd (aB 0 v1 h1) fun v2 h2 =>
 bnd (aA v2 h2) fun v3 h3 =>
 bnd (aO x0 h3) fun v4 h4 =>
 bnd (aB 1 v4 h4) fun v5 h5 =>
 bnd (aA v5 h5) fun v6 h6 =>
 bnd (fH v3 (some x7) (some v6) h6) fun v7 h7 =>
 some (v7, h7)
noncomputable def aWz (r : RT) (n : Nat) (kk4 : dJ) (x0 x1 x2 x7 : DV) (h0 : Hp) : aI :=
 bnd (aO x0 h0) fun v1 h1 =>
 bnd (aB 1 v1 h1) fun v2 h2 =>
 bnd (aA v2 h2) fun v3 h3 =>
 bnd (aO x0 h3) fun v4 h4 =>
 bnd (aB 0 v4 h4) fun v5 h5 =>
 bnd (aA v5 h5) fun v6 h6 =>
 bnd (dU v6 h6) fun v7 h7 =>
 bnd (aD .lss v3 v7 h7) fun v8 h8 =>
 bnd (gD v8 true (some (x0, h8)) h8) fun v9 h9 =>
 bnd (gD v8 true (aO v9 h9) h9) fun v10 h10 =>
 bnd (gD v8 true (aB 1 v10 h10) h10) fun v11 h11 =>
 bnd (gD v8 true (aA v11 h11) h11) fun v12 h12 =>
 bnd (gD v8 true (some (x7, h12)) h12) fun v13 h13 =>
 bnd (gD v8 true (aD .sub v12 v13 h13) h13) fun v14 h14 =>
 bnd (gD v8 true (some (x2, h14)) h14) fun v15 h15 =>
 bnd (gD v8 true (aD .lss v14 v15 h15) h15) fun v16 h16 =>
 bnd (aP v8 v16 (.b false) h16) fun v17 h17 =>
 bnd (gD v17 true (some (x1, h17)) h17) fun v18 h18 =>
 bnd (gD v17 true (some (x0, h18)) h18) fun v19 h19 =>
 bnd (gD v17 true (aO v19 h19) h19) fun v20 h20 =>
 bnd (gD v17 true (aB 0 v20 h20) h20) fun v21 h21 =>
 bnd (gD v17 true (aA v21 h21) h21) fun v22 h22 =>
 bnd (gD v17 true (some (x0, h22)) h22) fun v23 h23 =>
 bnd (gD v17 true (aO v23 h23) h23) fun v24 h24 =>
 bnd (gD v17 true (aB 1 v24 h24) h24) fun v25 h25 =>
 bnd (gD v17 true (aA v25 h25) h25) fun v26 h26 =>
 bnd (gD v17 true (fE v22 v26 h26) h26) fun v27 h27 =>
 bnd (gD v17 true (cX CF r v18 [v27] h27) h27) fun v28 h28 =>
 bnd (aP v17 v28 (.b false) h28) fun v29 h29 =>
 aS v29 (
 bnd (aO x0 h29) fun v30 h30 =>
 bnd (aB 1 v30 h30) fun v31 h31 =>
 bnd (aA v31 h31) fun v32 h32 =>
 bnd (aD .add v32 (aE 1) h32) fun v33 h33 =>
 bnd (aO x0 h33) fun v34 h34 =>
 bnd (aB 1 v34 h34) fun v35 h35 =>
 bnd (aG 1 v35 v33 h35) fun _ h36 =>
      kk4 x0 x1 x2 x7 h36) (
      fQ r n x0 x7 h29)
noncomputable def sY (r : RT) (n : Nat) (m : Nat) : dJ :=
 Nat.rec (motive := fun _ => dJ) (fun _ _ _ _ _ => none) (fun _ ih => aWz r n ih) m
noncomputable def bWo (r : RT) (n : Nat) : dJ := sY r n n
noncomputable def aTj (r : RT) (n : Nat) (x0 x1 x2 x7 : DV) (h0 : Hp) : aI :=
 bWo r n x0 x1 x2 x7 h0
noncomputable def aPm (r : RT) (n : Nat) (x0 x1 x2 : DV) (h0 : Hp) : aI :=
 bnd (aO x0 h0) fun v1 h1 =>
 bnd (aB 1 v1 h1) fun v2 h2 =>
 bnd (aA v2 h2) fun v3 h3 =>
  aTj r n x0 x1 x2 v3 h3
noncomputable def s129 (r : RT) (n : Nat) (x0 x1 x2 : DV) (h0 : Hp) : aI :=
 aPm r n x0 x1 x2 h0
noncomputable abbrev c129 : Code := cf Tryz.f129
noncomputable abbrev aCe : Code := cR c129
noncomputable abbrev aGj : Code := cR aCe
noncomputable abbrev cRt : Code := cR aGj
noncomputable abbrev aJl : Code := cL aGj
noncomputable abbrev aFn : Code := cL aJl
noncomputable abbrev oH : Code := cL aFn
noncomputable abbrev bXc : Code := cL aCe
noncomputable abbrev bVo : Code := cL c129
noncomputable abbrev r129 : K := aU CF Tryz.f129
noncomputable def D129 (r : RT) (n : Nat) (c : Code) (X : Nat → K) (k : K) : K := aM CF r 62 n c X r129 k
theorem cNg : D129 r n cRt x0 r129 = (K2 (fQ r n) 0 7) :=
 (by kernel_rfl)
theorem bUq (kk4 : dJ) : D129 r n oH (xs x0 0 (K2 (fQ r n) 0 7)) (K4 kk4 0 1 2 7) = (K4 (aWz r n kk4) 0 1 2 7) :=
 (by kernel_rfl)
theorem bRx (m : Nat) : aN (fun kk => D129 r n oH (xs x0 0 (K2 (fQ r n) 0 7)) kk) m = (K4 (sY r n m) 0 1 2 7) := by
 induction m with
 | zero => exact (by kernel_rfl : aN (fun kk => D129 r n oH (xs x0 0 (K2 (fQ r n) 0 7)) kk) 0 = (K4 (sY r n 0) 0 1 2 7))
 | succ m ih =>
  refine (by kernel_rfl : aN (fun kk => D129 r n oH (xs x0 0 (K2 (fQ r n) 0 7)) kk) (m + 1) = D129 r n oH (xs x0 0 (K2 (fQ r n) 0 7)) (aN (fun kk => D129 r n oH (xs x0 0 (K2 (fQ r n) 0 7)) kk) m)).trans ?_
  rw [ih]
  exact (bUq r n (sY r n m)).trans (by kernel_rfl)
theorem cJa : D129 r n aFn (xs x0 0 (K2 (fQ r n) 0 7)) (K2 (fQ r n) 0 7) = (K4 (bWo r n) 0 1 2 7) :=
 (by kernel_rfl : D129 r n aFn (xs x0 0 (K2 (fQ r n) 0 7)) (K2 (fQ r n) 0 7) = aN (fun kk => D129 r n oH (xs x0 0 (K2 (fQ r n) 0 7)) kk) n).trans ((bRx r n n).trans (by kernel_rfl))
theorem bYp : D129 r n aGj x0 r129 = D129 r n aJl x0 (K2 (fQ r n) 0 7) :=
 congrArg (fun k => D129 r n aJl x0 k) (cNg r n)
theorem cBw : D129 r n aGj x0 r129 = (K4 (aTj r n) 0 1 2 7) :=
 (bYp r n).trans
 ((by kernel_rfl : D129 r n aJl x0 (K2 (fQ r n) 0 7) = D129 r n aFn (xs x0 0 (K2 (fQ r n) 0 7)) (K2 (fQ r n) 0 7)).trans
 ((cJa r n).trans (by kernel_rfl)))
theorem bHc : D129 r n aCe x0 r129 = D129 r n bXc x0 (K4 (aTj r n) 0 1 2 7) :=
 congrArg (fun k => D129 r n bXc x0 k) (cBw r n)
theorem cOs : D129 r n aCe x0 r129 = (K3 (aPm r n) 0 1 2) :=
 (bHc r n).trans
 ((by kernel_rfl))
theorem cRh : D129 r n c129 x0 r129 = D129 r n bVo x0 (K3 (aPm r n) 0 1 2) :=
 congrArg (fun k => D129 r n bVo x0 k) (cOs r n)
theorem dGx : D129 r n c129 x0 r129 = (K3 (s129 r n) 0 1 2) :=
 (cRh r n).trans
 ((by kernel_rfl))
theorem cSm : aF CF r n 129 args h = s129 r n (aR args 0) (aR args 1) (aR args 2) h :=
 (by kernel_rfl : aF CF r n 129 args h = D129 r n c129 x0 r129 (aH args) h).trans ((congrFun (congrFun (dGx r n) (aH args)) h).trans (by kernel_rfl))
noncomputable def s130 (r : RT) (n : Nat) (x0 : DV) (h0 : Hp) : aI :=
 bnd (bR x0 h0) fun v1 h1 =>
 some ((.f 145 [] [v1]), h1)
noncomputable abbrev c130 : Code := cf Tryz.f130
noncomputable abbrev r130 : K := aU CF Tryz.f130
noncomputable def D130 (r : RT) (n : Nat) (c : Code) (X : Nat → K) (k : K) : K := aM CF r 4 n c X r130 k
theorem dCq : D130 r n c130 x0 r130 = (K1 (s130 r n) 0) :=
 (by kernel_rfl)
theorem dBt : aF CF r n 130 args h = s130 r n (aR args 0) h :=
 (by kernel_rfl : aF CF r n 130 args h = D130 r n c130 x0 r130 (aH args) h).trans ((congrFun (congrFun (dCq r n) (aH args)) h).trans (by kernel_rfl))
noncomputable def s131 (r : RT) (n : Nat) (x0 x1 : DV) (h0 : Hp) : aI :=
 bnd (r 146 [x0, x1] h0) fun v1 h1 =>
 some (v1, h1)
noncomputable abbrev c131 : Code := cf Tryz.f131
noncomputable abbrev r131 : K := aU CF Tryz.f131
noncomputable def D131 (r : RT) (n : Nat) (c : Code) (X : Nat → K) (k : K) : K := aM CF r 8 n c X r131 k
theorem dCp : D131 r n c131 x0 r131 = (K2 (s131 r n) 0 1) :=
 (by kernel_rfl)
theorem dBw : aF CF r n 131 args h = s131 r n (aR args 0) (aR args 1) h :=
 (by kernel_rfl : aF CF r n 131 args h = D131 r n c131 x0 r131 (aH args) h).trans ((congrFun (congrFun (dCp r n) (aH args)) h).trans (by kernel_rfl))
end Go.Dd

namespace Go.Dd
open Go.Proofs
variable (r : RT) (n : Nat) (args : List DV) (h : Hp)
noncomputable def hY (r : RT) (n : Nat) (x2 x4 x5 : DV) (h0 : Hp) : aI :=
 bnd (aK 4 x4 h0) fun v1 h1 =>
 bnd (aG 4 x2 v1 h1) fun _ h2 =>
 bnd (aK 4 x2 h2) fun v3 _ =>
 some (.t [v3, x5], h2)
noncomputable def aPq (r : RT) (n : Nat) (x0 x2 x4 x5 x6 : DV) (h0 : Hp) : aI :=
 bnd (r 148 [x6] h0) fun v1 h1 =>
 aS v1 (
 bnd (aB 0 x4 h1) fun v2 h2 =>
 bnd (aG 1 v2 (aE 1) h2) fun _ h3 =>
 bnd (r 149 [x0] h3) fun v4 h4 =>
 bnd (aC 0 v4 h4) fun v5 h5 =>
 bnd (aC 1 v4 h5) fun v6 h6 =>
 bnd (aB 1 x4 h6) fun v7 h7 =>
 bnd (aG 1 v7 v5 h7) fun _ h8 =>
 bnd (aD .eql v6 (aE 0) h8) fun v9 h9 =>
 bnd (gD v9 true (some (x0, h9)) h9) fun v10 h10 =>
 bnd (gD v9 true (r 150 [v10] h10) h10) fun v11 h11 =>
 bnd (aP v9 v11 (.b false) h11) fun v12 h12 =>
 aS v12 (
 bnd (aB 1 x4 h12) fun v13 h13 =>
 bnd (aA v13 h13) fun v14 h14 =>
 bnd (fO .add v14 (.s [58]) h14) fun v15 h15 =>
 bnd (aB 0 x4 h15) fun v16 h16 =>
 bnd (aG 1 v16 (aE 2) h16) fun _ h17 =>
 bnd (aB 1 x4 h17) fun v18 h18 =>
 bnd (aG 1 v18 v15 h18) fun _ h19 =>
      hY r n x2 x4 v6 h19) (
      hY r n x2 x4 v6 h12)) (
 bnd (r 151 [x6] h1) fun v20 h20 =>
 aS v20 (
 bnd (aB 0 x4 h20) fun v21 h21 =>
 bnd (aG 1 v21 (aE 4) h21) fun _ h22 =>
 bnd (r 152 [x0] h22) fun v23 h23 =>
 bnd (aC 0 v23 h23) fun v24 h24 =>
 bnd (aC 1 v23 h24) fun v25 h25 =>
 bnd (aB 2 x4 h25) fun v26 h26 =>
 bnd (aG 1 v26 v24 h26) fun _ h27 =>
      hY r n x2 x4 v25 h27) (
 bnd (aD .eql x6 (.i .u8 (Int.ofNat 39)) h20) fun v28 h28 =>
 aS v28 (
 bnd (aO x0 h28) fun v29 h29 =>
 bnd (aB 1 v29 h29) fun v30 h30 =>
 bnd (aA v30 h30) fun v31 h31 =>
 bnd (aD .add v31 (aE 1) h31) fun v32 h32 =>
 bnd (aO x0 h32) fun v33 h33 =>
 bnd (aB 1 v33 h33) fun v34 h34 =>
 bnd (aG 1 v34 v32 h34) fun _ h35 =>
 bnd (aB 0 x4 h35) fun v36 h36 =>
 bnd (aG 1 v36 (aE 5) h36) fun _ h37 =>
 bnd (r 153 [x0] h37) fun v38 h38 =>
 bnd (aC 0 v38 h38) fun v39 h39 =>
 bnd (aC 1 v38 h39) fun v40 h40 =>
 bnd (aB 1 x4 h40) fun v41 h41 =>
 bnd (aG 1 v41 v39 h41) fun _ h42 =>
    hY r n x2 x4 v40 h42) (
 bnd (aD .eql x6 (.i .u8 (Int.ofNat 35)) h28) fun v43 h43 =>
 bnd (gD v43 true (some (x0, h43)) h43) fun v44 h44 =>
 bnd (gD v43 true (r 147 [v44, (aE 1)] h44) h44) fun v45 h45 =>
 bnd (gD v43 true (aD .eql v45 (.i .u8 (Int.ofNat 40)) h45) h45) fun v46 h46 =>
 bnd (aP v43 v46 (.b false) h46) fun v47 h47 =>
 aS v47 (
 bnd (aO x0 h47) fun v48 h48 =>
 bnd (aB 1 v48 h48) fun v49 h49 =>
 bnd (aA v49 h49) fun v50 h50 =>
 bnd (aD .add v50 (aE 2) h50) fun v51 h51 =>
 bnd (aO x0 h51) fun v52 h52 =>
 bnd (aB 1 v52 h52) fun v53 h53 =>
 bnd (aG 1 v53 v51 h53) fun _ h54 =>
 bnd (aB 0 x4 h54) fun v55 h55 =>
 bnd (aG 1 v55 (aE 7) h55) fun _ h56 =>
     hY r n x2 x4 x5 h56) (
 bnd (aD .eql x6 (.i .u8 (Int.ofNat 35)) h47) fun v57 h57 =>
 aS v57 (
 bnd (aO x0 h57) fun v58 h58 =>
 bnd (aB 1 v58 h58) fun v59 h59 =>
 bnd (aA v59 h59) fun v60 h60 =>
 bnd (aD .add v60 (aE 1) h60) fun v61 h61 =>
 bnd (aO x0 h61) fun v62 h62 =>
 bnd (aB 1 v62 h62) fun v63 h63 =>
 bnd (aG 1 v63 v61 h63) fun _ h64 =>
 bnd (aB 0 x4 h64) fun v65 h65 =>
 bnd (aG 1 v65 (aE 6) h65) fun _ h66 =>
 bnd (r 154 [x0] h66) fun v67 h67 =>
 bnd (aC 0 v67 h67) fun v68 h68 =>
 bnd (aC 1 v67 h68) fun v69 h69 =>
 bnd (aB 1 x4 h69) fun v70 h70 =>
 bnd (aG 1 v70 v68 h70) fun _ h71 =>
      hY r n x2 x4 v69 h71) (
 bnd (aD .eql x6 (.i .u8 (Int.ofNat 58)) h57) fun v72 h72 =>
 bnd (gD v72 true (some (x0, h72)) h72) fun v73 h73 =>
 bnd (gD v72 true (r 147 [v73, (aE 1)] h73) h73) fun v74 h74 =>
 bnd (gD v72 true (aD .eql v74 (.i .u8 (Int.ofNat 61)) h74) h74) fun v75 h75 =>
 bnd (aP v72 v75 (.b false) h75) fun v76 h76 =>
 aS v76 (
 bnd (aO x0 h76) fun v77 h77 =>
 bnd (aB 1 v77 h77) fun v78 h78 =>
 bnd (aA v78 h78) fun v79 h79 =>
 bnd (aD .add v79 (aE 2) h79) fun v80 h80 =>
 bnd (aO x0 h80) fun v81 h81 =>
 bnd (aB 1 v81 h81) fun v82 h82 =>
 bnd (aG 1 v82 v80 h82) fun _ h83 =>
 bnd (aB 0 x4 h83) fun v84 h84 =>
 bnd (aG 1 v84 (aE 9) h84) fun _ h85 =>
       hY r n x2 x4 x5 h85) (
 bnd (aD .eql x6 (.i .u8 (Int.ofNat 58)) h76) fun v86 h86 =>
 bnd (gD v86 true (some (x0, h86)) h86) fun v87 h87 =>
 bnd (gD v86 true (r 147 [v87, (aE 1)] h87) h87) fun v88 h88 =>
 bnd (gD v86 true (r 148 [v88] h88) h88) fun v89 h89 =>
 bnd (aP v86 v89 (.b false) h89) fun v90 h90 =>
 aS v90 (
 bnd (aO x0 h90) fun v91 h91 =>
 bnd (aB 1 v91 h91) fun v92 h92 =>
 bnd (aA v92 h92) fun v93 h93 =>
 bnd (aD .add v93 (aE 1) h93) fun v94 h94 =>
 bnd (aO x0 h94) fun v95 h95 =>
 bnd (aB 1 v95 h95) fun v96 h96 =>
 bnd (aG 1 v96 v94 h96) fun _ h97 =>
 bnd (aB 0 x4 h97) fun v98 h98 =>
 bnd (aG 1 v98 (aE 8) h98) fun _ h99 =>
 bnd (r 149 [x0] h99) fun v100 h100 =>
 bnd (aC 0 v100 h100) fun v101 h101 =>
 bnd (aC 1 v100 h101) fun v102 h102 =>
 bnd (aB 1 x4 h102) fun v103 h103 =>
 bnd (aG 1 v103 v101 h103) fun _ h104 =>
        hY r n x2 x4 v102 h104) (
 bnd (r 130 [(.s [43, 45, 42, 47, 60, 62, 61, 126, 44, 64, 38, 37])] h90) fun v105 h105 =>
 bnd (cX CF r v105 [x6] h105) fun v106 h106 =>
 aS v106 (
 bnd (r 130 [(.s [43, 45, 42, 47, 60, 62, 61, 126, 44, 64, 38, 37])] h106) fun v107 h107 =>
 bnd (r 129 [x0, v107, (aE 2)] h107) fun v108 h108 =>
 bnd (aB 0 x4 h108) fun v109 h109 =>
 bnd (aG 1 v109 (aE 3) h109) fun _ h110 =>
 bnd (aB 1 x4 h110) fun v111 h111 =>
 bnd (aG 1 v111 v108 h111) fun _ h112 =>
         hY r n x2 x4 x5 h112) (
 bnd (r 130 [(.s [94, 46, 59, 40, 41, 91, 93, 124])] h106) fun v113 h113 =>
 bnd (cX CF r v113 [x6] h113) fun v114 h114 =>
 aS v114 (
 bnd (r 130 [(.s [94, 46, 59, 40, 41, 91, 93, 124])] h114) fun v115 h115 =>
 bnd (r 129 [x0, v115, (aE 1)] h115) fun v116 h116 =>
 bnd (aB 0 x4 h116) fun v117 h117 =>
 bnd (aG 1 v117 (aE 10) h117) fun _ h118 =>
 bnd (aB 1 x4 h118) fun v119 h119 =>
 bnd (aG 1 v119 v116 h119) fun _ h120 =>
          hY r n x2 x4 x5 h120) (
          hY r n x2 x4 (aE 10) h114)))))))))
noncomputable def aPb (r : RT) (n : Nat) (x0 x2 x4 x5 : DV) (h0 : Hp) : aI :=
 bnd (r 147 [x0, (aE 0)] h0) fun v1 h1 =>
  aPq r n x0 x2 x4 x5 v1 h1
noncomputable def wW (r : RT) (n : Nat) (x0 x2 x4 : DV) (h0 : Hp) : aI :=
 aPb r n x0 x2 x4 (aE 0) h0
noncomputable def rC (r : RT) (n : Nat) (x0 x2 : DV) (h0 : Hp) : aI :=
 bnd (aO x0 h0) fun v1 h1 =>
 bnd (aB 1 v1 h1) fun v2 h2 =>
 bnd (aA v2 h2) fun v3 h3 =>
 bnd (bB [(aE 0), (.s []), (aE 0), (aE 0)] [(3, 1, v3)] h3) fun v4 h4 =>
 bnd (bL [(aE 0), (.s []), (aE 0), (aE 0)] h4) fun v5 h5 =>
 bnd (aG 4 v5 v4 h5) fun _ h6 =>
  wW r n x0 x2 v5 h6
noncomputable def s132 (r : RT) (n : Nat) (x0 : DV) (h0 : Hp) : aI :=
 bnd (bL [(aE 0), (.s []), (aE 0), (aE 0)] h0) fun v1 h1 =>
  rC r n x0 v1 h1
noncomputable abbrev c132 : Code := cf Tryz.f132
noncomputable abbrev aDk : Code := cR c132
noncomputable abbrev aHp : Code := cR aDk
noncomputable abbrev aBc : Code := cR aHp
noncomputable abbrev aBr : Code := cR aBc
noncomputable abbrev dBf : Code := cR aBr
noncomputable abbrev bWy : Code := cL aBr
noncomputable abbrev bHa : Code := cL aBc
noncomputable abbrev bJc : Code := cL aHp
noncomputable abbrev aOb : Code := cL aDk
noncomputable abbrev aFk : Code := cL c132
noncomputable abbrev r132 : K := aU CF Tryz.f132
noncomputable def D132 (r : RT) (n : Nat) (c : Code) (X : Nat → K) (k : K) : K := aM CF r 153 n c X r132 k
theorem cEg : D132 r n dBf x0 r132 = (K3 (hY r n) 2 4 5) :=
 (by kernel_rfl)
theorem bWz : D132 r n aBr x0 r132 = D132 r n bWy x0 (K3 (hY r n) 2 4 5) :=
 congrArg (fun k => D132 r n bWy x0 k) (cEg r n)
theorem cNt : D132 r n aBr x0 r132 = (K5 (aPq r n) 0 2 4 5 6) :=
 (bWz r n).trans
 ((by kernel_rfl))
theorem cAc : D132 r n aBc x0 r132 = D132 r n bHa x0 (K5 (aPq r n) 0 2 4 5 6) :=
 congrArg (fun k => D132 r n bHa x0 k) (cNt r n)
theorem cLz : D132 r n aBc x0 r132 = (K4 (aPb r n) 0 2 4 5) :=
 (cAc r n).trans
 ((by kernel_rfl))
theorem bUa : D132 r n aHp x0 r132 = D132 r n bJc x0 (K4 (aPb r n) 0 2 4 5) :=
 congrArg (fun k => D132 r n bJc x0 k) (cLz r n)
theorem cDu : D132 r n aHp x0 r132 = (K3 (wW r n) 0 2 4) :=
 (bUa r n).trans
 ((by kernel_rfl))
theorem bWh : D132 r n aDk x0 r132 = D132 r n aOb x0 (K3 (wW r n) 0 2 4) :=
 congrArg (fun k => D132 r n aOb x0 k) (cDu r n)
theorem bYe (q0 : mN) : D132 r n aOb x0 (K3 q0 0 2 4) = fun (env : aZ) (h : Hp) =>
 bnd (aO (env 0) h) fun v1 h1 =>
 bnd (aB 1 v1 h1) fun v2 h2 =>
 bnd (aA v2 h2) fun v3 h3 =>
 bnd (bB [(aE 0), (.s []), (aE 0), (aE 0)] [(3, 1, v3)] h3) fun v4 h4 =>
 bnd (bL [(aE 0), (.s []), (aE 0), (aE 0)] h4) fun v5 h5 =>
 bnd (aG 4 v5 v4 h5) fun _ h6 =>
  q0 (env 0) (env 2) v5 h6 := by kernel_rfl
theorem bFm : (fun (env : aZ) (h : Hp) =>
 bnd (aO (env 0) h) fun v1 h1 =>
 bnd (aB 1 v1 h1) fun v2 h2 =>
 bnd (aA v2 h2) fun v3 h3 =>
 bnd (bB [(aE 0), (.s []), (aE 0), (aE 0)] [(3, 1, v3)] h3) fun v4 h4 =>
 bnd (bL [(aE 0), (.s []), (aE 0), (aE 0)] h4) fun v5 h5 =>
 bnd (aG 4 v5 v4 h5) fun _ h6 =>
  wW r n (env 0) (env 2) v5 h6) = (K2 (rC r n) 0 2) := by kernel_rfl
theorem cOb : D132 r n aDk x0 r132 = (K2 (rC r n) 0 2) :=
 (bWh r n).trans
 ((bYe r n (wW r n)).trans (bFm r n))
theorem cUg : D132 r n c132 x0 r132 = D132 r n aFk x0 (K2 (rC r n) 0 2) :=
 congrArg (fun k => D132 r n aFk x0 k) (cOb r n)
theorem dBm (q0 : oK) : D132 r n aFk x0 (K2 q0 0 2) = fun (env : aZ) (h : Hp) =>
 bnd (bL [(aE 0), (.s []), (aE 0), (aE 0)] h) fun v1 h1 =>
  q0 (env 0) v1 h1 := by kernel_rfl
theorem cOc : (fun (env : aZ) (h : Hp) =>
 bnd (bL [(aE 0), (.s []), (aE 0), (aE 0)] h) fun v1 h1 =>
  rC r n (env 0) v1 h1) = (K1 (s132 r n) 0) := by kernel_rfl
theorem dHk : D132 r n c132 x0 r132 = (K1 (s132 r n) 0) :=
 (cUg r n).trans
 ((dBm r n (rC r n)).trans (cOc r n))
theorem cXl : aF CF r n 132 args h = s132 r n (aR args 0) h :=
 (by kernel_rfl : aF CF r n 132 args h = D132 r n c132 x0 r132 (aH args) h).trans ((congrFun (congrFun (dHk r n) (aH args)) h).trans (by kernel_rfl))
noncomputable def s133 (r : RT) (n : Nat) (x0 x1 x2 : DV) (h0 : Hp) : aI :=
 bnd (r 137 [x0, (aE 0)] h0) fun v1 h1 =>
 bnd (bL [(aE 0), (.s []), (aE 0), (aE 0)] h1) fun v2 h2 =>
 bnd (aG 4 v2 v1 h2) fun _ h3 =>
 bnd (aO x0 h3) fun v4 h4 =>
 bnd (aB 3 v4 h4) fun v5 h5 =>
 bnd (aA v5 h5) fun v6 h6 =>
 bnd (aD .eql v6 (aE 0) h6) fun v7 h7 =>
 bnd (gD v7 true (aB 0 v2 h7) h7) fun v8 h8 =>
 bnd (gD v7 true (aA v8 h8) h8) fun v9 h9 =>
 bnd (gD v7 true (some (x1, h9)) h9) fun v10 h10 =>
 bnd (gD v7 true (aD .eql v9 v10 h10) h10) fun v11 h11 =>
 bnd (aP v7 v11 (.b false) h11) fun v12 h12 =>
 bnd (gD v12 true (some (x2, h12)) h12) fun v13 h13 =>
 bnd (gD v12 true (fO .eql v13 (.s []) h13) h13) fun v14 h14 =>
 bnd (gD v12 true (some (v14, h14)) h14) fun v15 h15 =>
 bnd (gD v15 false (aB 1 v2 h15) h15) fun v16 h16 =>
 bnd (gD v15 false (aA v16 h16) h16) fun v17 h17 =>
 bnd (gD v15 false (some (x2, h17)) h17) fun v18 h18 =>
 bnd (gD v15 false (fO .eql v17 v18 h18) h18) fun v19 h19 =>
 bnd (gD v12 true (aP v15 (.b true) v19 h19) h19) fun v20 h20 =>
 bnd (aP v12 v20 (.b false) h20) fun v21 h21 =>
 some (v21, h21)
noncomputable abbrev c133 : Code := cf Tryz.f133
noncomputable abbrev r133 : K := aU CF Tryz.f133
noncomputable def D133 (r : RT) (n : Nat) (c : Code) (X : Nat → K) (k : K) : K := aM CF r 31 n c X r133 k
theorem dJc : D133 r n c133 x0 r133 = (K3 (s133 r n) 0 1 2) :=
 (by kernel_rfl)
theorem dAu : aF CF r n 133 args h = s133 r n (aR args 0) (aR args 1) (aR args 2) h :=
 (by kernel_rfl : aF CF r n 133 args h = D133 r n c133 x0 r133 (aH args) h).trans ((congrFun (congrFun (dJc r n) (aH args)) h).trans (by kernel_rfl))
noncomputable def aBi (r : RT) (n : Nat) (x2 x3 : DV) (h0 : Hp) : aI :=
 bnd (aK 4 x3 h0) fun v1 h1 =>
 bnd (aG 4 x2 v1 h1) fun _ h2 =>
 bnd (aK 4 x2 h2) fun v3 _ =>
 some (v3, h2)
noncomputable def yZ (r : RT) (n : Nat) (x0 x2 x3 : DV) (h0 : Hp) : aI :=
 bnd (aB 0 x3 h0) fun v1 h1 =>
 bnd (aA v1 h1) fun v2 h2 =>
 bnd (aD .neq v2 (aE 0) h2) fun v3 h3 =>
 aS v3 (
 bnd (aO x0 h3) fun v4 h4 =>
 bnd (aB 0 v4 h4) fun v5 h5 =>
 bnd (aA v5 h5) fun v6 h6 =>
 bnd (cU 4 v6 (some (aE 1)) none h6) fun v7 h7 =>
 bnd (aO x0 h7) fun v8 h8 =>
 bnd (aB 0 v8 h8) fun v9 h9 =>
 bnd (aG 1 v9 v7 h9) fun _ h10 =>
  aBi r n x2 x3 h10) (
  aBi r n x2 x3 h3)
noncomputable def rE (r : RT) (n : Nat) (x0 x2 : DV) (h0 : Hp) : aI :=
 bnd (r 137 [x0, (aE 0)] h0) fun v1 h1 =>
 bnd (bL [(aE 0), (.s []), (aE 0), (aE 0)] h1) fun v2 h2 =>
 bnd (aG 4 v2 v1 h2) fun _ h3 =>
  yZ r n x0 x2 v2 h3
noncomputable def s134 (r : RT) (n : Nat) (x0 : DV) (h0 : Hp) : aI :=
 bnd (bL [(aE 0), (.s []), (aE 0), (aE 0)] h0) fun v1 h1 =>
  rE r n x0 v1 h1
noncomputable abbrev c134 : Code := cf Tryz.f134
noncomputable abbrev aBb : Code := cR c134
noncomputable abbrev aDr : Code := cR aBb
noncomputable abbrev cTm : Code := cR aDr
noncomputable abbrev bQd : Code := cL aDr
noncomputable abbrev aNk : Code := cL aBb
noncomputable abbrev aSo : Code := cL c134
noncomputable abbrev r134 : K := aU CF Tryz.f134
noncomputable def D134 (r : RT) (n : Nat) (c : Code) (X : Nat → K) (k : K) : K := aM CF r 18 n c X r134 k
theorem cDc : D134 r n cTm x0 r134 = (K2 (aBi r n) 2 3) :=
 (by kernel_rfl)
theorem bOw : D134 r n aDr x0 r134 = D134 r n bQd x0 (K2 (aBi r n) 2 3) :=
 congrArg (fun k => D134 r n bQd x0 k) (cDc r n)
theorem cIe : D134 r n aDr x0 r134 = (K3 (yZ r n) 0 2 3) :=
 (bOw r n).trans
 ((by kernel_rfl))
theorem bIy : D134 r n aBb x0 r134 = D134 r n aNk x0 (K3 (yZ r n) 0 2 3) :=
 congrArg (fun k => D134 r n aNk x0 k) (cIe r n)
theorem bPt (q0 : mN) : D134 r n aNk x0 (K3 q0 0 2 3) = fun (env : aZ) (h : Hp) =>
 bnd (r 137 [(env 0), (aE 0)] h) fun v1 h1 =>
 bnd (bL [(aE 0), (.s []), (aE 0), (aE 0)] h1) fun v2 h2 =>
 bnd (aG 4 v2 v1 h2) fun _ h3 =>
  q0 (env 0) (env 2) v2 h3 := by kernel_rfl
theorem bEz : (fun (env : aZ) (h : Hp) =>
 bnd (r 137 [(env 0), (aE 0)] h) fun v1 h1 =>
 bnd (bL [(aE 0), (.s []), (aE 0), (aE 0)] h1) fun v2 h2 =>
 bnd (aG 4 v2 v1 h2) fun _ h3 =>
  yZ r n (env 0) (env 2) v2 h3) = (K2 (rE r n) 0 2) := by kernel_rfl
theorem cJq : D134 r n aBb x0 r134 = (K2 (rE r n) 0 2) :=
 (bIy r n).trans
 ((bPt r n (yZ r n)).trans (bEz r n))
theorem cRw : D134 r n c134 x0 r134 = D134 r n aSo x0 (K2 (rE r n) 0 2) :=
 congrArg (fun k => D134 r n aSo x0 k) (cJq r n)
theorem cZh (q0 : oK) : D134 r n aSo x0 (K2 q0 0 2) = fun (env : aZ) (h : Hp) =>
 bnd (bL [(aE 0), (.s []), (aE 0), (aE 0)] h) fun v1 h1 =>
  q0 (env 0) v1 h1 := by kernel_rfl
theorem cBg : (fun (env : aZ) (h : Hp) =>
 bnd (bL [(aE 0), (.s []), (aE 0), (aE 0)] h) fun v1 h1 =>
  rE r n (env 0) v1 h1) = (K1 (s134 r n) 0) := by kernel_rfl
theorem dEh : D134 r n c134 x0 r134 = (K1 (s134 r n) 0) :=
 (cRw r n).trans
 ((cZh r n (rE r n)).trans (cBg r n))
theorem cVe : aF CF r n 134 args h = s134 r n (aR args 0) h :=
 (by kernel_rfl : aF CF r n 134 args h = D134 r n c134 x0 r134 (aH args) h).trans ((congrFun (congrFun (dEh r n) (aH args)) h).trans (by kernel_rfl))
noncomputable def s135 (r : RT) (n : Nat) (x0 : DV) (h0 : Hp) : aI :=
 bnd (bL jZ h0) fun v1 h1 =>
 bnd (r 133 [x0, (aE 1), (.s [])] h1) fun v2 h2 =>
 bnd (gD v2 true (some (x0, h2)) h2) fun v3 h3 =>
 bnd (gD v2 true (r 137 [v3, (aE 1)] h3) h3) fun v4 h4 =>
 bnd (gD v2 true (fN 0 v4 h4) h4) fun v5 h5 =>
 bnd (gD v2 true (aD .eql v5 (aE 9) h5) h5) fun v6 h6 =>
 bnd (aP v2 v6 (.b false) h6) fun v7 h7 =>
 aS v7 (
 bnd (r 134 [x0] h7) fun v8 h8 =>
 bnd (fN 1 v8 h8) fun v9 h9 =>
 bnd (bB jZ [(0, 1, (aE 6)), (1, 1, v9)] h9) fun v10 h10 =>
 bnd (bL jZ h10) fun v11 h11 =>
 bnd (aG 6 v11 v10 h11) fun _ h12 =>
 bnd (r 134 [x0] h12) fun v13 h13 =>
 bnd (r 135 [x0] h13) fun v14 h14 =>
 bnd (aL jZ 1 [(0, 6, v14)] h14) fun v15 h15 =>
 bnd (aB 5 v11 h15) fun v16 h16 =>
 bnd (aG 1 v16 v15 h16) fun _ h17 =>
 bnd (aK 6 v11 h17) fun v18 h18 =>
 bnd (aG 6 v1 v18 h18) fun _ h19 =>
 bnd (aK 6 v1 h19) fun v20 _ =>
 some (v20, h19)) (
 bnd (r 155 [x0] h7) fun v21 h21 =>
 bnd (aG 6 v1 v21 h21) fun _ h22 =>
 bnd (aK 6 v1 h22) fun v23 _ =>
 some (v23, h22))
noncomputable abbrev c135 : Code := cf Tryz.f135
noncomputable abbrev r135 : K := aU CF Tryz.f135
noncomputable def D135 (r : RT) (n : Nat) (c : Code) (X : Nat → K) (k : K) : K := aM CF r 25 n c X r135 k
theorem dGl : D135 r n c135 x0 r135 = (K1 (s135 r n) 0) :=
 (by kernel_rfl)
theorem cRa : aF CF r n 135 args h = s135 r n (aR args 0) h :=
 (by kernel_rfl : aF CF r n 135 args h = D135 r n c135 x0 r135 (aH args) h).trans ((congrFun (congrFun (dGl r n) (aH args)) h).trans (by kernel_rfl))
noncomputable def s137 (r : RT) (n : Nat) (x0 x1 : DV) (h0 : Hp) : aI :=
 bnd (bL [(aE 0), (.s []), (aE 0), (aE 0)] h0) fun v1 h1 =>
 bnd (aO x0 h1) fun v2 h2 =>
 bnd (aB 0 v2 h2) fun v3 h3 =>
 bnd (aA v3 h3) fun v4 h4 =>
 bnd (aO x0 h4) fun v5 h5 =>
 bnd (aB 0 v5 h5) fun v6 h6 =>
 bnd (aA v6 h6) fun v7 h7 =>
 bnd (bZ v7 h7) fun v8 h8 =>
 bnd (aD .sub v8 (aE 1) h8) fun v9 h9 =>
 bnd (aPr x1 v9 h9) fun v10 h10 =>
 bnd (aJ 4 v4 v10 h10) fun v11 h11 =>
 bnd (aK 4 v11 h11) fun v12 h12 =>
 bnd (aG 4 v1 v12 h12) fun v13 h13 =>
 bnd (aK 4 v1 h13) fun v14 _ =>
 some (v14, h13)
noncomputable abbrev c137 : Code := cf Tryz.f137
noncomputable abbrev r137 : K := aU CF Tryz.f137
noncomputable def D137 (r : RT) (n : Nat) (c : Code) (X : Nat → K) (k : K) : K := aM CF r 19 n c X r137 k
theorem dJz : D137 r n c137 x0 r137 = (K2 (s137 r n) 0 1) :=
 (by kernel_rfl)
theorem cUr : aF CF r n 137 args h = s137 r n (aR args 0) (aR args 1) h :=
 (by kernel_rfl : aF CF r n 137 args h = D137 r n c137 x0 r137 (aH args) h).trans ((congrFun (congrFun (dJz r n) (aH args)) h).trans (by kernel_rfl))
noncomputable def aFg (r : RT) (n : Nat) (x7 : DV) (h0 : Hp) : aI :=
 bnd (aB 1 x7 h0) fun v1 h1 =>
 bnd (aA v1 h1) fun v2 h2 =>
 some (v2, h2)
noncomputable def xS (r : RT) (n : Nat) (x0 x2 x7 : DV) (h0 : Hp) : aI :=
 bnd (bZ x2 h0) fun v1 h1 =>
 bnd (aD .eql v1 (aE 4) h1) fun v2 h2 =>
 aS v2 (
 bnd (aK 4 x7 h2) fun v3 h3 =>
 bnd (r 136 [x0, v3, (aE 18)] h3) fun v4 h4 =>
  aFg r n x7 h4) (
  aFg r n x7 h2)
noncomputable def aGa (r : RT) (n : Nat) (x0 x1 x2 : DV) (h0 : Hp) : aI :=
 bnd (r 120 [x0, x1, (.s [])] h0) fun v1 h1 =>
 bnd (bL [(aE 0), (.s []), (aE 0), (aE 0)] h1) fun v2 h2 =>
 bnd (aG 4 v2 v1 h2) fun _ h3 =>
  xS r n x0 x2 v2 h3
noncomputable def s138 (r : RT) (n : Nat) (x0 x1 x2 : DV) (h0 : Hp) : aI :=
 aGa r n x0 x1 x2 h0
noncomputable abbrev c138 : Code := cf Tryz.f138
noncomputable abbrev aIt : Code := cR c138
noncomputable abbrev aJd : Code := cR aIt
noncomputable abbrev cRr : Code := cR aJd
noncomputable abbrev bWn : Code := cL aJd
noncomputable abbrev aNj : Code := cL aIt
noncomputable abbrev bLu : Code := cL c138
noncomputable abbrev r138 : K := aU CF Tryz.f138
noncomputable def D138 (r : RT) (n : Nat) (c : Code) (X : Nat → K) (k : K) : K := aM CF r 19 n c X r138 k
theorem cLa : D138 r n cRr x0 r138 = (K1 (aFg r n) 7) :=
 (by kernel_rfl)
theorem bSi : D138 r n aJd x0 r138 = D138 r n bWn x0 (K1 (aFg r n) 7) :=
 congrArg (fun k => D138 r n bWn x0 k) (cLa r n)
theorem cNh : D138 r n aJd x0 r138 = (K3 (xS r n) 0 2 7) :=
 (bSi r n).trans
 ((by kernel_rfl))
theorem bHs : D138 r n aIt x0 r138 = D138 r n aNj x0 (K3 (xS r n) 0 2 7) :=
 congrArg (fun k => D138 r n aNj x0 k) (cNh r n)
theorem bLd (q0 : mN) : D138 r n aNj x0 (K3 q0 0 2 7) = fun (env : aZ) (h : Hp) =>
 bnd (r 120 [(env 0), (env 1), (.s [])] h) fun v1 h1 =>
 bnd (bL [(aE 0), (.s []), (aE 0), (aE 0)] h1) fun v2 h2 =>
 bnd (aG 4 v2 v1 h2) fun _ h3 =>
  q0 (env 0) (env 2) v2 h3 := by kernel_rfl
theorem bDz : (fun (env : aZ) (h : Hp) =>
 bnd (r 120 [(env 0), (env 1), (.s [])] h) fun v1 h1 =>
 bnd (bL [(aE 0), (.s []), (aE 0), (aE 0)] h1) fun v2 h2 =>
 bnd (aG 4 v2 v1 h2) fun _ h3 =>
  xS r n (env 0) (env 2) v2 h3) = (K3 (aGa r n) 0 1 2) := by kernel_rfl
theorem cNr : D138 r n aIt x0 r138 = (K3 (aGa r n) 0 1 2) :=
 (bHs r n).trans
 ((bLd r n (xS r n)).trans (bDz r n))
theorem dAm : D138 r n c138 x0 r138 = D138 r n bLu x0 (K3 (aGa r n) 0 1 2) :=
 congrArg (fun k => D138 r n bLu x0 k) (cNr r n)
theorem dHl : D138 r n c138 x0 r138 = (K3 (s138 r n) 0 1 2) :=
 (dAm r n).trans
 ((by kernel_rfl))
theorem dCd : aF CF r n 138 args h = s138 r n (aR args 0) (aR args 1) (aR args 2) h :=
 (by kernel_rfl : aF CF r n 138 args h = D138 r n c138 x0 r138 (aH args) h).trans ((congrFun (congrFun (dHl r n) (aH args)) h).trans (by kernel_rfl))
noncomputable def dE (r : RT) (n : Nat) (kk2 : cG) (x0 x2 x10 x11 x12 : DV) (h0 : Hp) : aI :=
 bnd (aD .add x12 (aE 1) h0) fun v1 h1 =>
  kk2 x0 x2 x10 x11 v1 h1
noncomputable def xF (r : RT) (n : Nat) (kk2 : cG) (x0 x2 x7 x10 x11 x12 : DV) (h0 : Hp) : aI :=
 bnd (aO x0 h0) fun v1 h1 =>
 bnd (aB 8 v1 h1) fun v2 h2 =>
 bnd (aA v2 h2) fun v3 h3 =>
 bnd (aD .neq v3 (aE 0) h3) fun v4 h4 =>
 aS v4 (
 some (.t [], h4)) (
 bnd (aO x0 (resv 1 h4)) fun v5 h5 =>
 bnd (aB 6 v5 h5) fun v6 h6 =>
 bnd (aA v6 h6) fun v7 h7 =>
 bnd (aO x0 h7) fun v8 h8 =>
 bnd (aB 0 v8 h8) fun v9 h9 =>
 bnd (aB 2 v9 h9) fun v10 h10 =>
 bnd (aA v10 h10) fun v11 h11 =>
 bnd (bB [(.s []), (.b false), (.b false), (aE 0)] [(0, 1, x7), (1, 1, (.b false)), (2, 1, x2), (3, 1, v11)] h11) fun v12 h12 =>
 bnd (bK (bW 0 h4.next) [(.s []), (.b false), (.b false), (aE 0)] 1 [(0, 4, v12)] h12) fun v13 h13 =>
 bnd (bA 4 32 v7 v13 h13) fun v14 h14 =>
 bnd (aO x0 h14) fun v15 h15 =>
 bnd (aB 6 v15 h15) fun v16 h16 =>
 bnd (aG 1 v16 v14 h16) fun v17 h17 =>
 bnd (aO x0 h17) fun v18 h18 =>
 bnd (aB 0 v18 h18) fun v19 h19 =>
 bnd (aB 2 v19 h19) fun v20 h20 =>
 bnd (aA v20 h20) fun v21 h21 =>
 bnd (aD .add v21 (aE 1) h21) fun v22 h22 =>
 bnd (aO x0 h22) fun v23 h23 =>
 bnd (aB 0 v23 h23) fun v24 h24 =>
 bnd (aB 2 v24 h24) fun v25 h25 =>
 bnd (aG 1 v25 v22 h25) fun _ h26 =>
  dE r n kk2 x0 x2 x10 x11 x12 h26)
noncomputable def oE (r : RT) (n : Nat) (kk2 : cG) (x0 x2 x7 x10 x11 x12 : DV) (h0 : Hp) : aI :=
 bnd (aO x0 h0) fun v1 h1 =>
 bnd (aB 0 v1 h1) fun v2 h2 =>
 bnd (aB 2 v2 h2) fun v3 h3 =>
 bnd (aA v3 h3) fun v4 h4 =>
 bnd (aD .eql v4 (aE 24) h4) fun v5 h5 =>
 aS v5 (
 bnd (r 158 [x0, x7, (aE 18)] h5) fun v6 h6 =>
  xF r n kk2 x0 x2 x7 x10 x11 x12 h6) (
  xF r n kk2 x0 x2 x7 x10 x11 x12 h5)
noncomputable def aHi (r : RT) (n : Nat) (kk2 : cG) (x0 x2 x7 x10 x11 x12 : DV) (h0 : Hp) : aI :=
 bnd (r 156 [x0, x7] h0) fun v1 h1 =>
 bnd (aC 0 v1 h1) fun v2 h2 =>
 bnd (aC 1 v1 h2) fun v3 h3 =>
 bnd (bL [(.s []), (.b false), (.b false), (aE 0)] h3) fun v4 h4 =>
 bnd (aG 4 v4 v2 h4) fun _ h5 =>
 bnd (gD v3 false (some (x7, h5)) h5) fun v6 h6 =>
 bnd (gD v3 false (r 157 [v6] h6) h6) fun v7 h7 =>
 bnd (aP v3 (.b true) v7 h7) fun v8 h8 =>
 aS v8 (
 bnd (r 158 [x0, x7, (aE 16)] h8) fun v9 h9 =>
  oE r n kk2 x0 x2 x7 x10 x11 x12 h9) (
  oE r n kk2 x0 x2 x7 x10 x11 x12 h8)
noncomputable def aOn (r : RT) (n : Nat) (kk2 : cG) (x0 x2 x10 x11 x12 : DV) (h0 : Hp) : aI :=
 bnd (aJ 1 x10 x12 h0) fun v1 h1 =>
 bnd (aA v1 h1) fun v2 h2 =>
  aHi r n kk2 x0 x2 v2 x10 x11 x12 h2
noncomputable def aSn (r : RT) (n : Nat) (kk2 : cG) (x0 x2 x10 x11 x12 x13 : DV) (h0 : Hp) : aI :=
 aS x13 (
  aOn r n kk2 x0 x2 x10 x11 x12 h0) (
 some (.t [], h0))
noncomputable def aXh (r : RT) (n : Nat) (kk2 : cG) (x0 x2 x10 x11 x12 : DV) (h0 : Hp) : aI :=
 bnd (aD .lss x12 x11 h0) fun v1 h1 =>
  aSn r n kk2 x0 x2 x10 x11 x12 v1 h1
noncomputable def uI (r : RT) (n : Nat) (m : Nat) : cG :=
 Nat.rec (motive := fun _ => cG) (fun _ _ _ _ _ _ => none) (fun _ ih => aXh r n ih) m
noncomputable def bVp (r : RT) (n : Nat) : cG := uI r n n
noncomputable def aPe (r : RT) (n : Nat) (x0 x2 x10 x11 x12 : DV) (h0 : Hp) : aI :=
 bVp r n x0 x2 x10 x11 x12 h0
noncomputable def s139 (r : RT) (n : Nat) (x0 x1 x2 : DV) (h0 : Hp) : aI :=
 bnd (bZ x1 h0) fun v1 h1 =>
  aPe r n x0 x2 x1 v1 (aE 0) h1
noncomputable abbrev c139 : Code := cf Tryz.f139
noncomputable abbrev aTr : Code := cR c139
noncomputable abbrev aKd : Code := cL aTr
noncomputable abbrev kB : Code := cL aKd
noncomputable abbrev aHe : Code := cR kB
noncomputable abbrev aHy : Code := cR aHe
noncomputable abbrev cWk : Code := cR aHy
noncomputable abbrev aAp : Code := cL aHy
noncomputable abbrev aEz : Code := cL aAp
noncomputable abbrev aEk : Code := cR aEz
noncomputable abbrev tE : Code := cR aEk
noncomputable abbrev bAr : Code := cR tE
noncomputable abbrev aVf : Code := cL tE
noncomputable abbrev aBq : Code := cL aEk
noncomputable abbrev bBe : Code := cL aEz
noncomputable abbrev aZb : Code := cL aHe
noncomputable abbrev aXl : Code := cL kB
noncomputable abbrev aZm : Code := cL c139
noncomputable abbrev r139 : K := aU CF Tryz.f139
noncomputable def D139 (r : RT) (n : Nat) (c : Code) (X : Nat → K) (k : K) : K := aM CF r 71 n c X r139 k
theorem cBb (kk2 : cG) : D139 r n cWk (xs x0 0 r139) (K5 kk2 0 2 10 11 12) = (K5 (dE r n kk2) 0 2 10 11 12) :=
 (by kernel_rfl)
theorem bMz (kk2 : cG) (q0 : cG) : D139 r n bAr (xs (xs x0 0 r139) 1 (K5 q0 0 2 10 11 12)) (K5 q0 0 2 10 11 12) = fun (env : aZ) (h : Hp) =>
 bnd (aO (env 0) h) fun v1 h1 =>
 bnd (aB 8 v1 h1) fun v2 h2 =>
 bnd (aA v2 h2) fun v3 h3 =>
 bnd (aD .neq v3 (aE 0) h3) fun v4 h4 =>
 aS v4 (
 some (.t [], h4)) (
 bnd (aO (env 0) (resv 1 h4)) fun v5 h5 =>
 bnd (aB 6 v5 h5) fun v6 h6 =>
 bnd (aA v6 h6) fun v7 h7 =>
 bnd (aO (env 0) h7) fun v8 h8 =>
 bnd (aB 0 v8 h8) fun v9 h9 =>
 bnd (aB 2 v9 h9) fun v10 h10 =>
 bnd (aA v10 h10) fun v11 h11 =>
 bnd (bB [(.s []), (.b false), (.b false), (aE 0)] [(0, 1, (env 7)), (1, 1, (.b false)), (2, 1, (env 2)), (3, 1, v11)] h11) fun v12 h12 =>
 bnd (bK (bW 0 h4.next) [(.s []), (.b false), (.b false), (aE 0)] 1 [(0, 4, v12)] h12) fun v13 h13 =>
 bnd (bA 4 32 v7 v13 h13) fun v14 h14 =>
 bnd (aO (env 0) h14) fun v15 h15 =>
 bnd (aB 6 v15 h15) fun v16 h16 =>
 bnd (aG 1 v16 v14 h16) fun v17 h17 =>
 bnd (aO (env 0) h17) fun v18 h18 =>
 bnd (aB 0 v18 h18) fun v19 h19 =>
 bnd (aB 2 v19 h19) fun v20 h20 =>
 bnd (aA v20 h20) fun v21 h21 =>
 bnd (aD .add v21 (aE 1) h21) fun v22 h22 =>
 bnd (aO (env 0) h22) fun v23 h23 =>
 bnd (aB 0 v23 h23) fun v24 h24 =>
 bnd (aB 2 v24 h24) fun v25 h25 =>
 bnd (aG 1 v25 v22 h25) fun _ h26 =>
      q0 (env 0) (env 2) (env 10) (env 11) (env 12) h26) := by kernel_rfl
theorem bFu (kk2 : cG) : (fun (env : aZ) (h : Hp) =>
 bnd (aO (env 0) h) fun v1 h1 =>
 bnd (aB 8 v1 h1) fun v2 h2 =>
 bnd (aA v2 h2) fun v3 h3 =>
 bnd (aD .neq v3 (aE 0) h3) fun v4 h4 =>
 aS v4 (
 some (.t [], h4)) (
 bnd (aO (env 0) (resv 1 h4)) fun v5 h5 =>
 bnd (aB 6 v5 h5) fun v6 h6 =>
 bnd (aA v6 h6) fun v7 h7 =>
 bnd (aO (env 0) h7) fun v8 h8 =>
 bnd (aB 0 v8 h8) fun v9 h9 =>
 bnd (aB 2 v9 h9) fun v10 h10 =>
 bnd (aA v10 h10) fun v11 h11 =>
 bnd (bB [(.s []), (.b false), (.b false), (aE 0)] [(0, 1, (env 7)), (1, 1, (.b false)), (2, 1, (env 2)), (3, 1, v11)] h11) fun v12 h12 =>
 bnd (bK (bW 0 h4.next) [(.s []), (.b false), (.b false), (aE 0)] 1 [(0, 4, v12)] h12) fun v13 h13 =>
 bnd (bA 4 32 v7 v13 h13) fun v14 h14 =>
 bnd (aO (env 0) h14) fun v15 h15 =>
 bnd (aB 6 v15 h15) fun v16 h16 =>
 bnd (aG 1 v16 v14 h16) fun v17 h17 =>
 bnd (aO (env 0) h17) fun v18 h18 =>
 bnd (aB 0 v18 h18) fun v19 h19 =>
 bnd (aB 2 v19 h19) fun v20 h20 =>
 bnd (aA v20 h20) fun v21 h21 =>
 bnd (aD .add v21 (aE 1) h21) fun v22 h22 =>
 bnd (aO (env 0) h22) fun v23 h23 =>
 bnd (aB 0 v23 h23) fun v24 h24 =>
 bnd (aB 2 v24 h24) fun v25 h25 =>
 bnd (aG 1 v25 v22 h25) fun _ h26 =>
      dE r n kk2 (env 0) (env 2) (env 10) (env 11) (env 12) h26)) = (K6 (xF r n kk2) 0 2 7 10 11 12) := by kernel_rfl
theorem cDb (kk2 : cG) : D139 r n bAr (xs (xs x0 0 r139) 1 (K5 (dE r n kk2) 0 2 10 11 12)) (K5 (dE r n kk2) 0 2 10 11 12) = (K6 (xF r n kk2) 0 2 7 10 11 12) :=
 (bMz r n kk2 (dE r n kk2)).trans (bFu r n kk2)
theorem bZj (kk2 : cG) : D139 r n tE (xs (xs x0 0 r139) 1 (K5 (dE r n kk2) 0 2 10 11 12)) (K5 (dE r n kk2) 0 2 10 11 12) = D139 r n aVf (xs (xs x0 0 r139) 1 (K5 (dE r n kk2) 0 2 10 11 12)) (K6 (xF r n kk2) 0 2 7 10 11 12) :=
 congrArg (fun k => D139 r n aVf (xs (xs x0 0 r139) 1 (K5 (dE r n kk2) 0 2 10 11 12)) k) (cDb r n kk2)
theorem cEo (kk2 : cG) : D139 r n tE (xs (xs x0 0 r139) 1 (K5 (dE r n kk2) 0 2 10 11 12)) (K5 (dE r n kk2) 0 2 10 11 12) = (K6 (oE r n kk2) 0 2 7 10 11 12) :=
 (bZj r n kk2).trans
 ((by kernel_rfl))
theorem bSb (kk2 : cG) : D139 r n aEk (xs (xs x0 0 r139) 1 (K5 (dE r n kk2) 0 2 10 11 12)) (K5 (dE r n kk2) 0 2 10 11 12) = D139 r n aBq (xs (xs x0 0 r139) 1 (K5 (dE r n kk2) 0 2 10 11 12)) (K6 (oE r n kk2) 0 2 7 10 11 12) :=
 congrArg (fun k => D139 r n aBq (xs (xs x0 0 r139) 1 (K5 (dE r n kk2) 0 2 10 11 12)) k) (cEo r n kk2)
theorem bIc (kk2 : cG) (q0 : fF) (q1 : cG) : D139 r n aBq (xs (xs x0 0 r139) 1 (K5 q1 0 2 10 11 12)) (K6 q0 0 2 7 10 11 12) = fun (env : aZ) (h : Hp) =>
 bnd (r 156 [(env 0), (env 7)] h) fun v1 h1 =>
 bnd (aC 0 v1 h1) fun v2 h2 =>
 bnd (aC 1 v1 h2) fun v3 h3 =>
 bnd (bL [(.s []), (.b false), (.b false), (aE 0)] h3) fun v4 h4 =>
 bnd (aG 4 v4 v2 h4) fun _ h5 =>
 bnd (gD v3 false (some ((env 7), h5)) h5) fun v6 h6 =>
 bnd (gD v3 false (r 157 [v6] h6) h6) fun v7 h7 =>
 bnd (aP v3 (.b true) v7 h7) fun v8 h8 =>
 aS v8 (
 bnd (r 158 [(env 0), (env 7), (aE 16)] h8) fun v9 h9 =>
      q0 (env 0) (env 2) (env 7) (env 10) (env 11) (env 12) h9) (
      q0 (env 0) (env 2) (env 7) (env 10) (env 11) (env 12) h8) := by kernel_rfl
theorem bEr (kk2 : cG) : (fun (env : aZ) (h : Hp) =>
 bnd (r 156 [(env 0), (env 7)] h) fun v1 h1 =>
 bnd (aC 0 v1 h1) fun v2 h2 =>
 bnd (aC 1 v1 h2) fun v3 h3 =>
 bnd (bL [(.s []), (.b false), (.b false), (aE 0)] h3) fun v4 h4 =>
 bnd (aG 4 v4 v2 h4) fun _ h5 =>
 bnd (gD v3 false (some ((env 7), h5)) h5) fun v6 h6 =>
 bnd (gD v3 false (r 157 [v6] h6) h6) fun v7 h7 =>
 bnd (aP v3 (.b true) v7 h7) fun v8 h8 =>
 aS v8 (
 bnd (r 158 [(env 0), (env 7), (aE 16)] h8) fun v9 h9 =>
      oE r n kk2 (env 0) (env 2) (env 7) (env 10) (env 11) (env 12) h9) (
      oE r n kk2 (env 0) (env 2) (env 7) (env 10) (env 11) (env 12) h8)) = (K6 (aHi r n kk2) 0 2 7 10 11 12) := by kernel_rfl
theorem cMf (kk2 : cG) : D139 r n aEk (xs (xs x0 0 r139) 1 (K5 (dE r n kk2) 0 2 10 11 12)) (K5 (dE r n kk2) 0 2 10 11 12) = (K6 (aHi r n kk2) 0 2 7 10 11 12) :=
 (bSb r n kk2).trans
 ((bIc r n kk2 (oE r n kk2) (dE r n kk2)).trans (bEr r n kk2))
theorem bUm (kk2 : cG) : D139 r n aHy (xs x0 0 r139) (K5 kk2 0 2 10 11 12) = D139 r n aAp (xs x0 0 r139) (K5 (dE r n kk2) 0 2 10 11 12) :=
 congrArg (fun k => D139 r n aAp (xs x0 0 r139) k) (cBb r n kk2)
theorem bVq (kk2 : cG) : D139 r n aEz (xs (xs x0 0 r139) 1 (K5 (dE r n kk2) 0 2 10 11 12)) (K5 (dE r n kk2) 0 2 10 11 12) = D139 r n bBe (xs (xs x0 0 r139) 1 (K5 (dE r n kk2) 0 2 10 11 12)) (K6 (aHi r n kk2) 0 2 7 10 11 12) :=
 congrArg (fun k => D139 r n bBe (xs (xs x0 0 r139) 1 (K5 (dE r n kk2) 0 2 10 11 12)) k) (cMf r n kk2)
theorem cFv (kk2 : cG) : D139 r n aHy (xs x0 0 r139) (K5 kk2 0 2 10 11 12) = (K5 (aOn r n kk2) 0 2 10 11 12) :=
 (bUm r n kk2).trans
 ((by kernel_rfl : D139 r n aAp (xs x0 0 r139) (K5 (dE r n kk2) 0 2 10 11 12) = D139 r n aEz (xs (xs x0 0 r139) 1 (K5 (dE r n kk2) 0 2 10 11 12)) (K5 (dE r n kk2) 0 2 10 11 12)).trans
 ((bVq r n kk2).trans
 ((by kernel_rfl))))
theorem bMi (kk2 : cG) : D139 r n aHe (xs x0 0 r139) (K5 kk2 0 2 10 11 12) = D139 r n aZb (xs x0 0 r139) (K5 (aOn r n kk2) 0 2 10 11 12) :=
 congrArg (fun k => D139 r n aZb (xs x0 0 r139) k) (cFv r n kk2)
theorem cEt (kk2 : cG) : D139 r n aHe (xs x0 0 r139) (K5 kk2 0 2 10 11 12) = (K6 (aSn r n kk2) 0 2 10 11 12 13) :=
 (bMi r n kk2).trans
 ((by kernel_rfl))
theorem bOi (kk2 : cG) : D139 r n kB (xs x0 0 r139) (K5 kk2 0 2 10 11 12) = D139 r n aXl (xs x0 0 r139) (K6 (aSn r n kk2) 0 2 10 11 12 13) :=
 congrArg (fun k => D139 r n aXl (xs x0 0 r139) k) (cEt r n kk2)
theorem bQn (kk2 : cG) : D139 r n kB (xs x0 0 r139) (K5 kk2 0 2 10 11 12) = (K5 (aXh r n kk2) 0 2 10 11 12) :=
 (bOi r n kk2).trans
 ((by kernel_rfl))
theorem bSk (m : Nat) : aN (fun kk => D139 r n kB (xs x0 0 r139) kk) m = (K5 (uI r n m) 0 2 10 11 12) := by
 induction m with
 | zero => exact (by kernel_rfl : aN (fun kk => D139 r n kB (xs x0 0 r139) kk) 0 = (K5 (uI r n 0) 0 2 10 11 12))
 | succ m ih =>
  refine (by kernel_rfl : aN (fun kk => D139 r n kB (xs x0 0 r139) kk) (m + 1) = D139 r n kB (xs x0 0 r139) (aN (fun kk => D139 r n kB (xs x0 0 r139) kk) m)).trans ?_
  rw [ih]
  exact (bQn r n (uI r n m)).trans (by kernel_rfl)
theorem cFs : D139 r n aKd (xs x0 0 r139) r139 = (K5 (bVp r n) 0 2 10 11 12) :=
 (by kernel_rfl : D139 r n aKd (xs x0 0 r139) r139 = aN (fun kk => D139 r n kB (xs x0 0 r139) kk) n).trans ((bSk r n n).trans (by kernel_rfl))
theorem cNi : D139 r n aTr x0 r139 = (K5 (aPe r n) 0 2 10 11 12) :=
 (by kernel_rfl : D139 r n aTr x0 r139 = D139 r n aKd (xs x0 0 r139) r139).trans
 ((cFs r n).trans (by kernel_rfl))
theorem dAy : D139 r n c139 x0 r139 = D139 r n aZm x0 (K5 (aPe r n) 0 2 10 11 12) :=
 congrArg (fun k => D139 r n aZm x0 k) (cNi r n)
theorem dFt : D139 r n c139 x0 r139 = (K3 (s139 r n) 0 1 2) :=
 (dAy r n).trans
 ((by kernel_rfl))
theorem cVw : aF CF r n 139 args h = s139 r n (aR args 0) (aR args 1) (aR args 2) h :=
 (by kernel_rfl : aF CF r n 139 args h = D139 r n c139 x0 r139 (aH args) h).trans ((congrFun (congrFun (dFt r n) (aH args)) h).trans (by kernel_rfl))
noncomputable def qH (r : RT) (n : Nat) (x0 x3 x11 x14 : DV) (h0 : Hp) : aI :=
 aS x14 (
 bnd (aK 6 x3 h0) fun v1 h1 =>
 bnd (r 160 [x0, v1] h1) fun v2 h2 =>
 bnd (lK [x0, v2] h2) fun v3 h3 =>
 bnd (r 141 [x0, (aE 6), v3, (aE 0)] h3) fun v4 h4 =>
 some (.t [], h4)) (
 bnd (aD .eql x11 (aE 5) h0) fun v5 h5 =>
 aS v5 (
 bnd (aB 1 x3 h5) fun v6 h6 =>
 bnd (aA v6 h6) fun v7 h7 =>
 bnd (r 161 [x0, v7] h7) fun v8 h8 =>
 some (.t [], h8)) (
 bnd (aD .eql x11 (aE 6) h5) fun v9 h9 =>
 aS v9 (
 bnd (aK 6 x3 h9) fun v10 h10 =>
 bnd (r 162 [x0, v10] h10) fun v11 h11 =>
 some (.t [], h11)) (
 bnd (aD .eql x11 (aE 7) h9) fun v12 h12 =>
 aS v12 (
 bnd (aK 6 x3 h12) fun v13 h13 =>
 bnd (r 163 [x0, v13] h13) fun v14 h14 =>
 some (.t [], h14)) (
 bnd (aD .eql x11 (aE 8) h12) fun v15 h15 =>
 aS v15 (
 bnd (aK 6 x3 h15) fun v16 h16 =>
 bnd (r 164 [x0, v16] h16) fun v17 h17 =>
 some (.t [], h17)) (
 bnd (aD .eql x11 (aE 9) h15) fun v18 h18 =>
 aS v18 (
 bnd (aO x0 h18) fun v19 h19 =>
 bnd (aB 0 v19 h19) fun v20 h20 =>
 bnd (aB 2 v20 h20) fun v21 h21 =>
 bnd (aA v21 h21) fun v22 h22 =>
 bnd (aB 3 x3 h22) fun v23 h23 =>
 bnd (aA v23 h23) fun v24 h24 =>
 bnd (bZ v24 h24) fun v25 h25 =>
 bnd (r 141 [x0, (aE 18), v22, v25] h25) fun v26 h26 =>
 bnd (r 165 [x0, (aE 16)] h26) fun v27 h27 =>
 bnd (aK 6 x3 h27) fun v28 h28 =>
 bnd (r 166 [x0, v28] h28) fun v29 h29 =>
 bnd (r 141 [x0, (aE 19), (aE 0), (aE 0)] h29) fun v30 h30 =>
 bnd (cX CF r v27 [] h30) fun v31 h31 =>
 some (.t [], h31)) (
 bnd (aD .eql x11 (aE 10) h18) fun v32 h32 =>
 aS v32 (
 bnd (aK 6 x3 h32) fun v33 h33 =>
 bnd (r 167 [x0, v33] h33) fun v34 h34 =>
 aS v34 (
 bnd (aB 5 x3 h34) fun v35 h35 =>
 bnd (aA v35 h35) fun v36 h36 =>
 bnd (aJ 6 v36 (aE 0) h36) fun v37 h37 =>
 bnd (aK 6 v37 h37) fun v38 h38 =>
 bnd (r 140 [x0, v38] h38) fun v39 h39 =>
 bnd (r 141 [x0, (aE 20), (aE 0), (aE 0)] h39) fun v40 h40 =>
 some (.t [], h40)) (
 some (.t [], h34))) (
 bnd (r 158 [x0, (.s []), (aE 1)] h32) fun v41 h41 =>
 some (.t [], h41))))))))
noncomputable def aOk (r : RT) (n : Nat) (x0 x3 x11 : DV) (h0 : Hp) : aI :=
 bnd (aD .eql x11 (aE 1) h0) fun v1 h1 =>
 aS v1 (
  qH r n x0 x3 x11 v1 h1) (
 bnd (aD .eql x11 (aE 2) h1) fun v2 h2 =>
 aS v2 (
   qH r n x0 x3 x11 v2 h2) (
 bnd (aD .eql x11 (aE 3) h2) fun v3 h3 =>
 aS v3 (
    qH r n x0 x3 x11 v3 h3) (
 bnd (aD .eql x11 (aE 4) h3) fun v4 h4 =>
    qH r n x0 x3 x11 v4 h4)))
noncomputable def aOs (r : RT) (n : Nat) (x0 x3 : DV) (h0 : Hp) : aI :=
 bnd (aB 0 x3 h0) fun v1 h1 =>
 bnd (aA v1 h1) fun v2 h2 =>
  aOk r n x0 x3 v2 h2
noncomputable def xM (r : RT) (n : Nat) (x0 x3 : DV) (h0 : Hp) : aI :=
 bnd (aO x0 h0) fun v1 h1 =>
 bnd (aB 8 v1 h1) fun v2 h2 =>
 bnd (aA v2 h2) fun v3 h3 =>
 bnd (aD .neq v3 (aE 0) h3) fun v4 h4 =>
 aS v4 (
 some (.t [], h4)) (
  aOs r n x0 x3 h4)
noncomputable def s140 (r : RT) (n : Nat) (x0 x1 : DV) (h0 : Hp) : aI :=
 bnd (bR x1 h0) fun v1 h1 =>
  xM r n x0 v1 h1
noncomputable abbrev c140 : Code := cf Tryz.f140
noncomputable abbrev aDm : Code := cR c140
noncomputable abbrev aGb : Code := cR aDm
noncomputable abbrev aNm : Code := cR aGb
noncomputable abbrev aIm : Code := cL aNm
noncomputable abbrev cVc : Code := cR aIm
noncomputable abbrev bUl : Code := cL aIm
noncomputable abbrev bGj : Code := cL aGb
noncomputable abbrev bNz : Code := cL aDm
noncomputable abbrev aOx : Code := cL c140
noncomputable abbrev r140 : K := aU CF Tryz.f140
noncomputable def D140 (r : RT) (n : Nat) (c : Code) (X : Nat → K) (k : K) : K := aM CF r 81 n c X r140 k
theorem cFn : D140 r n cVc (xs x0 0 r140) r140 = (K4 (qH r n) 0 3 11 14) :=
 (by kernel_rfl)
theorem bLz : D140 r n aIm (xs x0 0 r140) r140 = D140 r n bUl (xs x0 0 r140) (K4 (qH r n) 0 3 11 14) :=
 congrArg (fun k => D140 r n bUl (xs x0 0 r140) k) (cFn r n)
theorem cHt : D140 r n aNm x0 r140 = (K3 (aOk r n) 0 3 11) :=
 (by kernel_rfl : D140 r n aNm x0 r140 = D140 r n aIm (xs x0 0 r140) r140).trans
 ((bLz r n).trans
 ((by kernel_rfl)))
theorem bGp : D140 r n aGb x0 r140 = D140 r n bGj x0 (K3 (aOk r n) 0 3 11) :=
 congrArg (fun k => D140 r n bGj x0 k) (cHt r n)
theorem cGa : D140 r n aGb x0 r140 = (K2 (aOs r n) 0 3) :=
 (bGp r n).trans
 ((by kernel_rfl))
theorem bUg : D140 r n aDm x0 r140 = D140 r n bNz x0 (K2 (aOs r n) 0 3) :=
 congrArg (fun k => D140 r n bNz x0 k) (cGa r n)
theorem cDa : D140 r n aDm x0 r140 = (K2 (xM r n) 0 3) :=
 (bUg r n).trans
 ((by kernel_rfl))
theorem cSz : D140 r n c140 x0 r140 = D140 r n aOx x0 (K2 (xM r n) 0 3) :=
 congrArg (fun k => D140 r n aOx x0 k) (cDa r n)
theorem cTi (q0 : oK) : D140 r n aOx x0 (K2 q0 0 3) = fun (env : aZ) (h : Hp) =>
 bnd (bR (env 1) h) fun v1 h1 =>
  q0 (env 0) v1 h1 := by kernel_rfl
theorem cKb : (fun (env : aZ) (h : Hp) =>
 bnd (bR (env 1) h) fun v1 h1 =>
  xM r n (env 0) v1 h1) = (K2 (s140 r n) 0 1) := by kernel_rfl
theorem dFx : D140 r n c140 x0 r140 = (K2 (s140 r n) 0 1) :=
 (cSz r n).trans
 ((cTi r n (xM r n)).trans (cKb r n))
theorem cRj : aF CF r n 140 args h = s140 r n (aR args 0) (aR args 1) h :=
 (by kernel_rfl : aF CF r n 140 args h = D140 r n c140 x0 r140 (aH args) h).trans ((congrFun (congrFun (dFx r n) (aH args)) h).trans (by kernel_rfl))
noncomputable def s141 (r : RT) (n : Nat) (x0 x1 x2 x3 : DV) (h0 : Hp) : aI :=
 bnd (aO x0 h0) fun v1 h1 =>
 bnd (aB 0 v1 h1) fun v2 h2 =>
 bnd (aB 5 v2 h2) fun v3 h3 =>
 bnd (aA v3 h3) fun v4 h4 =>
 bnd (bB [(aE 0), (aE 0), (aE 0)] [(0, 1, x1), (1, 1, x2), (2, 1, x3)] h4) fun v5 h5 =>
 bnd (aL [(aE 0), (aE 0), (aE 0)] 1 [(0, 3, v5)] h5) fun v6 h6 =>
 bnd (bA 3 24 v4 v6 h6) fun v7 h7 =>
 bnd (aO x0 h7) fun v8 h8 =>
 bnd (aB 0 v8 h8) fun v9 h9 =>
 bnd (aB 5 v9 h9) fun v10 h10 =>
 bnd (aG 1 v10 v7 h10) fun _ h11 =>
 some (.t [], h11)
noncomputable abbrev c141 : Code := cf Tryz.f141
noncomputable abbrev r141 : K := aU CF Tryz.f141
noncomputable def D141 (r : RT) (n : Nat) (c : Code) (X : Nat → K) (k : K) : K := aM CF r 23 n c X r141 k
theorem dJw : D141 r n c141 x0 r141 = (K4 (s141 r n) 0 1 2 3) :=
 (by kernel_rfl)
theorem cYf : aF CF r n 141 args h = s141 r n (aR args 0) (aR args 1) (aR args 2) (aR args 3) h :=
 (by kernel_rfl : aF CF r n 141 args h = D141 r n c141 x0 r141 (aH args) h).trans ((congrFun (congrFun (dJw r n) (aH args)) h).trans (by kernel_rfl))
noncomputable def cI (r : RT) (n : Nat) (x2 x3 : DV) (h0 : Hp) : aI :=
 some (.t [x2, x3], h0)
noncomputable def cS (r : RT) (n : Nat) (x3 : DV) (h0 : Hp) : aI :=
 cI r n (.b true) x3 h0
noncomputable def dO (r : RT) (n : Nat) (h0 : Hp) : aI :=
 cS r n (.b true) h0
noncomputable def nQ (r : RT) (n : Nat) (x2 x3 : DV) (h0 : Hp) : aI :=
 cI r n x2 x3 h0
noncomputable def mC (r : RT) (n : Nat) (x2 x3 x11 : DV) (h0 : Hp) : aI :=
 aS x11 (
  cS r n x3 h0) (
  nQ r n x2 x3 h0)
noncomputable def xC (r : RT) (n : Nat) (x2 x3 x4 : DV) (h0 : Hp) : aI :=
 bnd (aD .eql x4 (aE 6) h0) fun v1 h1 =>
 aS v1 (
  mC r n x2 x3 v1 h1) (
 bnd (aD .eql x4 (aE 7) h1) fun v2 h2 =>
 aS v2 (
   mC r n x2 x3 v2 h2) (
 bnd (aD .eql x4 (aE 8) h2) fun v3 h3 =>
 aS v3 (
    mC r n x2 x3 v3 h3) (
 bnd (aD .eql x4 (aE 9) h3) fun v4 h4 =>
 aS v4 (
     mC r n x2 x3 v4 h4) (
 bnd (aD .eql x4 (aE 10) h4) fun v5 h5 =>
 aS v5 (
      mC r n x2 x3 v5 h5) (
 bnd (aD .eql x4 (aE 11) h5) fun v6 h6 =>
      mC r n x2 x3 v6 h6)))))
noncomputable def oD (r : RT) (n : Nat) (x2 x3 x4 x5 : DV) (h0 : Hp) : aI :=
 aS x5 (
  dO r n h0) (
  xC r n x2 x3 x4 h0)
noncomputable def aPs (r : RT) (n : Nat) (x2 x3 x4 : DV) (h0 : Hp) : aI :=
 bnd (aD .eql x4 (aE 14) h0) fun v1 h1 =>
 aS v1 (
  oD r n x2 x3 x4 v1 h1) (
 bnd (aD .eql x4 (aE 15) h1) fun v2 h2 =>
 aS v2 (
   oD r n x2 x3 x4 v2 h2) (
 bnd (aD .eql x4 (aE 16) h2) fun v3 h3 =>
 aS v3 (
    oD r n x2 x3 x4 v3 h3) (
 bnd (aD .eql x4 (aE 17) h3) fun v4 h4 =>
 aS v4 (
     oD r n x2 x3 x4 v4 h4) (
 bnd (aD .eql x4 (aE 18) h4) fun v5 h5 =>
     oD r n x2 x3 x4 v5 h5))))
noncomputable def aRl (r : RT) (n : Nat) (x0 x2 x3 : DV) (h0 : Hp) : aI :=
 aPs r n x2 x3 x0 h0
noncomputable def s142 (r : RT) (n : Nat) (x0 : DV) (h0 : Hp) : aI :=
 aRl r n x0 (.b false) (.b false) h0
noncomputable abbrev c142 : Code := cf Tryz.f142
noncomputable abbrev aEy : Code := cR c142
noncomputable abbrev dCa : Code := cR aEy
noncomputable abbrev xB : Code := cL aEy
noncomputable abbrev aQs : Code := cR xB
noncomputable abbrev aHq : Code := cL aQs
noncomputable abbrev cTt : Code := cR aHq
noncomputable abbrev aGg : Code := cL aHq
noncomputable abbrev aEs : Code := cL aGg
noncomputable abbrev cVy : Code := cR aEs
noncomputable abbrev tC : Code := cL aEs
noncomputable abbrev tA : Code := cL tC
noncomputable abbrev cHm : Code := cR tA
noncomputable abbrev oY : Code := cL tA
noncomputable abbrev uD : Code := cR oY
noncomputable abbrev cKs : Code := cR uD
noncomputable abbrev bAu : Code := cL uD
noncomputable abbrev oO : Code := cL oY
noncomputable abbrev cDi : Code := cR oO
noncomputable abbrev aXv : Code := cL oO
noncomputable abbrev aUi : Code := cL xB
noncomputable abbrev aUv : Code := cL c142
noncomputable abbrev r142 : K := aU CF Tryz.f142
noncomputable def D142 (r : RT) (n : Nat) (c : Code) (X : Nat → K) (k : K) : K := aM CF r 20 n c X r142 k
theorem cNf : D142 r n dCa x0 r142 = (K2 (cI r n) 2 3) :=
 (by kernel_rfl)
theorem cCs : D142 r n cTt (xs x0 0 (K2 (cI r n) 2 3)) (K2 (cI r n) 2 3) = (K1 (cS r n) 3) :=
 (by kernel_rfl)
theorem cMp : D142 r n cVy (xs (xs x0 0 (K2 (cI r n) 2 3)) 2 (K1 (cS r n) 3)) (K1 (cS r n) 3) = (K0 (dO r n)) :=
 (by kernel_rfl)
theorem cDz : D142 r n cHm (xs (xs (xs x0 0 (K2 (cI r n) 2 3)) 2 (K1 (cS r n) 3)) 1 (K0 (dO r n))) (K0 (dO r n)) = (K2 (nQ r n) 2 3) :=
 (by kernel_rfl)
theorem cIh : D142 r n cKs (xs (xs (xs x0 0 (K2 (cI r n) 2 3)) 2 (K1 (cS r n) 3)) 1 (K0 (dO r n))) (K2 (nQ r n) 2 3) = (K3 (mC r n) 2 3 11) :=
 (by kernel_rfl)
theorem bKa : D142 r n uD (xs (xs (xs x0 0 (K2 (cI r n) 2 3)) 2 (K1 (cS r n) 3)) 1 (K0 (dO r n))) (K2 (nQ r n) 2 3) = D142 r n bAu (xs (xs (xs x0 0 (K2 (cI r n) 2 3)) 2 (K1 (cS r n) 3)) 1 (K0 (dO r n))) (K3 (mC r n) 2 3 11) :=
 congrArg (fun k => D142 r n bAu (xs (xs (xs x0 0 (K2 (cI r n) 2 3)) 2 (K1 (cS r n) 3)) 1 (K0 (dO r n))) k) (cIh r n)
theorem cDg : D142 r n uD (xs (xs (xs x0 0 (K2 (cI r n) 2 3)) 2 (K1 (cS r n) 3)) 1 (K0 (dO r n))) (K2 (nQ r n) 2 3) = (K3 (xC r n) 2 3 4) :=
 (bKa r n).trans
 ((by kernel_rfl))
theorem cMq : D142 r n cDi (xs (xs (xs x0 0 (K2 (cI r n) 2 3)) 2 (K1 (cS r n) 3)) 1 (K0 (dO r n))) (K3 (xC r n) 2 3 4) = (K4 (oD r n) 2 3 4 5) :=
 (by kernel_rfl)
theorem bHo : D142 r n aHq (xs x0 0 (K2 (cI r n) 2 3)) (K2 (cI r n) 2 3) = D142 r n aGg (xs x0 0 (K2 (cI r n) 2 3)) (K1 (cS r n) 3) :=
 congrArg (fun k => D142 r n aGg (xs x0 0 (K2 (cI r n) 2 3)) k) (cCs r n)
theorem bKg : D142 r n aEs (xs (xs x0 0 (K2 (cI r n) 2 3)) 2 (K1 (cS r n) 3)) (K1 (cS r n) 3) = D142 r n tC (xs (xs x0 0 (K2 (cI r n) 2 3)) 2 (K1 (cS r n) 3)) (K0 (dO r n)) :=
 congrArg (fun k => D142 r n tC (xs (xs x0 0 (K2 (cI r n) 2 3)) 2 (K1 (cS r n) 3)) k) (cMp r n)
theorem bQi : D142 r n tA (xs (xs (xs x0 0 (K2 (cI r n) 2 3)) 2 (K1 (cS r n) 3)) 1 (K0 (dO r n))) (K0 (dO r n)) = D142 r n oY (xs (xs (xs x0 0 (K2 (cI r n) 2 3)) 2 (K1 (cS r n) 3)) 1 (K0 (dO r n))) (K2 (nQ r n) 2 3) :=
 congrArg (fun k => D142 r n oY (xs (xs (xs x0 0 (K2 (cI r n) 2 3)) 2 (K1 (cS r n) 3)) 1 (K0 (dO r n))) k) (cDz r n)
theorem bOm : D142 r n oY (xs (xs (xs x0 0 (K2 (cI r n) 2 3)) 2 (K1 (cS r n) 3)) 1 (K0 (dO r n))) (K2 (nQ r n) 2 3) = D142 r n oO (xs (xs (xs x0 0 (K2 (cI r n) 2 3)) 2 (K1 (cS r n) 3)) 1 (K0 (dO r n))) (K3 (xC r n) 2 3 4) :=
 congrArg (fun k => D142 r n oO (xs (xs (xs x0 0 (K2 (cI r n) 2 3)) 2 (K1 (cS r n) 3)) 1 (K0 (dO r n))) k) (cDg r n)
theorem bIa : D142 r n oO (xs (xs (xs x0 0 (K2 (cI r n) 2 3)) 2 (K1 (cS r n) 3)) 1 (K0 (dO r n))) (K3 (xC r n) 2 3 4) = D142 r n aXv (xs (xs (xs x0 0 (K2 (cI r n) 2 3)) 2 (K1 (cS r n) 3)) 1 (K0 (dO r n))) (K4 (oD r n) 2 3 4 5) :=
 congrArg (fun k => D142 r n aXv (xs (xs (xs x0 0 (K2 (cI r n) 2 3)) 2 (K1 (cS r n) 3)) 1 (K0 (dO r n))) k) (cMq r n)
theorem cHa : D142 r n aQs x0 (K2 (cI r n) 2 3) = (K3 (aPs r n) 2 3 4) :=
 (by kernel_rfl : D142 r n aQs x0 (K2 (cI r n) 2 3) = D142 r n aHq (xs x0 0 (K2 (cI r n) 2 3)) (K2 (cI r n) 2 3)).trans
 ((bHo r n).trans
 ((by kernel_rfl : D142 r n aGg (xs x0 0 (K2 (cI r n) 2 3)) (K1 (cS r n) 3) = D142 r n aEs (xs (xs x0 0 (K2 (cI r n) 2 3)) 2 (K1 (cS r n) 3)) (K1 (cS r n) 3)).trans
 ((bKg r n).trans
 ((by kernel_rfl : D142 r n tC (xs (xs x0 0 (K2 (cI r n) 2 3)) 2 (K1 (cS r n) 3)) (K0 (dO r n)) = D142 r n tA (xs (xs (xs x0 0 (K2 (cI r n) 2 3)) 2 (K1 (cS r n) 3)) 1 (K0 (dO r n))) (K0 (dO r n))).trans
 ((bQi r n).trans
 ((bOm r n).trans
 ((bIa r n).trans
 ((by kernel_rfl)))))))))
theorem bKs : D142 r n aEy x0 r142 = D142 r n xB x0 (K2 (cI r n) 2 3) :=
 congrArg (fun k => D142 r n xB x0 k) (cNf r n)
theorem bTu : D142 r n xB x0 (K2 (cI r n) 2 3) = D142 r n aUi x0 (K3 (aPs r n) 2 3 4) :=
 congrArg (fun k => D142 r n aUi x0 k) (cHa r n)
theorem cGd : D142 r n aEy x0 r142 = (K3 (aRl r n) 0 2 3) :=
 (bKs r n).trans
 ((bTu r n).trans
 ((by kernel_rfl)))
theorem cUe : D142 r n c142 x0 r142 = D142 r n aUv x0 (K3 (aRl r n) 0 2 3) :=
 congrArg (fun k => D142 r n aUv x0 k) (cGd r n)
theorem dIn : D142 r n c142 x0 r142 = (K1 (s142 r n) 0) :=
 (cUe r n).trans
 ((by kernel_rfl))
theorem cXa : aF CF r n 142 args h = s142 r n (aR args 0) h :=
 (by kernel_rfl : aF CF r n 142 args h = D142 r n c142 x0 r142 (aH args) h).trans ((congrFun (congrFun (dIn r n) (aH args)) h).trans (by kernel_rfl))
noncomputable def s143 (r : RT) (n : Nat) (x0 x1 : DV) (h0 : Hp) : aI :=
 bnd (aD .eql x0 (aE 0) h0) fun v1 h1 =>
 bnd (gD v1 false (some (x1, h1)) h1) fun v2 h2 =>
 bnd (gD v1 false (some (v2, h2)) h2) fun v3 h3 =>
 bnd (gD v3 true (some (x0, h3)) h3) fun v4 h4 =>
 bnd (gD v3 true (aD .gtr v4 (aE 0) h4) h4) fun v5 h5 =>
 bnd (gD v1 false (aP v3 v5 (.b false) h5) h5) fun v6 h6 =>
 bnd (gD v1 false (some (v6, h6)) h6) fun v7 h7 =>
 bnd (gD v7 true (some (x0, h7)) h7) fun v8 h8 =>
 bnd (gD v7 true (aD .leq v8 (aE 255) h8) h8) fun v9 h9 =>
 bnd (gD v1 false (aP v7 v9 (.b false) h9) h9) fun v10 h10 =>
 bnd (aP v1 (.b true) v10 h10) fun v11 h11 =>
 some (v11, h11)
noncomputable abbrev c143 : Code := cf Tryz.f143
noncomputable abbrev r143 : K := aU CF Tryz.f143
noncomputable def D143 (r : RT) (n : Nat) (c : Code) (X : Nat → K) (k : K) : K := aM CF r 18 n c X r143 k
theorem dJt : D143 r n c143 x0 r143 = (K2 (s143 r n) 0 1) :=
 (by kernel_rfl)
theorem dAb : aF CF r n 143 args h = s143 r n (aR args 0) (aR args 1) h :=
 (by kernel_rfl : aF CF r n 143 args h = D143 r n c143 x0 r143 (aH args) h).trans ((congrFun (congrFun (dJt r n) (aH args)) h).trans (by kernel_rfl))
noncomputable def eA (r : RT) (n : Nat) (x2 : DV) (h0 : Hp) : aI :=
 bnd (aB 5 x2 h0) fun v1 h1 =>
 bnd (aA v1 h1) fun v2 h2 =>
 bnd (r 173 [v2] h2) fun v3 h3 =>
 bnd (aB 5 x2 h3) fun v4 h4 =>
 bnd (aA v4 h4) fun v5 h5 =>
 bnd (r 174 [v5, v3] h5) fun v6 h6 =>
 bnd (gX .not v6 h6) fun v7 h7 =>
 aS v7 (
 some (.t [.l0, (aE 19)], h7)) (
 bnd (aB 5 x2 h7) fun v8 h8 =>
 bnd (aA v8 h8) fun v9 h9 =>
 bnd (r 175 [v9, v3] h9) fun v10 h10 =>
 bnd (aC 0 v10 h10) fun v11 h11 =>
 bnd (aC 1 v10 h11) fun v12 h12 =>
 bnd (gX .not v12 h12) fun v13 h13 =>
 aS v13 (
 some (.t [.l0, (aE 19)], h13)) (
 some (.t [v11, (aE 0)], h13)))
noncomputable def aDw (r : RT) (n : Nat) (kk7 : cG) (x1 x2 x60 x61 x62 : DV) (h0 : Hp) : aI :=
 bnd (aD .lss x62 x61 h0) fun v1 h1 =>
 aS v1 (
 bnd (aJ 3 x60 x62 h1) fun v2 h2 =>
 bnd (aK 3 v2 h2) fun v3 h3 =>
 bnd (bL [(aE 0), (aE 0), (aE 0)] h3) fun v4 h4 =>
 bnd (aG 3 v4 v3 h4) fun _ h5 =>
 bnd (aK 3 v4 h5) fun v6 h6 =>
 bnd (r 124 [v6] h6) fun v7 h7 =>
 bnd (gX .not v7 h7) fun v8 h8 =>
 bnd (gD v8 false (aK 6 x2 h8) h8) fun v9 h9 =>
 bnd (gD v8 false (aK 3 v4 h9) h9) fun v10 h10 =>
 bnd (gD v8 false (some (x1, h10)) h10) fun v11 h11 =>
 bnd (gD v8 false (r 172 [v9, v10, v11] h11) h11) fun v12 h12 =>
 bnd (gD v8 false (gX .not v12 h12) h12) fun v13 h13 =>
 bnd (aP v8 (.b true) v13 h13) fun v14 h14 =>
 aS v14 (
 some (.t [.l0, (aE 19)], h14)) (
 bnd (aD .add x62 (aE 1) h14) fun v15 h15 =>
    kk7 x1 x2 x60 x61 v15 h15)) (
      eA r n x2 h1)
noncomputable def tU (r : RT) (n : Nat) (m : Nat) : cG :=
 Nat.rec (motive := fun _ => cG) (fun _ _ _ _ _ _ => none) (fun _ ih => aDw r n ih) m
noncomputable def bNp (r : RT) (n : Nat) : cG := tU r n n
noncomputable def aNq (r : RT) (n : Nat) (x1 x2 x60 x61 x62 : DV) (h0 : Hp) : aI :=
 bNp r n x1 x2 x60 x61 x62 h0
noncomputable def aQx (r : RT) (n : Nat) (x1 x2 : DV) (h0 : Hp) : aI :=
 bnd (aB 5 x2 h0) fun v1 h1 =>
 bnd (aA v1 h1) fun v2 h2 =>
 bnd (bZ v2 h2) fun v3 h3 =>
  aNq r n x1 x2 v2 v3 (aE 0) h3
noncomputable def aQr (r : RT) (n : Nat) (x1 x2 x6 x7 : DV) (h0 : Hp) : aI :=
 bnd (gX .not x6 h0) fun v1 h1 =>
 bnd (gD v1 false (some (x7, h1)) h1) fun v2 h2 =>
 bnd (aP v1 (.b true) v2 h2) fun v3 h3 =>
 bnd (gD v3 false (aB 4 x2 h3) h3) fun v4 h4 =>
 bnd (gD v3 false (aA v4 h4) h4) fun v5 h5 =>
 bnd (gD v3 false (bZ v5 h5) h5) fun v6 h6 =>
 bnd (gD v3 false (aD .gtr v6 (aE 60) h6) h6) fun v7 h7 =>
 bnd (aP v3 (.b true) v7 h7) fun v8 h8 =>
 bnd (gD v8 false (aB 5 x2 h8) h8) fun v9 h9 =>
 bnd (gD v8 false (aA v9 h9) h9) fun v10 h10 =>
 bnd (gD v8 false (bZ v10 h10) h10) fun v11 h11 =>
 bnd (gD v8 false (r 168 [v11, (aE 1), (aE 400)] h11) h11) fun v12 h12 =>
 bnd (gD v8 false (gX .not v12 h12) h12) fun v13 h13 =>
 bnd (aP v8 (.b true) v13 h13) fun v14 h14 =>
 aS v14 (
 some (.t [.l0, (aE 19)], h14)) (
  aQx r n x1 x2 h14)
noncomputable def aOp (r : RT) (n : Nat) (x1 x2 x6 : DV) (h0 : Hp) : aI :=
 bnd (aB 4 x2 h0) fun v1 h1 =>
 bnd (aA v1 h1) fun v2 h2 =>
 bnd (r 169 [v2, (.f 170 [] [])] h2) fun v3 h3 =>
  aQr r n x1 x2 x6 v3 h3
noncomputable def xH (r : RT) (n : Nat) (x1 x2 : DV) (h0 : Hp) : aI :=
 bnd (r 168 [x1, (aE 0), (aE 8)] h0) fun v1 h1 =>
 bnd (gD v1 true (aB 0 x2 h1) h1) fun v2 h2 =>
 bnd (gD v1 true (aA v2 h2) h2) fun v3 h3 =>
 bnd (gD v1 true (dU v3 h3) h3) fun v4 h4 =>
 bnd (gD v1 true (r 168 [v4, (aE 1), (aE 60)] h4) h4) fun v5 h5 =>
 bnd (aP v1 v5 (.b false) h5) fun v6 h6 =>
 bnd (gD v6 true (aB 1 x2 h6) h6) fun v7 h7 =>
 bnd (gD v6 true (aA v7 h7) h7) fun v8 h8 =>
 bnd (gD v6 true (r 168 [v8, (aE 0), (aE 4)] h8) h8) fun v9 h9 =>
 bnd (aP v6 v9 (.b false) h9) fun v10 h10 =>
 bnd (gD v10 true (aB 2 x2 h10) h10) fun v11 h11 =>
 bnd (gD v10 true (aA v11 h11) h11) fun v12 h12 =>
 bnd (gD v10 true (aB 1 x2 h12) h12) fun v13 h13 =>
 bnd (gD v10 true (aA v13 h13) h13) fun v14 h14 =>
 bnd (gD v10 true (r 168 [v12, v14, (aE 24)] h14) h14) fun v15 h15 =>
 bnd (aP v10 v15 (.b false) h15) fun v16 h16 =>
 bnd (gD v16 true (aB 3 x2 h16) h16) fun v17 h17 =>
 bnd (gD v16 true (aA v17 h17) h17) fun v18 h18 =>
 bnd (gD v16 true (r 168 [v18, (aE 0), (aE 255)] h18) h18) fun v19 h19 =>
 bnd (aP v16 v19 (.b false) h19) fun v20 h20 =>
  aOp r n x1 x2 v20 h20
noncomputable def s144 (r : RT) (n : Nat) (x0 x1 : DV) (h0 : Hp) : aI :=
 bnd (bR x0 h0) fun v1 h1 =>
  xH r n x1 v1 h1
noncomputable abbrev c144 : Code := cf Tryz.f144
noncomputable abbrev aDi : Code := cR c144
noncomputable abbrev aEl : Code := cR aDi
noncomputable abbrev aHn : Code := cR aEl
noncomputable abbrev aKa : Code := cR aHn
noncomputable abbrev cZr : Code := cR aKa
noncomputable abbrev xI : Code := cL aKa
noncomputable abbrev aRm : Code := cR xI
noncomputable abbrev aJb : Code := cL aRm
noncomputable abbrev lZ : Code := cL aJb
noncomputable abbrev aXz : Code := cL xI
noncomputable abbrev aWs : Code := cL aHn
noncomputable abbrev bAs : Code := cL aEl
noncomputable abbrev bBo : Code := cL aDi
noncomputable abbrev aJw : Code := cL c144
noncomputable abbrev r144 : K := aU CF Tryz.f144
noncomputable def D144 (r : RT) (n : Nat) (c : Code) (X : Nat → K) (k : K) : K := aM CF r 95 n c X r144 k
theorem cKp : D144 r n cZr x0 r144 = (K1 (eA r n) 2) :=
 (by kernel_rfl)
theorem bPv (kk7 : cG) (q0 : TT1) : D144 r n lZ (xs x0 0 (K1 q0 2)) (K5 kk7 1 2 60 61 62) = fun (env : aZ) (h : Hp) =>
 bnd (aD .lss (env 62) (env 61) h) fun v1 h1 =>
 aS v1 (
 bnd (aJ 3 (env 60) (env 62) h1) fun v2 h2 =>
 bnd (aK 3 v2 h2) fun v3 h3 =>
 bnd (bL [(aE 0), (aE 0), (aE 0)] h3) fun v4 h4 =>
 bnd (aG 3 v4 v3 h4) fun _ h5 =>
 bnd (aK 3 v4 h5) fun v6 h6 =>
 bnd (r 124 [v6] h6) fun v7 h7 =>
 bnd (gX .not v7 h7) fun v8 h8 =>
 bnd (gD v8 false (aK 6 (env 2) h8) h8) fun v9 h9 =>
 bnd (gD v8 false (aK 3 v4 h9) h9) fun v10 h10 =>
 bnd (gD v8 false (some ((env 1), h10)) h10) fun v11 h11 =>
 bnd (gD v8 false (r 172 [v9, v10, v11] h11) h11) fun v12 h12 =>
 bnd (gD v8 false (gX .not v12 h12) h12) fun v13 h13 =>
 bnd (aP v8 (.b true) v13 h13) fun v14 h14 =>
 aS v14 (
 some (.t [.l0, (aE 19)], h14)) (
 bnd (aD .add (env 62) (aE 1) h14) fun v15 h15 =>
    kk7 (env 1) (env 2) (env 60) (env 61) v15 h15)) (
      q0 (env 2) h1) := by kernel_rfl
theorem bCg (kk7 : cG) : (fun (env : aZ) (h : Hp) =>
 bnd (aD .lss (env 62) (env 61) h) fun v1 h1 =>
 aS v1 (
 bnd (aJ 3 (env 60) (env 62) h1) fun v2 h2 =>
 bnd (aK 3 v2 h2) fun v3 h3 =>
 bnd (bL [(aE 0), (aE 0), (aE 0)] h3) fun v4 h4 =>
 bnd (aG 3 v4 v3 h4) fun _ h5 =>
 bnd (aK 3 v4 h5) fun v6 h6 =>
 bnd (r 124 [v6] h6) fun v7 h7 =>
 bnd (gX .not v7 h7) fun v8 h8 =>
 bnd (gD v8 false (aK 6 (env 2) h8) h8) fun v9 h9 =>
 bnd (gD v8 false (aK 3 v4 h9) h9) fun v10 h10 =>
 bnd (gD v8 false (some ((env 1), h10)) h10) fun v11 h11 =>
 bnd (gD v8 false (r 172 [v9, v10, v11] h11) h11) fun v12 h12 =>
 bnd (gD v8 false (gX .not v12 h12) h12) fun v13 h13 =>
 bnd (aP v8 (.b true) v13 h13) fun v14 h14 =>
 aS v14 (
 some (.t [.l0, (aE 19)], h14)) (
 bnd (aD .add (env 62) (aE 1) h14) fun v15 h15 =>
    kk7 (env 1) (env 2) (env 60) (env 61) v15 h15)) (
      eA r n (env 2) h1)) = (K5 (aDw r n kk7) 1 2 60 61 62) := by kernel_rfl
theorem bYz (kk7 : cG) : D144 r n lZ (xs x0 0 (K1 (eA r n) 2)) (K5 kk7 1 2 60 61 62) = (K5 (aDw r n kk7) 1 2 60 61 62) :=
 (bPv r n kk7 (eA r n)).trans (bCg r n kk7)
theorem bYy (m : Nat) : aN (fun kk => D144 r n lZ (xs x0 0 (K1 (eA r n) 2)) kk) m = (K5 (tU r n m) 1 2 60 61 62) := by
 induction m with
 | zero => exact (by kernel_rfl : aN (fun kk => D144 r n lZ (xs x0 0 (K1 (eA r n) 2)) kk) 0 = (K5 (tU r n 0) 1 2 60 61 62))
 | succ m ih =>
  refine (by kernel_rfl : aN (fun kk => D144 r n lZ (xs x0 0 (K1 (eA r n) 2)) kk) (m + 1) = D144 r n lZ (xs x0 0 (K1 (eA r n) 2)) (aN (fun kk => D144 r n lZ (xs x0 0 (K1 (eA r n) 2)) kk) m)).trans ?_
  rw [ih]
  exact (bYz r n (tU r n m)).trans (by kernel_rfl)
theorem cDp : D144 r n aJb (xs x0 0 (K1 (eA r n) 2)) (K1 (eA r n) 2) = (K5 (bNp r n) 1 2 60 61 62) :=
 (by kernel_rfl : D144 r n aJb (xs x0 0 (K1 (eA r n) 2)) (K1 (eA r n) 2) = aN (fun kk => D144 r n lZ (xs x0 0 (K1 (eA r n) 2)) kk) n).trans ((bYy r n n).trans (by kernel_rfl))
theorem cGt : D144 r n aRm x0 (K1 (eA r n) 2) = (K5 (aNq r n) 1 2 60 61 62) :=
 (by kernel_rfl : D144 r n aRm x0 (K1 (eA r n) 2) = D144 r n aJb (xs x0 0 (K1 (eA r n) 2)) (K1 (eA r n) 2)).trans
 ((cDp r n).trans (by kernel_rfl))
theorem bLc : D144 r n aKa x0 r144 = D144 r n xI x0 (K1 (eA r n) 2) :=
 congrArg (fun k => D144 r n xI x0 k) (cKp r n)
theorem bMq : D144 r n xI x0 (K1 (eA r n) 2) = D144 r n aXz x0 (K5 (aNq r n) 1 2 60 61 62) :=
 congrArg (fun k => D144 r n aXz x0 k) (cGt r n)
theorem cAt : D144 r n aKa x0 r144 = (K2 (aQx r n) 1 2) :=
 (bLc r n).trans
 ((bMq r n).trans
 ((by kernel_rfl)))
theorem bVd : D144 r n aHn x0 r144 = D144 r n aWs x0 (K2 (aQx r n) 1 2) :=
 congrArg (fun k => D144 r n aWs x0 k) (cAt r n)
theorem cFu : D144 r n aHn x0 r144 = (K4 (aQr r n) 1 2 6 7) :=
 (bVd r n).trans
 ((by kernel_rfl))
theorem bIw : D144 r n aEl x0 r144 = D144 r n bAs x0 (K4 (aQr r n) 1 2 6 7) :=
 congrArg (fun k => D144 r n bAs x0 k) (cFu r n)
theorem cLf : D144 r n aEl x0 r144 = (K3 (aOp r n) 1 2 6) :=
 (bIw r n).trans
 ((by kernel_rfl))
theorem bJr : D144 r n aDi x0 r144 = D144 r n bBo x0 (K3 (aOp r n) 1 2 6) :=
 congrArg (fun k => D144 r n bBo x0 k) (cLf r n)
theorem cKx : D144 r n aDi x0 r144 = (K2 (xH r n) 1 2) :=
 (bJr r n).trans
 ((by kernel_rfl))
theorem cYn : D144 r n c144 x0 r144 = D144 r n aJw x0 (K2 (xH r n) 1 2) :=
 congrArg (fun k => D144 r n aJw x0 k) (cKx r n)
theorem cRv (q0 : oK) : D144 r n aJw x0 (K2 q0 1 2) = fun (env : aZ) (h : Hp) =>
 bnd (bR (env 0) h) fun v1 h1 =>
  q0 (env 1) v1 h1 := by kernel_rfl
theorem cIz : (fun (env : aZ) (h : Hp) =>
 bnd (bR (env 0) h) fun v1 h1 =>
  xH r n (env 1) v1 h1) = (K2 (s144 r n) 0 1) := by kernel_rfl
theorem dDe : D144 r n c144 x0 r144 = (K2 (s144 r n) 0 1) :=
 (cYn r n).trans
 ((cRv r n (xH r n)).trans (cIz r n))
theorem cRd : aF CF r n 144 args h = s144 r n (aR args 0) (aR args 1) h :=
 (by kernel_rfl : aF CF r n 144 args h = D144 r n c144 x0 r144 (aH args) h).trans ((congrFun (congrFun (dDe r n) (aH args)) h).trans (by kernel_rfl))
noncomputable def s145 (r : RT) (n : Nat) (x0 x1 : DV) (h0 : Hp) : aI :=
 bnd (aA x1 h0) fun v1 h1 =>
 bnd (r 131 [v1, x0] h1) fun v2 h2 =>
 bnd (aD .geq v2 (aE 0) h2) fun v3 h3 =>
 some (v3, h3)
noncomputable abbrev c145 : Code := cf Tryz.f145
noncomputable abbrev r145 : K := aU CF Tryz.f145
noncomputable def D145 (r : RT) (n : Nat) (c : Code) (X : Nat → K) (k : K) : K := aM CF r 8 n c X r145 k
theorem dDx : D145 r n c145 x0 r145 = (K2 (s145 r n) 0 1) :=
 (by kernel_rfl)
theorem dCi : aF CF r n 145 args h = s145 r n (aR args 0) (aR args 1) h :=
 (by kernel_rfl : aF CF r n 145 args h = D145 r n c145 x0 r145 (aH args) h).trans ((congrFun (congrFun (dDx r n) (aH args)) h).trans (by kernel_rfl))
noncomputable def s146 (r : RT) (n : Nat) (x0 x1 : DV) (h0 : Hp) : aI :=
 bnd (lN [x0, x1] h0) fun v1 h1 =>
 some (v1, h1)
noncomputable abbrev c146 : Code := cf Tryz.f146
noncomputable abbrev r146 : K := aU CF Tryz.f146
noncomputable def D146 (r : RT) (n : Nat) (c : Code) (X : Nat → K) (k : K) : K := aM CF r 8 n c X r146 k
theorem dIf : D146 r n c146 x0 r146 = (K2 (s146 r n) 0 1) :=
 (by kernel_rfl)
theorem dAf : aF CF r n 146 args h = s146 r n (aR args 0) (aR args 1) h :=
 (by kernel_rfl : aF CF r n 146 args h = D146 r n c146 x0 r146 (aH args) h).trans ((congrFun (congrFun (dIf r n) (aH args)) h).trans (by kernel_rfl))
noncomputable def s147 (r : RT) (n : Nat) (x0 x1 : DV) (h0 : Hp) : aI :=
 bnd (aO x0 h0) fun v1 h1 =>
 bnd (aB 1 v1 h1) fun v2 h2 =>
 bnd (aA v2 h2) fun v3 h3 =>
 bnd (aD .add v3 x1 h3) fun v4 h4 =>
 bnd (aO x0 h4) fun v5 h5 =>
 bnd (aB 0 v5 h5) fun v6 h6 =>
 bnd (aA v6 h6) fun v7 h7 =>
 bnd (dU v7 h7) fun v8 h8 =>
 bnd (aD .geq v4 v8 h8) fun v9 h9 =>
 aS v9 (
 some ((.i .u8 (Int.ofNat 0)), h9)) (
 bnd (aO x0 h9) fun v10 h10 =>
 bnd (aB 0 v10 h10) fun v11 h11 =>
 bnd (aA v11 h11) fun v12 h12 =>
 bnd (aO x0 h12) fun v13 h13 =>
 bnd (aB 1 v13 h13) fun v14 h14 =>
 bnd (aA v14 h14) fun v15 h15 =>
 bnd (aD .add v15 x1 h15) fun v16 h16 =>
 bnd (fE v12 v16 h16) fun v17 h17 =>
 some (v17, h17))
noncomputable abbrev c147 : Code := cf Tryz.f147
noncomputable abbrev r147 : K := aU CF Tryz.f147
noncomputable def D147 (r : RT) (n : Nat) (c : Code) (X : Nat → K) (k : K) : K := aM CF r 28 n c X r147 k
theorem dHb : D147 r n c147 x0 r147 = (K2 (s147 r n) 0 1) :=
 (by kernel_rfl)
theorem cUi : aF CF r n 147 args h = s147 r n (aR args 0) (aR args 1) h :=
 (by kernel_rfl : aF CF r n 147 args h = D147 r n c147 x0 r147 (aH args) h).trans ((congrFun (congrFun (dHb r n) (aH args)) h).trans (by kernel_rfl))
noncomputable def s148 (r : RT) (n : Nat) (x0 : DV) (h0 : Hp) : aI :=
 bnd (aD .geq x0 (.i .u8 (Int.ofNat 97)) h0) fun v1 h1 =>
 bnd (gD v1 true (some (x0, h1)) h1) fun v2 h2 =>
 bnd (gD v1 true (aD .leq v2 (.i .u8 (Int.ofNat 122)) h2) h2) fun v3 h3 =>
 bnd (aP v1 v3 (.b false) h3) fun v4 h4 =>
 bnd (gD v4 false (some (x0, h4)) h4) fun v5 h5 =>
 bnd (gD v4 false (aD .geq v5 (.i .u8 (Int.ofNat 65)) h5) h5) fun v6 h6 =>
 bnd (gD v4 false (some (v6, h6)) h6) fun v7 h7 =>
 bnd (gD v7 true (some (x0, h7)) h7) fun v8 h8 =>
 bnd (gD v7 true (aD .leq v8 (.i .u8 (Int.ofNat 90)) h8) h8) fun v9 h9 =>
 bnd (gD v4 false (aP v7 v9 (.b false) h9) h9) fun v10 h10 =>
 bnd (aP v4 (.b true) v10 h10) fun v11 h11 =>
 some (v11, h11)
noncomputable abbrev c148 : Code := cf Tryz.f148
noncomputable abbrev r148 : K := aU CF Tryz.f148
noncomputable def D148 (r : RT) (n : Nat) (c : Code) (X : Nat → K) (k : K) : K := aM CF r 17 n c X r148 k
theorem dHq : D148 r n c148 x0 r148 = (K1 (s148 r n) 0) :=
 (by kernel_rfl)
theorem dBl : aF CF r n 148 args h = s148 r n (aR args 0) h :=
 (by kernel_rfl : aF CF r n 148 args h = D148 r n c148 x0 r148 (aH args) h).trans ((congrFun (congrFun (dHq r n) (aH args)) h).trans (by kernel_rfl))
noncomputable def s149 (r : RT) (n : Nat) (x0 : DV) (h0 : Hp) : aI :=
 bnd (aO x0 h0) fun v1 h1 =>
 bnd (aB 0 v1 h1) fun v2 h2 =>
 bnd (aA v2 h2) fun v3 h3 =>
 bnd (dU v3 h3) fun v4 h4 =>
 bnd (r 129 [x0, (.f 177 [] []), v4] h4) fun v5 h5 =>
 bnd (dU v5 h5) fun v6 h6 =>
 bnd (aD .gtr v6 (aE 24) h6) fun v7 h7 =>
 aS v7 (
 some (.t [(.s []), (aE 12)], h7)) (
 some (.t [v5, (aE 0)], h7))
noncomputable abbrev c149 : Code := cf Tryz.f149
noncomputable abbrev r149 : K := aU CF Tryz.f149
noncomputable def D149 (r : RT) (n : Nat) (c : Code) (X : Nat → K) (k : K) : K := aM CF r 16 n c X r149 k
theorem dEy : D149 r n c149 x0 r149 = (K1 (s149 r n) 0) :=
 (by kernel_rfl)
theorem cUh : aF CF r n 149 args h = s149 r n (aR args 0) h :=
 (by kernel_rfl : aF CF r n 149 args h = D149 r n c149 x0 r149 (aH args) h).trans ((congrFun (congrFun (dEy r n) (aH args)) h).trans (by kernel_rfl))
noncomputable def s150 (r : RT) (n : Nat) (x0 : DV) (h0 : Hp) : aI :=
 bnd (r 147 [x0, (aE 0)] h0) fun v1 h1 =>
 bnd (aD .neq v1 (.i .u8 (Int.ofNat 58)) h1) fun v2 h2 =>
 bnd (gD v2 false (some (x0, h2)) h2) fun v3 h3 =>
 bnd (gD v2 false (r 147 [v3, (aE 1)] h3) h3) fun v4 h4 =>
 bnd (gD v2 false (aD .eql v4 (.i .u8 (Int.ofNat 61)) h4) h4) fun v5 h5 =>
 bnd (aP v2 (.b true) v5 h5) fun v6 h6 =>
 aS v6 (
 some ((.b false), h6)) (
 bnd (aO x0 h6) fun v7 h7 =>
 bnd (aB 1 v7 h7) fun v8 h8 =>
 bnd (aA v8 h8) fun v9 h9 =>
 bnd (aD .add v9 (aE 1) h9) fun v10 h10 =>
 bnd (aO x0 h10) fun v11 h11 =>
 bnd (aB 1 v11 h11) fun v12 h12 =>
 bnd (aG 1 v12 v10 h12) fun _ h13 =>
 some ((.b true), h13))
noncomputable abbrev c150 : Code := cf Tryz.f150
noncomputable abbrev r150 : K := aU CF Tryz.f150
noncomputable def D150 (r : RT) (n : Nat) (c : Code) (X : Nat → K) (k : K) : K := aM CF r 18 n c X r150 k
theorem dDt : D150 r n c150 x0 r150 = (K1 (s150 r n) 0) :=
 (by kernel_rfl)
theorem cQz : aF CF r n 150 args h = s150 r n (aR args 0) h :=
 (by kernel_rfl : aF CF r n 150 args h = D150 r n c150 x0 r150 (aH args) h).trans ((congrFun (congrFun (dDt r n) (aH args)) h).trans (by kernel_rfl))
noncomputable def s151 (r : RT) (n : Nat) (x0 : DV) (h0 : Hp) : aI :=
 bnd (aD .geq x0 (.i .u8 (Int.ofNat 48)) h0) fun v1 h1 =>
 bnd (gD v1 true (some (x0, h1)) h1) fun v2 h2 =>
 bnd (gD v1 true (aD .leq v2 (.i .u8 (Int.ofNat 57)) h2) h2) fun v3 h3 =>
 bnd (aP v1 v3 (.b false) h3) fun v4 h4 =>
 some (v4, h4)
noncomputable abbrev c151 : Code := cf Tryz.f151
noncomputable abbrev r151 : K := aU CF Tryz.f151
noncomputable def D151 (r : RT) (n : Nat) (c : Code) (X : Nat → K) (k : K) : K := aM CF r 9 n c X r151 k
theorem dHs : D151 r n c151 x0 r151 = (K1 (s151 r n) 0) :=
 (by kernel_rfl)
theorem dAd : aF CF r n 151 args h = s151 r n (aR args 0) h :=
 (by kernel_rfl : aF CF r n 151 args h = D151 r n c151 x0 r151 (aH args) h).trans ((congrFun (congrFun (dHs r n) (aH args)) h).trans (by kernel_rfl))
noncomputable def eS (r : RT) (n : Nat) (x4 : DV) (h0 : Hp) : aI :=
 some (.t [x4, (aE 0)], h0)
noncomputable def aWc (r : RT) (n : Nat) (kk5 : oK) (x4 x14 : DV) (h0 : Hp) : aI :=
 bnd (vA x14 h0) fun v1 h1 =>
 bnd (aC 0 v1 h1) fun v2 h2 =>
 aS v2 (
 bnd (aC 2 v1 h2) fun v3 h3 =>
 bnd (aD .gtr x4 (aE 115292150460684697) h3) fun v4 h4 =>
 aS v4 (
 some (.t [(aE 0), (aE 2)], h4)) (
 bnd (aD .mul x4 (aE 10) h4) fun v5 h5 =>
 bnd (aD .sub v3 (.i .i32 (Int.ofNat 48)) h5) fun v6 h6 =>
 bnd (eC .i64 v6 h6) fun v7 h7 =>
 bnd (aD .add v5 v7 h7) fun v8 h8 =>
 bnd (aD .gtr v8 (aE 1152921504606846976) h8) fun v9 h9 =>
 aS v9 (
 some (.t [(aE 0), (aE 2)], h9)) (
     kk5 v8 x14 h9))) (
   eS r n x4 h2)
noncomputable def uG (r : RT) (n : Nat) (m : Nat) : oK :=
 Nat.rec (motive := fun _ => oK) (fun _ _ _ => none) (fun _ ih => aWc r n ih) m
noncomputable def bHj (r : RT) (n : Nat) : oK := uG r n n
noncomputable def aPa (r : RT) (n : Nat) (x4 x14 : DV) (h0 : Hp) : aI :=
 bHj r n x4 x14 h0
noncomputable def aNn (r : RT) (n : Nat) (x0 x4 : DV) (h0 : Hp) : aI :=
 bnd (aO x0 h0) fun v1 h1 =>
 bnd (aB 0 v1 h1) fun v2 h2 =>
 bnd (aA v2 h2) fun v3 h3 =>
 bnd (dU v3 h3) fun v4 h4 =>
 bnd (r 129 [x0, (.f 151 [] []), v4] h4) fun v5 h5 =>
 bnd (nW v5 h5) fun v6 h6 =>
  aPa r n x4 v6 h6
noncomputable def aTy (r : RT) (n : Nat) (x0 : DV) (h0 : Hp) : aI :=
 aNn r n x0 (aE 0) h0
noncomputable def s152 (r : RT) (n : Nat) (x0 : DV) (h0 : Hp) : aI :=
 aTy r n x0 h0
noncomputable abbrev c152 : Code := cf Tryz.f152
noncomputable abbrev aCa : Code := cR c152
noncomputable abbrev aDd : Code := cR aCa
noncomputable abbrev cVi : Code := cR aDd
noncomputable abbrev yM : Code := cL aDd
noncomputable abbrev aSf : Code := cR yM
noncomputable abbrev aIp : Code := cL aSf
noncomputable abbrev oB : Code := cL aIp
noncomputable abbrev bTn : Code := cL yM
noncomputable abbrev bSu : Code := cL aCa
noncomputable abbrev aVj : Code := cL c152
noncomputable abbrev r152 : K := aU CF Tryz.f152
noncomputable def D152 (r : RT) (n : Nat) (c : Code) (X : Nat → K) (k : K) : K := aM CF r 29 n c X r152 k
theorem cCm : D152 r n cVi x0 r152 = (K1 (eS r n) 4) :=
 (by kernel_rfl)
theorem bSp (kk5 : oK) : D152 r n oB (xs x0 0 (K1 (eS r n) 4)) (K2 kk5 4 14) = (K2 (aWc r n kk5) 4 14) :=
 (by kernel_rfl)
theorem bTh (m : Nat) : aN (fun kk => D152 r n oB (xs x0 0 (K1 (eS r n) 4)) kk) m = (K2 (uG r n m) 4 14) := by
 induction m with
 | zero => exact (by kernel_rfl : aN (fun kk => D152 r n oB (xs x0 0 (K1 (eS r n) 4)) kk) 0 = (K2 (uG r n 0) 4 14))
 | succ m ih =>
  refine (by kernel_rfl : aN (fun kk => D152 r n oB (xs x0 0 (K1 (eS r n) 4)) kk) (m + 1) = D152 r n oB (xs x0 0 (K1 (eS r n) 4)) (aN (fun kk => D152 r n oB (xs x0 0 (K1 (eS r n) 4)) kk) m)).trans ?_
  rw [ih]
  exact (bSp r n (uG r n m)).trans (by kernel_rfl)
theorem cCn : D152 r n aIp (xs x0 0 (K1 (eS r n) 4)) (K1 (eS r n) 4) = (K2 (bHj r n) 4 14) :=
 (by kernel_rfl : D152 r n aIp (xs x0 0 (K1 (eS r n) 4)) (K1 (eS r n) 4) = aN (fun kk => D152 r n oB (xs x0 0 (K1 (eS r n) 4)) kk) n).trans ((bTh r n n).trans (by kernel_rfl))
theorem cDx : D152 r n aSf x0 (K1 (eS r n) 4) = (K2 (aPa r n) 4 14) :=
 (by kernel_rfl : D152 r n aSf x0 (K1 (eS r n) 4) = D152 r n aIp (xs x0 0 (K1 (eS r n) 4)) (K1 (eS r n) 4)).trans
 ((cCn r n).trans (by kernel_rfl))
theorem bHk : D152 r n aDd x0 r152 = D152 r n yM x0 (K1 (eS r n) 4) :=
 congrArg (fun k => D152 r n yM x0 k) (cCm r n)
theorem bTm : D152 r n yM x0 (K1 (eS r n) 4) = D152 r n bTn x0 (K2 (aPa r n) 4 14) :=
 congrArg (fun k => D152 r n bTn x0 k) (cDx r n)
theorem cOx : D152 r n aDd x0 r152 = (K2 (aNn r n) 0 4) :=
 (bHk r n).trans
 ((bTm r n).trans
 ((by kernel_rfl)))
theorem bLf : D152 r n aCa x0 r152 = D152 r n bSu x0 (K2 (aNn r n) 0 4) :=
 congrArg (fun k => D152 r n bSu x0 k) (cOx r n)
theorem cMo : D152 r n aCa x0 r152 = (K1 (aTy r n) 0) :=
 (bLf r n).trans
 ((by kernel_rfl))
theorem dCh : D152 r n c152 x0 r152 = D152 r n aVj x0 (K1 (aTy r n) 0) :=
 congrArg (fun k => D152 r n aVj x0 k) (cMo r n)
theorem dIt : D152 r n c152 x0 r152 = (K1 (s152 r n) 0) :=
 (dCh r n).trans
 ((by kernel_rfl))
theorem cWh : aF CF r n 152 args h = s152 r n (aR args 0) h :=
 (by kernel_rfl : aF CF r n 152 args h = D152 r n c152 x0 r152 (aH args) h).trans ((congrFun (congrFun (dIt r n) (aH args)) h).trans (by kernel_rfl))
end Go.Dd

namespace Go.Dd
open Go.Proofs
variable (r : RT) (n : Nat) (args : List DV) (h : Hp)
noncomputable def s156 (r : RT) (n : Nat) (x0 x1 : DV) (h0 : Hp) : aI :=
 bnd (bR x1 h0) fun v1 h1 =>
 bnd (bL [(.s []), (.b false), (.b false), (aE 0)] h1) fun v2 h2 =>
 bnd (aO x0 h2) fun v3 h3 =>
 bnd (aB 6 v3 h3) fun v4 h4 =>
 bnd (aA v4 h4) fun v5 h5 =>
 bnd (r 185 [v5, (.f 186 [] [v1])] h5) fun v6 h6 =>
 bnd (aD .lss v6 (aE 0) h6) fun v7 h7 =>
 aS v7 (
 bnd (bB [(.s []), (.b false), (.b false), (aE 0)] [] h7) fun v8 h8 =>
 bnd (aG 4 v2 v8 h8) fun _ h9 =>
 bnd (aK 4 v2 h9) fun v10 _ =>
 some (.t [v10, (.b false)], h9)) (
 bnd (aO x0 h7) fun v11 h11 =>
 bnd (aB 6 v11 h11) fun v12 h12 =>
 bnd (aA v12 h12) fun v13 h13 =>
 bnd (aJ 4 v13 v6 h13) fun v14 h14 =>
 bnd (aK 4 v14 h14) fun v15 h15 =>
 bnd (aG 4 v2 v15 h15) fun _ h16 =>
 bnd (aK 4 v2 h16) fun v17 _ =>
 some (.t [v17, (.b true)], h16))
noncomputable abbrev c156 : Code := cf Tryz.f156
noncomputable abbrev r156 : K := aU CF Tryz.f156
noncomputable def D156 (r : RT) (n : Nat) (c : Code) (X : Nat → K) (k : K) : K := aM CF r 23 n c X r156 k
theorem dHf : D156 r n c156 x0 r156 = (K2 (s156 r n) 0 1) :=
 (by kernel_rfl)
theorem dBn : aF CF r n 156 args h = s156 r n (aR args 0) (aR args 1) h :=
 (by kernel_rfl : aF CF r n 156 args h = D156 r n c156 x0 r156 (aH args) h).trans ((congrFun (congrFun (dHf r n) (aH args)) h).trans (by kernel_rfl))
noncomputable def gL (r : RT) (n : Nat) (h0 : Hp) : aI :=
 some ((.b false), h0)
noncomputable def lX (r : RT) (n : Nat) (x4 : DV) (h0 : Hp) : aI :=
 aS x4 (
 some ((.b true), h0)) (
  gL r n h0)
noncomputable def aNo (r : RT) (n : Nat) (x3 : DV) (h0 : Hp) : aI :=
 bnd (fO .eql x3 (.s [115, 101, 108, 102]) h0) fun v1 h1 =>
 aS v1 (
  lX r n v1 h1) (
 bnd (fO .eql x3 (.s [115, 117, 112, 101, 114]) h1) fun v2 h2 =>
 aS v2 (
   lX r n v2 h2) (
 bnd (fO .eql x3 (.s [110, 105, 108]) h2) fun v3 h3 =>
 aS v3 (
    lX r n v3 h3) (
 bnd (fO .eql x3 (.s [116, 114, 117, 101]) h3) fun v4 h4 =>
 aS v4 (
     lX r n v4 h4) (
 bnd (fO .eql x3 (.s [102, 97, 108, 115, 101]) h4) fun v5 h5 =>
 aS v5 (
      lX r n v5 h5) (
 bnd (fO .eql x3 (.s [116, 104, 105, 115, 67, 111, 110, 116, 101, 120, 116]) h5) fun v6 h6 =>
      lX r n v6 h6)))))
noncomputable def aSw (r : RT) (n : Nat) (x0 : DV) (h0 : Hp) : aI :=
 aNo r n x0 h0
noncomputable def s157 (r : RT) (n : Nat) (x0 : DV) (h0 : Hp) : aI :=
 aSw r n x0 h0
noncomputable abbrev c157 : Code := cf Tryz.f157
noncomputable abbrev aKc : Code := cR c157
noncomputable abbrev cRk : Code := cR aKc
noncomputable abbrev xJ : Code := cL aKc
noncomputable abbrev aQf : Code := cR xJ
noncomputable abbrev aFd : Code := cL aQf
noncomputable abbrev cUk : Code := cR aFd
noncomputable abbrev bUc : Code := cL aFd
noncomputable abbrev bMs : Code := cL xJ
noncomputable abbrev bZa : Code := cL c157
noncomputable abbrev r157 : K := aU CF Tryz.f157
noncomputable def D157 (r : RT) (n : Nat) (c : Code) (X : Nat → K) (k : K) : K := aM CF r 11 n c X r157 k
theorem cEh : D157 r n cRk x0 r157 = (K0 (gL r n)) :=
 (by kernel_rfl)
theorem cJj : D157 r n cUk (xs x0 0 (K0 (gL r n))) (K0 (gL r n)) = (K1 (lX r n) 4) :=
 (by kernel_rfl)
theorem bLb : D157 r n aFd (xs x0 0 (K0 (gL r n))) (K0 (gL r n)) = D157 r n bUc (xs x0 0 (K0 (gL r n))) (K1 (lX r n) 4) :=
 congrArg (fun k => D157 r n bUc (xs x0 0 (K0 (gL r n))) k) (cJj r n)
theorem cCr : D157 r n aQf x0 (K0 (gL r n)) = (K1 (aNo r n) 3) :=
 (by kernel_rfl : D157 r n aQf x0 (K0 (gL r n)) = D157 r n aFd (xs x0 0 (K0 (gL r n))) (K0 (gL r n))).trans
 ((bLb r n).trans
 ((by kernel_rfl)))
theorem bRl : D157 r n aKc x0 r157 = D157 r n xJ x0 (K0 (gL r n)) :=
 congrArg (fun k => D157 r n xJ x0 k) (cEh r n)
theorem bGb : D157 r n xJ x0 (K0 (gL r n)) = D157 r n bMs x0 (K1 (aNo r n) 3) :=
 congrArg (fun k => D157 r n bMs x0 k) (cCr r n)
theorem cNz : D157 r n aKc x0 r157 = (K1 (aSw r n) 0) :=
 (bRl r n).trans
 ((bGb r n).trans
 ((by kernel_rfl)))
theorem cRo : D157 r n c157 x0 r157 = D157 r n bZa x0 (K1 (aSw r n) 0) :=
 congrArg (fun k => D157 r n bZa x0 k) (cNz r n)
theorem dJs : D157 r n c157 x0 r157 = (K1 (s157 r n) 0) :=
 (cRo r n).trans
 ((by kernel_rfl))
theorem dAr : aF CF r n 157 args h = s157 r n (aR args 0) h :=
 (by kernel_rfl : aF CF r n 157 args h = D157 r n c157 x0 r157 (aH args) h).trans ((congrFun (congrFun (dJs r n) (aH args)) h).trans (by kernel_rfl))
noncomputable def aFz (r : RT) (n : Nat) (x0 x1 : DV) (h0 : Hp) : aI :=
 bnd (r 156 [x0, x1] h0) fun v1 h1 =>
 bnd (aC 0 v1 h1) fun v2 h2 =>
 bnd (aC 1 v1 h2) fun v3 h3 =>
 bnd (bL [(.s []), (.b false), (.b false), (aE 0)] h3) fun v4 h4 =>
 bnd (aG 4 v4 v2 h4) fun _ h5 =>
 bnd (gD v3 true (aB 1 v4 h5) h5) fun v6 h6 =>
 bnd (gD v3 true (aA v6 h6) h6) fun v7 h7 =>
 bnd (aP v3 v7 (.b false) h7) fun v8 h8 =>
 aS v8 (
 bnd (aB 3 v4 h8) fun v9 h9 =>
 bnd (aA v9 h9) fun v10 h10 =>
 bnd (r 141 [x0, (aE 8), v10, (aE 0)] h10) fun v11 h11 =>
 some (.t [], h11)) (
 aS v3 (
 bnd (aB 3 v4 h8) fun v12 h12 =>
 bnd (aA v12 h12) fun v13 h13 =>
 bnd (r 141 [x0, (aE 7), v13, (aE 0)] h13) fun v14 h14 =>
 some (.t [], h14)) (
 bnd (r 190 [x1] h8) fun v15 h15 =>
 aS v15 (
 bnd (r 191 [x0, x1] h15) fun v16 h16 =>
 bnd (r 141 [x0, (aE 9), v16, (aE 0)] h16) fun v17 h17 =>
 some (.t [], h17)) (
 bnd (r 158 [x0, x1, (aE 15)] h15) fun v18 h18 =>
 some (.t [], h18))))
noncomputable def s161 (r : RT) (n : Nat) (x0 x1 : DV) (h0 : Hp) : aI :=
 bnd (fO .eql x1 (.s [115, 101, 108, 102]) h0) fun v1 h1 =>
 aS v1 (
 bnd (r 141 [x0, (aE 1), (aE 0), (aE 0)] h1) fun v2 h2 =>
 some (.t [], h2)) (
 bnd (fO .eql x1 (.s [110, 105, 108]) h1) fun v3 h3 =>
 aS v3 (
 bnd (r 141 [x0, (aE 2), (aE 0), (aE 0)] h3) fun v4 h4 =>
 some (.t [], h4)) (
 bnd (fO .eql x1 (.s [116, 114, 117, 101]) h3) fun v5 h5 =>
 aS v5 (
 bnd (r 141 [x0, (aE 3), (aE 0), (aE 0)] h5) fun v6 h6 =>
 some (.t [], h6)) (
 bnd (fO .eql x1 (.s [102, 97, 108, 115, 101]) h5) fun v7 h7 =>
 aS v7 (
 bnd (r 141 [x0, (aE 4), (aE 0), (aE 0)] h7) fun v8 h8 =>
 some (.t [], h8)) (
 bnd (fO .eql x1 (.s [116, 104, 105, 115, 67, 111, 110, 116, 101, 120, 116]) h7) fun v9 h9 =>
 aS v9 (
 bnd (r 141 [x0, (aE 5), (aE 0), (aE 0)] h9) fun v10 h10 =>
 some (.t [], h10)) (
 bnd (fO .eql x1 (.s [115, 117, 112, 101, 114]) h9) fun v11 h11 =>
 aS v11 (
 bnd (r 158 [x0, x1, (aE 15)] h11) fun v12 h12 =>
       aFz r n x0 x1 h12) (
       aFz r n x0 x1 h11))))))
noncomputable abbrev c161 : Code := cf Tryz.f161
noncomputable abbrev cVh : Code := cR c161
noncomputable abbrev bIr : Code := cL c161
noncomputable abbrev r161 : K := aU CF Tryz.f161
noncomputable def D161 (r : RT) (n : Nat) (c : Code) (X : Nat → K) (k : K) : K := aM CF r 65 n c X r161 k
theorem cMc : D161 r n cVh x0 r161 = (K2 (aFz r n) 0 1) :=
 (by kernel_rfl)
theorem dCm : D161 r n c161 x0 r161 = D161 r n bIr x0 (K2 (aFz r n) 0 1) :=
 congrArg (fun k => D161 r n bIr x0 k) (cMc r n)
theorem dGr : D161 r n c161 x0 r161 = (K2 (s161 r n) 0 1) :=
 (dCm r n).trans
 ((by kernel_rfl))
theorem cYp : aF CF r n 161 args h = s161 r n (aR args 0) (aR args 1) h :=
 (by kernel_rfl : aF CF r n 161 args h = D161 r n c161 x0 r161 (aH args) h).trans ((congrFun (congrFun (dGr r n) (aH args)) h).trans (by kernel_rfl))
noncomputable def s163 (r : RT) (n : Nat) (x0 x1 : DV) (h0 : Hp) : aI :=
 bnd (bR x1 h0) fun v1 h1 =>
 bnd (aB 5 v1 h1) fun v2 h2 =>
 bnd (aA v2 h2) fun v3 h3 =>
 bnd (bZ v3 h3) fun v4 h4 =>
 bnd (aD .eql v4 (aE 0) h4) fun v5 h5 =>
 aS v5 (
 bnd (r 158 [x0, (.s []), (aE 1)] h5) fun v6 h6 =>
 some (.t [], h6)) (
 bnd (aK 6 v1 h5) fun v7 h7 =>
 bnd (r 192 [x0, v7] h7) fun v8 h8 =>
 bnd (gD v8 false (some (x0, h8)) h8) fun v9 h9 =>
 bnd (gD v8 false (aK 6 v1 h9) h9) fun v10 h10 =>
 bnd (gD v8 false (r 193 [v9, v10] h10) h10) fun v11 h11 =>
 bnd (aP v8 (.b true) v11 h11) fun v12 h12 =>
 aS v12 (
 some (.t [], h12)) (
 bnd (aB 5 v1 h12) fun v13 h13 =>
 bnd (aA v13 h13) fun v14 h14 =>
 bnd (aJ 6 v14 (aE 0) h14) fun v15 h15 =>
 bnd (aK 6 v15 h15) fun v16 h16 =>
 bnd (r 195 [x0, v16] h16) fun v17 h17 =>
 bnd (aB 1 v1 h17) fun v18 h18 =>
 bnd (aA v18 h18) fun v19 h19 =>
 cnd (bG (aA v18 h12) v19 && true) (
 bnd (aB 5 v1 h19) fun v20 h20 =>
 bnd (aA v20 h20) fun v21 h21 =>
 cnd (bG (aA v20 h12) v21 && true) (
 bnd (cU 6 v21 (some (aE 1)) none h21) fun v22 h22 =>
 cnd (bG (cU 6 v21 (some (aE 1)) none h12) v22 && true) (
 bnd (r 194 [x0, v17, v19, v22] h22) fun v23 h23 =>
 some (.t [], h23))))))
noncomputable abbrev c163 : Code := cf Tryz.f163
noncomputable abbrev r163 : K := aU CF Tryz.f163
noncomputable def D163 (r : RT) (n : Nat) (c : Code) (X : Nat → K) (k : K) : K := aM CF r 31 n c X r163 k
theorem dIb : D163 r n c163 x0 r163 = (K2 (s163 r n) 0 1) :=
 (by kernel_rfl)
theorem cVa : aF CF r n 163 args h = s163 r n (aR args 0) (aR args 1) h :=
 (by kernel_rfl : aF CF r n 163 args h = D163 r n c163 x0 r163 (aH args) h).trans ((congrFun (congrFun (dIb r n) (aH args)) h).trans (by kernel_rfl))
noncomputable def aHv (r : RT) (n : Nat) (x3 : DV) (h0 : Hp) : aI :=
 bnd (aB 5 x3 h0) fun v1 h1 =>
 bnd (aA v1 h1) fun v2 h2 =>
 bnd (bZ v2 h2) fun v3 h3 =>
 bnd (aD .eql v3 (aE 1) h3) fun v4 h4 =>
 some (v4, h4)
noncomputable def zI (r : RT) (n : Nat) (x0 x3 : DV) (h0 : Hp) : aI :=
 bnd (aB 5 x3 h0) fun v1 h1 =>
 bnd (aA v1 h1) fun v2 h2 =>
 bnd (bZ v2 h2) fun v3 h3 =>
 bnd (aD .neq v3 (aE 1) h3) fun v4 h4 =>
 aS v4 (
 bnd (r 158 [x0, (.s []), (aE 1)] h4) fun v5 h5 =>
  aHv r n x3 h5) (
  aHv r n x3 h4)
noncomputable def s167 (r : RT) (n : Nat) (x0 x1 : DV) (h0 : Hp) : aI :=
 bnd (bR x1 h0) fun v1 h1 =>
  zI r n x0 v1 h1
noncomputable abbrev c167 : Code := cf Tryz.f167
noncomputable abbrev aDj : Code := cR c167
noncomputable abbrev cQy : Code := cR aDj
noncomputable abbrev bZt : Code := cL aDj
noncomputable abbrev aTo : Code := cL c167
noncomputable abbrev r167 : K := aU CF Tryz.f167
noncomputable def D167 (r : RT) (n : Nat) (c : Code) (X : Nat → K) (k : K) : K := aM CF r 15 n c X r167 k
theorem cNx : D167 r n cQy x0 r167 = (K1 (aHv r n) 3) :=
 (by kernel_rfl)
theorem bSv : D167 r n aDj x0 r167 = D167 r n bZt x0 (K1 (aHv r n) 3) :=
 congrArg (fun k => D167 r n bZt x0 k) (cNx r n)
theorem cDt : D167 r n aDj x0 r167 = (K2 (zI r n) 0 3) :=
 (bSv r n).trans
 ((by kernel_rfl))
theorem cSj : D167 r n c167 x0 r167 = D167 r n aTo x0 (K2 (zI r n) 0 3) :=
 congrArg (fun k => D167 r n aTo x0 k) (cDt r n)
theorem cXv (q0 : oK) : D167 r n aTo x0 (K2 q0 0 3) = fun (env : aZ) (h : Hp) =>
 bnd (bR (env 1) h) fun v1 h1 =>
  q0 (env 0) v1 h1 := by kernel_rfl
theorem cAz : (fun (env : aZ) (h : Hp) =>
 bnd (bR (env 1) h) fun v1 h1 =>
  zI r n (env 0) v1 h1) = (K2 (s167 r n) 0 1) := by kernel_rfl
theorem dGj : D167 r n c167 x0 r167 = (K2 (s167 r n) 0 1) :=
 (cSj r n).trans
 ((cXv r n (zI r n)).trans (cAz r n))
theorem cXq : aF CF r n 167 args h = s167 r n (aR args 0) (aR args 1) h :=
 (by kernel_rfl : aF CF r n 167 args h = D167 r n c167 x0 r167 (aH args) h).trans ((congrFun (congrFun (dGj r n) (aH args)) h).trans (by kernel_rfl))
noncomputable def s168 (r : RT) (n : Nat) (x0 x1 x2 : DV) (h0 : Hp) : aI :=
 bnd (aD .geq x0 x1 h0) fun v1 h1 =>
 bnd (gD v1 true (some (x0, h1)) h1) fun v2 h2 =>
 bnd (gD v1 true (some (x2, h2)) h2) fun v3 h3 =>
 bnd (gD v1 true (aD .leq v2 v3 h3) h3) fun v4 h4 =>
 bnd (aP v1 v4 (.b false) h4) fun v5 h5 =>
 some (v5, h5)
noncomputable abbrev c168 : Code := cf Tryz.f168
noncomputable abbrev r168 : K := aU CF Tryz.f168
noncomputable def D168 (r : RT) (n : Nat) (c : Code) (X : Nat → K) (k : K) : K := aM CF r 15 n c X r168 k
theorem dJm : D168 r n c168 x0 r168 = (K3 (s168 r n) 0 1 2) :=
 (by kernel_rfl)
theorem cWd : aF CF r n 168 args h = s168 r n (aR args 0) (aR args 1) (aR args 2) h :=
 (by kernel_rfl : aF CF r n 168 args h = D168 r n c168 x0 r168 (aH args) h).trans ((congrFun (congrFun (dJm r n) (aH args)) h).trans (by kernel_rfl))
noncomputable def s169 (r : RT) (n : Nat) (x0 x1 : DV) (h0 : Hp) : aI :=
 bnd (r 187 [x0, x1] h0) fun v1 h1 =>
 bnd (aD .geq v1 (aE 0) h1) fun v2 h2 =>
 some (v2, h2)
noncomputable abbrev c169 : Code := cf Tryz.f169
noncomputable abbrev r169 : K := aU CF Tryz.f169
noncomputable def D169 (r : RT) (n : Nat) (c : Code) (X : Nat → K) (k : K) : K := aM CF r 9 n c X r169 k
theorem dFs : D169 r n c169 x0 r169 = (K2 (s169 r n) 0 1) :=
 (by kernel_rfl)
theorem cRp : aF CF r n 169 args h = s169 r n (aR args 0) (aR args 1) h :=
 (by kernel_rfl : aF CF r n 169 args h = D169 r n c169 x0 r169 (aH args) h).trans ((congrFun (congrFun (dFs r n) (aH args)) h).trans (by kernel_rfl))
noncomputable def s170 (r : RT) (n : Nat) (x0 : DV) (h0 : Hp) : aI :=
 bnd (bR x0 h0) fun v1 h1 =>
 bnd (aK 4 v1 h1) fun v2 h2 =>
 bnd (r 171 [v2, (aE 20)] h2) fun v3 h3 =>
 bnd (gX .not v3 h3) fun v4 h4 =>
 some (v4, h4)
noncomputable abbrev c170 : Code := cf Tryz.f170
noncomputable abbrev r170 : K := aU CF Tryz.f170
noncomputable def D170 (r : RT) (n : Nat) (c : Code) (X : Nat → K) (k : K) : K := aM CF r 6 n c X r170 k
theorem dIc : D170 r n c170 x0 r170 = (K1 (s170 r n) 0) :=
 (by kernel_rfl)
theorem dAq : aF CF r n 170 args h = s170 r n (aR args 0) h :=
 (by kernel_rfl : aF CF r n 170 args h = D170 r n c170 x0 r170 (aH args) h).trans ((congrFun (congrFun (dIc r n) (aH args)) h).trans (by kernel_rfl))
noncomputable def s171 (r : RT) (n : Nat) (x0 x1 : DV) (h0 : Hp) : aI :=
 bnd (bR x0 h0) fun v1 h1 =>
 bnd (bR x1 h1) fun v2 h2 =>
 bnd (aB 0 v1 h2) fun v3 h3 =>
 bnd (aA v3 h3) fun v4 h4 =>
 bnd (aD .eql v4 (aE 1) h4) fun v5 h5 =>
 aS v5 (
 bnd (aB 1 v1 h5) fun v6 h6 =>
 bnd (aA v6 h6) fun v7 h7 =>
 bnd (fO .eql v7 (.s []) h7) fun v8 h8 =>
 bnd (gD v8 true (aB 3 v1 h8) h8) fun v9 h9 =>
 bnd (gD v8 true (aA v9 h9) h9) fun v10 h10 =>
 bnd (gD v8 true (bZ v10 h10) h10) fun v11 h11 =>
 bnd (gD v8 true (aD .eql v11 (aE 0) h11) h11) fun v12 h12 =>
 bnd (aP v8 v12 (.b false) h12) fun v13 h13 =>
 bnd (gD v13 true (aB 2 v1 h13) h13) fun v14 h14 =>
 bnd (gD v13 true (aA v14 h14) h14) fun v15 h15 =>
 bnd (gD v13 true (r 168 [v15, (.i .i64 (Int.negSucc 1152921504606846975)), (aE 1152921504606846976)] h15) h15) fun v16 h16 =>
 bnd (aP v13 v16 (.b false) h16) fun v17 h17 =>
 some (v17, h17)) (
 bnd (aD .eql v4 (aE 2) h5) fun v18 h18 =>
 aS v18 (
 bnd (aB 2 v1 h18) fun v19 h19 =>
 bnd (aA v19 h19) fun v20 h20 =>
 bnd (aD .eql v20 (aE 0) h20) fun v21 h21 =>
 bnd (gD v21 true (aB 3 v1 h21) h21) fun v22 h22 =>
 bnd (gD v21 true (aA v22 h22) h22) fun v23 h23 =>
 bnd (gD v21 true (bZ v23 h23) h23) fun v24 h24 =>
 bnd (gD v21 true (aD .eql v24 (aE 0) h24) h24) fun v25 h25 =>
 bnd (aP v21 v25 (.b false) h25) fun v26 h26 =>
 bnd (gD v26 true (aB 1 v1 h26) h26) fun v27 h27 =>
 bnd (gD v26 true (aA v27 h27) h27) fun v28 h28 =>
 bnd (gD v26 true (dU v28 h28) h28) fun v29 h29 =>
 bnd (gD v26 true (aD .leq v29 (aE 250) h29) h29) fun v30 h30 =>
 bnd (aP v26 v30 (.b false) h30) fun v31 h31 =>
 some (v31, h31)) (
 bnd (aD .eql v4 (aE 3) h18) fun v32 h32 =>
 aS v32 (
 bnd (aB 2 v1 h32) fun v33 h33 =>
 bnd (aA v33 h33) fun v34 h34 =>
 bnd (aD .eql v34 (aE 0) h34) fun v35 h35 =>
 bnd (gD v35 true (aB 3 v1 h35) h35) fun v36 h36 =>
 bnd (gD v35 true (aA v36 h36) h36) fun v37 h37 =>
 bnd (gD v35 true (bZ v37 h37) h37) fun v38 h38 =>
 bnd (gD v35 true (aD .eql v38 (aE 0) h38) h38) fun v39 h39 =>
 bnd (aP v35 v39 (.b false) h39) fun v40 h40 =>
 bnd (gD v40 true (aB 1 v1 h40) h40) fun v41 h41 =>
 bnd (gD v40 true (aA v41 h41) h41) fun v42 h42 =>
 bnd (gD v40 true (dU v42 h42) h42) fun v43 h43 =>
 bnd (gD v40 true (r 168 [v43, (aE 1), (aE 60)] h43) h43) fun v44 h44 =>
 bnd (aP v40 v44 (.b false) h44) fun v45 h45 =>
 some (v45, h45)) (
 bnd (aD .eql v4 (aE 4) h32) fun v46 h46 =>
 aS v46 (
 bnd (aB 3 v1 h46) fun v47 h47 =>
 bnd (aA v47 h47) fun v48 h48 =>
 bnd (r 169 [v48, (.f 199 [] [v2])] h48) fun v49 h49 =>
 bnd (aB 2 v1 h49) fun v50 h50 =>
 bnd (aA v50 h50) fun v51 h51 =>
 bnd (aD .eql v51 (aE 0) h51) fun v52 h52 =>
 bnd (gD v52 true (aB 1 v1 h52) h52) fun v53 h53 =>
 bnd (gD v52 true (aA v53 h53) h53) fun v54 h54 =>
 bnd (gD v52 true (fO .eql v54 (.s []) h54) h54) fun v55 h55 =>
 bnd (aP v52 v55 (.b false) h55) fun v56 h56 =>
 bnd (gD v56 true (aA v2 h56) h56) fun v57 h57 =>
 bnd (gD v56 true (aD .gtr v57 (aE 0) h57) h57) fun v58 h58 =>
 bnd (aP v56 v58 (.b false) h58) fun v59 h59 =>
 bnd (gD v59 true (aB 3 v1 h59) h59) fun v60 h60 =>
 bnd (gD v59 true (aA v60 h60) h60) fun v61 h61 =>
 bnd (gD v59 true (bZ v61 h61) h61) fun v62 h62 =>
 bnd (gD v59 true (aD .leq v62 (aE 250) h62) h62) fun v63 h63 =>
 bnd (aP v59 v63 (.b false) h63) fun v64 h64 =>
 bnd (gD v64 true (some (v49, h64)) h64) fun v65 h65 =>
 bnd (gD v64 true (gX .not v65 h65) h65) fun v66 h66 =>
 bnd (aP v64 v66 (.b false) h66) fun v67 h67 =>
 some (v67, h67)) (
 some ((.b false), h46)))))
noncomputable abbrev c171 : Code := cf Tryz.f171
noncomputable abbrev r171 : K := aU CF Tryz.f171
noncomputable def D171 (r : RT) (n : Nat) (c : Code) (X : Nat → K) (k : K) : K := aM CF r 86 n c X r171 k
theorem dCu : D171 r n c171 x0 r171 = (K2 (s171 r n) 0 1) :=
 (by kernel_rfl)
theorem cWl : aF CF r n 171 args h = s171 r n (aR args 0) (aR args 1) h :=
 (by kernel_rfl : aF CF r n 171 args h = D171 r n c171 x0 r171 (aH args) h).trans ((congrFun (congrFun (dCu r n) (aH args)) h).trans (by kernel_rfl))
end Go.Dd

namespace Go.Dd
open Go.Proofs
variable (r : RT) (n : Nat) (args : List DV) (h : Hp)
noncomputable def bD (r : RT) (n : Nat) (h0 : Hp) : aI :=
 some ((.b true), h0)
noncomputable def tW (r : RT) (n : Nat) (x2 x3 x4 x27 x51 : DV) (h0 : Hp) : aI :=
 aS x51 (
 bnd (aB 1 x4 h0) fun v1 h1 =>
 bnd (aA v1 h1) fun v2 h2 =>
 bnd (aD .lss v2 x2 h2) fun v3 h3 =>
 some (v3, h3)) (
 bnd (aD .eql x27 (aE 18) h0) fun v4 h4 =>
 aS v4 (
 bnd (aB 2 x4 h4) fun v5 h5 =>
 bnd (aA v5 h5) fun v6 h6 =>
 bnd (aD .leq v6 (aE 4) h6) fun v7 h7 =>
 bnd (gD v7 true (aB 1 x4 h7) h7) fun v8 h8 =>
 bnd (gD v7 true (aA v8 h8) h8) fun v9 h9 =>
 bnd (gD v7 true (aB 2 x4 h9) h9) fun v10 h10 =>
 bnd (gD v7 true (aA v10 h10) h10) fun v11 h11 =>
 bnd (gD v7 true (aD .add v9 v11 h11) h11) fun v12 h12 =>
 bnd (gD v7 true (aB 2 x3 h12) h12) fun v13 h13 =>
 bnd (gD v7 true (aA v13 h13) h13) fun v14 h14 =>
 bnd (gD v7 true (aD .leq v12 v14 h14) h14) fun v15 h15 =>
 bnd (aP v7 v15 (.b false) h15) fun v16 h16 =>
 some (v16, h16)) (
   bD r n h4))
noncomputable def aUn (r : RT) (n : Nat) (x2 x3 x4 x27 : DV) (h0 : Hp) : aI :=
 bnd (aD .eql x27 (aE 8) h0) fun v1 h1 =>
 aS v1 (
  tW r n x2 x3 x4 x27 v1 h1) (
 bnd (aD .eql x27 (aE 11) h1) fun v2 h2 =>
  tW r n x2 x3 x4 x27 v2 h2)
noncomputable def uN (r : RT) (n : Nat) (x2 x3 x4 x27 x43 : DV) (h0 : Hp) : aI :=
 aS x43 (
 bnd (aB 1 x4 h0) fun v1 h1 =>
 bnd (aA v1 h1) fun v2 h2 =>
 bnd (aB 2 x3 h2) fun v3 h3 =>
 bnd (aA v3 h3) fun v4 h4 =>
 bnd (aD .lss v2 v4 h4) fun v5 h5 =>
 some (v5, h5)) (
  aUn r n x2 x3 x4 x27 h0)
noncomputable def aUh (r : RT) (n : Nat) (x2 x3 x4 x27 : DV) (h0 : Hp) : aI :=
 bnd (aD .eql x27 (aE 7) h0) fun v1 h1 =>
 aS v1 (
  uN r n x2 x3 x4 x27 v1 h1) (
 bnd (aD .eql x27 (aE 10) h1) fun v2 h2 =>
  uN r n x2 x3 x4 x27 v2 h2)
noncomputable def uS (r : RT) (n : Nat) (x2 x3 x4 x8 x27 x34 : DV) (h0 : Hp) : aI :=
 aS x34 (
 bnd (gD x8 true (aB 2 x4 h0) h0) fun v1 h1 =>
 bnd (gD x8 true (aA v1 h1) h1) fun v2 h2 =>
 bnd (gD x8 true (aD .leq v2 (aE 4) h2) h2) fun v3 h3 =>
 bnd (aP x8 v3 (.b false) h3) fun v4 h4 =>
 some (v4, h4)) (
  aUh r n x2 x3 x4 x27 h0)
noncomputable def bHn (r : RT) (n : Nat) (x2 x3 x4 x8 x27 : DV) (h0 : Hp) : aI :=
 bnd (aD .eql x27 (aE 14) h0) fun v1 h1 =>
 aS v1 (
  uS r n x2 x3 x4 x8 x27 v1 h1) (
 bnd (aD .eql x27 (aE 15) h1) fun v2 h2 =>
  uS r n x2 x3 x4 x8 x27 v2 h2)
noncomputable def aSe (r : RT) (n : Nat) (x2 x3 x4 x8 x27 x31 : DV) (h0 : Hp) : aI :=
 aS x31 (
 some (x8, h0)) (
  bHn r n x2 x3 x4 x8 x27 h0)
noncomputable def bWc (r : RT) (n : Nat) (x2 x3 x4 x8 x27 : DV) (h0 : Hp) : aI :=
 bnd (aD .eql x27 (aE 9) h0) fun v1 h1 =>
  aSe r n x2 x3 x4 x8 x27 v1 h1
noncomputable def aNx (r : RT) (n : Nat) (x2 x3 x4 x7 x8 x27 x28 : DV) (h0 : Hp) : aI :=
 aS x28 (
 some (x7, h0)) (
  bWc r n x2 x3 x4 x8 x27 h0)
noncomputable def aQh (r : RT) (n : Nat) (x2 x3 x4 x7 x8 x27 : DV) (h0 : Hp) : aI :=
 bnd (aD .eql x27 (aE 6) h0) fun v1 h1 =>
  aNx r n x2 x3 x4 x7 x8 x27 v1 h1
noncomputable def aOa (r : RT) (n : Nat) (x2 x3 x4 x7 x8 : DV) (h0 : Hp) : aI :=
 bnd (aB 0 x4 h0) fun v1 h1 =>
 bnd (aA v1 h1) fun v2 h2 =>
  aQh r n x2 x3 x4 x7 x8 v2 h2
noncomputable def aNu (r : RT) (n : Nat) (x2 x3 x4 x7 : DV) (h0 : Hp) : aI :=
 bnd (gD x7 true (aB 4 x3 h0) h0) fun v1 h1 =>
 bnd (gD x7 true (aA v1 h1) h1) fun v2 h2 =>
 bnd (gD x7 true (aB 1 x4 h2) h2) fun v3 h3 =>
 bnd (gD x7 true (aA v3 h3) h3) fun v4 h4 =>
 bnd (gD x7 true (aJ 4 v2 v4 h4) h4) fun v5 h5 =>
 bnd (gD x7 true (aB 0 v5 h5) h5) fun v6 h6 =>
 bnd (gD x7 true (aA v6 h6) h6) fun v7 h7 =>
 bnd (gD x7 true (aD .eql v7 (aE 3) h7) h7) fun v8 h8 =>
 bnd (aP x7 v8 (.b false) h8) fun v9 h9 =>
  aOa r n x2 x3 x4 x7 v9 h9
noncomputable def zH (r : RT) (n : Nat) (x2 x3 x4 : DV) (h0 : Hp) : aI :=
 bnd (aB 1 x4 h0) fun v1 h1 =>
 bnd (aA v1 h1) fun v2 h2 =>
 bnd (aB 4 x3 h2) fun v3 h3 =>
 bnd (aA v3 h3) fun v4 h4 =>
 bnd (bZ v4 h4) fun v5 h5 =>
 bnd (aD .lss v2 v5 h5) fun v6 h6 =>
  aNu r n x2 x3 x4 v6 h6
noncomputable def s172 (r : RT) (n : Nat) (x0 x1 x2 : DV) (h0 : Hp) : aI :=
 bnd (bR x0 h0) fun v1 h1 =>
 bnd (bR x1 h1) fun v2 h2 =>
  zH r n x2 v1 v2 h2
noncomputable abbrev c172 : Code := cf Tryz.f172
noncomputable abbrev aEn : Code := cR c172
noncomputable abbrev aGq : Code := cR aEn
noncomputable abbrev aFv : Code := cR aGq
noncomputable abbrev cXw : Code := cR aFv
noncomputable abbrev vD : Code := cL aFv
noncomputable abbrev aRp : Code := cR vD
noncomputable abbrev aCk : Code := cL aRp
noncomputable abbrev yW : Code := cR aCk
noncomputable abbrev wS : Code := cR yW
noncomputable abbrev pS : Code := cR wS
noncomputable abbrev pG : Code := cR pS
noncomputable abbrev oU : Code := cR pG
noncomputable abbrev pU : Code := cR oU
noncomputable abbrev oN : Code := cR pU
noncomputable abbrev oT : Code := cR oN
noncomputable abbrev cJs : Code := cR oT
noncomputable abbrev aYr : Code := cL oT
noncomputable abbrev cLo : Code := cL oN
noncomputable abbrev aUm : Code := cL pU
noncomputable abbrev cJw : Code := cL oU
noncomputable abbrev aXd : Code := cL pG
noncomputable abbrev cEz : Code := cL pS
noncomputable abbrev aWy : Code := cL wS
noncomputable abbrev cLi : Code := cL yW
noncomputable abbrev aXk : Code := cL aCk
noncomputable abbrev aWf : Code := cL vD
noncomputable abbrev bBm : Code := cL aGq
noncomputable abbrev bAg : Code := cL aEn
noncomputable abbrev aEr : Code := cL c172
noncomputable abbrev r172 : K := aU CF Tryz.f172
noncomputable def D172 (r : RT) (n : Nat) (c : Code) (X : Nat → K) (k : K) : K := aM CF r 73 n c X r172 k
theorem cMl : D172 r n cXw x0 r172 = (K0 (bD r n)) :=
 (by kernel_rfl)
theorem bIs : D172 r n cJs (xs x0 0 (K0 (bD r n))) (K0 (bD r n)) = (K5 (tW r n) 2 3 4 27 51) :=
 (by kernel_rfl)
theorem bCu : D172 r n oT (xs x0 0 (K0 (bD r n))) (K0 (bD r n)) = D172 r n aYr (xs x0 0 (K0 (bD r n))) (K5 (tW r n) 2 3 4 27 51) :=
 congrArg (fun k => D172 r n aYr (xs x0 0 (K0 (bD r n))) k) (bIs r n)
theorem bZd : D172 r n oT (xs x0 0 (K0 (bD r n))) (K0 (bD r n)) = (K4 (aUn r n) 2 3 4 27) :=
 (bCu r n).trans
 ((by kernel_rfl))
theorem bJa : D172 r n oN (xs x0 0 (K0 (bD r n))) (K0 (bD r n)) = (K5 (uN r n) 2 3 4 27 43) :=
 (by kernel_rfl : D172 r n oN (xs x0 0 (K0 (bD r n))) (K0 (bD r n)) = (fun (env : aZ) (h : Hp) => aS (opr env (cC oN)) (D172 r n cLo (xs x0 0 (K0 (bD r n))) (K0 (bD r n)) env h) (D172 r n oT (xs x0 0 (K0 (bD r n))) (K0 (bD r n)) env h))).trans (by rw [bZd r n]; kernel_rfl)
theorem bCj : D172 r n pU (xs x0 0 (K0 (bD r n))) (K0 (bD r n)) = D172 r n aUm (xs x0 0 (K0 (bD r n))) (K5 (uN r n) 2 3 4 27 43) :=
 congrArg (fun k => D172 r n aUm (xs x0 0 (K0 (bD r n))) k) (bJa r n)
theorem bVe : D172 r n pU (xs x0 0 (K0 (bD r n))) (K0 (bD r n)) = (K4 (aUh r n) 2 3 4 27) :=
 (bCj r n).trans
 ((by kernel_rfl))
theorem bNd : D172 r n oU (xs x0 0 (K0 (bD r n))) (K0 (bD r n)) = (K6 (uS r n) 2 3 4 8 27 34) :=
 (by kernel_rfl : D172 r n oU (xs x0 0 (K0 (bD r n))) (K0 (bD r n)) = (fun (env : aZ) (h : Hp) => aS (opr env (cC oU)) (D172 r n cJw (xs x0 0 (K0 (bD r n))) (K0 (bD r n)) env h) (D172 r n pU (xs x0 0 (K0 (bD r n))) (K0 (bD r n)) env h))).trans (by rw [bVe r n]; kernel_rfl)
theorem bUe : D172 r n pG (xs x0 0 (K0 (bD r n))) (K0 (bD r n)) = D172 r n aXd (xs x0 0 (K0 (bD r n))) (K6 (uS r n) 2 3 4 8 27 34) :=
 congrArg (fun k => D172 r n aXd (xs x0 0 (K0 (bD r n))) k) (bNd r n)
theorem cKz : D172 r n pG (xs x0 0 (K0 (bD r n))) (K0 (bD r n)) = (K5 (bHn r n) 2 3 4 8 27) :=
 (bUe r n).trans
 ((by kernel_rfl))
theorem cFf : D172 r n pS (xs x0 0 (K0 (bD r n))) (K0 (bD r n)) = (K6 (aSe r n) 2 3 4 8 27 31) :=
 (by kernel_rfl : D172 r n pS (xs x0 0 (K0 (bD r n))) (K0 (bD r n)) = (fun (env : aZ) (h : Hp) => aS (opr env (cC pS)) (D172 r n cEz (xs x0 0 (K0 (bD r n))) (K0 (bD r n)) env h) (D172 r n pG (xs x0 0 (K0 (bD r n))) (K0 (bD r n)) env h))).trans (by rw [cKz r n]; kernel_rfl)
theorem bMr : D172 r n wS (xs x0 0 (K0 (bD r n))) (K0 (bD r n)) = D172 r n aWy (xs x0 0 (K0 (bD r n))) (K6 (aSe r n) 2 3 4 8 27 31) :=
 congrArg (fun k => D172 r n aWy (xs x0 0 (K0 (bD r n))) k) (cFf r n)
theorem cMu : D172 r n wS (xs x0 0 (K0 (bD r n))) (K0 (bD r n)) = (K5 (bWc r n) 2 3 4 8 27) :=
 (bMr r n).trans
 ((by kernel_rfl))
theorem cFh : D172 r n yW (xs x0 0 (K0 (bD r n))) (K0 (bD r n)) = (K7 (aNx r n) 2 3 4 7 8 27 28) :=
 (by kernel_rfl : D172 r n yW (xs x0 0 (K0 (bD r n))) (K0 (bD r n)) = (fun (env : aZ) (h : Hp) => aS (opr env (cC yW)) (D172 r n cLi (xs x0 0 (K0 (bD r n))) (K0 (bD r n)) env h) (D172 r n wS (xs x0 0 (K0 (bD r n))) (K0 (bD r n)) env h))).trans (by rw [cMu r n]; kernel_rfl)
theorem bXn : D172 r n aCk (xs x0 0 (K0 (bD r n))) (K0 (bD r n)) = D172 r n aXk (xs x0 0 (K0 (bD r n))) (K7 (aNx r n) 2 3 4 7 8 27 28) :=
 congrArg (fun k => D172 r n aXk (xs x0 0 (K0 (bD r n))) k) (cFh r n)
theorem cGj : D172 r n aRp x0 (K0 (bD r n)) = (K6 (aQh r n) 2 3 4 7 8 27) :=
 (by kernel_rfl : D172 r n aRp x0 (K0 (bD r n)) = D172 r n aCk (xs x0 0 (K0 (bD r n))) (K0 (bD r n))).trans
 ((bXn r n).trans
 ((by kernel_rfl)))
theorem bPr : D172 r n aFv x0 r172 = D172 r n vD x0 (K0 (bD r n)) :=
 congrArg (fun k => D172 r n vD x0 k) (cMl r n)
theorem bNl : D172 r n vD x0 (K0 (bD r n)) = D172 r n aWf x0 (K6 (aQh r n) 2 3 4 7 8 27) :=
 congrArg (fun k => D172 r n aWf x0 k) (cGj r n)
theorem cNl : D172 r n aFv x0 r172 = (K5 (aOa r n) 2 3 4 7 8) :=
 (bPr r n).trans
 ((bNl r n).trans
 ((by kernel_rfl)))
theorem bPh : D172 r n aGq x0 r172 = D172 r n bBm x0 (K5 (aOa r n) 2 3 4 7 8) :=
 congrArg (fun k => D172 r n bBm x0 k) (cNl r n)
theorem cCl : D172 r n aGq x0 r172 = (K4 (aNu r n) 2 3 4 7) :=
 (bPh r n).trans
 ((by kernel_rfl))
theorem bUs : D172 r n aEn x0 r172 = D172 r n bAg x0 (K4 (aNu r n) 2 3 4 7) :=
 congrArg (fun k => D172 r n bAg x0 k) (cCl r n)
theorem cJr : D172 r n aEn x0 r172 = (K3 (zH r n) 2 3 4) :=
 (bUs r n).trans
 ((by kernel_rfl))
theorem cEw : D172 r n c172 x0 r172 = D172 r n aEr x0 (K3 (zH r n) 2 3 4) :=
 congrArg (fun k => D172 r n aEr x0 k) (cJr r n)
theorem cHc (q0 : mN) : D172 r n aEr x0 (K3 q0 2 3 4) = fun (env : aZ) (h : Hp) =>
 bnd (bR (env 0) h) fun v1 h1 =>
 bnd (bR (env 1) h1) fun v2 h2 =>
  q0 (env 2) v1 v2 h2 := by kernel_rfl
theorem bRn : (fun (env : aZ) (h : Hp) =>
 bnd (bR (env 0) h) fun v1 h1 =>
 bnd (bR (env 1) h1) fun v2 h2 =>
  zH r n (env 2) v1 v2 h2) = (K3 (s172 r n) 0 1 2) := by kernel_rfl
theorem dDw : D172 r n c172 x0 r172 = (K3 (s172 r n) 0 1 2) :=
 (cEw r n).trans
 ((cHc r n (zH r n)).trans (bRn r n))
theorem cVf : aF CF r n 172 args h = s172 r n (aR args 0) (aR args 1) (aR args 2) h :=
 (by kernel_rfl : aF CF r n 172 args h = D172 r n c172 x0 r172 (aH args) h).trans ((congrFun (congrFun (dDw r n) (aH args)) h).trans (by kernel_rfl))
noncomputable def eP (r : RT) (n : Nat) (x3 : DV) (h0 : Hp) : aI :=
 some (x3, h0)
noncomputable def bAo (r : RT) (n : Nat) (kk6 : dJ) (x3 x4 x11 x12 : DV) (h0 : Hp) : aI :=
 bnd (aD .lss x12 x11 h0) fun v1 h1 =>
 aS v1 (
 bnd (cX CF r x4 [x12] h1) fun v2 h2 =>
 bnd (aJ 1 x3 x12 h2) fun v3 h3 =>
 bnd (aG 1 v3 v2 h3) fun _ h4 =>
 bnd (aD .add x12 (aE 1) h4) fun v5 h5 =>
      kk6 x3 x4 x11 v5 h5) (
      eP r n x3 h1)
noncomputable def sS (r : RT) (n : Nat) (m : Nat) : dJ :=
 Nat.rec (motive := fun _ => dJ) (fun _ _ _ _ _ => none) (fun _ ih => bAo r n ih) m
noncomputable def bNf (r : RT) (n : Nat) : dJ := sS r n n
noncomputable def aTp (r : RT) (n : Nat) (x3 x4 x11 x12 : DV) (h0 : Hp) : aI :=
 bNf r n x3 x4 x11 x12 h0
noncomputable def aRg (r : RT) (n : Nat) (x1 x3 x4 : DV) (h0 : Hp) : aI :=
 bnd (aA x1 h0) fun v1 h1 =>
 bnd (bZ v1 h1) fun v2 h2 =>
  aTp r n x3 x4 v2 (aE 0) h2
noncomputable def wP (r : RT) (n : Nat) (x1 x3 : DV) (h0 : Hp) : aI :=
 aRg r n x1 x3 (.f 200 [] [x1]) h0
noncomputable def qC (r : RT) (n : Nat) (x1 : DV) (h0 : Hp) : aI :=
 bnd (aA x1 h0) fun v1 h1 =>
 bnd (bZ v1 h1) fun v2 h2 =>
 bnd (cK 1 8 [(aE 0)] v2 v2 h2) fun v3 h3 =>
  wP r n x1 v3 h3
noncomputable def s173 (r : RT) (n : Nat) (x0 : DV) (h0 : Hp) : aI :=
 bnd (bR x0 h0) fun v1 h1 =>
  qC r n v1 h1
noncomputable abbrev c173 : Code := cf Tryz.f173
noncomputable abbrev aBa : Code := cR c173
noncomputable abbrev aBt : Code := cR aBa
noncomputable abbrev aCy : Code := cR aBt
noncomputable abbrev cVo : Code := cR aCy
noncomputable abbrev yG : Code := cL aCy
noncomputable abbrev aSl : Code := cR yG
noncomputable abbrev aIc : Code := cL aSl
noncomputable abbrev oC : Code := cL aIc
noncomputable abbrev bUp : Code := cL yG
noncomputable abbrev aVh : Code := cL aBt
noncomputable abbrev aGl : Code := cL aBa
noncomputable abbrev aFi : Code := cL c173
noncomputable abbrev r173 : K := aU CF Tryz.f173
noncomputable def D173 (r : RT) (n : Nat) (c : Code) (X : Nat → K) (k : K) : K := aM CF r 23 n c X r173 k
theorem cEd : D173 r n cVo x0 r173 = (K1 (eP r n) 3) :=
 (by kernel_rfl)
theorem bOe (kk6 : dJ) : D173 r n oC (xs x0 0 (K1 (eP r n) 3)) (K4 kk6 3 4 11 12) = (K4 (bAo r n kk6) 3 4 11 12) :=
 (by kernel_rfl)
theorem bMn (m : Nat) : aN (fun kk => D173 r n oC (xs x0 0 (K1 (eP r n) 3)) kk) m = (K4 (sS r n m) 3 4 11 12) := by
 induction m with
 | zero => exact (by kernel_rfl : aN (fun kk => D173 r n oC (xs x0 0 (K1 (eP r n) 3)) kk) 0 = (K4 (sS r n 0) 3 4 11 12))
 | succ m ih =>
  refine (by kernel_rfl : aN (fun kk => D173 r n oC (xs x0 0 (K1 (eP r n) 3)) kk) (m + 1) = D173 r n oC (xs x0 0 (K1 (eP r n) 3)) (aN (fun kk => D173 r n oC (xs x0 0 (K1 (eP r n) 3)) kk) m)).trans ?_
  rw [ih]
  exact (bOe r n (sS r n m)).trans (by kernel_rfl)
theorem cFa : D173 r n aIc (xs x0 0 (K1 (eP r n) 3)) (K1 (eP r n) 3) = (K4 (bNf r n) 3 4 11 12) :=
 (by kernel_rfl : D173 r n aIc (xs x0 0 (K1 (eP r n) 3)) (K1 (eP r n) 3) = aN (fun kk => D173 r n oC (xs x0 0 (K1 (eP r n) 3)) kk) n).trans ((bMn r n n).trans (by kernel_rfl))
theorem cNw : D173 r n aSl x0 (K1 (eP r n) 3) = (K4 (aTp r n) 3 4 11 12) :=
 (by kernel_rfl : D173 r n aSl x0 (K1 (eP r n) 3) = D173 r n aIc (xs x0 0 (K1 (eP r n) 3)) (K1 (eP r n) 3)).trans
 ((cFa r n).trans (by kernel_rfl))
theorem bKn : D173 r n aCy x0 r173 = D173 r n yG x0 (K1 (eP r n) 3) :=
 congrArg (fun k => D173 r n yG x0 k) (cEd r n)
theorem bSe : D173 r n yG x0 (K1 (eP r n) 3) = D173 r n bUp x0 (K4 (aTp r n) 3 4 11 12) :=
 congrArg (fun k => D173 r n bUp x0 k) (cNw r n)
theorem cBq : D173 r n aCy x0 r173 = (K3 (aRg r n) 1 3 4) :=
 (bKn r n).trans
 ((bSe r n).trans
 ((by kernel_rfl)))
theorem bJq : D173 r n aBt x0 r173 = D173 r n aVh x0 (K3 (aRg r n) 1 3 4) :=
 congrArg (fun k => D173 r n aVh x0 k) (cBq r n)
theorem cMk : D173 r n aBt x0 r173 = (K2 (wP r n) 1 3) :=
 (bJq r n).trans
 ((by kernel_rfl))
theorem bJp : D173 r n aBa x0 r173 = D173 r n aGl x0 (K2 (wP r n) 1 3) :=
 congrArg (fun k => D173 r n aGl x0 k) (cMk r n)
theorem bOn (q0 : oK) : D173 r n aGl x0 (K2 q0 1 3) = fun (env : aZ) (h : Hp) =>
 bnd (aA (env 1) h) fun v1 h1 =>
 bnd (bZ v1 h1) fun v2 h2 =>
 bnd (cK 1 8 [(aE 0)] v2 v2 h2) fun v3 h3 =>
  q0 (env 1) v3 h3 := by kernel_rfl
theorem bDf : (fun (env : aZ) (h : Hp) =>
 bnd (aA (env 1) h) fun v1 h1 =>
 bnd (bZ v1 h1) fun v2 h2 =>
 bnd (cK 1 8 [(aE 0)] v2 v2 h2) fun v3 h3 =>
  wP r n (env 1) v3 h3) = (K1 (qC r n) 1) := by kernel_rfl
theorem cFp : D173 r n aBa x0 r173 = (K1 (qC r n) 1) :=
 (bJp r n).trans
 ((bOn r n (wP r n)).trans (bDf r n))
theorem dBx : D173 r n c173 x0 r173 = D173 r n aFi x0 (K1 (qC r n) 1) :=
 congrArg (fun k => D173 r n aFi x0 k) (cFp r n)
theorem cZg (q0 : TT1) : D173 r n aFi x0 (K1 q0 1) = fun (env : aZ) (h : Hp) =>
 bnd (bR (env 0) h) fun v1 h1 =>
  q0 v1 h1 := by kernel_rfl
theorem cFw : (fun (env : aZ) (h : Hp) =>
 bnd (bR (env 0) h) fun v1 h1 =>
  qC r n v1 h1) = (K1 (s173 r n) 0) := by kernel_rfl
theorem dDv : D173 r n c173 x0 r173 = (K1 (s173 r n) 0) :=
 (dBx r n).trans
 ((cZg r n (qC r n)).trans (cFw r n))
theorem cYv : aF CF r n 173 args h = s173 r n (aR args 0) h :=
 (by kernel_rfl : aF CF r n 173 args h = D173 r n c173 x0 r173 (aH args) h).trans ((congrFun (congrFun (dDv r n) (aH args)) h).trans (by kernel_rfl))
noncomputable def bI (r : RT) (n : Nat) (h0 : Hp) : aI :=
 some ((.b true), h0)
noncomputable def cJ (r : RT) (n : Nat) (kk4 : cG) (x0 x1 x11 x12 x13 : DV) (h0 : Hp) : aI :=
 bnd (aD .add x13 (aE 1) h0) fun v1 h1 =>
  kk4 x0 x1 x11 x12 v1 h1
noncomputable def fT (r : RT) (n : Nat) (kk4 : cG) (x0 x1 x5 x6 x11 x12 x13 : DV) (h0 : Hp) : aI :=
 bnd (aK 3 x6 h0) fun v1 h1 =>
 bnd (r 202 [v1] h1) fun v2 h2 =>
 bnd (aD .geq v2 (aE 0) h2) fun v3 h3 =>
 bnd (gD v3 true (some (v2, h3)) h3) fun v4 h4 =>
 bnd (gD v3 true (some (x0, h4)) h4) fun v5 h5 =>
 bnd (gD v3 true (bZ v5 h5) h5) fun v6 h6 =>
 bnd (gD v3 true (aD .geq v4 v6 h6) h6) fun v7 h7 =>
 bnd (gD v3 true (some (v7, h7)) h7) fun v8 h8 =>
 bnd (gD v8 false (some (x1, h8)) h8) fun v9 h9 =>
 bnd (gD v8 false (some (v2, h9)) h9) fun v10 h10 =>
 bnd (gD v8 false (aJ 1 v9 v10 h10) h10) fun v11 h11 =>
 bnd (gD v8 false (aA v11 h11) h11) fun v12 h12 =>
 bnd (gD v8 false (some (x1, h12)) h12) fun v13 h13 =>
 bnd (gD v8 false (some (x5, h13)) h13) fun v14 h14 =>
 bnd (gD v8 false (aJ 1 v13 v14 h14) h14) fun v15 h15 =>
 bnd (gD v8 false (aA v15 h15) h15) fun v16 h16 =>
 bnd (gD v8 false (aD .neq v12 v16 h16) h16) fun v17 h17 =>
 bnd (gD v3 true (aP v8 (.b true) v17 h17) h17) fun v18 h18 =>
 bnd (aP v3 v18 (.b false) h18) fun v19 h19 =>
 aS v19 (
 some ((.b false), h19)) (
  cJ r n kk4 x0 x1 x11 x12 x13 h19)
noncomputable def sZ (r : RT) (n : Nat) (kk4 : cG) (x0 x1 x5 x6 x7 x8 x9 x11 x12 x13 : DV) (h0 : Hp) : aI :=
 bnd (gX .not x8 h0) fun v1 h1 =>
 bnd (gD v1 false (some (x7, h1)) h1) fun v2 h2 =>
 bnd (gD v1 false (some (x9, h2)) h2) fun v3 h3 =>
 bnd (gD v1 false (aD .gtr v2 v3 h3) h3) fun v4 h4 =>
 bnd (aP v1 (.b true) v4 h4) fun v5 h5 =>
 aS v5 (
 some ((.b false), h5)) (
  fT r n kk4 x0 x1 x5 x6 x11 x12 x13 h5)
noncomputable def aFp (r : RT) (n : Nat) (kk4 : cG) (x0 x1 x5 x6 x7 x8 x9 x11 x12 x13 : DV) (h0 : Hp) : aI :=
 bnd (aJ 1 x1 x5 h0) fun v1 h1 =>
 bnd (aA v1 h1) fun v2 h2 =>
 bnd (aD .geq v2 (aE 0) h2) fun v3 h3 =>
 aS v3 (
 bnd (aJ 1 x1 x5 h3) fun v4 h4 =>
 bnd (aA v4 h4) fun v5 h5 =>
 bnd (r 201 [x0, v5] h5) fun v6 h6 =>
 bnd (aC 0 v6 h6) fun v7 h7 =>
 bnd (aC 1 v6 h7) fun v8 h8 =>
  sZ r n kk4 x0 x1 x5 x6 x7 x8 v7 x11 x12 x13 h8) (
  sZ r n kk4 x0 x1 x5 x6 x7 x8 x9 x11 x12 x13 h3)
noncomputable def aGm (r : RT) (n : Nat) (kk4 : cG) (x0 x1 x5 x6 x7 x8 x11 x12 x13 : DV) (h0 : Hp) : aI :=
 bnd (bZ x0 h0) fun v1 h1 =>
  aFp r n kk4 x0 x1 x5 x6 x7 x8 v1 x11 x12 x13 h1
noncomputable def aVw (r : RT) (n : Nat) (kk4 : cG) (x0 x1 x5 x6 x11 x12 x13 : DV) (h0 : Hp) : aI :=
 bnd (r 201 [x0, x5] h0) fun v1 h1 =>
 bnd (aC 0 v1 h1) fun v2 h2 =>
 bnd (aC 1 v1 h2) fun v3 h3 =>
  aGm r n kk4 x0 x1 x5 x6 v2 v3 x11 x12 x13 h3
noncomputable def aJu (r : RT) (n : Nat) (kk4 : cG) (x0 x1 x5 x6 x11 x12 x13 x20 : DV) (h0 : Hp) : aI :=
 aS x20 (
  aVw r n kk4 x0 x1 x5 x6 x11 x12 x13 h0) (
  fT r n kk4 x0 x1 x5 x6 x11 x12 x13 h0)
noncomputable def wX (r : RT) (n : Nat) (kk4 : cG) (x0 x1 x5 x6 x11 x12 x13 : DV) (h0 : Hp) : aI :=
 bnd (aB 0 x6 h0) fun v1 h1 =>
 bnd (aA v1 h1) fun v2 h2 =>
 bnd (aD .eql v2 (aE 18) h2) fun v3 h3 =>
  aJu r n kk4 x0 x1 x5 x6 x11 x12 x13 v3 h3
noncomputable def aGr (r : RT) (n : Nat) (kk4 : cG) (x0 x1 x11 x12 x13 : DV) (h0 : Hp) : aI :=
 bnd (aJ 3 x11 x13 h0) fun v1 h1 =>
 bnd (aK 3 v1 h1) fun v2 h2 =>
 bnd (bL [(aE 0), (aE 0), (aE 0)] h2) fun v3 h3 =>
 bnd (aG 3 v3 v2 h3) fun _ h4 =>
  wX r n kk4 x0 x1 x13 v3 x11 x12 x13 h4
noncomputable def aTs (r : RT) (n : Nat) (kk4 : cG) (x0 x1 x11 x12 x13 x14 : DV) (h0 : Hp) : aI :=
 aS x14 (
  aGr r n kk4 x0 x1 x11 x12 x13 h0) (
  bI r n h0)
noncomputable def aUc (r : RT) (n : Nat) (kk4 : cG) (x0 x1 x11 x12 x13 : DV) (h0 : Hp) : aI :=
 bnd (aD .lss x13 x12 h0) fun v1 h1 =>
  aTs r n kk4 x0 x1 x11 x12 x13 v1 h1
noncomputable def sU (r : RT) (n : Nat) (m : Nat) : cG :=
 Nat.rec (motive := fun _ => cG) (fun _ _ _ _ _ _ => none) (fun _ ih => aUc r n ih) m
noncomputable def bUw (r : RT) (n : Nat) : cG := sU r n n
noncomputable def aSg (r : RT) (n : Nat) (x0 x1 x11 x12 x13 : DV) (h0 : Hp) : aI :=
 bUw r n x0 x1 x11 x12 x13 h0
noncomputable def aRr (r : RT) (n : Nat) (x0 x1 : DV) (h0 : Hp) : aI :=
 bnd (bZ x0 h0) fun v1 h1 =>
  aSg r n x0 x1 x0 v1 (aE 0) h1
noncomputable def s174 (r : RT) (n : Nat) (x0 x1 : DV) (h0 : Hp) : aI :=
 aRr r n x0 x1 h0
noncomputable abbrev c174 : Code := cf Tryz.f174
noncomputable abbrev aFw : Code := cR c174
noncomputable abbrev cTf : Code := cR aFw
noncomputable abbrev zE : Code := cL aFw
noncomputable abbrev aRb : Code := cR zE
noncomputable abbrev aBj : Code := cL aRb
noncomputable abbrev jY : Code := cL aBj
noncomputable abbrev aHu : Code := cR jY
noncomputable abbrev aGu : Code := cR aHu
noncomputable abbrev cSg : Code := cR aGu
noncomputable abbrev tB : Code := cL aGu
noncomputable abbrev uQ : Code := cL tB
noncomputable abbrev tL : Code := cR uQ
noncomputable abbrev cMe : Code := cR tL
noncomputable abbrev oM : Code := cL tL
noncomputable abbrev pR : Code := cR oM
noncomputable abbrev pD : Code := cL pR
noncomputable abbrev tI : Code := cR pD
noncomputable abbrev tV : Code := cR tI
noncomputable abbrev cLv : Code := cR tV
noncomputable abbrev aXu : Code := cL tV
noncomputable abbrev bAa : Code := cL tI
noncomputable abbrev aWv : Code := cL pD
noncomputable abbrev cBm : Code := cR pR
noncomputable abbrev bAi : Code := cL oM
noncomputable abbrev aEx : Code := cL uQ
noncomputable abbrev aXp : Code := cL aHu
noncomputable abbrev aXs : Code := cL jY
noncomputable abbrev bAq : Code := cL zE
noncomputable abbrev bBg : Code := cL c174
noncomputable abbrev r174 : K := aU CF Tryz.f174
noncomputable def D174 (r : RT) (n : Nat) (c : Code) (X : Nat → K) (k : K) : K := aM CF r 72 n c X r174 k
theorem cJd : D174 r n cTf x0 r174 = (K0 (bI r n)) :=
 (by kernel_rfl)
theorem cHp (kk4 : cG) : D174 r n cSg (xs x0 0 (K0 (bI r n))) (K5 kk4 0 1 11 12 13) = (K5 (cJ r n kk4) 0 1 11 12 13) :=
 (by kernel_rfl)
theorem cJm (kk4 : cG) : D174 r n cMe (xs (xs x0 0 (K0 (bI r n))) 1 (K5 (cJ r n kk4) 0 1 11 12 13)) (K5 (cJ r n kk4) 0 1 11 12 13) = (K7 (fT r n kk4) 0 1 5 6 11 12 13) :=
 (by kernel_rfl)
theorem bOh (kk4 : cG) : D174 r n cLv (xs (xs x0 0 (K0 (bI r n))) 1 (K5 (cJ r n kk4) 0 1 11 12 13)) (K7 (fT r n kk4) 0 1 5 6 11 12 13) = (K10 (sZ r n kk4) 0 1 5 6 7 8 9 11 12 13) :=
 (by kernel_rfl)
theorem bEt (kk4 : cG) : D174 r n tV (xs (xs x0 0 (K0 (bI r n))) 1 (K5 (cJ r n kk4) 0 1 11 12 13)) (K7 (fT r n kk4) 0 1 5 6 11 12 13) = D174 r n aXu (xs (xs x0 0 (K0 (bI r n))) 1 (K5 (cJ r n kk4) 0 1 11 12 13)) (K10 (sZ r n kk4) 0 1 5 6 7 8 9 11 12 13) :=
 congrArg (fun k => D174 r n aXu (xs (xs x0 0 (K0 (bI r n))) 1 (K5 (cJ r n kk4) 0 1 11 12 13)) k) (bOh r n kk4)
theorem bNb (kk4 : cG) : D174 r n tV (xs (xs x0 0 (K0 (bI r n))) 1 (K5 (cJ r n kk4) 0 1 11 12 13)) (K7 (fT r n kk4) 0 1 5 6 11 12 13) = (K10 (aFp r n kk4) 0 1 5 6 7 8 9 11 12 13) :=
 (bEt r n kk4).trans
 ((by kernel_rfl))
theorem bEc (kk4 : cG) : D174 r n tI (xs (xs x0 0 (K0 (bI r n))) 1 (K5 (cJ r n kk4) 0 1 11 12 13)) (K7 (fT r n kk4) 0 1 5 6 11 12 13) = D174 r n bAa (xs (xs x0 0 (K0 (bI r n))) 1 (K5 (cJ r n kk4) 0 1 11 12 13)) (K10 (aFp r n kk4) 0 1 5 6 7 8 9 11 12 13) :=
 congrArg (fun k => D174 r n bAa (xs (xs x0 0 (K0 (bI r n))) 1 (K5 (cJ r n kk4) 0 1 11 12 13)) k) (bNb r n kk4)
theorem bQb (kk4 : cG) : D174 r n tI (xs (xs x0 0 (K0 (bI r n))) 1 (K5 (cJ r n kk4) 0 1 11 12 13)) (K7 (fT r n kk4) 0 1 5 6 11 12 13) = (K9 (aGm r n kk4) 0 1 5 6 7 8 11 12 13) :=
 (bEc r n kk4).trans
 ((by kernel_rfl))
theorem bEk (kk4 : cG) : D174 r n pD (xs (xs x0 0 (K0 (bI r n))) 1 (K5 (cJ r n kk4) 0 1 11 12 13)) (K7 (fT r n kk4) 0 1 5 6 11 12 13) = D174 r n aWv (xs (xs x0 0 (K0 (bI r n))) 1 (K5 (cJ r n kk4) 0 1 11 12 13)) (K9 (aGm r n kk4) 0 1 5 6 7 8 11 12 13) :=
 congrArg (fun k => D174 r n aWv (xs (xs x0 0 (K0 (bI r n))) 1 (K5 (cJ r n kk4) 0 1 11 12 13)) k) (bQb r n kk4)
theorem bTa (kk4 : cG) : D174 r n pD (xs (xs x0 0 (K0 (bI r n))) 1 (K5 (cJ r n kk4) 0 1 11 12 13)) (K7 (fT r n kk4) 0 1 5 6 11 12 13) = (K7 (aVw r n kk4) 0 1 5 6 11 12 13) :=
 (bEk r n kk4).trans
 ((by kernel_rfl))
theorem bOo (kk4 : cG) : D174 r n pR (xs (xs x0 0 (K0 (bI r n))) 1 (K5 (cJ r n kk4) 0 1 11 12 13)) (K7 (fT r n kk4) 0 1 5 6 11 12 13) = (K8 (aJu r n kk4) 0 1 5 6 11 12 13 20) :=
 (by kernel_rfl : D174 r n pR (xs (xs x0 0 (K0 (bI r n))) 1 (K5 (cJ r n kk4) 0 1 11 12 13)) (K7 (fT r n kk4) 0 1 5 6 11 12 13) = (fun (env : aZ) (h : Hp) => aS (opr env (cC pR)) (D174 r n pD (xs (xs x0 0 (K0 (bI r n))) 1 (K5 (cJ r n kk4) 0 1 11 12 13)) (K7 (fT r n kk4) 0 1 5 6 11 12 13) env h) (D174 r n cBm (xs (xs x0 0 (K0 (bI r n))) 1 (K5 (cJ r n kk4) 0 1 11 12 13)) (K7 (fT r n kk4) 0 1 5 6 11 12 13) env h))).trans (by rw [bTa r n kk4]; kernel_rfl)
theorem bOz (kk4 : cG) : D174 r n tL (xs (xs x0 0 (K0 (bI r n))) 1 (K5 (cJ r n kk4) 0 1 11 12 13)) (K5 (cJ r n kk4) 0 1 11 12 13) = D174 r n oM (xs (xs x0 0 (K0 (bI r n))) 1 (K5 (cJ r n kk4) 0 1 11 12 13)) (K7 (fT r n kk4) 0 1 5 6 11 12 13) :=
 congrArg (fun k => D174 r n oM (xs (xs x0 0 (K0 (bI r n))) 1 (K5 (cJ r n kk4) 0 1 11 12 13)) k) (cJm r n kk4)
theorem bMm (kk4 : cG) : D174 r n oM (xs (xs x0 0 (K0 (bI r n))) 1 (K5 (cJ r n kk4) 0 1 11 12 13)) (K7 (fT r n kk4) 0 1 5 6 11 12 13) = D174 r n bAi (xs (xs x0 0 (K0 (bI r n))) 1 (K5 (cJ r n kk4) 0 1 11 12 13)) (K8 (aJu r n kk4) 0 1 5 6 11 12 13 20) :=
 congrArg (fun k => D174 r n bAi (xs (xs x0 0 (K0 (bI r n))) 1 (K5 (cJ r n kk4) 0 1 11 12 13)) k) (bOo r n kk4)
theorem cFe (kk4 : cG) : D174 r n tL (xs (xs x0 0 (K0 (bI r n))) 1 (K5 (cJ r n kk4) 0 1 11 12 13)) (K5 (cJ r n kk4) 0 1 11 12 13) = (K7 (wX r n kk4) 0 1 5 6 11 12 13) :=
 (bOz r n kk4).trans
 ((bMm r n kk4).trans
 ((by kernel_rfl)))
theorem bJv (kk4 : cG) : D174 r n aGu (xs x0 0 (K0 (bI r n))) (K5 kk4 0 1 11 12 13) = D174 r n tB (xs x0 0 (K0 (bI r n))) (K5 (cJ r n kk4) 0 1 11 12 13) :=
 congrArg (fun k => D174 r n tB (xs x0 0 (K0 (bI r n))) k) (cHp r n kk4)
theorem bLi (kk4 : cG) : D174 r n uQ (xs (xs x0 0 (K0 (bI r n))) 1 (K5 (cJ r n kk4) 0 1 11 12 13)) (K5 (cJ r n kk4) 0 1 11 12 13) = D174 r n aEx (xs (xs x0 0 (K0 (bI r n))) 1 (K5 (cJ r n kk4) 0 1 11 12 13)) (K7 (wX r n kk4) 0 1 5 6 11 12 13) :=
 congrArg (fun k => D174 r n aEx (xs (xs x0 0 (K0 (bI r n))) 1 (K5 (cJ r n kk4) 0 1 11 12 13)) k) (cFe r n kk4)
theorem bNg (kk4 : cG) (q0 : TT7) (q1 : Hp → aI) (q2 : cG) : D174 r n aEx (xs (xs x0 0 (K0 q1)) 1 (K5 q2 0 1 11 12 13)) (K7 q0 0 1 5 6 11 12 13) = fun (env : aZ) (h : Hp) =>
 bnd (aJ 3 (env 11) (env 13) h) fun v1 h1 =>
 bnd (aK 3 v1 h1) fun v2 h2 =>
 bnd (bL [(aE 0), (aE 0), (aE 0)] h2) fun v3 h3 =>
 bnd (aG 3 v3 v2 h3) fun _ h4 =>
  q0 (env 0) (env 1) (env 13) v3 (env 11) (env 12) (env 13) h4 := by kernel_rfl
theorem bEd (kk4 : cG) : (fun (env : aZ) (h : Hp) =>
 bnd (aJ 3 (env 11) (env 13) h) fun v1 h1 =>
 bnd (aK 3 v1 h1) fun v2 h2 =>
 bnd (bL [(aE 0), (aE 0), (aE 0)] h2) fun v3 h3 =>
 bnd (aG 3 v3 v2 h3) fun _ h4 =>
  wX r n kk4 (env 0) (env 1) (env 13) v3 (env 11) (env 12) (env 13) h4) = (K5 (aGr r n kk4) 0 1 11 12 13) := by kernel_rfl
theorem cFi (kk4 : cG) : D174 r n aGu (xs x0 0 (K0 (bI r n))) (K5 kk4 0 1 11 12 13) = (K5 (aGr r n kk4) 0 1 11 12 13) :=
 (bJv r n kk4).trans
 ((by kernel_rfl : D174 r n tB (xs x0 0 (K0 (bI r n))) (K5 (cJ r n kk4) 0 1 11 12 13) = D174 r n uQ (xs (xs x0 0 (K0 (bI r n))) 1 (K5 (cJ r n kk4) 0 1 11 12 13)) (K5 (cJ r n kk4) 0 1 11 12 13)).trans
 ((bLi r n kk4).trans
 ((bNg r n kk4 (wX r n kk4) (bI r n) (cJ r n kk4)).trans (bEd r n kk4))))
theorem bNe (kk4 : cG) : D174 r n aHu (xs x0 0 (K0 (bI r n))) (K5 kk4 0 1 11 12 13) = D174 r n aXp (xs x0 0 (K0 (bI r n))) (K5 (aGr r n kk4) 0 1 11 12 13) :=
 congrArg (fun k => D174 r n aXp (xs x0 0 (K0 (bI r n))) k) (cFi r n kk4)
theorem cBc (kk4 : cG) : D174 r n aHu (xs x0 0 (K0 (bI r n))) (K5 kk4 0 1 11 12 13) = (K6 (aTs r n kk4) 0 1 11 12 13 14) :=
 (bNe r n kk4).trans
 ((by kernel_rfl))
theorem bDq (kk4 : cG) : D174 r n jY (xs x0 0 (K0 (bI r n))) (K5 kk4 0 1 11 12 13) = D174 r n aXs (xs x0 0 (K0 (bI r n))) (K6 (aTs r n kk4) 0 1 11 12 13 14) :=
 congrArg (fun k => D174 r n aXs (xs x0 0 (K0 (bI r n))) k) (cBc r n kk4)
theorem bTy (kk4 : cG) : D174 r n jY (xs x0 0 (K0 (bI r n))) (K5 kk4 0 1 11 12 13) = (K5 (aUc r n kk4) 0 1 11 12 13) :=
 (bDq r n kk4).trans
 ((by kernel_rfl))
theorem bIz (m : Nat) : aN (fun kk => D174 r n jY (xs x0 0 (K0 (bI r n))) kk) m = (K5 (sU r n m) 0 1 11 12 13) := by
 induction m with
 | zero => exact (by kernel_rfl : aN (fun kk => D174 r n jY (xs x0 0 (K0 (bI r n))) kk) 0 = (K5 (sU r n 0) 0 1 11 12 13))
 | succ m ih =>
  refine (by kernel_rfl : aN (fun kk => D174 r n jY (xs x0 0 (K0 (bI r n))) kk) (m + 1) = D174 r n jY (xs x0 0 (K0 (bI r n))) (aN (fun kk => D174 r n jY (xs x0 0 (K0 (bI r n))) kk) m)).trans ?_
  rw [ih]
  exact (bTy r n (sU r n m)).trans (by kernel_rfl)
theorem cEf : D174 r n aBj (xs x0 0 (K0 (bI r n))) (K0 (bI r n)) = (K5 (bUw r n) 0 1 11 12 13) :=
 (by kernel_rfl : D174 r n aBj (xs x0 0 (K0 (bI r n))) (K0 (bI r n)) = aN (fun kk => D174 r n jY (xs x0 0 (K0 (bI r n))) kk) n).trans ((bIz r n n).trans (by kernel_rfl))
theorem cGm : D174 r n aRb x0 (K0 (bI r n)) = (K5 (aSg r n) 0 1 11 12 13) :=
 (by kernel_rfl : D174 r n aRb x0 (K0 (bI r n)) = D174 r n aBj (xs x0 0 (K0 (bI r n))) (K0 (bI r n))).trans
 ((cEf r n).trans (by kernel_rfl))
theorem bBz : D174 r n aFw x0 r174 = D174 r n zE x0 (K0 (bI r n)) :=
 congrArg (fun k => D174 r n zE x0 k) (cJd r n)
theorem bFr : D174 r n zE x0 (K0 (bI r n)) = D174 r n bAq x0 (K5 (aSg r n) 0 1 11 12 13) :=
 congrArg (fun k => D174 r n bAq x0 k) (cGm r n)
theorem cHe : D174 r n aFw x0 r174 = (K2 (aRr r n) 0 1) :=
 (bBz r n).trans
 ((bFr r n).trans
 ((by kernel_rfl)))
theorem cBi : D174 r n c174 x0 r174 = D174 r n bBg x0 (K2 (aRr r n) 0 1) :=
 congrArg (fun k => D174 r n bBg x0 k) (cHe r n)
theorem dGy : D174 r n c174 x0 r174 = (K2 (s174 r n) 0 1) :=
 (cBi r n).trans
 ((by kernel_rfl))
theorem cZc : aF CF r n 174 args h = s174 r n (aR args 0) (aR args 1) h :=
 (by kernel_rfl : aF CF r n 174 args h = D174 r n c174 x0 r174 (aH args) h).trans ((congrFun (congrFun (dGy r n) (aH args)) h).trans (by kernel_rfl))
noncomputable def bU (r : RT) (n : Nat) (x6 x9 : DV) (h0 : Hp) : aI :=
 bnd (aA x6 h0) fun v1 h1 =>
 bnd (aA x9 h1) fun v2 h2 =>
 some (.t [v1, v2], h2)
noncomputable def tY (r : RT) (n : Nat) (kk9 : fF) (x2 x3 x6 x7 x9 x10 x11 x14 : DV) (h0 : Hp) : aI :=
 bnd (aD .add x11 (aE 1) h0) fun v1 h1 =>
 bnd (aA x3 h1) fun v2 h2 =>
 bnd (aJ 1 v2 x11 h2) fun v3 h3 =>
 bnd (aA v3 h3) fun v4 h4 =>
 bnd (cX CF r x10 [v1, v4, x14] h4) fun v5 h5 =>
  kk9 x2 x3 x6 x7 x9 x10 h5
noncomputable def aBy (r : RT) (n : Nat) (kk9 : fF) (x2 x3 x6 x7 x9 x10 x11 x12 x13 x14 : DV) (h0 : Hp) : aI :=
 bnd (aB 0 x12 h0) fun v1 h1 =>
 bnd (aA v1 h1) fun v2 h2 =>
 bnd (aD .eql v2 (aE 19) h2) fun v3 h3 =>
 aS v3 (
 bnd (aD .neq x13 (aE 1) h3) fun v4 h4 =>
 bnd (gD v4 false (aA x3 h4) h4) fun v5 h5 =>
 bnd (gD v4 false (some (x11, h5)) h5) fun v6 h6 =>
 bnd (gD v4 false (aJ 1 v5 v6 h6) h6) fun v7 h7 =>
 bnd (gD v4 false (aA v7 h7) h7) fun v8 h8 =>
 bnd (gD v4 false (aD .lss v8 (aE 0) h8) h8) fun v9 h9 =>
 bnd (aP v4 (.b true) v9 h9) fun v10 h10 =>
 aS v10 (
 some (.t [.l0, (.b false)], h10)) (
   kk9 x2 x3 x6 x7 x9 x10 h10)) (
 bnd (aD .eql v2 (aE 20) h3) fun v11 h11 =>
 aS v11 (
   kk9 x2 x3 x6 x7 x9 x10 h11) (
 bnd (aD .eql v2 (aE 16) h11) fun v12 h12 =>
 aS v12 (
 bnd (aK 3 x12 h12) fun v13 h13 =>
 bnd (r 202 [v13] h13) fun v14 h14 =>
 bnd (aA x3 h14) fun v15 h15 =>
 cnd (bG (aA x3 h12) v15 && true) (
 bnd (aJ 1 v15 x11 h15) fun v16 h16 =>
 bnd (aA v16 h16) fun v17 h17 =>
 cnd (bG (aA v16 h12) v17 && true) (
 bnd (cX CF r x10 [v14, v17, x14] h17) fun v18 h18 =>
    kk9 x2 x3 x6 x7 x9 x10 h18))) (
 bnd (aD .eql v2 (aE 17) h12) fun v19 h19 =>
 aS v19 (
 bnd (aK 3 x12 h19) fun v20 h20 =>
 bnd (r 202 [v20] h20) fun v21 h21 =>
 bnd (aA x3 h21) fun v22 h22 =>
 cnd (bG (aA x3 h19) v22 && true) (
 bnd (aJ 1 v22 x11 h22) fun v23 h23 =>
 bnd (aA v23 h23) fun v24 h24 =>
 cnd (bG (aA v23 h19) v24 && true) (
 bnd (cX CF r x10 [v21, v24, x14] h24) fun v25 h25 =>
     tY r n kk9 x2 x3 x6 x7 x9 x10 x11 x14 h25))) (
     tY r n kk9 x2 x3 x6 x7 x9 x10 x11 x14 h19))))
noncomputable def aJz (r : RT) (n : Nat) (kk9 : fF) (x2 x3 x6 x7 x9 x10 x11 x12 x13 x14 : DV) (h0 : Hp) : aI :=
 bnd (aK 3 x12 h0) fun v1 h1 =>
 bnd (r 205 [v1] h1) fun v2 h2 =>
 bnd (aD .lss x13 v2 h2) fun v3 h3 =>
 bnd (gD v3 false (some (x14, h3)) h3) fun v4 h4 =>
 bnd (gD v3 false (aD .gtr v4 (aE 24) h4) h4) fun v5 h5 =>
 bnd (aP v3 (.b true) v5 h5) fun v6 h6 =>
 aS v6 (
 some (.t [.l0, (.b false)], h6)) (
  aBy r n kk9 x2 x3 x6 x7 x9 x10 x11 x12 x13 x14 h6)
noncomputable def aCq (r : RT) (n : Nat) (kk9 : fF) (x2 x3 x6 x7 x9 x10 x11 x12 x13 : DV) (h0 : Hp) : aI :=
 bnd (aK 3 x12 h0) fun v1 h1 =>
 bnd (r 204 [v1] h1) fun v2 h2 =>
 bnd (aD .add x13 v2 h2) fun v3 h3 =>
  aJz r n kk9 x2 x3 x6 x7 x9 x10 x11 x12 x13 v3 h3
noncomputable def aIh (r : RT) (n : Nat) (kk9 : fF) (x2 x3 x6 x7 x9 x10 x11 : DV) (h0 : Hp) : aI :=
 bnd (aA x2 (resv 1 h0)) fun v1 h1 =>
 bnd (aJ 3 v1 x11 h1) fun v2 h2 =>
 bnd (aK 3 v2 h2) fun v3 h3 =>
 bnd (aA x6 h3) fun v4 h4 =>
 bnd (aJ 1 v4 x11 h4) fun v5 h5 =>
 bnd (aA v5 h5) fun v6 h6 =>
 bnd (iK (bW 0 h0.next) [(aE 0), (aE 0), (aE 0)] h6) fun v7 h7 =>
 bnd (aG 3 v7 v3 h7) fun v8 h8 =>
 cnd (bG (aA v5 h8) v6 && (bG (aA x6 h8) v4 && true)) (
  aCq r n kk9 x2 x3 x6 x7 x9 x10 x11 v7 v6 h8)
noncomputable def aGd (r : RT) (n : Nat) (kk9 : fF) (x2 x3 x6 x7 x9 x10 x11 : DV) (h0 : Hp) : aI :=
 bnd (aA x7 h0) fun v1 h1 =>
 bnd (aA x7 h1) fun v2 h2 =>
 bnd (bZ v2 h2) fun v3 h3 =>
 bnd (aD .sub v3 (aE 1) h3) fun v4 h4 =>
 bnd (cU 1 v1 none (some v4) h4) fun v5 h5 =>
 bnd (aG 1 x7 v5 h5) fun _ h6 =>
  aIh r n kk9 x2 x3 x6 x7 x9 x10 x11 h6
noncomputable def aIf (r : RT) (n : Nat) (kk9 : fF) (x2 x3 x6 x7 x9 x10 : DV) (h0 : Hp) : aI :=
 bnd (aA x7 h0) fun v1 h1 =>
 bnd (aA x7 h1) fun v2 h2 =>
 bnd (bZ v2 h2) fun v3 h3 =>
 bnd (aD .sub v3 (aE 1) h3) fun v4 h4 =>
 bnd (aJ 1 v1 v4 h4) fun v5 h5 =>
 bnd (aA v5 h5) fun v6 h6 =>
  aGd r n kk9 x2 x3 x6 x7 x9 x10 v6 h6
noncomputable def aWp (r : RT) (n : Nat) (kk9 : fF) (x2 x3 x6 x7 x9 x10 : DV) (h0 : Hp) : aI :=
 bnd (aA x7 h0) fun v1 h1 =>
 bnd (bZ v1 h1) fun v2 h2 =>
 bnd (aD .gtr v2 (aE 0) h2) fun v3 h3 =>
 bnd (gD v3 true (aA x9 h3) h3) fun v4 h4 =>
 bnd (aP v3 v4 (.b false) h4) fun v5 h5 =>
 aS v5 (
   aIf r n kk9 x2 x3 x6 x7 x9 x10 h5) (
   bU r n x6 x9 h5)
noncomputable def uE (r : RT) (n : Nat) (m : Nat) : fF :=
 Nat.rec (motive := fun _ => fF) (fun _ _ _ _ _ _ _ => none) (fun _ ih => aWp r n ih) m
noncomputable def bYv (r : RT) (n : Nat) : fF := uE r n n
noncomputable def aOc (r : RT) (n : Nat) (x2 x3 x6 x7 x9 x10 : DV) (h0 : Hp) : aI :=
 bYv r n x2 x3 x6 x7 x9 x10 h0
noncomputable def aSu (r : RT) (n : Nat) (x2 x3 x6 x7 x9 x10 : DV) (h0 : Hp) : aI :=
 aOc r n x2 x3 x6 x7 x9 x10 h0
noncomputable def xA (r : RT) (n : Nat) (x2 x3 x6 x7 x9 : DV) (h0 : Hp) : aI :=
 aSu r n x2 x3 x6 x7 x9 (.f 203 [] [x2, x3, x6, x9, x7]) h0
noncomputable def cO (r : RT) (n : Nat) (x2 x3 x6 x7 : DV) (h0 : Hp) : aI :=
 bnd (bL [(.b false)] h0) fun v1 h1 =>
 bnd (aG 1 v1 (.b true) h1) fun _ h2 =>
  xA r n x2 x3 x6 x7 v1 h2
noncomputable def kS (r : RT) (n : Nat) (kk18 : fF) (x2 x3 x6 x7 x19 x20 : DV) (h0 : Hp) : aI :=
 bnd (aD .add x20 (aE 1) h0) fun v1 h1 =>
  kk18 x2 x3 x6 x7 x19 v1 h1
noncomputable def sR (r : RT) (n : Nat) (kk18 : fF) (x2 x3 x6 x7 x19 x20 : DV) (h0 : Hp) : aI :=
 bnd (aA x6 h0) fun v1 h1 =>
 bnd (aJ 1 v1 x20 h1) fun v2 h2 =>
 bnd (aG 1 v2 (.i .i64 (Int.negSucc 0)) h2) fun _ h3 =>
 bnd (aD .eql x20 (aE 0) h3) fun v4 h4 =>
 bnd (gD v4 false (some (x20, h4)) h4) fun v5 h5 =>
 bnd (gD v4 false (aD .gtr v5 (aE 1) h5) h5) fun v6 h6 =>
 bnd (gD v4 false (some (v6, h6)) h6) fun v7 h7 =>
 bnd (gD v7 true (aA x2 h7) h7) fun v8 h8 =>
 bnd (gD v7 true (some (x20, h8)) h8) fun v9 h9 =>
 bnd (gD v7 true (aD .sub v9 (aE 2) h9) h9) fun v10 h10 =>
 bnd (gD v7 true (aJ 3 v8 v10 h10) h10) fun v11 h11 =>
 bnd (gD v7 true (aB 0 v11 h11) h11) fun v12 h12 =>
 bnd (gD v7 true (aA v12 h12) h12) fun v13 h13 =>
 bnd (gD v7 true (aD .eql v13 (aE 18) h13) h13) fun v14 h14 =>
 bnd (gD v4 false (aP v7 v14 (.b false) h14) h14) fun v15 h15 =>
 bnd (gD v4 false (some (v15, h15)) h15) fun v16 h16 =>
 bnd (gD v16 true (aA x3 h16) h16) fun v17 h17 =>
 bnd (gD v16 true (some (x20, h17)) h17) fun v18 h18 =>
 bnd (gD v16 true (aJ 1 v17 v18 h18) h18) fun v19 h19 =>
 bnd (gD v16 true (aA v19 h19) h19) fun v20 h20 =>
 bnd (gD v16 true (some (x20, h20)) h20) fun v21 h21 =>
 bnd (gD v16 true (aD .sub v21 (aE 2) h21) h21) fun v22 h22 =>
 bnd (gD v16 true (aD .eql v20 v22 h22) h22) fun v23 h23 =>
 bnd (gD v4 false (aP v16 v23 (.b false) h23) h23) fun v24 h24 =>
 bnd (aP v4 (.b true) v24 h24) fun v25 h25 =>
 aS v25 (
 bnd (aA x6 h25) fun v26 h26 =>
 bnd (aJ 1 v26 x20 h26) fun v27 h27 =>
 bnd (aG 1 v27 (aE 0) h27) fun _ h28 =>
 bnd (aA x7 h28) fun v29 h29 =>
 bnd (aL [(aE 0)] 1 [(0, 1, x20)] h29) fun v30 h30 =>
 bnd (bA 1 8 v29 v30 h30) fun v31 h31 =>
 bnd (aG 1 x7 v31 h31) fun _ h32 =>
  kS r n kk18 x2 x3 x6 x7 x19 x20 h32) (
  kS r n kk18 x2 x3 x6 x7 x19 x20 h25)
noncomputable def aCp (r : RT) (n : Nat) (kk18 : fF) (x2 x3 x6 x7 x19 x20 x21 : DV) (h0 : Hp) : aI :=
 aS x21 (
  sR r n kk18 x2 x3 x6 x7 x19 x20 h0) (
  cO r n x2 x3 x6 x7 h0)
noncomputable def aLm (r : RT) (n : Nat) (kk18 : fF) (x2 x3 x6 x7 x19 x20 : DV) (h0 : Hp) : aI :=
 bnd (aD .lss x20 x19 h0) fun v1 h1 =>
  aCp r n kk18 x2 x3 x6 x7 x19 x20 v1 h1
noncomputable def pF (r : RT) (n : Nat) (m : Nat) : fF :=
 Nat.rec (motive := fun _ => fF) (fun _ _ _ _ _ _ _ => none) (fun _ ih => aLm r n ih) m
noncomputable def aYy (r : RT) (n : Nat) : fF := pF r n n
noncomputable def aCg (r : RT) (n : Nat) (x2 x3 x6 x7 x19 x20 : DV) (h0 : Hp) : aI :=
 aYy r n x2 x3 x6 x7 x19 x20 h0
noncomputable def xY (r : RT) (n : Nat) (x2 x3 x6 x7 : DV) (h0 : Hp) : aI :=
 bnd (aA x6 h0) fun v1 h1 =>
 bnd (bZ v1 h1) fun v2 h2 =>
  aCg r n x2 x3 x6 x7 v2 (aE 0) h2
noncomputable def rG (r : RT) (n : Nat) (x2 x3 x6 : DV) (h0 : Hp) : aI :=
 bnd (bL [.l0] h0) fun v1 h1 =>
  xY r n x2 x3 x6 v1 h1
noncomputable def qJ (r : RT) (n : Nat) (x2 x3 : DV) (h0 : Hp) : aI :=
 bnd (aA x2 h0) fun v1 h1 =>
 bnd (bZ v1 h1) fun v2 h2 =>
 bnd (cK 1 8 [(aE 0)] v2 v2 h2) fun v3 h3 =>
 bnd (bL [.l0] h3) fun v4 h4 =>
 bnd (aG 1 v4 v3 h4) fun _ h5 =>
  rG r n x2 x3 v4 h5
noncomputable def s175 (r : RT) (n : Nat) (x0 x1 : DV) (h0 : Hp) : aI :=
 bnd (bR x0 h0) fun v1 h1 =>
 bnd (bR x1 h1) fun v2 h2 =>
  qJ r n v1 v2 h2
noncomputable abbrev c175 : Code := cf Tryz.f175
noncomputable abbrev aQe : Code := cR c175
noncomputable abbrev aBf : Code := cL aQe
noncomputable abbrev aCj : Code := cR aBf
noncomputable abbrev aHw : Code := cR aCj
noncomputable abbrev aJk : Code := cR aHw
noncomputable abbrev aAz : Code := cR aJk
noncomputable abbrev aCr : Code := cR aAz
noncomputable abbrev aDn : Code := cR aCr
noncomputable abbrev cSx : Code := cR aDn
noncomputable abbrev sQ : Code := cL aDn
noncomputable abbrev uL : Code := cL sQ
noncomputable abbrev iB : Code := cL uL
noncomputable abbrev aIa : Code := cR iB
noncomputable abbrev tO : Code := cL aIa
noncomputable abbrev tJ : Code := cR tO
noncomputable abbrev tP : Code := cR tJ
noncomputable abbrev tX : Code := cR tP
noncomputable abbrev sH : Code := cR tX
noncomputable abbrev sW : Code := cR sH
noncomputable abbrev cBh : Code := cR sW
noncomputable abbrev aZk : Code := cL sW
noncomputable abbrev aUu : Code := cL sH
noncomputable abbrev aZw : Code := cL tX
noncomputable abbrev aYm : Code := cL tP
noncomputable abbrev aYp : Code := cL tJ
noncomputable abbrev aWj : Code := cL tO
noncomputable abbrev aYk : Code := cL iB
noncomputable abbrev aZo : Code := cL aCr
noncomputable abbrev aVr : Code := cL aAz
noncomputable abbrev aHz : Code := cL aJk
noncomputable abbrev oR : Code := cL aHw
noncomputable abbrev aCs : Code := cR oR
noncomputable abbrev sL : Code := cL aCs
noncomputable abbrev iA : Code := cL sL
noncomputable abbrev uK : Code := cR iA
noncomputable abbrev tZ : Code := cR uK
noncomputable abbrev cAy : Code := cR tZ
noncomputable abbrev aBw : Code := cL tZ
noncomputable abbrev aUo : Code := cL uK
noncomputable abbrev aYv : Code := cL iA
noncomputable abbrev aYn : Code := cL oR
noncomputable abbrev aDv : Code := cL aCj
noncomputable abbrev aAy : Code := cL aBf
noncomputable abbrev aJr : Code := cL c175
noncomputable abbrev r175 : K := aU CF Tryz.f175
noncomputable def D175 (r : RT) (n : Nat) (c : Code) (X : Nat → K) (k : K) : K := aM CF r 144 n c X r175 k
theorem cDk : D175 r n cSx x0 r175 = (K2 (bU r n) 6 9) :=
 (by kernel_rfl)
theorem bNu (kk9 : fF) : D175 r n cBh (xs (xs x0 2 (K2 (bU r n) 6 9)) 3 (K6 kk9 2 3 6 7 9 10)) (K6 kk9 2 3 6 7 9 10) = (K8 (tY r n kk9) 2 3 6 7 9 10 11 14) :=
 (by kernel_rfl)
theorem bCk (kk9 : fF) : D175 r n sW (xs (xs x0 2 (K2 (bU r n) 6 9)) 3 (K6 kk9 2 3 6 7 9 10)) (K6 kk9 2 3 6 7 9 10) = D175 r n aZk (xs (xs x0 2 (K2 (bU r n) 6 9)) 3 (K6 kk9 2 3 6 7 9 10)) (K8 (tY r n kk9) 2 3 6 7 9 10 11 14) :=
 congrArg (fun k => D175 r n aZk (xs (xs x0 2 (K2 (bU r n) 6 9)) 3 (K6 kk9 2 3 6 7 9 10)) k) (bNu r n kk9)
theorem bZp (kk9 : fF) : D175 r n sW (xs (xs x0 2 (K2 (bU r n) 6 9)) 3 (K6 kk9 2 3 6 7 9 10)) (K6 kk9 2 3 6 7 9 10) = (K10 (aBy r n kk9) 2 3 6 7 9 10 11 12 13 14) :=
 (bCk r n kk9).trans
 ((by kernel_rfl))
theorem bFf (kk9 : fF) : D175 r n sH (xs (xs x0 2 (K2 (bU r n) 6 9)) 3 (K6 kk9 2 3 6 7 9 10)) (K6 kk9 2 3 6 7 9 10) = D175 r n aUu (xs (xs x0 2 (K2 (bU r n) 6 9)) 3 (K6 kk9 2 3 6 7 9 10)) (K10 (aBy r n kk9) 2 3 6 7 9 10 11 12 13 14) :=
 congrArg (fun k => D175 r n aUu (xs (xs x0 2 (K2 (bU r n) 6 9)) 3 (K6 kk9 2 3 6 7 9 10)) k) (bZp r n kk9)
theorem bZv (kk9 : fF) : D175 r n sH (xs (xs x0 2 (K2 (bU r n) 6 9)) 3 (K6 kk9 2 3 6 7 9 10)) (K6 kk9 2 3 6 7 9 10) = (K10 (aJz r n kk9) 2 3 6 7 9 10 11 12 13 14) :=
 (bFf r n kk9).trans
 ((by kernel_rfl))
theorem bDr (kk9 : fF) : D175 r n tX (xs (xs x0 2 (K2 (bU r n) 6 9)) 3 (K6 kk9 2 3 6 7 9 10)) (K6 kk9 2 3 6 7 9 10) = D175 r n aZw (xs (xs x0 2 (K2 (bU r n) 6 9)) 3 (K6 kk9 2 3 6 7 9 10)) (K10 (aJz r n kk9) 2 3 6 7 9 10 11 12 13 14) :=
 congrArg (fun k => D175 r n aZw (xs (xs x0 2 (K2 (bU r n) 6 9)) 3 (K6 kk9 2 3 6 7 9 10)) k) (bZv r n kk9)
theorem bQw (kk9 : fF) : D175 r n tX (xs (xs x0 2 (K2 (bU r n) 6 9)) 3 (K6 kk9 2 3 6 7 9 10)) (K6 kk9 2 3 6 7 9 10) = (K9 (aCq r n kk9) 2 3 6 7 9 10 11 12 13) :=
 (bDr r n kk9).trans
 ((by kernel_rfl))
theorem bCm (kk9 : fF) : D175 r n tP (xs (xs x0 2 (K2 (bU r n) 6 9)) 3 (K6 kk9 2 3 6 7 9 10)) (K6 kk9 2 3 6 7 9 10) = D175 r n aYm (xs (xs x0 2 (K2 (bU r n) 6 9)) 3 (K6 kk9 2 3 6 7 9 10)) (K9 (aCq r n kk9) 2 3 6 7 9 10 11 12 13) :=
 congrArg (fun k => D175 r n aYm (xs (xs x0 2 (K2 (bU r n) 6 9)) 3 (K6 kk9 2 3 6 7 9 10)) k) (bQw r n kk9)
theorem bHz (kk9 : fF) : D175 r n tP (xs (xs x0 2 (K2 (bU r n) 6 9)) 3 (K6 kk9 2 3 6 7 9 10)) (K6 kk9 2 3 6 7 9 10) = (K7 (aIh r n kk9) 2 3 6 7 9 10 11) :=
 (bCm r n kk9).trans
 ((by kernel_rfl))
theorem bEx (kk9 : fF) : D175 r n tJ (xs (xs x0 2 (K2 (bU r n) 6 9)) 3 (K6 kk9 2 3 6 7 9 10)) (K6 kk9 2 3 6 7 9 10) = D175 r n aYp (xs (xs x0 2 (K2 (bU r n) 6 9)) 3 (K6 kk9 2 3 6 7 9 10)) (K7 (aIh r n kk9) 2 3 6 7 9 10 11) :=
 congrArg (fun k => D175 r n aYp (xs (xs x0 2 (K2 (bU r n) 6 9)) 3 (K6 kk9 2 3 6 7 9 10)) k) (bHz r n kk9)
theorem bQs (kk9 : fF) : D175 r n tJ (xs (xs x0 2 (K2 (bU r n) 6 9)) 3 (K6 kk9 2 3 6 7 9 10)) (K6 kk9 2 3 6 7 9 10) = (K7 (aGd r n kk9) 2 3 6 7 9 10 11) :=
 (bEx r n kk9).trans
 ((by kernel_rfl))
theorem bEy (kk9 : fF) : D175 r n tO (xs (xs x0 2 (K2 (bU r n) 6 9)) 3 (K6 kk9 2 3 6 7 9 10)) (K6 kk9 2 3 6 7 9 10) = D175 r n aWj (xs (xs x0 2 (K2 (bU r n) 6 9)) 3 (K6 kk9 2 3 6 7 9 10)) (K7 (aGd r n kk9) 2 3 6 7 9 10 11) :=
 congrArg (fun k => D175 r n aWj (xs (xs x0 2 (K2 (bU r n) 6 9)) 3 (K6 kk9 2 3 6 7 9 10)) k) (bQs r n kk9)
theorem bYq (kk9 : fF) : D175 r n aIa (xs x0 2 (K2 (bU r n) 6 9)) (K6 kk9 2 3 6 7 9 10) = (K6 (aIf r n kk9) 2 3 6 7 9 10) :=
 (by kernel_rfl : D175 r n aIa (xs x0 2 (K2 (bU r n) 6 9)) (K6 kk9 2 3 6 7 9 10) = D175 r n tO (xs (xs x0 2 (K2 (bU r n) 6 9)) 3 (K6 kk9 2 3 6 7 9 10)) (K6 kk9 2 3 6 7 9 10)).trans
 ((bEy r n kk9).trans
 ((by kernel_rfl)))
theorem bGe (kk9 : fF) : D175 r n iB (xs x0 2 (K2 (bU r n) 6 9)) (K6 kk9 2 3 6 7 9 10) = D175 r n aYk (xs x0 2 (K2 (bU r n) 6 9)) (K6 (aIf r n kk9) 2 3 6 7 9 10) :=
 congrArg (fun k => D175 r n aYk (xs x0 2 (K2 (bU r n) 6 9)) k) (bYq r n kk9)
theorem bYh (kk9 : fF) : D175 r n iB (xs x0 2 (K2 (bU r n) 6 9)) (K6 kk9 2 3 6 7 9 10) = (K6 (aWp r n kk9) 2 3 6 7 9 10) :=
 (bGe r n kk9).trans
 ((by kernel_rfl))
theorem bKq (m : Nat) : aN (fun kk => D175 r n iB (xs x0 2 (K2 (bU r n) 6 9)) kk) m = (K6 (uE r n m) 2 3 6 7 9 10) := by
 induction m with
 | zero => exact (by kernel_rfl : aN (fun kk => D175 r n iB (xs x0 2 (K2 (bU r n) 6 9)) kk) 0 = (K6 (uE r n 0) 2 3 6 7 9 10))
 | succ m ih =>
  refine (by kernel_rfl : aN (fun kk => D175 r n iB (xs x0 2 (K2 (bU r n) 6 9)) kk) (m + 1) = D175 r n iB (xs x0 2 (K2 (bU r n) 6 9)) (aN (fun kk => D175 r n iB (xs x0 2 (K2 (bU r n) 6 9)) kk) m)).trans ?_
  rw [ih]
  exact (bYh r n (uE r n m)).trans (by kernel_rfl)
theorem cCi : D175 r n uL (xs x0 2 (K2 (bU r n) 6 9)) (K2 (bU r n) 6 9) = (K6 (bYv r n) 2 3 6 7 9 10) :=
 (by kernel_rfl : D175 r n uL (xs x0 2 (K2 (bU r n) 6 9)) (K2 (bU r n) 6 9) = aN (fun kk => D175 r n iB (xs x0 2 (K2 (bU r n) 6 9)) kk) n).trans ((bKq r n n).trans (by kernel_rfl))
theorem bQv : D175 r n aDn x0 r175 = D175 r n sQ x0 (K2 (bU r n) 6 9) :=
 congrArg (fun k => D175 r n sQ x0 k) (cDk r n)
theorem cHq : D175 r n aDn x0 r175 = (K6 (aOc r n) 2 3 6 7 9 10) :=
 (bQv r n).trans
 ((by kernel_rfl : D175 r n sQ x0 (K2 (bU r n) 6 9) = D175 r n uL (xs x0 2 (K2 (bU r n) 6 9)) (K2 (bU r n) 6 9)).trans
 ((cCi r n).trans (by kernel_rfl)))
theorem bPl : D175 r n aCr x0 r175 = D175 r n aZo x0 (K6 (aOc r n) 2 3 6 7 9 10) :=
 congrArg (fun k => D175 r n aZo x0 k) (cHq r n)
theorem cNj : D175 r n aCr x0 r175 = (K6 (aSu r n) 2 3 6 7 9 10) :=
 (bPl r n).trans
 ((by kernel_rfl))
theorem bDe : D175 r n aAz x0 r175 = D175 r n aVr x0 (K6 (aSu r n) 2 3 6 7 9 10) :=
 congrArg (fun k => D175 r n aVr x0 k) (cNj r n)
theorem cBx : D175 r n aAz x0 r175 = (K5 (xA r n) 2 3 6 7 9) :=
 (bDe r n).trans
 ((by kernel_rfl))
theorem bEa : D175 r n aJk x0 r175 = D175 r n aHz x0 (K5 (xA r n) 2 3 6 7 9) :=
 congrArg (fun k => D175 r n aHz x0 k) (cBx r n)
theorem bDt (q0 : cG) : D175 r n aHz x0 (K5 q0 2 3 6 7 9) = fun (env : aZ) (h : Hp) =>
 bnd (bL [(.b false)] h) fun v1 h1 =>
 bnd (aG 1 v1 (.b true) h1) fun _ h2 =>
  q0 (env 2) (env 3) (env 6) (env 7) v1 h2 := by kernel_rfl
theorem aQo : (fun (env : aZ) (h : Hp) =>
 bnd (bL [(.b false)] h) fun v1 h1 =>
 bnd (aG 1 v1 (.b true) h1) fun _ h2 =>
  xA r n (env 2) (env 3) (env 6) (env 7) v1 h2) = (K4 (cO r n) 2 3 6 7) := by kernel_rfl
theorem cOo : D175 r n aJk x0 r175 = (K4 (cO r n) 2 3 6 7) :=
 (bEa r n).trans
 ((bDt r n (xA r n)).trans (aQo r n))
theorem bSr (kk18 : fF) : D175 r n cAy (xs x0 0 (K4 (cO r n) 2 3 6 7)) (K6 kk18 2 3 6 7 19 20) = (K6 (kS r n kk18) 2 3 6 7 19 20) :=
 (by kernel_rfl)
theorem aUb (kk18 : fF) : D175 r n tZ (xs x0 0 (K4 (cO r n) 2 3 6 7)) (K6 kk18 2 3 6 7 19 20) = D175 r n aBw (xs x0 0 (K4 (cO r n) 2 3 6 7)) (K6 (kS r n kk18) 2 3 6 7 19 20) :=
 congrArg (fun k => D175 r n aBw (xs x0 0 (K4 (cO r n) 2 3 6 7)) k) (bSr r n kk18)
theorem aOo (kk18 : fF) (q0 : fF) (q1 : dJ) : D175 r n aBw (xs x0 0 (K4 q1 2 3 6 7)) (K6 q0 2 3 6 7 19 20) = fun (env : aZ) (h : Hp) =>
 bnd (aA (env 6) h) fun v1 h1 =>
 bnd (aJ 1 v1 (env 20) h1) fun v2 h2 =>
 bnd (aG 1 v2 (.i .i64 (Int.negSucc 0)) h2) fun _ h3 =>
 bnd (aD .eql (env 20) (aE 0) h3) fun v4 h4 =>
 bnd (gD v4 false (some ((env 20), h4)) h4) fun v5 h5 =>
 bnd (gD v4 false (aD .gtr v5 (aE 1) h5) h5) fun v6 h6 =>
 bnd (gD v4 false (some (v6, h6)) h6) fun v7 h7 =>
 bnd (gD v7 true (aA (env 2) h7) h7) fun v8 h8 =>
 bnd (gD v7 true (some ((env 20), h8)) h8) fun v9 h9 =>
 bnd (gD v7 true (aD .sub v9 (aE 2) h9) h9) fun v10 h10 =>
 bnd (gD v7 true (aJ 3 v8 v10 h10) h10) fun v11 h11 =>
 bnd (gD v7 true (aB 0 v11 h11) h11) fun v12 h12 =>
 bnd (gD v7 true (aA v12 h12) h12) fun v13 h13 =>
 bnd (gD v7 true (aD .eql v13 (aE 18) h13) h13) fun v14 h14 =>
 bnd (gD v4 false (aP v7 v14 (.b false) h14) h14) fun v15 h15 =>
 bnd (gD v4 false (some (v15, h15)) h15) fun v16 h16 =>
 bnd (gD v16 true (aA (env 3) h16) h16) fun v17 h17 =>
 bnd (gD v16 true (some ((env 20), h17)) h17) fun v18 h18 =>
 bnd (gD v16 true (aJ 1 v17 v18 h18) h18) fun v19 h19 =>
 bnd (gD v16 true (aA v19 h19) h19) fun v20 h20 =>
 bnd (gD v16 true (some ((env 20), h20)) h20) fun v21 h21 =>
 bnd (gD v16 true (aD .sub v21 (aE 2) h21) h21) fun v22 h22 =>
 bnd (gD v16 true (aD .eql v20 v22 h22) h22) fun v23 h23 =>
 bnd (gD v4 false (aP v16 v23 (.b false) h23) h23) fun v24 h24 =>
 bnd (aP v4 (.b true) v24 h24) fun v25 h25 =>
 aS v25 (
 bnd (aA (env 6) h25) fun v26 h26 =>
 bnd (aJ 1 v26 (env 20) h26) fun v27 h27 =>
 bnd (aG 1 v27 (aE 0) h27) fun _ h28 =>
 bnd (aA (env 7) h28) fun v29 h29 =>
 bnd (aL [(aE 0)] 1 [(0, 1, (env 20))] h29) fun v30 h30 =>
 bnd (bA 1 8 v29 v30 h30) fun v31 h31 =>
 bnd (aG 1 (env 7) v31 h31) fun _ h32 =>
      q0 (env 2) (env 3) (env 6) (env 7) (env 19) (env 20) h32) (
      q0 (env 2) (env 3) (env 6) (env 7) (env 19) (env 20) h25) := by kernel_rfl
theorem aMi (kk18 : fF) : (fun (env : aZ) (h : Hp) =>
 bnd (aA (env 6) h) fun v1 h1 =>
 bnd (aJ 1 v1 (env 20) h1) fun v2 h2 =>
 bnd (aG 1 v2 (.i .i64 (Int.negSucc 0)) h2) fun _ h3 =>
 bnd (aD .eql (env 20) (aE 0) h3) fun v4 h4 =>
 bnd (gD v4 false (some ((env 20), h4)) h4) fun v5 h5 =>
 bnd (gD v4 false (aD .gtr v5 (aE 1) h5) h5) fun v6 h6 =>
 bnd (gD v4 false (some (v6, h6)) h6) fun v7 h7 =>
 bnd (gD v7 true (aA (env 2) h7) h7) fun v8 h8 =>
 bnd (gD v7 true (some ((env 20), h8)) h8) fun v9 h9 =>
 bnd (gD v7 true (aD .sub v9 (aE 2) h9) h9) fun v10 h10 =>
 bnd (gD v7 true (aJ 3 v8 v10 h10) h10) fun v11 h11 =>
 bnd (gD v7 true (aB 0 v11 h11) h11) fun v12 h12 =>
 bnd (gD v7 true (aA v12 h12) h12) fun v13 h13 =>
 bnd (gD v7 true (aD .eql v13 (aE 18) h13) h13) fun v14 h14 =>
 bnd (gD v4 false (aP v7 v14 (.b false) h14) h14) fun v15 h15 =>
 bnd (gD v4 false (some (v15, h15)) h15) fun v16 h16 =>
 bnd (gD v16 true (aA (env 3) h16) h16) fun v17 h17 =>
 bnd (gD v16 true (some ((env 20), h17)) h17) fun v18 h18 =>
 bnd (gD v16 true (aJ 1 v17 v18 h18) h18) fun v19 h19 =>
 bnd (gD v16 true (aA v19 h19) h19) fun v20 h20 =>
 bnd (gD v16 true (some ((env 20), h20)) h20) fun v21 h21 =>
 bnd (gD v16 true (aD .sub v21 (aE 2) h21) h21) fun v22 h22 =>
 bnd (gD v16 true (aD .eql v20 v22 h22) h22) fun v23 h23 =>
 bnd (gD v4 false (aP v16 v23 (.b false) h23) h23) fun v24 h24 =>
 bnd (aP v4 (.b true) v24 h24) fun v25 h25 =>
 aS v25 (
 bnd (aA (env 6) h25) fun v26 h26 =>
 bnd (aJ 1 v26 (env 20) h26) fun v27 h27 =>
 bnd (aG 1 v27 (aE 0) h27) fun _ h28 =>
 bnd (aA (env 7) h28) fun v29 h29 =>
 bnd (aL [(aE 0)] 1 [(0, 1, (env 20))] h29) fun v30 h30 =>
 bnd (bA 1 8 v29 v30 h30) fun v31 h31 =>
 bnd (aG 1 (env 7) v31 h31) fun _ h32 =>
      kS r n kk18 (env 2) (env 3) (env 6) (env 7) (env 19) (env 20) h32) (
      kS r n kk18 (env 2) (env 3) (env 6) (env 7) (env 19) (env 20) h25)) = (K6 (sR r n kk18) 2 3 6 7 19 20) := by kernel_rfl
theorem bOd (kk18 : fF) : D175 r n tZ (xs x0 0 (K4 (cO r n) 2 3 6 7)) (K6 kk18 2 3 6 7 19 20) = (K6 (sR r n kk18) 2 3 6 7 19 20) :=
 (aUb r n kk18).trans
 ((aOo r n kk18 (kS r n kk18) (cO r n)).trans (aMi r n kk18))
theorem aRu (kk18 : fF) : D175 r n uK (xs x0 0 (K4 (cO r n) 2 3 6 7)) (K6 kk18 2 3 6 7 19 20) = D175 r n aUo (xs x0 0 (K4 (cO r n) 2 3 6 7)) (K6 (sR r n kk18) 2 3 6 7 19 20) :=
 congrArg (fun k => D175 r n aUo (xs x0 0 (K4 (cO r n) 2 3 6 7)) k) (bOd r n kk18)
theorem bNi (kk18 : fF) : D175 r n uK (xs x0 0 (K4 (cO r n) 2 3 6 7)) (K6 kk18 2 3 6 7 19 20) = (K7 (aCp r n kk18) 2 3 6 7 19 20 21) :=
 (aRu r n kk18).trans
 ((by kernel_rfl))
theorem aQi (kk18 : fF) : D175 r n iA (xs x0 0 (K4 (cO r n) 2 3 6 7)) (K6 kk18 2 3 6 7 19 20) = D175 r n aYv (xs x0 0 (K4 (cO r n) 2 3 6 7)) (K7 (aCp r n kk18) 2 3 6 7 19 20 21) :=
 congrArg (fun k => D175 r n aYv (xs x0 0 (K4 (cO r n) 2 3 6 7)) k) (bNi r n kk18)
theorem bFa (kk18 : fF) : D175 r n iA (xs x0 0 (K4 (cO r n) 2 3 6 7)) (K6 kk18 2 3 6 7 19 20) = (K6 (aLm r n kk18) 2 3 6 7 19 20) :=
 (aQi r n kk18).trans
 ((by kernel_rfl))
theorem bBs (m : Nat) : aN (fun kk => D175 r n iA (xs x0 0 (K4 (cO r n) 2 3 6 7)) kk) m = (K6 (pF r n m) 2 3 6 7 19 20) := by
 induction m with
 | zero => exact (by kernel_rfl : aN (fun kk => D175 r n iA (xs x0 0 (K4 (cO r n) 2 3 6 7)) kk) 0 = (K6 (pF r n 0) 2 3 6 7 19 20))
 | succ m ih =>
  refine (by kernel_rfl : aN (fun kk => D175 r n iA (xs x0 0 (K4 (cO r n) 2 3 6 7)) kk) (m + 1) = D175 r n iA (xs x0 0 (K4 (cO r n) 2 3 6 7)) (aN (fun kk => D175 r n iA (xs x0 0 (K4 (cO r n) 2 3 6 7)) kk) m)).trans ?_
  rw [ih]
  exact (bFa r n (pF r n m)).trans (by kernel_rfl)
theorem bGt : D175 r n sL (xs x0 0 (K4 (cO r n) 2 3 6 7)) (K4 (cO r n) 2 3 6 7) = (K6 (aYy r n) 2 3 6 7 19 20) :=
 (by kernel_rfl : D175 r n sL (xs x0 0 (K4 (cO r n) 2 3 6 7)) (K4 (cO r n) 2 3 6 7) = aN (fun kk => D175 r n iA (xs x0 0 (K4 (cO r n) 2 3 6 7)) kk) n).trans ((bBs r n n).trans (by kernel_rfl))
theorem cAe : D175 r n aCs x0 (K4 (cO r n) 2 3 6 7) = (K6 (aCg r n) 2 3 6 7 19 20) :=
 (by kernel_rfl : D175 r n aCs x0 (K4 (cO r n) 2 3 6 7) = D175 r n sL (xs x0 0 (K4 (cO r n) 2 3 6 7)) (K4 (cO r n) 2 3 6 7)).trans
 ((bGt r n).trans (by kernel_rfl))
theorem bCs : D175 r n aHw x0 r175 = D175 r n oR x0 (K4 (cO r n) 2 3 6 7) :=
 congrArg (fun k => D175 r n oR x0 k) (cOo r n)
theorem bCt : D175 r n oR x0 (K4 (cO r n) 2 3 6 7) = D175 r n aYn x0 (K6 (aCg r n) 2 3 6 7 19 20) :=
 congrArg (fun k => D175 r n aYn x0 k) (cAe r n)
theorem cOk : D175 r n aHw x0 r175 = (K4 (xY r n) 2 3 6 7) :=
 (bCs r n).trans
 ((bCt r n).trans
 ((by kernel_rfl)))
theorem bEp : D175 r n aCj x0 r175 = D175 r n aDv x0 (K4 (xY r n) 2 3 6 7) :=
 congrArg (fun k => D175 r n aDv x0 k) (cOk r n)
theorem bFx (q0 : dJ) : D175 r n aDv x0 (K4 q0 2 3 6 7) = fun (env : aZ) (h : Hp) =>
 bnd (bL [.l0] h) fun v1 h1 =>
  q0 (env 2) (env 3) (env 6) v1 h1 := by kernel_rfl
theorem aNi : (fun (env : aZ) (h : Hp) =>
 bnd (bL [.l0] h) fun v1 h1 =>
  xY r n (env 2) (env 3) (env 6) v1 h1) = (K3 (rG r n) 2 3 6) := by kernel_rfl
theorem cHs : D175 r n aCj x0 r175 = (K3 (rG r n) 2 3 6) :=
 (bEp r n).trans
 ((bFx r n (xY r n)).trans (aNi r n))
theorem bDd : D175 r n aBf x0 r175 = D175 r n aAy x0 (K3 (rG r n) 2 3 6) :=
 congrArg (fun k => D175 r n aAy x0 k) (cHs r n)
theorem bDv (q0 : mN) : D175 r n aAy x0 (K3 q0 2 3 6) = fun (env : aZ) (h : Hp) =>
 bnd (aA (env 2) h) fun v1 h1 =>
 bnd (bZ v1 h1) fun v2 h2 =>
 bnd (cK 1 8 [(aE 0)] v2 v2 h2) fun v3 h3 =>
 bnd (bL [.l0] h3) fun v4 h4 =>
 bnd (aG 1 v4 v3 h4) fun _ h5 =>
  q0 (env 2) (env 3) v4 h5 := by kernel_rfl
theorem aTk : (fun (env : aZ) (h : Hp) =>
 bnd (aA (env 2) h) fun v1 h1 =>
 bnd (bZ v1 h1) fun v2 h2 =>
 bnd (cK 1 8 [(aE 0)] v2 v2 h2) fun v3 h3 =>
 bnd (bL [.l0] h3) fun v4 h4 =>
 bnd (aG 1 v4 v3 h4) fun _ h5 =>
  rG r n (env 2) (env 3) v4 h5) = (K2 (qJ r n) 2 3) := by kernel_rfl
theorem cOu : D175 r n aQe x0 r175 = (K2 (qJ r n) 2 3) :=
 (by kernel_rfl : D175 r n aQe x0 r175 = D175 r n aBf x0 r175).trans
 ((bDd r n).trans
 ((bDv r n (rG r n)).trans (aTk r n)))
theorem cPg : D175 r n c175 x0 r175 = D175 r n aJr x0 (K2 (qJ r n) 2 3) :=
 congrArg (fun k => D175 r n aJr x0 k) (cOu r n)
theorem cNu (q0 : oK) : D175 r n aJr x0 (K2 q0 2 3) = fun (env : aZ) (h : Hp) =>
 bnd (bR (env 0) h) fun v1 h1 =>
 bnd (bR (env 1) h1) fun v2 h2 =>
  q0 v1 v2 h2 := by kernel_rfl
theorem bYi : (fun (env : aZ) (h : Hp) =>
 bnd (bR (env 0) h) fun v1 h1 =>
 bnd (bR (env 1) h1) fun v2 h2 =>
  qJ r n v1 v2 h2) = (K2 (s175 r n) 0 1) := by kernel_rfl
theorem dJg : D175 r n c175 x0 r175 = (K2 (s175 r n) 0 1) :=
 (cPg r n).trans
 ((cNu r n (qJ r n)).trans (bYi r n))
theorem cWm : aF CF r n 175 args h = s175 r n (aR args 0) (aR args 1) h :=
 (by kernel_rfl : aF CF r n 175 args h = D175 r n c175 x0 r175 (aH args) h).trans ((congrFun (congrFun (dJg r n) (aH args)) h).trans (by kernel_rfl))
noncomputable def s177 (r : RT) (n : Nat) (x0 : DV) (h0 : Hp) : aI :=
 bnd (r 148 [x0] h0) fun v1 h1 =>
 bnd (gD v1 false (some (x0, h1)) h1) fun v2 h2 =>
 bnd (gD v1 false (r 151 [v2] h2) h2) fun v3 h3 =>
 bnd (aP v1 (.b true) v3 h3) fun v4 h4 =>
 some (v4, h4)
noncomputable abbrev c177 : Code := cf Tryz.f177
noncomputable abbrev r177 : K := aU CF Tryz.f177
noncomputable def D177 (r : RT) (n : Nat) (c : Code) (X : Nat → K) (k : K) : K := aM CF r 9 n c X r177 k
theorem dDl : D177 r n c177 x0 r177 = (K1 (s177 r n) 0) :=
 (by kernel_rfl)
theorem cTr : aF CF r n 177 args h = s177 r n (aR args 0) h :=
 (by kernel_rfl : aF CF r n 177 args h = D177 r n c177 x0 r177 (aH args) h).trans ((congrFun (congrFun (dDl r n) (aH args)) h).trans (by kernel_rfl))
end Go.Dd

namespace Go.Dd
open Go.Proofs
variable (r : RT) (n : Nat) (args : List DV) (h : Hp)
noncomputable def nN (r : RT) (n : Nat) (x2 : DV) (h0 : Hp) : aI :=
 bnd (bB jZ [] h0) fun v1 h1 =>
 bnd (aG 6 x2 v1 h1) fun _ h2 =>
 bnd (aK 6 x2 h2) fun v3 _ =>
 some (v3, h2)
noncomputable def qX (r : RT) (n : Nat) (x0 x2 : DV) (h0 : Hp) : aI :=
 bnd (r 137 [x0, (aE 0)] h0) fun v1 h1 =>
 bnd (bL [(aE 0), (.s []), (aE 0), (aE 0)] h1) fun v2 h2 =>
 bnd (aG 4 v2 v1 h2) fun _ h3 =>
 bnd (aO x0 h3) fun v4 h4 =>
 bnd (aB 3 v4 h4) fun v5 h5 =>
 bnd (aA v5 h5) fun v6 h6 =>
 bnd (aD .neq v6 (aE 0) h6) fun v7 h7 =>
 aS v7 (
  nN r n x2 h7) (
 bnd (aB 0 v2 h7) fun v8 h8 =>
 bnd (aA v8 h8) fun v9 h9 =>
 bnd (aD .eql v9 (aE 1) h9) fun v10 h10 =>
 aS v10 (
 bnd (r 134 [x0] h10) fun v11 h11 =>
 bnd (fN 1 v11 h11) fun v12 h12 =>
 bnd (bB jZ [(0, 1, (aE 5)), (1, 1, v12)] h12) fun v13 h13 =>
 bnd (aG 6 x2 v13 h13) fun _ h14 =>
 bnd (aK 6 x2 h14) fun v15 _ =>
 some (v15, h14)) (
 bnd (aB 0 v2 h10) fun v16 h16 =>
 bnd (aA v16 h16) fun v17 h17 =>
 bnd (aD .eql v17 (aE 7) h17) fun v18 h18 =>
 aS v18 (
 bnd (r 208 [x0, (.f 209 [x0] [])] h18) fun v19 h19 =>
 bnd (aG 6 x2 v19 h19) fun _ h20 =>
 bnd (aK 6 x2 h20) fun v21 _ =>
 some (v21, h20)) (
 bnd (r 133 [x0, (aE 10), (.s [40])] h18) fun v22 h22 =>
 aS v22 (
 bnd (r 208 [x0, (.f 210 [x0] [])] h22) fun v23 h23 =>
 bnd (aG 6 x2 v23 h23) fun _ h24 =>
 bnd (aK 6 x2 h24) fun v25 _ =>
 some (v25, h24)) (
 bnd (r 133 [x0, (aE 10), (.s [91])] h22) fun v26 h26 =>
 aS v26 (
 bnd (r 208 [x0, (.f 211 [x0] [])] h26) fun v27 h27 =>
 bnd (aG 6 x2 v27 h27) fun _ h28 =>
 bnd (aK 6 x2 h28) fun v29 _ =>
 some (v29, h28)) (
 bnd (aK 4 v2 h26) fun v30 h30 =>
 bnd (r 136 [x0, v30, (aE 13)] h30) fun v31 h31 =>
      nN r n x2 h31)))))
noncomputable def qU (r : RT) (n : Nat) (x0 x2 : DV) (h0 : Hp) : aI :=
 bnd (r 207 [x0] h0) fun v1 h1 =>
 bnd (aC 0 v1 h1) fun v2 h2 =>
 bnd (aC 1 v1 h2) fun v3 h3 =>
 bnd (bL jZ h3) fun v4 h4 =>
 bnd (aG 6 v4 v2 h4) fun _ h5 =>
 aS v3 (
 bnd (aK 6 v4 h5) fun v6 h6 =>
 bnd (aG 6 x2 v6 h6) fun _ h7 =>
 bnd (aK 6 x2 h7) fun v8 _ =>
 some (v8, h7)) (
  qX r n x0 x2 h5)
noncomputable def s182 (r : RT) (n : Nat) (x0 : DV) (h0 : Hp) : aI :=
 bnd (bL jZ h0) fun v1 h1 =>
  qU r n x0 v1 h1
noncomputable abbrev c182 : Code := cf Tryz.f182
noncomputable abbrev aCo : Code := cR c182
noncomputable abbrev aGc : Code := cR aCo
noncomputable abbrev cXm : Code := cR aGc
noncomputable abbrev aPj : Code := cL aGc
noncomputable abbrev aTn : Code := cL aCo
noncomputable abbrev aQu : Code := cL c182
noncomputable abbrev r182 : K := aU CF Tryz.f182
noncomputable def D182 (r : RT) (n : Nat) (c : Code) (X : Nat → K) (k : K) : K := aM CF r 55 n c X r182 k
theorem cCb : D182 r n cXm x0 r182 = (K1 (nN r n) 2) :=
 (by kernel_rfl)
theorem bFz : D182 r n aGc x0 r182 = D182 r n aPj x0 (K1 (nN r n) 2) :=
 congrArg (fun k => D182 r n aPj x0 k) (cCb r n)
theorem bZs (q0 : TT1) : D182 r n aPj x0 (K1 q0 2) = fun (env : aZ) (h : Hp) =>
 bnd (r 137 [(env 0), (aE 0)] h) fun v1 h1 =>
 bnd (bL [(aE 0), (.s []), (aE 0), (aE 0)] h1) fun v2 h2 =>
 bnd (aG 4 v2 v1 h2) fun _ h3 =>
 bnd (aO (env 0) h3) fun v4 h4 =>
 bnd (aB 3 v4 h4) fun v5 h5 =>
 bnd (aA v5 h5) fun v6 h6 =>
 bnd (aD .neq v6 (aE 0) h6) fun v7 h7 =>
 aS v7 (
   q0 (env 2) h7) (
 bnd (aB 0 v2 h7) fun v8 h8 =>
 bnd (aA v8 h8) fun v9 h9 =>
 bnd (aD .eql v9 (aE 1) h9) fun v10 h10 =>
 aS v10 (
 bnd (r 134 [(env 0)] h10) fun v11 h11 =>
 bnd (fN 1 v11 h11) fun v12 h12 =>
 bnd (bB jZ [(0, 1, (aE 5)), (1, 1, v12)] h12) fun v13 h13 =>
 bnd (aG 6 (env 2) v13 h13) fun _ h14 =>
 bnd (aK 6 (env 2) h14) fun v15 _ =>
 some (v15, h14)) (
 bnd (aB 0 v2 h10) fun v16 h16 =>
 bnd (aA v16 h16) fun v17 h17 =>
 bnd (aD .eql v17 (aE 7) h17) fun v18 h18 =>
 aS v18 (
 bnd (r 208 [(env 0), (.f 209 [(env 0)] [])] h18) fun v19 h19 =>
 bnd (aG 6 (env 2) v19 h19) fun _ h20 =>
 bnd (aK 6 (env 2) h20) fun v21 _ =>
 some (v21, h20)) (
 bnd (r 133 [(env 0), (aE 10), (.s [40])] h18) fun v22 h22 =>
 aS v22 (
 bnd (r 208 [(env 0), (.f 210 [(env 0)] [])] h22) fun v23 h23 =>
 bnd (aG 6 (env 2) v23 h23) fun _ h24 =>
 bnd (aK 6 (env 2) h24) fun v25 _ =>
 some (v25, h24)) (
 bnd (r 133 [(env 0), (aE 10), (.s [91])] h22) fun v26 h26 =>
 aS v26 (
 bnd (r 208 [(env 0), (.f 211 [(env 0)] [])] h26) fun v27 h27 =>
 bnd (aG 6 (env 2) v27 h27) fun _ h28 =>
 bnd (aK 6 (env 2) h28) fun v29 _ =>
 some (v29, h28)) (
 bnd (aK 4 v2 h26) fun v30 h30 =>
 bnd (r 136 [(env 0), v30, (aE 13)] h30) fun v31 h31 =>
       q0 (env 2) h31))))) := by kernel_rfl
theorem bEw : (fun (env : aZ) (h : Hp) =>
 bnd (r 137 [(env 0), (aE 0)] h) fun v1 h1 =>
 bnd (bL [(aE 0), (.s []), (aE 0), (aE 0)] h1) fun v2 h2 =>
 bnd (aG 4 v2 v1 h2) fun _ h3 =>
 bnd (aO (env 0) h3) fun v4 h4 =>
 bnd (aB 3 v4 h4) fun v5 h5 =>
 bnd (aA v5 h5) fun v6 h6 =>
 bnd (aD .neq v6 (aE 0) h6) fun v7 h7 =>
 aS v7 (
   nN r n (env 2) h7) (
 bnd (aB 0 v2 h7) fun v8 h8 =>
 bnd (aA v8 h8) fun v9 h9 =>
 bnd (aD .eql v9 (aE 1) h9) fun v10 h10 =>
 aS v10 (
 bnd (r 134 [(env 0)] h10) fun v11 h11 =>
 bnd (fN 1 v11 h11) fun v12 h12 =>
 bnd (bB jZ [(0, 1, (aE 5)), (1, 1, v12)] h12) fun v13 h13 =>
 bnd (aG 6 (env 2) v13 h13) fun _ h14 =>
 bnd (aK 6 (env 2) h14) fun v15 _ =>
 some (v15, h14)) (
 bnd (aB 0 v2 h10) fun v16 h16 =>
 bnd (aA v16 h16) fun v17 h17 =>
 bnd (aD .eql v17 (aE 7) h17) fun v18 h18 =>
 aS v18 (
 bnd (r 208 [(env 0), (.f 209 [(env 0)] [])] h18) fun v19 h19 =>
 bnd (aG 6 (env 2) v19 h19) fun _ h20 =>
 bnd (aK 6 (env 2) h20) fun v21 _ =>
 some (v21, h20)) (
 bnd (r 133 [(env 0), (aE 10), (.s [40])] h18) fun v22 h22 =>
 aS v22 (
 bnd (r 208 [(env 0), (.f 210 [(env 0)] [])] h22) fun v23 h23 =>
 bnd (aG 6 (env 2) v23 h23) fun _ h24 =>
 bnd (aK 6 (env 2) h24) fun v25 _ =>
 some (v25, h24)) (
 bnd (r 133 [(env 0), (aE 10), (.s [91])] h22) fun v26 h26 =>
 aS v26 (
 bnd (r 208 [(env 0), (.f 211 [(env 0)] [])] h26) fun v27 h27 =>
 bnd (aG 6 (env 2) v27 h27) fun _ h28 =>
 bnd (aK 6 (env 2) h28) fun v29 _ =>
 some (v29, h28)) (
 bnd (aK 4 v2 h26) fun v30 h30 =>
 bnd (r 136 [(env 0), v30, (aE 13)] h30) fun v31 h31 =>
       nN r n (env 2) h31)))))) = (K2 (qX r n) 0 2) := by kernel_rfl
theorem cHn : D182 r n aGc x0 r182 = (K2 (qX r n) 0 2) :=
 (bFz r n).trans
 ((bZs r n (nN r n)).trans (bEw r n))
theorem bRm : D182 r n aCo x0 r182 = D182 r n aTn x0 (K2 (qX r n) 0 2) :=
 congrArg (fun k => D182 r n aTn x0 k) (cHn r n)
theorem bNr (q0 : oK) : D182 r n aTn x0 (K2 q0 0 2) = fun (env : aZ) (h : Hp) =>
 bnd (r 207 [(env 0)] h) fun v1 h1 =>
 bnd (aC 0 v1 h1) fun v2 h2 =>
 bnd (aC 1 v1 h2) fun v3 h3 =>
 bnd (bL jZ h3) fun v4 h4 =>
 bnd (aG 6 v4 v2 h4) fun _ h5 =>
 aS v3 (
 bnd (aK 6 v4 h5) fun v6 h6 =>
 bnd (aG 6 (env 2) v6 h6) fun _ h7 =>
 bnd (aK 6 (env 2) h7) fun v8 _ =>
 some (v8, h7)) (
   q0 (env 0) (env 2) h5) := by kernel_rfl
theorem bEh : (fun (env : aZ) (h : Hp) =>
 bnd (r 207 [(env 0)] h) fun v1 h1 =>
 bnd (aC 0 v1 h1) fun v2 h2 =>
 bnd (aC 1 v1 h2) fun v3 h3 =>
 bnd (bL jZ h3) fun v4 h4 =>
 bnd (aG 6 v4 v2 h4) fun _ h5 =>
 aS v3 (
 bnd (aK 6 v4 h5) fun v6 h6 =>
 bnd (aG 6 (env 2) v6 h6) fun _ h7 =>
 bnd (aK 6 (env 2) h7) fun v8 _ =>
 some (v8, h7)) (
   qX r n (env 0) (env 2) h5)) = (K2 (qU r n) 0 2) := by kernel_rfl
theorem cFy : D182 r n aCo x0 r182 = (K2 (qU r n) 0 2) :=
 (bRm r n).trans
 ((bNr r n (qX r n)).trans (bEh r n))
theorem cVg : D182 r n c182 x0 r182 = D182 r n aQu x0 (K2 (qU r n) 0 2) :=
 congrArg (fun k => D182 r n aQu x0 k) (cFy r n)
theorem cWs (q0 : oK) : D182 r n aQu x0 (K2 q0 0 2) = fun (env : aZ) (h : Hp) =>
 bnd (bL jZ h) fun v1 h1 =>
  q0 (env 0) v1 h1 := by kernel_rfl
theorem cFk : (fun (env : aZ) (h : Hp) =>
 bnd (bL jZ h) fun v1 h1 =>
  qU r n (env 0) v1 h1) = (K1 (s182 r n) 0) := by kernel_rfl
theorem dHp : D182 r n c182 x0 r182 = (K1 (s182 r n) 0) :=
 (cVg r n).trans
 ((cWs r n (qU r n)).trans (cFk r n))
theorem cZx : aF CF r n 182 args h = s182 r n (aR args 0) h :=
 (by kernel_rfl : aF CF r n 182 args h = D182 r n c182 x0 r182 (aH args) h).trans ((congrFun (congrFun (dHp r n) (aH args)) h).trans (by kernel_rfl))
noncomputable def eT (r : RT) (n : Nat) (h0 : Hp) : aI :=
 some ((.i .i64 (Int.negSucc 0)), h0)
noncomputable def aUy (r : RT) (n : Nat) (kk4 : dJ) (x0 x1 x7 x8 : DV) (h0 : Hp) : aI :=
 bnd (aD .lss x8 x7 h0) fun v1 h1 =>
 aS v1 (
 bnd (aJ 4 x0 x8 h1) fun v2 h2 =>
 bnd (aK 4 v2 h2) fun v3 h3 =>
 bnd (cX CF r x1 [v3] h3) fun v4 h4 =>
 aS v4 (
 some (x8, h4)) (
 bnd (aD .add x8 (aE 1) h4) fun v5 h5 =>
    kk4 x0 x1 x7 v5 h5)) (
      eT r n h1)
noncomputable def sG (r : RT) (n : Nat) (m : Nat) : dJ :=
 Nat.rec (motive := fun _ => dJ) (fun _ _ _ _ _ => none) (fun _ ih => aUy r n ih) m
noncomputable def bLm (r : RT) (n : Nat) : dJ := sG r n n
noncomputable def aTw (r : RT) (n : Nat) (x0 x1 x7 x8 : DV) (h0 : Hp) : aI :=
 bLm r n x0 x1 x7 x8 h0
noncomputable def aSq (r : RT) (n : Nat) (x0 x1 : DV) (h0 : Hp) : aI :=
 bnd (bZ x0 h0) fun v1 h1 =>
  aTw r n x0 x1 v1 (aE 0) h1
noncomputable def s185 (r : RT) (n : Nat) (x0 x1 : DV) (h0 : Hp) : aI :=
 aSq r n x0 x1 h0
noncomputable abbrev c185 : Code := cf Tryz.f185
noncomputable abbrev aIj : Code := cR c185
noncomputable abbrev cRb : Code := cR aIj
noncomputable abbrev wJ : Code := cL aIj
noncomputable abbrev aPz : Code := cR wJ
noncomputable abbrev aHb : Code := cL aPz
noncomputable abbrev nZ : Code := cL aHb
noncomputable abbrev bVb : Code := cL wJ
noncomputable abbrev bIh : Code := cL c185
noncomputable abbrev r185 : K := aU CF Tryz.f185
noncomputable def D185 (r : RT) (n : Nat) (c : Code) (X : Nat → K) (k : K) : K := aM CF r 19 n c X r185 k
theorem cGh : D185 r n cRb x0 r185 = (K0 (eT r n)) :=
 (by kernel_rfl)
theorem bQq (kk4 : dJ) : D185 r n nZ (xs x0 0 (K0 (eT r n))) (K4 kk4 0 1 7 8) = (K4 (aUy r n kk4) 0 1 7 8) :=
 (by kernel_rfl)
theorem bIo (m : Nat) : aN (fun kk => D185 r n nZ (xs x0 0 (K0 (eT r n))) kk) m = (K4 (sG r n m) 0 1 7 8) := by
 induction m with
 | zero => exact (by kernel_rfl : aN (fun kk => D185 r n nZ (xs x0 0 (K0 (eT r n))) kk) 0 = (K4 (sG r n 0) 0 1 7 8))
 | succ m ih =>
  refine (by kernel_rfl : aN (fun kk => D185 r n nZ (xs x0 0 (K0 (eT r n))) kk) (m + 1) = D185 r n nZ (xs x0 0 (K0 (eT r n))) (aN (fun kk => D185 r n nZ (xs x0 0 (K0 (eT r n))) kk) m)).trans ?_
  rw [ih]
  exact (bQq r n (sG r n m)).trans (by kernel_rfl)
theorem cCh : D185 r n aHb (xs x0 0 (K0 (eT r n))) (K0 (eT r n)) = (K4 (bLm r n) 0 1 7 8) :=
 (by kernel_rfl : D185 r n aHb (xs x0 0 (K0 (eT r n))) (K0 (eT r n)) = aN (fun kk => D185 r n nZ (xs x0 0 (K0 (eT r n))) kk) n).trans ((bIo r n n).trans (by kernel_rfl))
theorem cJf : D185 r n aPz x0 (K0 (eT r n)) = (K4 (aTw r n) 0 1 7 8) :=
 (by kernel_rfl : D185 r n aPz x0 (K0 (eT r n)) = D185 r n aHb (xs x0 0 (K0 (eT r n))) (K0 (eT r n))).trans
 ((cCh r n).trans (by kernel_rfl))
theorem bKt : D185 r n aIj x0 r185 = D185 r n wJ x0 (K0 (eT r n)) :=
 congrArg (fun k => D185 r n wJ x0 k) (cGh r n)
theorem bGv : D185 r n wJ x0 (K0 (eT r n)) = D185 r n bVb x0 (K4 (aTw r n) 0 1 7 8) :=
 congrArg (fun k => D185 r n bVb x0 k) (cJf r n)
theorem cOq : D185 r n aIj x0 r185 = (K2 (aSq r n) 0 1) :=
 (bKt r n).trans
 ((bGv r n).trans
 ((by kernel_rfl)))
theorem cYs : D185 r n c185 x0 r185 = D185 r n bIh x0 (K2 (aSq r n) 0 1) :=
 congrArg (fun k => D185 r n bIh x0 k) (cOq r n)
theorem dFq : D185 r n c185 x0 r185 = (K2 (s185 r n) 0 1) :=
 (cYs r n).trans
 ((by kernel_rfl))
theorem dBv : aF CF r n 185 args h = s185 r n (aR args 0) (aR args 1) h :=
 (by kernel_rfl : aF CF r n 185 args h = D185 r n c185 x0 r185 (aH args) h).trans ((congrFun (congrFun (dFq r n) (aH args)) h).trans (by kernel_rfl))
noncomputable def s186 (r : RT) (n : Nat) (x0 x1 : DV) (h0 : Hp) : aI :=
 bnd (bR x0 h0) fun v1 h1 =>
 bnd (aB 0 v1 h1) fun v2 h2 =>
 bnd (aA v2 h2) fun v3 h3 =>
 bnd (aA x1 h3) fun v4 h4 =>
 bnd (fO .eql v3 v4 h4) fun v5 h5 =>
 some (v5, h5)
noncomputable abbrev c186 : Code := cf Tryz.f186
noncomputable abbrev r186 : K := aU CF Tryz.f186
noncomputable def D186 (r : RT) (n : Nat) (c : Code) (X : Nat → K) (k : K) : K := aM CF r 8 n c X r186 k
theorem dDz : D186 r n c186 x0 r186 = (K2 (s186 r n) 0 1) :=
 (by kernel_rfl)
theorem dAl : aF CF r n 186 args h = s186 r n (aR args 0) (aR args 1) h :=
 (by kernel_rfl : aF CF r n 186 args h = D186 r n c186 x0 r186 (aH args) h).trans ((congrFun (congrFun (dDz r n) (aH args)) h).trans (by kernel_rfl))
noncomputable def eO (r : RT) (n : Nat) (h0 : Hp) : aI :=
 some ((.i .i64 (Int.negSucc 0)), h0)
noncomputable def aXg (r : RT) (n : Nat) (kk4 : dJ) (x0 x1 x7 x8 : DV) (h0 : Hp) : aI :=
 bnd (aD .lss x8 x7 h0) fun v1 h1 =>
 aS v1 (
 bnd (aJ 4 x0 x8 h1) fun v2 h2 =>
 bnd (aK 4 v2 h2) fun v3 h3 =>
 bnd (cX CF r x1 [v3] h3) fun v4 h4 =>
 aS v4 (
 some (x8, h4)) (
 bnd (aD .add x8 (aE 1) h4) fun v5 h5 =>
    kk4 x0 x1 x7 v5 h5)) (
      eO r n h1)
noncomputable def sV (r : RT) (n : Nat) (m : Nat) : dJ :=
 Nat.rec (motive := fun _ => dJ) (fun _ _ _ _ _ => none) (fun _ ih => aXg r n ih) m
noncomputable def bSq (r : RT) (n : Nat) : dJ := sV r n n
noncomputable def aSh (r : RT) (n : Nat) (x0 x1 x7 x8 : DV) (h0 : Hp) : aI :=
 bSq r n x0 x1 x7 x8 h0
noncomputable def aPf (r : RT) (n : Nat) (x0 x1 : DV) (h0 : Hp) : aI :=
 bnd (bZ x0 h0) fun v1 h1 =>
  aSh r n x0 x1 v1 (aE 0) h1
noncomputable def s187 (r : RT) (n : Nat) (x0 x1 : DV) (h0 : Hp) : aI :=
 aPf r n x0 x1 h0
noncomputable abbrev c187 : Code := cf Tryz.f187
noncomputable abbrev aHo : Code := cR c187
noncomputable abbrev dBk : Code := cR aHo
noncomputable abbrev wE : Code := cL aHo
noncomputable abbrev aNs : Code := cR wE
noncomputable abbrev aFh : Code := cL aNs
noncomputable abbrev nX : Code := cL aFh
noncomputable abbrev bMw : Code := cL wE
noncomputable abbrev bSz : Code := cL c187
noncomputable abbrev r187 : K := aU CF Tryz.f187
noncomputable def D187 (r : RT) (n : Nat) (c : Code) (X : Nat → K) (k : K) : K := aM CF r 19 n c X r187 k
theorem cBf : D187 r n dBk x0 r187 = (K0 (eO r n)) :=
 (by kernel_rfl)
theorem bJb (kk4 : dJ) : D187 r n nX (xs x0 0 (K0 (eO r n))) (K4 kk4 0 1 7 8) = (K4 (aXg r n kk4) 0 1 7 8) :=
 (by kernel_rfl)
theorem bZy (m : Nat) : aN (fun kk => D187 r n nX (xs x0 0 (K0 (eO r n))) kk) m = (K4 (sV r n m) 0 1 7 8) := by
 induction m with
 | zero => exact (by kernel_rfl : aN (fun kk => D187 r n nX (xs x0 0 (K0 (eO r n))) kk) 0 = (K4 (sV r n 0) 0 1 7 8))
 | succ m ih =>
  refine (by kernel_rfl : aN (fun kk => D187 r n nX (xs x0 0 (K0 (eO r n))) kk) (m + 1) = D187 r n nX (xs x0 0 (K0 (eO r n))) (aN (fun kk => D187 r n nX (xs x0 0 (K0 (eO r n))) kk) m)).trans ?_
  rw [ih]
  exact (bJb r n (sV r n m)).trans (by kernel_rfl)
theorem cFg : D187 r n aFh (xs x0 0 (K0 (eO r n))) (K0 (eO r n)) = (K4 (bSq r n) 0 1 7 8) :=
 (by kernel_rfl : D187 r n aFh (xs x0 0 (K0 (eO r n))) (K0 (eO r n)) = aN (fun kk => D187 r n nX (xs x0 0 (K0 (eO r n))) kk) n).trans ((bZy r n n).trans (by kernel_rfl))
theorem cNd : D187 r n aNs x0 (K0 (eO r n)) = (K4 (aSh r n) 0 1 7 8) :=
 (by kernel_rfl : D187 r n aNs x0 (K0 (eO r n)) = D187 r n aFh (xs x0 0 (K0 (eO r n))) (K0 (eO r n))).trans
 ((cFg r n).trans (by kernel_rfl))
theorem bRc : D187 r n aHo x0 r187 = D187 r n wE x0 (K0 (eO r n)) :=
 congrArg (fun k => D187 r n wE x0 k) (cBf r n)
theorem bGh : D187 r n wE x0 (K0 (eO r n)) = D187 r n bMw x0 (K4 (aSh r n) 0 1 7 8) :=
 congrArg (fun k => D187 r n bMw x0 k) (cNd r n)
theorem cEp : D187 r n aHo x0 r187 = (K2 (aPf r n) 0 1) :=
 (bRc r n).trans
 ((bGh r n).trans
 ((by kernel_rfl)))
theorem dAz : D187 r n c187 x0 r187 = D187 r n bSz x0 (K2 (aPf r n) 0 1) :=
 congrArg (fun k => D187 r n bSz x0 k) (cEp r n)
theorem dDb : D187 r n c187 x0 r187 = (K2 (s187 r n) 0 1) :=
 (dAz r n).trans
 ((by kernel_rfl))
theorem cXk : aF CF r n 187 args h = s187 r n (aR args 0) (aR args 1) h :=
 (by kernel_rfl : aF CF r n 187 args h = D187 r n c187 x0 r187 (aH args) h).trans ((congrFun (congrFun (dDb r n) (aH args)) h).trans (by kernel_rfl))
noncomputable def s188 (r : RT) (n : Nat) (x0 x1 : DV) (h0 : Hp) : aI :=
 bnd (bR x0 h0) fun v1 h1 =>
 bnd (aK 4 v1 h1) fun v2 h2 =>
 bnd (aK 4 x1 h2) fun v3 h3 =>
 bnd (r 189 [v2, v3] h3) fun v4 h4 =>
 some (v4, h4)
noncomputable abbrev c188 : Code := cf Tryz.f188
noncomputable abbrev r188 : K := aU CF Tryz.f188
noncomputable def D188 (r : RT) (n : Nat) (c : Code) (X : Nat → K) (k : K) : K := aM CF r 7 n c X r188 k
theorem dJv : D188 r n c188 x0 r188 = (K2 (s188 r n) 0 1) :=
 (by kernel_rfl)
theorem cUd : aF CF r n 188 args h = s188 r n (aR args 0) (aR args 1) h :=
 (by kernel_rfl : aF CF r n 188 args h = D188 r n c188 x0 r188 (aH args) h).trans ((congrFun (congrFun (dJv r n) (aH args)) h).trans (by kernel_rfl))
noncomputable def s189 (r : RT) (n : Nat) (x0 x1 : DV) (h0 : Hp) : aI :=
 bnd (bR x0 h0) fun v1 h1 =>
 bnd (bR x1 h1) fun v2 h2 =>
 bnd (aB 0 v1 h2) fun v3 h3 =>
 bnd (aA v3 h3) fun v4 h4 =>
 bnd (aB 0 v2 h4) fun v5 h5 =>
 bnd (aA v5 h5) fun v6 h6 =>
 bnd (aD .eql v4 v6 h6) fun v7 h7 =>
 bnd (gD v7 true (aB 1 v1 h7) h7) fun v8 h8 =>
 bnd (gD v7 true (aA v8 h8) h8) fun v9 h9 =>
 bnd (gD v7 true (aB 1 v2 h9) h9) fun v10 h10 =>
 bnd (gD v7 true (aA v10 h10) h10) fun v11 h11 =>
 bnd (gD v7 true (fO .eql v9 v11 h11) h11) fun v12 h12 =>
 bnd (aP v7 v12 (.b false) h12) fun v13 h13 =>
 bnd (gD v13 true (aB 2 v1 h13) h13) fun v14 h14 =>
 bnd (gD v13 true (aA v14 h14) h14) fun v15 h15 =>
 bnd (gD v13 true (aB 2 v2 h15) h15) fun v16 h16 =>
 bnd (gD v13 true (aA v16 h16) h16) fun v17 h17 =>
 bnd (gD v13 true (aD .eql v15 v17 h17) h17) fun v18 h18 =>
 bnd (aP v13 v18 (.b false) h18) fun v19 h19 =>
 bnd (gD v19 true (aB 3 v1 h19) h19) fun v20 h20 =>
 bnd (gD v19 true (aA v20 h20) h20) fun v21 h21 =>
 bnd (gD v19 true (aB 3 v2 h21) h21) fun v22 h22 =>
 bnd (gD v19 true (aA v22 h22) h22) fun v23 h23 =>
 bnd (gD v19 true (r 213 [v21, v23, (.f 189 [] [])] h23) h23) fun v24 h24 =>
 bnd (aP v19 v24 (.b false) h24) fun v25 h25 =>
 some (v25, h25)
noncomputable abbrev c189 : Code := cf Tryz.f189
noncomputable abbrev r189 : K := aU CF Tryz.f189
noncomputable def D189 (r : RT) (n : Nat) (c : Code) (X : Nat → K) (k : K) : K := aM CF r 31 n c X r189 k
theorem dHx : D189 r n c189 x0 r189 = (K2 (s189 r n) 0 1) :=
 (by kernel_rfl)
theorem cSc : aF CF r n 189 args h = s189 r n (aR args 0) (aR args 1) h :=
 (by kernel_rfl : aF CF r n 189 args h = D189 r n c189 x0 r189 (aH args) h).trans ((congrFun (congrFun (dHx r n) (aH args)) h).trans (by kernel_rfl))
noncomputable def s191 (r : RT) (n : Nat) (x0 x1 : DV) (h0 : Hp) : aI :=
 bnd (bB [(aE 0), (.s []), (aE 0), .l0] [(0, 1, (aE 3)), (1, 1, x1)] h0) fun v1 h1 =>
 bnd (lK [x0, v1] h1) fun v2 h2 =>
 some (v2, h2)
noncomputable abbrev c191 : Code := cf Tryz.f191
noncomputable abbrev r191 : K := aU CF Tryz.f191
noncomputable def D191 (r : RT) (n : Nat) (c : Code) (X : Nat → K) (k : K) : K := aM CF r 9 n c X r191 k
theorem dCx : D191 r n c191 x0 r191 = (K2 (s191 r n) 0 1) :=
 (by kernel_rfl)
theorem cSk : aF CF r n 191 args h = s191 r n (aR args 0) (aR args 1) h :=
 (by kernel_rfl : aF CF r n 191 args h = D191 r n c191 x0 r191 (aH args) h).trans ((congrFun (congrFun (dCx r n) (aH args)) h).trans (by kernel_rfl))
noncomputable def mK (r : RT) (n : Nat) (x2 x3 x5 x6 x9 : DV) (h0 : Hp) : aI :=
 bnd (aB 5 x3 h0) fun v1 h1 =>
 bnd (aA v1 h1) fun v2 h2 =>
 bnd (bZ v2 h2) fun v3 h3 =>
 bnd (aD .neq v3 x9 h3) fun v4 h4 =>
 bnd (gD v4 false (aB 5 x3 h4) h4) fun v5 h5 =>
 bnd (gD v4 false (aA v5 h5) h5) fun v6 h6 =>
 bnd (gD v4 false (cU 6 v6 (some (aE 1)) none h6) h6) fun v7 h7 =>
 bnd (gD v4 false (r 220 [v7, (.f 221 [] [])] h7) h7) fun v8 h8 =>
 bnd (aP v4 (.b true) v8 h8) fun v9 h9 =>
 aS v9 (
 some ((.b false), h9)) (
 bnd (aA x2 h9) fun v10 h10 =>
 bnd (aB 5 x3 h10) fun v11 h11 =>
 bnd (aA v11 h11) fun v12 h12 =>
 bnd (aJ 6 v12 (aE 0) h12) fun v13 h13 =>
 bnd (aK 6 v13 h13) fun v14 h14 =>
 bnd (r 140 [v10, v14] h14) fun v15 h15 =>
 bnd (aA x2 h15) fun v16 h16 =>
 bnd (r 165 [v16, (aE 17)] h16) fun v17 h17 =>
 bnd (cX CF r x5 [] h17) fun v18 h18 =>
 bnd (aA x2 h18) fun v19 h19 =>
 bnd (r 165 [v19, (aE 16)] h19) fun v20 h20 =>
 bnd (cX CF r v17 [] h20) fun v21 h21 =>
 bnd (cX CF r x6 [] h21) fun v22 h22 =>
 bnd (cX CF r v20 [] h22) fun v23 h23 =>
 some ((.b true), h23))
noncomputable def aOr (r : RT) (n : Nat) (x2 x3 x7 x8 x9 : DV) (h0 : Hp) : aI :=
 bnd (aB 1 x3 h0) fun v1 h1 =>
 bnd (aA v1 h1) fun v2 h2 =>
 bnd (fO .eql v2 (.s [105, 102, 84, 114, 117, 101, 58]) h2) fun v3 h3 =>
 aS v3 (
 bnd (cX CF r x7 [(aE 1)] h3) fun v4 h4 =>
 bnd (cX CF r x8 [(aE 2)] h4) fun v5 h5 =>
  mK r n x2 x3 v4 v5 x9 h5) (
 bnd (fO .eql v2 (.s [105, 102, 70, 97, 108, 115, 101, 58]) h3) fun v6 h6 =>
 aS v6 (
 bnd (cX CF r x8 [(aE 2)] h6) fun v7 h7 =>
 bnd (cX CF r x7 [(aE 1)] h7) fun v8 h8 =>
      mK r n x2 x3 v7 v8 x9 h8) (
 bnd (fO .eql v2 (.s [97, 110, 100, 58]) h6) fun v9 h9 =>
 aS v9 (
 bnd (cX CF r x7 [(aE 1)] h9) fun v10 h10 =>
 bnd (cX CF r x8 [(aE 4)] h10) fun v11 h11 =>
    mK r n x2 x3 v10 v11 x9 h11) (
 bnd (fO .eql v2 (.s [111, 114, 58]) h9) fun v12 h12 =>
 aS v12 (
 bnd (cX CF r x8 [(aE 3)] h12) fun v13 h13 =>
 bnd (cX CF r x7 [(aE 1)] h13) fun v14 h14 =>
     mK r n x2 x3 v13 v14 x9 h14) (
 bnd (fO .eql v2 (.s [105, 102, 84, 114, 117, 101, 58, 105, 102, 70, 97, 108, 115, 101, 58]) h12) fun v15 h15 =>
 aS v15 (
 bnd (cX CF r x7 [(aE 1)] h15) fun v16 h16 =>
 bnd (cX CF r x7 [(aE 2)] h16) fun v17 h17 =>
      mK r n x2 x3 v16 v17 (aE 3) h17) (
 bnd (fO .eql v2 (.s [105, 102, 70, 97, 108, 115, 101, 58, 105, 102, 84, 114, 117, 101, 58]) h15) fun v18 h18 =>
 aS v18 (
 bnd (cX CF r x7 [(aE 2)] h18) fun v19 h19 =>
 bnd (cX CF r x7 [(aE 1)] h19) fun v20 h20 =>
       mK r n x2 x3 v19 v20 (aE 3) h20) (
 some ((.b false), h18)))))))
noncomputable def aQc (r : RT) (n : Nat) (x2 x3 x7 x8 : DV) (h0 : Hp) : aI :=
 aOr r n x2 x3 x7 x8 (aE 2) h0
noncomputable def aNl (r : RT) (n : Nat) (x2 x3 x7 : DV) (h0 : Hp) : aI :=
 aQc r n x2 x3 x7 (.f 218 [] [x2]) h0
noncomputable def aRn (r : RT) (n : Nat) (x2 x3 : DV) (h0 : Hp) : aI :=
 aNl r n x2 x3 (.f 216 [] [x2, x3]) h0
noncomputable def yC (r : RT) (n : Nat) (x2 x3 : DV) (h0 : Hp) : aI :=
 aRn r n x2 x3 h0
noncomputable def s192 (r : RT) (n : Nat) (x0 x1 : DV) (h0 : Hp) : aI :=
 bnd (bR x0 h0) fun v1 h1 =>
 bnd (bR x1 h1) fun v2 h2 =>
  yC r n v1 v2 h2
noncomputable abbrev c192 : Code := cf Tryz.f192
noncomputable abbrev aIn : Code := cR c192
noncomputable abbrev aGy : Code := cR aIn
noncomputable abbrev aBp : Code := cR aGy
noncomputable abbrev aEw : Code := cR aBp
noncomputable abbrev aIq : Code := cR aEw
noncomputable abbrev cTw : Code := cR aIq
noncomputable abbrev bIu : Code := cL aIq
noncomputable abbrev bWd : Code := cL aEw
noncomputable abbrev bPq : Code := cL aBp
noncomputable abbrev aWq : Code := cL aGy
noncomputable abbrev aXq : Code := cL aIn
noncomputable abbrev aBe : Code := cL c192
noncomputable abbrev r192 : K := aU CF Tryz.f192
noncomputable def D192 (r : RT) (n : Nat) (c : Code) (X : Nat → K) (k : K) : K := aM CF r 81 n c X r192 k
theorem cGw : D192 r n cTw x0 r192 = (K5 (mK r n) 2 3 5 6 9) :=
 (by kernel_rfl)
theorem bXs : D192 r n aIq x0 r192 = D192 r n bIu x0 (K5 (mK r n) 2 3 5 6 9) :=
 congrArg (fun k => D192 r n bIu x0 k) (cGw r n)
theorem cPb : D192 r n aIq x0 r192 = (K5 (aOr r n) 2 3 7 8 9) :=
 (bXs r n).trans
 ((by kernel_rfl))
theorem bZq : D192 r n aEw x0 r192 = D192 r n bWd x0 (K5 (aOr r n) 2 3 7 8 9) :=
 congrArg (fun k => D192 r n bWd x0 k) (cPb r n)
theorem cEu : D192 r n aEw x0 r192 = (K4 (aQc r n) 2 3 7 8) :=
 (bZq r n).trans
 ((by kernel_rfl))
theorem bUx : D192 r n aBp x0 r192 = D192 r n bPq x0 (K4 (aQc r n) 2 3 7 8) :=
 congrArg (fun k => D192 r n bPq x0 k) (cEu r n)
theorem cFj : D192 r n aBp x0 r192 = (K3 (aNl r n) 2 3 7) :=
 (bUx r n).trans
 ((by kernel_rfl))
theorem bNc : D192 r n aGy x0 r192 = D192 r n aWq x0 (K3 (aNl r n) 2 3 7) :=
 congrArg (fun k => D192 r n aWq x0 k) (cFj r n)
theorem cGf : D192 r n aGy x0 r192 = (K2 (aRn r n) 2 3) :=
 (bNc r n).trans
 ((by kernel_rfl))
theorem bHv : D192 r n aIn x0 r192 = D192 r n aXq x0 (K2 (aRn r n) 2 3) :=
 congrArg (fun k => D192 r n aXq x0 k) (cGf r n)
theorem cKf : D192 r n aIn x0 r192 = (K2 (yC r n) 2 3) :=
 (bHv r n).trans
 ((by kernel_rfl))
theorem cXz : D192 r n c192 x0 r192 = D192 r n aBe x0 (K2 (yC r n) 2 3) :=
 congrArg (fun k => D192 r n aBe x0 k) (cKf r n)
theorem cRg (q0 : oK) : D192 r n aBe x0 (K2 q0 2 3) = fun (env : aZ) (h : Hp) =>
 bnd (bR (env 0) h) fun v1 h1 =>
 bnd (bR (env 1) h1) fun v2 h2 =>
  q0 v1 v2 h2 := by kernel_rfl
theorem cDl : (fun (env : aZ) (h : Hp) =>
 bnd (bR (env 0) h) fun v1 h1 =>
 bnd (bR (env 1) h1) fun v2 h2 =>
  yC r n v1 v2 h2) = (K2 (s192 r n) 0 1) := by kernel_rfl
theorem dJi : D192 r n c192 x0 r192 = (K2 (s192 r n) 0 1) :=
 (cXz r n).trans
 ((cRg r n (yC r n)).trans (cDl r n))
theorem cSh : aF CF r n 192 args h = s192 r n (aR args 0) (aR args 1) h :=
 (by kernel_rfl : aF CF r n 192 args h = D192 r n c192 x0 r192 (aH args) h).trans ((congrFun (congrFun (dJi r n) (aH args)) h).trans (by kernel_rfl))
noncomputable def s195 (r : RT) (n : Nat) (x0 x1 : DV) (h0 : Hp) : aI :=
 bnd (bR x1 h0) fun v1 h1 =>
 bnd (aK 6 v1 h1) fun v2 h2 =>
 bnd (r 223 [v2] h2) fun v3 h3 =>
 aS v3 (
 bnd (r 141 [x0, (aE 1), (aE 0), (aE 0)] h3) fun v4 h4 =>
 some ((aE 15), h4)) (
 bnd (aK 6 v1 h3) fun v5 h5 =>
 bnd (r 140 [x0, v5] h5) fun v6 h6 =>
 some ((aE 14), h6))
noncomputable abbrev c195 : Code := cf Tryz.f195
noncomputable abbrev r195 : K := aU CF Tryz.f195
noncomputable def D195 (r : RT) (n : Nat) (c : Code) (X : Nat → K) (k : K) : K := aM CF r 12 n c X r195 k
theorem dEj : D195 r n c195 x0 r195 = (K2 (s195 r n) 0 1) :=
 (by kernel_rfl)
theorem cRz : aF CF r n 195 args h = s195 r n (aR args 0) (aR args 1) h :=
 (by kernel_rfl : aF CF r n 195 args h = D195 r n c195 x0 r195 (aH args) h).trans ((congrFun (congrFun (dEj r n) (aH args)) h).trans (by kernel_rfl))
noncomputable def s196 (r : RT) (n : Nat) (x0 : DV) (h0 : Hp) : aI :=
 bnd (aO x0 h0) fun v1 h1 =>
 bnd (aB 0 v1 h1) fun v2 h2 =>
 bnd (aB 5 v2 h2) fun v3 h3 =>
 bnd (aA v3 h3) fun v4 h4 =>
 bnd (bZ v4 h4) fun v5 h5 =>
 some (v5, h5)
noncomputable abbrev c196 : Code := cf Tryz.f196
noncomputable abbrev r196 : K := aU CF Tryz.f196
noncomputable def D196 (r : RT) (n : Nat) (c : Code) (X : Nat → K) (k : K) : K := aM CF r 9 n c X r196 k
theorem dHj : D196 r n c196 x0 r196 = (K1 (s196 r n) 0) :=
 (by kernel_rfl)
theorem cWp : aF CF r n 196 args h = s196 r n (aR args 0) h :=
 (by kernel_rfl : aF CF r n 196 args h = D196 r n c196 x0 r196 (aH args) h).trans ((congrFun (congrFun (dHj r n) (aH args)) h).trans (by kernel_rfl))
noncomputable def dD (r : RT) (n : Nat) (x4 : DV) (h0 : Hp) : aI :=
 some (x4, h0)
noncomputable def aIo (r : RT) (n : Nat) (kk5 : dJ) (x0 x1 x4 x5 : DV) (h0 : Hp) : aI :=
 bnd (aD .add x5 (aE 1) h0) fun v1 h1 =>
  kk5 x0 x1 x4 v1 h1
noncomputable def aNg (r : RT) (n : Nat) (kk5 : dJ) (x0 x1 x4 x5 : DV) (h0 : Hp) : aI :=
 bnd (aA x1 h0) fun v1 h1 =>
 bnd (r 201 [v1, x5] h1) fun v2 h2 =>
 bnd (aC 0 v2 h2) fun v3 h3 =>
 bnd (aC 1 v2 h3) fun v4 h4 =>
 bnd (gD v4 true (some (x0, h4)) h4) fun v5 h5 =>
 bnd (gD v4 true (some (v3, h5)) h5) fun v6 h6 =>
 bnd (gD v4 true (aD .lss v5 v6 h6) h6) fun v7 h7 =>
 bnd (aP v4 v7 (.b false) h7) fun v8 h8 =>
 aS v8 (
  aIo r n kk5 x0 x1 x5 x5 h8) (
  aIo r n kk5 x0 x1 x4 x5 h8)
noncomputable def aXi (r : RT) (n : Nat) (kk5 : dJ) (x0 x1 x4 x5 : DV) (h0 : Hp) : aI :=
 bnd (aD .add x5 (aE 2) h0) fun v1 h1 =>
 bnd (aD .leq v1 x0 h1) fun v2 h2 =>
 aS v2 (
   aNg r n kk5 x0 x1 x4 x5 h2) (
   dD r n x4 h2)
noncomputable def uO (r : RT) (n : Nat) (m : Nat) : dJ :=
 Nat.rec (motive := fun _ => dJ) (fun _ _ _ _ _ => none) (fun _ ih => aXi r n ih) m
noncomputable def bTb (r : RT) (n : Nat) : dJ := uO r n n
noncomputable def aSp (r : RT) (n : Nat) (x0 x1 x4 x5 : DV) (h0 : Hp) : aI :=
 bTb r n x0 x1 x4 x5 h0
noncomputable def aQq (r : RT) (n : Nat) (x0 x1 x4 : DV) (h0 : Hp) : aI :=
 aSp r n x0 x1 x4 (aE 0) h0
noncomputable def aOv (r : RT) (n : Nat) (x0 x1 : DV) (h0 : Hp) : aI :=
 aQq r n x0 x1 (.i .i64 (Int.negSucc 0)) h0
noncomputable def s200 (r : RT) (n : Nat) (x0 x1 : DV) (h0 : Hp) : aI :=
 aOv r n x0 x1 h0
noncomputable abbrev c200 : Code := cf Tryz.f200
noncomputable abbrev aAr : Code := cR c200
noncomputable abbrev aFa : Code := cR aAr
noncomputable abbrev cUj : Code := cR aFa
noncomputable abbrev wH : Code := cL aFa
noncomputable abbrev aTq : Code := cR wH
noncomputable abbrev aEc : Code := cL aTq
noncomputable abbrev jW : Code := cL aEc
noncomputable abbrev aBo : Code := cR jW
noncomputable abbrev cZz : Code := cR aBo
noncomputable abbrev bAv : Code := cL aBo
noncomputable abbrev aWo : Code := cL jW
noncomputable abbrev aYt : Code := cL wH
noncomputable abbrev aWk : Code := cL aAr
noncomputable abbrev bAx : Code := cL c200
noncomputable abbrev r200 : K := aU CF Tryz.f200
noncomputable def D200 (r : RT) (n : Nat) (c : Code) (X : Nat → K) (k : K) : K := aM CF r 28 n c X r200 k
theorem cIx : D200 r n cUj x0 r200 = (K1 (dD r n) 4) :=
 (by kernel_rfl)
theorem cIp (kk5 : dJ) : D200 r n cZz (xs x0 0 (K1 (dD r n) 4)) (K4 kk5 0 1 4 5) = (K4 (aIo r n kk5) 0 1 4 5) :=
 (by kernel_rfl)
theorem bLn (kk5 : dJ) : D200 r n aBo (xs x0 0 (K1 (dD r n) 4)) (K4 kk5 0 1 4 5) = D200 r n bAv (xs x0 0 (K1 (dD r n) 4)) (K4 (aIo r n kk5) 0 1 4 5) :=
 congrArg (fun k => D200 r n bAv (xs x0 0 (K1 (dD r n) 4)) k) (cIp r n kk5)
theorem cLn (kk5 : dJ) : D200 r n aBo (xs x0 0 (K1 (dD r n) 4)) (K4 kk5 0 1 4 5) = (K4 (aNg r n kk5) 0 1 4 5) :=
 (bLn r n kk5).trans
 ((by kernel_rfl))
theorem bLl (kk5 : dJ) : D200 r n jW (xs x0 0 (K1 (dD r n) 4)) (K4 kk5 0 1 4 5) = D200 r n aWo (xs x0 0 (K1 (dD r n) 4)) (K4 (aNg r n kk5) 0 1 4 5) :=
 congrArg (fun k => D200 r n aWo (xs x0 0 (K1 (dD r n) 4)) k) (cLn r n kk5)
theorem bHm (kk5 : dJ) : D200 r n jW (xs x0 0 (K1 (dD r n) 4)) (K4 kk5 0 1 4 5) = (K4 (aXi r n kk5) 0 1 4 5) :=
 (bLl r n kk5).trans
 ((by kernel_rfl))
theorem bSc (m : Nat) : aN (fun kk => D200 r n jW (xs x0 0 (K1 (dD r n) 4)) kk) m = (K4 (uO r n m) 0 1 4 5) := by
 induction m with
 | zero => exact (by kernel_rfl : aN (fun kk => D200 r n jW (xs x0 0 (K1 (dD r n) 4)) kk) 0 = (K4 (uO r n 0) 0 1 4 5))
 | succ m ih =>
  refine (by kernel_rfl : aN (fun kk => D200 r n jW (xs x0 0 (K1 (dD r n) 4)) kk) (m + 1) = D200 r n jW (xs x0 0 (K1 (dD r n) 4)) (aN (fun kk => D200 r n jW (xs x0 0 (K1 (dD r n) 4)) kk) m)).trans ?_
  rw [ih]
  exact (bHm r n (uO r n m)).trans (by kernel_rfl)
theorem cDq : D200 r n aEc (xs x0 0 (K1 (dD r n) 4)) (K1 (dD r n) 4) = (K4 (bTb r n) 0 1 4 5) :=
 (by kernel_rfl : D200 r n aEc (xs x0 0 (K1 (dD r n) 4)) (K1 (dD r n) 4) = aN (fun kk => D200 r n jW (xs x0 0 (K1 (dD r n) 4)) kk) n).trans ((bSc r n n).trans (by kernel_rfl))
theorem cIk : D200 r n aTq x0 (K1 (dD r n) 4) = (K4 (aSp r n) 0 1 4 5) :=
 (by kernel_rfl : D200 r n aTq x0 (K1 (dD r n) 4) = D200 r n aEc (xs x0 0 (K1 (dD r n) 4)) (K1 (dD r n) 4)).trans
 ((cDq r n).trans (by kernel_rfl))
theorem bWf : D200 r n aFa x0 r200 = D200 r n wH x0 (K1 (dD r n) 4) :=
 congrArg (fun k => D200 r n wH x0 k) (cIx r n)
theorem bVa : D200 r n wH x0 (K1 (dD r n) 4) = D200 r n aYt x0 (K4 (aSp r n) 0 1 4 5) :=
 congrArg (fun k => D200 r n aYt x0 k) (cIk r n)
theorem cMv : D200 r n aFa x0 r200 = (K3 (aQq r n) 0 1 4) :=
 (bWf r n).trans
 ((bVa r n).trans
 ((by kernel_rfl)))
theorem bMb : D200 r n aAr x0 r200 = D200 r n aWk x0 (K3 (aQq r n) 0 1 4) :=
 congrArg (fun k => D200 r n aWk x0 k) (cMv r n)
theorem cOm : D200 r n aAr x0 r200 = (K2 (aOv r n) 0 1) :=
 (bMb r n).trans
 ((by kernel_rfl))
theorem cUt : D200 r n c200 x0 r200 = D200 r n bAx x0 (K2 (aOv r n) 0 1) :=
 congrArg (fun k => D200 r n bAx x0 k) (cOm r n)
theorem dJf : D200 r n c200 x0 r200 = (K2 (s200 r n) 0 1) :=
 (cUt r n).trans
 ((by kernel_rfl))
theorem cTp : aF CF r n 200 args h = s200 r n (aR args 0) (aR args 1) h :=
 (by kernel_rfl : aF CF r n 200 args h = D200 r n c200 x0 r200 (aH args) h).trans ((congrFun (congrFun (dJf r n) (aH args)) h).trans (by kernel_rfl))
noncomputable def s201 (r : RT) (n : Nat) (x0 x1 : DV) (h0 : Hp) : aI :=
 bnd (aJ 3 x0 x1 h0) fun v1 h1 =>
 bnd (aB 0 v1 h1) fun v2 h2 =>
 bnd (aA v2 h2) fun v3 h3 =>
 bnd (aD .neq v3 (aE 18) h3) fun v4 h4 =>
 bnd (gD v4 false (some (x1, h4)) h4) fun v5 h5 =>
 bnd (gD v4 false (aD .add v5 (aE 1) h5) h5) fun v6 h6 =>
 bnd (gD v4 false (some (x0, h6)) h6) fun v7 h7 =>
 bnd (gD v4 false (bZ v7 h7) h7) fun v8 h8 =>
 bnd (gD v4 false (aD .geq v6 v8 h8) h8) fun v9 h9 =>
 bnd (aP v4 (.b true) v9 h9) fun v10 h10 =>
 bnd (gD v10 false (some (x0, h10)) h10) fun v11 h11 =>
 bnd (gD v10 false (some (x1, h11)) h11) fun v12 h12 =>
 bnd (gD v10 false (aD .add v12 (aE 1) h12) h12) fun v13 h13 =>
 bnd (gD v10 false (aJ 3 v11 v13 h13) h13) fun v14 h14 =>
 bnd (gD v10 false (aB 0 v14 h14) h14) fun v15 h15 =>
 bnd (gD v10 false (aA v15 h15) h15) fun v16 h16 =>
 bnd (gD v10 false (aD .neq v16 (aE 16) h16) h16) fun v17 h17 =>
 bnd (aP v10 (.b true) v17 h17) fun v18 h18 =>
 aS v18 (
 some (.t [(aE 0), (.b false)], h18)) (
 bnd (aD .add x1 (aE 1) h18) fun v19 h19 =>
 bnd (aJ 3 x0 v19 h19) fun v20 h20 =>
 bnd (aK 3 v20 h20) fun v21 h21 =>
 bnd (r 202 [v21] h21) fun v22 h22 =>
 bnd (aD .add x1 (aE 2) h22) fun v23 h23 =>
 bnd (aD .gtr v22 v23 h23) fun v24 h24 =>
 some (.t [v22, v24], h24))
noncomputable abbrev c201 : Code := cf Tryz.f201
noncomputable abbrev r201 : K := aU CF Tryz.f201
noncomputable def D201 (r : RT) (n : Nat) (c : Code) (X : Nat → K) (k : K) : K := aM CF r 40 n c X r201 k
theorem dGd : D201 r n c201 x0 r201 = (K2 (s201 r n) 0 1) :=
 (by kernel_rfl)
theorem cXd : aF CF r n 201 args h = s201 r n (aR args 0) (aR args 1) h :=
 (by kernel_rfl : aF CF r n 201 args h = D201 r n c201 x0 r201 (aH args) h).trans ((congrFun (congrFun (dGd r n) (aH args)) h).trans (by kernel_rfl))
noncomputable def s202 (r : RT) (n : Nat) (x0 : DV) (h0 : Hp) : aI :=
 bnd (bR x0 h0) fun v1 h1 =>
 bnd (aB 0 v1 h1) fun v2 h2 =>
 bnd (aA v2 h2) fun v3 h3 =>
 bnd (r 224 [v3] h3) fun v4 h4 =>
 bnd (gX .not v4 h4) fun v5 h5 =>
 aS v5 (
 some ((.i .i64 (Int.negSucc 0)), h5)) (
 bnd (aB 1 v1 h5) fun v6 h6 =>
 bnd (aA v6 h6) fun v7 h7 =>
 bnd (aB 2 v1 h7) fun v8 h8 =>
 bnd (aA v8 h8) fun v9 h9 =>
 bnd (dN .shl v9 (.i .u64 (Int.ofNat 8)) h9) fun v10 h10 =>
 bnd (aD .add v7 v10 h10) fun v11 h11 =>
 some (v11, h11))
noncomputable abbrev c202 : Code := cf Tryz.f202
noncomputable abbrev r202 : K := aU CF Tryz.f202
noncomputable def D202 (r : RT) (n : Nat) (c : Code) (X : Nat → K) (k : K) : K := aM CF r 13 n c X r202 k
theorem dHh : D202 r n c202 x0 r202 = (K1 (s202 r n) 0) :=
 (by kernel_rfl)
theorem cZn : aF CF r n 202 args h = s202 r n (aR args 0) h :=
 (by kernel_rfl : aF CF r n 202 args h = D202 r n c202 x0 r202 (aH args) h).trans ((congrFun (congrFun (dHh r n) (aH args)) h).trans (by kernel_rfl))
noncomputable def s203 (r : RT) (n : Nat) (x0 x1 x2 x3 x4 x5 x6 x7 : DV) (h0 : Hp) : aI :=
 bnd (aA x3 h0) fun v1 h1 =>
 bnd (bZ v1 h1) fun v2 h2 =>
 bnd (aD .geq x0 v2 h2) fun v3 h3 =>
 bnd (gD v3 false (aA x4 h3) h3) fun v4 h4 =>
 bnd (gD v3 false (some (x0, h4)) h4) fun v5 h5 =>
 bnd (gD v3 false (aJ 1 v4 v5 h5) h5) fun v6 h6 =>
 bnd (gD v3 false (aA v6 h6) h6) fun v7 h7 =>
 bnd (gD v3 false (some (x1, h7)) h7) fun v8 h8 =>
 bnd (gD v3 false (aD .neq v7 v8 h8) h8) fun v9 h9 =>
 bnd (aP v3 (.b true) v9 h9) fun v10 h10 =>
 bnd (gD v10 false (aA x5 h10) h10) fun v11 h11 =>
 bnd (gD v10 false (some (x0, h11)) h11) fun v12 h12 =>
 bnd (gD v10 false (aJ 1 v11 v12 h12) h12) fun v13 h13 =>
 bnd (gD v10 false (aA v13 h13) h13) fun v14 h14 =>
 bnd (gD v10 false (aD .geq v14 (aE 0) h14) h14) fun v15 h15 =>
 bnd (gD v10 false (some (v15, h15)) h15) fun v16 h16 =>
 bnd (gD v16 true (aA x5 h16) h16) fun v17 h17 =>
 bnd (gD v16 true (some (x0, h17)) h17) fun v18 h18 =>
 bnd (gD v16 true (aJ 1 v17 v18 h18) h18) fun v19 h19 =>
 bnd (gD v16 true (aA v19 h19) h19) fun v20 h20 =>
 bnd (gD v16 true (some (x2, h20)) h20) fun v21 h21 =>
 bnd (gD v16 true (aD .neq v20 v21 h21) h21) fun v22 h22 =>
 bnd (gD v10 false (aP v16 v22 (.b false) h22) h22) fun v23 h23 =>
 bnd (aP v10 (.b true) v23 h23) fun v24 h24 =>
 aS v24 (
 bnd (aG 1 x6 (.b false) h24) fun _ h25 =>
 some (.t [], h25)) (
 bnd (aA x5 h24) fun v26 h26 =>
 bnd (aJ 1 v26 x0 h26) fun v27 h27 =>
 bnd (aA v27 h27) fun v28 h28 =>
 bnd (aD .lss v28 (aE 0) h28) fun v29 h29 =>
 aS v29 (
 bnd (aA x5 h29) fun v30 h30 =>
 bnd (aJ 1 v30 x0 h30) fun v31 h31 =>
 bnd (aG 1 v31 x2 h31) fun _ h32 =>
 bnd (aA x7 h32) fun v33 h33 =>
 bnd (aL [(aE 0)] 1 [(0, 1, x0)] h33) fun v34 h34 =>
 bnd (bA 1 8 v33 v34 h34) fun v35 h35 =>
 bnd (aG 1 x7 v35 h35) fun _ h36 =>
 some (.t [], h36)) (
 some (.t [], h29)))
noncomputable abbrev c203 : Code := cf Tryz.f203
noncomputable abbrev r203 : K := aU CF Tryz.f203
noncomputable def D203 (r : RT) (n : Nat) (c : Code) (X : Nat → K) (k : K) : K := aM CF r 53 n c X r203 k
theorem dHv : D203 r n c203 x0 r203 = (K8 (s203 r n) 0 1 2 3 4 5 6 7) :=
 (by kernel_rfl)
theorem cWw : aF CF r n 203 args h = s203 r n (aR args 0) (aR args 1) (aR args 2) (aR args 3) (aR args 4) (aR args 5) (aR args 6) (aR args 7) h :=
 (by kernel_rfl : aF CF r n 203 args h = D203 r n c203 x0 r203 (aH args) h).trans ((congrFun (congrFun (dHv r n) (aH args)) h).trans (by kernel_rfl))
end Go.Dd

