/- A part of the proof: Q3 Q4 Q5 Q6 Q7 Q8: each text has a comment of its own. -/
import Derived.Test.YtilmobdncapnbaaGreatPp1
set_option linter.unusedVariables false
set_option linter.unusedSimpArgs false
set_option linter.constructorNameAsVariable false
set_option maxRecDepth 100000
namespace Go.Dd
open Go.Proofs
variable (r : RT) (n : Nat) (args : List DV) (h : Hp)
noncomputable def s95 (r : RT) (n : Nat) (x0 : DV) (h0 : Hp) : aJ :=
 aR x0 (
 some (.t [(aE 2), (aE 0)], h0)) (
 some (.t [(aE 4), (aE 0)], h0))
noncomputable abbrev c95 : Code := cf Tryz.f95
noncomputable abbrev r95 : K := aU CF Tryz.f95
noncomputable def D95 (r : RT) (n : Nat) (c : Code) (X : Nat → K) (k : K) : K := aM CF r 5 n c X r95 k
theorem dOn : D95 r n c95 x0 r95 = (K1 (s95 r n) 0) :=
 (by kernel_rfl)
theorem dGl : aF CF r n 95 args h = s95 r n (aS args 0) h :=
 (by kernel_rfl : aF CF r n 95 args h = D95 r n c95 x0 r95 (aH args) h).trans ((congrFun (congrFun (dOn r n) (aH args)) h).trans (by kernel_rfl))
noncomputable def s96 (r : RT) (n : Nat) (x0 x1 : DV) (h0 : Hp) : aJ :=
 bnd (bS x0 h0) fun v1 h1 =>
 bnd (aA v1 (resv 1 h1)) fun v2 h2 =>
 bnd (aN v2 h2) fun v3 h3 =>
 bnd (aB 0 v3 h3) fun v4 h4 =>
 bnd (aA v4 h4) fun v5 h5 =>
 bnd (aA v1 h5) fun v6 h6 =>
 bnd (aN v6 h6) fun v7 h7 =>
 bnd (aB 2 v7 h7) fun v8 h8 =>
 bnd (aA v8 h8) fun v9 h9 =>
 bnd (r 25 [v5, v9] h9) fun v10 h10 =>
 bnd (jZ (bW 0 h1.next) [(.i .i64 (Int.ofNat 0))] h10) fun v11 h11 =>
 bnd (aG 1 v11 v10 h11) fun v12 h12 =>
 bnd (r 52 [x1, (.f 109 [] [v1, v11])] h12) fun v13 h13 =>
 some (v13, h13)
noncomputable abbrev c96 : Code := cf Tryz.f96
noncomputable abbrev r96 : K := aU CF Tryz.f96
noncomputable def D96 (r : RT) (n : Nat) (c : Code) (X : Nat → K) (k : K) : K := aM CF r 18 n c X r96 k
theorem dPq : D96 r n c96 x0 r96 = (K2 (s96 r n) 0 1) :=
 (by kernel_rfl)
theorem dGd : aF CF r n 96 args h = s96 r n (aS args 0) (aS args 1) h :=
 (by kernel_rfl : aF CF r n 96 args h = D96 r n c96 x0 r96 (aH args) h).trans ((congrFun (congrFun (dPq r n) (aH args)) h).trans (by kernel_rfl))
noncomputable def s97 (r : RT) (n : Nat) (x0 : DV) (h0 : Hp) : aJ :=
 bnd (aN x0 h0) fun v1 h1 =>
 bnd (aB 0 v1 h1) fun v2 h2 =>
 bnd (aA v2 h2) fun v3 h3 =>
 bnd (aN x0 h3) fun v4 h4 =>
 bnd (aB 3 v4 h4) fun v5 h5 =>
 bnd (aA v5 h5) fun v6 h6 =>
 bnd (aI 1 v6 (.i .i64 (Int.ofNat 0)) h6) fun v7 h7 =>
 bnd (aA v7 h7) fun v8 h8 =>
 bnd (r 15 [v3, v8] h8) fun v9 h9 =>
 bnd (aC 0 v9 h9) fun v10 h10 =>
 bnd (aC 1 v9 h10) fun v11 h11 =>
 bnd (aD .sub v10 (.i .i64 (Int.ofNat 1)) h11) fun v12 h12 =>
 bnd (gD v11 true (some (v10, h12)) h12) fun v13 h13 =>
 bnd (gD v11 true (aD .geq v13 (.i .i64 (Int.ofNat 1)) h13) h13) fun v14 h14 =>
 bnd (aP v11 v14 (.b false) h14) fun v15 h15 =>
 bnd (gD v15 true (some (v10, h15)) h15) fun v16 h16 =>
 bnd (gD v15 true (some (x0, h16)) h16) fun v17 h17 =>
 bnd (gD v15 true (aN v17 h17) h17) fun v18 h18 =>
 bnd (gD v15 true (aB 0 v18 h18) h18) fun v19 h19 =>
 bnd (gD v15 true (aA v19 h19) h19) fun v20 h20 =>
 bnd (gD v15 true (r 23 [v20] h20) h20) fun v21 h21 =>
 bnd (gD v15 true (some (x0, h21)) h21) fun v22 h22 =>
 bnd (gD v15 true (aN v22 h22) h22) fun v23 h23 =>
 bnd (gD v15 true (aB 2 v23 h23) h23) fun v24 h24 =>
 bnd (gD v15 true (aA v24 h24) h24) fun v25 h25 =>
 cnd (bG (gD v15 true (aA v24 h11) h11) v25 && true) (
 bnd (gD v15 true (eI [v21, v25] h25) h25) fun v26 h26 =>
 bnd (gD v15 true (aD .leq v16 v26 h26) h26) fun v27 h27 =>
 bnd (aP v15 v27 (.b false) h27) fun v28 h28 =>
 some (.t [v12, v28], h28))
noncomputable abbrev c97 : Code := cf Tryz.f97
noncomputable abbrev r97 : K := aU CF Tryz.f97
noncomputable def D97 (r : RT) (n : Nat) (c : Code) (X : Nat → K) (k : K) : K := aM CF r 41 n c X r97 k
theorem dLw : D97 r n c97 x0 r97 = (K1 (s97 r n) 0) :=
 (by kernel_rfl)
theorem cQs : aF CF r n 97 args h = s97 r n (aS args 0) h :=
 (by kernel_rfl : aF CF r n 97 args h = D97 r n c97 x0 r97 (aH args) h).trans ((congrFun (congrFun (dLw r n) (aH args)) h).trans (by kernel_rfl))
noncomputable def s99 (r : RT) (n : Nat) (x0 : DV) (h0 : Hp) : aJ :=
 bnd (bM kA h0) fun v1 h1 =>
 bnd (r 110 [x0, (.f 111 [] [])] h1) fun v2 h2 =>
 bnd (aC 0 v2 h2) fun v3 h3 =>
 bnd (aC 1 v2 h3) fun v4 h4 =>
 bnd (aC 2 v2 h4) fun v5 h5 =>
 bnd (aG 6 v1 v3 h5) fun _ h6 =>
 bnd (aK 6 v1 h6) fun v7 _ =>
 some (.t [v7, v4, v5], h6)
noncomputable abbrev c99 : Code := cf Tryz.f99
noncomputable abbrev r99 : K := aU CF Tryz.f99
noncomputable def D99 (r : RT) (n : Nat) (c : Code) (X : Nat → K) (k : K) : K := aM CF r 10 n c X r99 k
theorem dPn : D99 r n c99 x0 r99 = (K1 (s99 r n) 0) :=
 (by kernel_rfl)
theorem dHy : aF CF r n 99 args h = s99 r n (aS args 0) h :=
 (by kernel_rfl : aF CF r n 99 args h = D99 r n c99 x0 r99 (aH args) h).trans ((congrFun (congrFun (dPn r n) (aH args)) h).trans (by kernel_rfl))
noncomputable def s100 (r : RT) (n : Nat) (x0 x1 : DV) (h0 : Hp) : aJ :=
 bnd (bS x0 h0) fun v1 h1 =>
 bnd (bM [(.s []), (aE 0), (aE 0), (aE 0), .l0, .l0] h1) fun v2 h2 =>
 bnd (aK 6 v1 h2) fun v3 h3 =>
 bnd (r 112 [v3, x1, (.b false)] h3) fun v4 h4 =>
 bnd (aC 0 v4 h4) fun v5 h5 =>
 bnd (aC 1 v4 h5) fun v6 h6 =>
 bnd (aC 2 v4 h6) fun v7 h7 =>
 bnd (aG 6 v2 v5 h7) fun _ h8 =>
 bnd (aK 6 v2 h8) fun v9 _ =>
 some (.t [v9, v6, v7], h8)
noncomputable abbrev c100 : Code := cf Tryz.f100
noncomputable abbrev r100 : K := aU CF Tryz.f100
noncomputable def D100 (r : RT) (n : Nat) (c : Code) (X : Nat → K) (k : K) : K := aM CF r 13 n c X r100 k
theorem dEk : D100 r n c100 x0 r100 = (K2 (s100 r n) 0 1) :=
 (by kernel_rfl)
theorem cTr : aF CF r n 100 args h = s100 r n (aS args 0) (aS args 1) h :=
 (by kernel_rfl : aF CF r n 100 args h = D100 r n c100 x0 r100 (aH args) h).trans ((congrFun (congrFun (dEk r n) (aH args)) h).trans (by kernel_rfl))
noncomputable def s101 (r : RT) (n : Nat) (x0 x1 x2 : DV) (h0 : Hp) : aJ :=
 bnd (bS x2 h0) fun v1 h1 =>
 bnd (aK 6 v1 h1) fun v2 h2 =>
 bnd (r 113 [x0, x1, v2] h2) fun v3 h3 =>
 bnd (aC 0 v3 h3) fun v4 h4 =>
 bnd (aC 1 v3 h4) fun v5 h5 =>
 bnd (aD .neq v5 (aE 0) h5) fun v6 h6 =>
 aR v6 (
 some (.t [(aE 0), v5], h6)) (
 bnd (r 51 [x0, v4, (aE 0)] h6) fun v7 h7 =>
 bnd (r 114 [x0, x1, v7, v4] h7) fun v8 h8 =>
 bnd (aD .neq v8 (aE 0) h8) fun v9 h9 =>
 aR v9 (
 some (.t [(aE 0), v8], h9)) (
 some (.t [v4, (aE 0)], h9)))
noncomputable abbrev c101 : Code := cf Tryz.f101
noncomputable abbrev r101 : K := aU CF Tryz.f101
noncomputable def D101 (r : RT) (n : Nat) (c : Code) (X : Nat → K) (k : K) : K := aM CF r 32 n c X r101 k
theorem dHg : D101 r n c101 x0 r101 = (K3 (s101 r n) 0 1 2) :=
 (by kernel_rfl)
theorem cVv : aF CF r n 101 args h = s101 r n (aS args 0) (aS args 1) (aS args 2) h :=
 (by kernel_rfl : aF CF r n 101 args h = D101 r n c101 x0 r101 (aH args) h).trans ((congrFun (congrFun (dHg r n) (aH args)) h).trans (by kernel_rfl))
noncomputable def s109 (r : RT) (n : Nat) (x0 x1 x2 : DV) (h0 : Hp) : aJ :=
 bnd (aA x1 h0) fun v1 h1 =>
 bnd (aN v1 h1) fun v2 h2 =>
 bnd (aB 0 v2 h2) fun v3 h3 =>
 bnd (aA v3 h3) fun v4 h4 =>
 bnd (r 30 [v4, x0] h4) fun v5 h5 =>
 bnd (aA x2 h5) fun v6 h6 =>
 cnd (bG (aA x2 h0) v6 && true) (
 bnd (aD .eql v5 v6 h6) fun v7 h7 =>
 some (v7, h7))
noncomputable abbrev c109 : Code := cf Tryz.f109
noncomputable abbrev r109 : K := aU CF Tryz.f109
noncomputable def D109 (r : RT) (n : Nat) (c : Code) (X : Nat → K) (k : K) : K := aM CF r 13 n c X r109 k
theorem dIh : D109 r n c109 x0 r109 = (K3 (s109 r n) 0 1 2) :=
 (by kernel_rfl)
theorem cXc : aF CF r n 109 args h = s109 r n (aS args 0) (aS args 1) (aS args 2) h :=
 (by kernel_rfl : aF CF r n 109 args h = D109 r n c109 x0 r109 (aH args) h).trans ((congrFun (congrFun (dIh r n) (aH args)) h).trans (by kernel_rfl))
noncomputable def s110 (r : RT) (n : Nat) (x0 x1 : DV) (h0 : Hp) : aJ :=
 bnd (bM kA h0) fun v1 h1 =>
 bnd (r 117 [x0] h1) fun v2 h2 =>
 bnd (aC 0 v2 h2) fun v3 h3 =>
 bnd (aC 1 v2 h3) fun v4 h4 =>
 bnd (aC 2 v2 h4) fun v5 h5 =>
 bnd (aD .neq v5 (aE 0) h5) fun v6 h6 =>
 aR v6 (
 bnd (bB kA [] h6) fun v7 h7 =>
 bnd (aG 6 v1 v7 h7) fun _ h8 =>
 bnd (aK 6 v1 h8) fun v9 _ =>
 some (.t [v9, v4, v5], h8)) (
 bnd (bB [.l0, (aE 0), (aE 0), (aE 0)] [(0, 1, v3)] h6) fun v10 h10 =>
 bnd (bS v10 h10) fun v11 h11 =>
 bnd (cX CF r x1 [v11] h11) fun v12 h12 =>
 bnd (bM kA h12) fun v13 h13 =>
 bnd (aG 6 v13 v12 h13) fun _ h14 =>
 bnd (r 118 [v11] h14) fun v15 h15 =>
 bnd (aB 4 v13 h15) fun v16 h16 =>
 bnd (aG 1 v16 v15 h16) fun _ h17 =>
 bnd (r 119 [v11] h17) fun v18 h18 =>
 bnd (aB 5 v13 h18) fun v19 h19 =>
 bnd (aG 1 v19 v18 h19) fun _ h20 =>
 bnd (r 120 [v11, (aE 0), (.s [])] h20) fun v21 h21 =>
 bnd (aN v11 h21) fun v22 h22 =>
 bnd (aB 3 v22 h22) fun v23 h23 =>
 bnd (aA v23 h23) fun v24 h24 =>
 bnd (aD .neq v24 (aE 0) h24) fun v25 h25 =>
 aR v25 (
 bnd (bB kA [] h25) fun v26 h26 =>
 bnd (aN v11 h26) fun v27 h27 =>
 bnd (aB 2 v27 h27) fun v28 h28 =>
 bnd (aA v28 h28) fun v29 h29 =>
 bnd (aN v11 h29) fun v30 h30 =>
 bnd (aB 3 v30 h30) fun v31 h31 =>
 bnd (aA v31 h31) fun v32 h32 =>
 bnd (aG 6 v1 v26 h32) fun v33 h33 =>
 cnd (bG (aA v31 h33) v32 && (bG (aA v28 h33) v29 && true)) (
 bnd (aK 6 v1 h33) fun v34 _ =>
 some (.t [v34, v29, v32], h33))) (
 bnd (aK 6 v13 h25) fun v35 h35 =>
 bnd (aG 6 v1 v35 h35) fun _ h36 =>
 bnd (aK 6 v1 h36) fun v37 _ =>
 some (.t [v37, (aE 0), (aE 0)], h36)))
noncomputable abbrev c110 : Code := cf Tryz.f110
noncomputable abbrev r110 : K := aU CF Tryz.f110
noncomputable def D110 (r : RT) (n : Nat) (c : Code) (X : Nat → K) (k : K) : K := aM CF r 52 n c X r110 k
theorem dGr : D110 r n c110 x0 r110 = (K2 (s110 r n) 0 1) :=
 (by kernel_rfl)
theorem dAf : aF CF r n 110 args h = s110 r n (aS args 0) (aS args 1) h :=
 (by kernel_rfl : aF CF r n 110 args h = D110 r n c110 x0 r110 (aH args) h).trans ((congrFun (congrFun (dGr r n) (aH args)) h).trans (by kernel_rfl))
noncomputable def s111 (r : RT) (n : Nat) (x0 : DV) (h0 : Hp) : aJ :=
 bnd (bM kA h0) fun v1 h1 =>
 bnd (bB kA [(0, 1, (aE 11))] h1) fun v2 h2 =>
 bnd (bM kA h2) fun v3 h3 =>
 bnd (aG 6 v3 v2 h3) fun _ h4 =>
 bnd (r 121 [x0, v3] h4) fun v5 h5 =>
 bnd (r 122 [x0] h5) fun v6 h6 =>
 bnd (aB 2 v3 h6) fun v7 h7 =>
 bnd (aG 1 v7 v6 h7) fun _ h8 =>
 bnd (aK 6 v3 h8) fun v9 h9 =>
 bnd (aG 6 v1 v9 h9) fun _ h10 =>
 bnd (aK 6 v1 h10) fun v11 _ =>
 some (v11, h10)
noncomputable abbrev c111 : Code := cf Tryz.f111
noncomputable abbrev r111 : K := aU CF Tryz.f111
noncomputable def D111 (r : RT) (n : Nat) (c : Code) (X : Nat → K) (k : K) : K := aM CF r 11 n c X r111 k
theorem dGj : D111 r n c111 x0 r111 = (K1 (s111 r n) 0) :=
 (by kernel_rfl)
theorem dCk : aF CF r n 111 args h = s111 r n (aS args 0) h :=
 (by kernel_rfl : aF CF r n 111 args h = D111 r n c111 x0 r111 (aH args) h).trans ((congrFun (congrFun (dGj r n) (aH args)) h).trans (by kernel_rfl))
noncomputable def eE (r : RT) (n : Nat) (x6 x9 : DV) (h0 : Hp) : aJ :=
 bnd (aN x9 h0) fun v1 h1 =>
 bnd (aB 0 v1 h1) fun v2 h2 =>
 bnd (aK 6 v2 h2) fun v3 h3 =>
 bnd (aG 6 x6 v3 h3) fun _ h4 =>
 bnd (aK 6 x6 h4) fun v5 _ =>
 some (.t [v5, (.s []), (aE 0)], h4)
noncomputable def aGj (r : RT) (n : Nat) (kk9 : cF) (x6 x9 x94 x95 x96 : DV) (h0 : Hp) : aJ :=
 bnd (aD .lss x96 x95 h0) fun v1 h1 =>
 aR v1 (
 bnd (aI 3 x94 x96 h1) fun v2 h2 =>
 bnd (aK 3 v2 h2) fun v3 h3 =>
 bnd (bM [(aE 0), (aE 0), (aE 0)] h3) fun v4 h4 =>
 bnd (aG 3 v4 v3 h4) fun _ h5 =>
 bnd (aK 3 v4 h5) fun v6 h6 =>
 bnd (r 124 [v6] h6) fun v7 h7 =>
 bnd (gX .not v7 h7) fun v8 h8 =>
 aR v8 (
 bnd (bB [(.s []), (aE 0), (aE 0), (aE 0), .l0, .l0] [] h8) fun v9 h9 =>
 bnd (aG 6 x6 v9 h9) fun _ h10 =>
 bnd (aK 6 x6 h10) fun v11 _ =>
 some (.t [v11, (.s []), (aE 12)], h10)) (
 bnd (aD .add x96 (aE 1) h8) fun v12 h12 =>
    kk9 x6 x9 x94 x95 v12 h12)) (
      eE r n x6 x9 h1)
noncomputable def tT (r : RT) (n : Nat) (m : Nat) : cF :=
 Nat.rec (motive := fun _ => cF) (fun _ _ _ _ _ _ => none) (fun _ ih => aGj r n ih) m
noncomputable def bJr (r : RT) (n : Nat) : cF := tT r n n
noncomputable def aQl (r : RT) (n : Nat) (x6 x9 x94 x95 x96 : DV) (h0 : Hp) : aJ :=
 bJr r n x6 x9 x94 x95 x96 h0
noncomputable def yO (r : RT) (n : Nat) (x6 x9 : DV) (h0 : Hp) : aJ :=
 bnd (aN x9 h0) fun v1 h1 =>
 bnd (aB 0 v1 h1) fun v2 h2 =>
 bnd (aB 5 v2 h2) fun v3 h3 =>
 bnd (aA v3 h3) fun v4 h4 =>
 bnd (bZ v4 h4) fun v5 h5 =>
  aQl r n x6 x9 v4 v5 (aE 0) h5
noncomputable def aCd (r : RT) (n : Nat) (x6 x9 : DV) (h0 : Hp) : aJ :=
 bnd (aN x9 h0) fun v1 h1 =>
 bnd (aB 8 v1 h1) fun v2 h2 =>
 bnd (aA v2 h2) fun v3 h3 =>
 bnd (aD .neq v3 (aE 0) h3) fun v4 h4 =>
 aR v4 (
 bnd (bB [(.s []), (aE 0), (aE 0), (aE 0), .l0, .l0] [] h4) fun v5 h5 =>
 bnd (aN x9 h5) fun v6 h6 =>
 bnd (aB 7 v6 h6) fun v7 h7 =>
 bnd (aA v7 h7) fun v8 h8 =>
 bnd (aN x9 h8) fun v9 h9 =>
 bnd (aB 8 v9 h9) fun v10 h10 =>
 bnd (aA v10 h10) fun v11 h11 =>
 bnd (aG 6 x6 v5 h11) fun v12 h12 =>
 cnd (bG (aA v10 h12) v11 && (bG (aA v7 h12) v8 && true)) (
 bnd (aK 6 x6 h12) fun v13 _ =>
 some (.t [v13, v8, v11], h12))) (
 bnd (aN x9 h4) fun v14 h14 =>
 bnd (aB 0 v14 h14) fun v15 h15 =>
 bnd (aB 4 v15 h15) fun v16 h16 =>
 bnd (aA v16 h16) fun v17 h17 =>
 bnd (bZ v17 h17) fun v18 h18 =>
 bnd (aD .gtr v18 (aE 60) h18) fun v19 h19 =>
 aR v19 (
 bnd (bB [(.s []), (aE 0), (aE 0), (aE 0), .l0, .l0] [] h19) fun v20 h20 =>
 bnd (aG 6 x6 v20 h20) fun _ h21 =>
 bnd (aK 6 x6 h21) fun v22 _ =>
 some (.t [v22, (.s []), (aE 18)], h21)) (
 bnd (aN x9 h19) fun v23 h23 =>
 bnd (aB 0 v23 h23) fun v24 h24 =>
 bnd (aB 5 v24 h24) fun v25 h25 =>
 bnd (aA v25 h25) fun v26 h26 =>
 bnd (bZ v26 h26) fun v27 h27 =>
 bnd (aD .gtr v27 (aE 400) h27) fun v28 h28 =>
 aR v28 (
 bnd (bB [(.s []), (aE 0), (aE 0), (aE 0), .l0, .l0] [] h28) fun v29 h29 =>
 bnd (aG 6 x6 v29 h29) fun _ h30 =>
 bnd (aK 6 x6 h30) fun v31 _ =>
 some (.t [v31, (.s []), (aE 12)], h30)) (
    yO r n x6 x9 h28)))
noncomputable def eF (r : RT) (n : Nat) (x2 x3 x6 x9 : DV) (h0 : Hp) : aJ :=
 bnd (aK 6 x3 h0) fun v1 h1 =>
 bnd (r 123 [x9, v1, x2] h1) fun v2 h2 =>
  aCd r n x6 x9 h2
noncomputable def wJ (r : RT) (n : Nat) (kk11 : TT7) (x2 x3 x6 x9 x33 x34 x35 : DV) (h0 : Hp) : aJ :=
 bnd (aD .lss x35 x34 h0) fun v1 h1 =>
 aR v1 (
 bnd (aI 1 x33 x35 h1) fun v2 h2 =>
 bnd (aA v2 h2) fun v3 h3 =>
 bnd (aN x9 h3) fun v4 h4 =>
 bnd (aB 6 v4 h4) fun v5 h5 =>
 bnd (aA v5 h5) fun v6 h6 =>
 bnd (bB [(.s []), (.b false), (.b false), (aE 0)] [(0, 1, v3), (1, 1, (.b true)), (2, 1, (.b false)), (3, 1, x35)] h6) fun v7 h7 =>
 bnd (aL [(.s []), (.b false), (.b false), (aE 0)] 1 [(0, 4, v7)] h7) fun v8 h8 =>
 bnd (bA 4 32 v6 v8 h8) fun v9 h9 =>
 bnd (aN x9 h9) fun v10 h10 =>
 bnd (aB 6 v10 h10) fun v11 h11 =>
 bnd (aG 1 v11 v9 h11) fun _ h12 =>
 bnd (aD .add x35 (aE 1) h12) fun v13 h13 =>
      kk11 x2 x3 x6 x9 x33 x34 v13 h13) (
      eF r n x2 x3 x6 x9 h1)
noncomputable def pV (r : RT) (n : Nat) (m : Nat) : TT7 :=
 Nat.rec (motive := fun _ => TT7) (fun _ _ _ _ _ _ _ _ => none) (fun _ ih => wJ r n ih) m
noncomputable def bBf (r : RT) (n : Nat) : TT7 := pV r n n
noncomputable def aFb (r : RT) (n : Nat) (x2 x3 x6 x9 x33 x34 x35 : DV) (h0 : Hp) : aJ :=
 bBf r n x2 x3 x6 x9 x33 x34 x35 h0
noncomputable def vS (r : RT) (n : Nat) (x1 x2 x3 x6 x9 : DV) (h0 : Hp) : aJ :=
 bnd (bZ x1 h0) fun v1 h1 =>
  aFb r n x2 x3 x6 x9 x1 v1 (aE 0) h1
noncomputable def rP (r : RT) (n : Nat) (x1 x2 x3 x6 : DV) (h0 : Hp) : aJ :=
 bnd (aB 1 x3 h0) fun v1 h1 =>
 bnd (aA v1 h1) fun v2 h2 =>
 bnd (aB 3 x3 h2) fun v3 h3 =>
 bnd (aA v3 h3) fun v4 h4 =>
 bnd (bZ v4 h4) fun v5 h5 =>
 bnd (aB 2 x3 h5) fun v6 h6 =>
 bnd (aA v6 h6) fun v7 h7 =>
 bnd (bB [(.s []), (aE 0), (aE 0), (aE 0), .l0, .l0] [(0, 1, v2), (1, 1, v5), (3, 1, v7)] h7) fun v8 h8 =>
 bnd (bB [(.s []), (aE 0), (aE 0), (aE 0), .l0, .l0, .l0, (.s []), (aE 0)] [(0, 6, v8)] h8) fun v9 h9 =>
 bnd (bS v9 h9) fun v10 h10 =>
  vS r n x1 x2 x3 x6 v10 h10
noncomputable def rB (r : RT) (n : Nat) (x1 x2 x3 x6 : DV) (h0 : Hp) : aJ :=
 bnd (aB 0 x3 h0) fun v1 h1 =>
 bnd (aA v1 h1) fun v2 h2 =>
 bnd (aD .neq v2 (aE 11) h2) fun v3 h3 =>
 bnd (gD v3 false (some (x1, h3)) h3) fun v4 h4 =>
 bnd (gD v3 false (bZ v4 h4) h4) fun v5 h5 =>
 bnd (gD v3 false (aD .gtr v5 (aE 8) h5) h5) fun v6 h6 =>
 bnd (aP v3 (.b true) v6 h6) fun v7 h7 =>
 aR v7 (
 bnd (bB [(.s []), (aE 0), (aE 0), (aE 0), .l0, .l0] [] h7) fun v8 h8 =>
 bnd (aG 6 x6 v8 h8) fun _ h9 =>
 bnd (aK 6 x6 h9) fun v10 _ =>
 some (.t [v10, (.s []), (aE 1)], h9)) (
  rP r n x1 x2 x3 x6 h7)
noncomputable def s112 (r : RT) (n : Nat) (x0 x1 x2 : DV) (h0 : Hp) : aJ :=
 bnd (bS x0 h0) fun v1 h1 =>
 bnd (bM [(.s []), (aE 0), (aE 0), (aE 0), .l0, .l0] h1) fun v2 h2 =>
  rB r n x1 x2 v1 v2 h2
noncomputable abbrev c112 : Code := cf Tryz.f112
noncomputable abbrev aJs : Code := cR c112
noncomputable abbrev aEn : Code := cR aJs
noncomputable abbrev aCy : Code := cR aEn
noncomputable abbrev aCx : Code := cR aCy
noncomputable abbrev aIl : Code := cR aCx
noncomputable abbrev aHh : Code := cR aIl
noncomputable abbrev cYn : Code := cR aHh
noncomputable abbrev wC : Code := cL aHh
noncomputable abbrev aPt : Code := cR wC
noncomputable abbrev uT : Code := cL aPt
noncomputable abbrev jS : Code := cL uT
noncomputable abbrev aZo : Code := cL wC
noncomputable abbrev aHr : Code := cL aIl
noncomputable abbrev aUx : Code := cL aCx
noncomputable abbrev oV : Code := cL aCy
noncomputable abbrev aHl : Code := cR oV
noncomputable abbrev sX : Code := cL aHl
noncomputable abbrev jQ : Code := cL sX
noncomputable abbrev aZf : Code := cL oV
noncomputable abbrev aHn : Code := cL aEn
noncomputable abbrev aDc : Code := cL aJs
noncomputable abbrev aHi : Code := cL c112
noncomputable abbrev r112 : K := aU CF Tryz.f112
noncomputable def D112 (r : RT) (n : Nat) (c : Code) (X : Nat → K) (k : K) : K := aM CF r 109 n c X r112 k
theorem cFs : D112 r n cYn x0 r112 = (K2 (eE r n) 6 9) :=
 (by kernel_rfl)
theorem bKa (kk9 : cF) (q0 : oU) : D112 r n jS (xs x0 3 (K2 q0 6 9)) (K5 kk9 6 9 94 95 96) = fun (env : aZ) (h : Hp) =>
 bnd (aD .lss (env 96) (env 95) h) fun v1 h1 =>
 aR v1 (
 bnd (aI 3 (env 94) (env 96) h1) fun v2 h2 =>
 bnd (aK 3 v2 h2) fun v3 h3 =>
 bnd (bM [(aE 0), (aE 0), (aE 0)] h3) fun v4 h4 =>
 bnd (aG 3 v4 v3 h4) fun _ h5 =>
 bnd (aK 3 v4 h5) fun v6 h6 =>
 bnd (r 124 [v6] h6) fun v7 h7 =>
 bnd (gX .not v7 h7) fun v8 h8 =>
 aR v8 (
 bnd (bB [(.s []), (aE 0), (aE 0), (aE 0), .l0, .l0] [] h8) fun v9 h9 =>
 bnd (aG 6 (env 6) v9 h9) fun _ h10 =>
 bnd (aK 6 (env 6) h10) fun v11 _ =>
 some (.t [v11, (.s []), (aE 12)], h10)) (
 bnd (aD .add (env 96) (aE 1) h8) fun v12 h12 =>
    kk9 (env 6) (env 9) (env 94) (env 95) v12 h12)) (
      q0 (env 6) (env 9) h1) := by kernel_rfl
theorem bFq (kk9 : cF) : (fun (env : aZ) (h : Hp) =>
 bnd (aD .lss (env 96) (env 95) h) fun v1 h1 =>
 aR v1 (
 bnd (aI 3 (env 94) (env 96) h1) fun v2 h2 =>
 bnd (aK 3 v2 h2) fun v3 h3 =>
 bnd (bM [(aE 0), (aE 0), (aE 0)] h3) fun v4 h4 =>
 bnd (aG 3 v4 v3 h4) fun _ h5 =>
 bnd (aK 3 v4 h5) fun v6 h6 =>
 bnd (r 124 [v6] h6) fun v7 h7 =>
 bnd (gX .not v7 h7) fun v8 h8 =>
 aR v8 (
 bnd (bB [(.s []), (aE 0), (aE 0), (aE 0), .l0, .l0] [] h8) fun v9 h9 =>
 bnd (aG 6 (env 6) v9 h9) fun _ h10 =>
 bnd (aK 6 (env 6) h10) fun v11 _ =>
 some (.t [v11, (.s []), (aE 12)], h10)) (
 bnd (aD .add (env 96) (aE 1) h8) fun v12 h12 =>
    kk9 (env 6) (env 9) (env 94) (env 95) v12 h12)) (
      eE r n (env 6) (env 9) h1)) = (K5 (aGj r n kk9) 6 9 94 95 96) := by kernel_rfl
theorem bJy (kk9 : cF) : D112 r n jS (xs x0 3 (K2 (eE r n) 6 9)) (K5 kk9 6 9 94 95 96) = (K5 (aGj r n kk9) 6 9 94 95 96) :=
 (bKa r n kk9 (eE r n)).trans (bFq r n kk9)
theorem bKv (m : Nat) : aO (fun kk => D112 r n jS (xs x0 3 (K2 (eE r n) 6 9)) kk) m = (K5 (tT r n m) 6 9 94 95 96) := by
 induction m with
 | zero => exact (by kernel_rfl : aO (fun kk => D112 r n jS (xs x0 3 (K2 (eE r n) 6 9)) kk) 0 = (K5 (tT r n 0) 6 9 94 95 96))
 | succ m ih =>
  refine (by kernel_rfl : aO (fun kk => D112 r n jS (xs x0 3 (K2 (eE r n) 6 9)) kk) (m + 1) = D112 r n jS (xs x0 3 (K2 (eE r n) 6 9)) (aO (fun kk => D112 r n jS (xs x0 3 (K2 (eE r n) 6 9)) kk) m)).trans ?_
  rw [ih]
  exact (bJy r n (tT r n m)).trans (by kernel_rfl)
theorem cDz : D112 r n uT (xs x0 3 (K2 (eE r n) 6 9)) (K2 (eE r n) 6 9) = (K5 (bJr r n) 6 9 94 95 96) :=
 (by kernel_rfl : D112 r n uT (xs x0 3 (K2 (eE r n) 6 9)) (K2 (eE r n) 6 9) = aO (fun kk => D112 r n jS (xs x0 3 (K2 (eE r n) 6 9)) kk) n).trans ((bKv r n n).trans (by kernel_rfl))
theorem cKn : D112 r n aPt x0 (K2 (eE r n) 6 9) = (K5 (aQl r n) 6 9 94 95 96) :=
 (by kernel_rfl : D112 r n aPt x0 (K2 (eE r n) 6 9) = D112 r n uT (xs x0 3 (K2 (eE r n) 6 9)) (K2 (eE r n) 6 9)).trans
 ((cDz r n).trans (by kernel_rfl))
theorem bWe : D112 r n aHh x0 r112 = D112 r n wC x0 (K2 (eE r n) 6 9) :=
 congrArg (fun k => D112 r n wC x0 k) (cFs r n)
theorem bOi : D112 r n wC x0 (K2 (eE r n) 6 9) = D112 r n aZo x0 (K5 (aQl r n) 6 9 94 95 96) :=
 congrArg (fun k => D112 r n aZo x0 k) (cKn r n)
theorem cBk : D112 r n aHh x0 r112 = (K2 (yO r n) 6 9) :=
 (bWe r n).trans
 ((bOi r n).trans
 ((by kernel_rfl)))
theorem bLo : D112 r n aIl x0 r112 = D112 r n aHr x0 (K2 (yO r n) 6 9) :=
 congrArg (fun k => D112 r n aHr x0 k) (cBk r n)
theorem bIf (q0 : oU) : D112 r n aHr x0 (K2 q0 6 9) = fun (env : aZ) (h : Hp) =>
 bnd (aN (env 9) h) fun v1 h1 =>
 bnd (aB 8 v1 h1) fun v2 h2 =>
 bnd (aA v2 h2) fun v3 h3 =>
 bnd (aD .neq v3 (aE 0) h3) fun v4 h4 =>
 aR v4 (
 bnd (bB [(.s []), (aE 0), (aE 0), (aE 0), .l0, .l0] [] h4) fun v5 h5 =>
 bnd (aN (env 9) h5) fun v6 h6 =>
 bnd (aB 7 v6 h6) fun v7 h7 =>
 bnd (aA v7 h7) fun v8 h8 =>
 bnd (aN (env 9) h8) fun v9 h9 =>
 bnd (aB 8 v9 h9) fun v10 h10 =>
 bnd (aA v10 h10) fun v11 h11 =>
 bnd (aG 6 (env 6) v5 h11) fun v12 h12 =>
 cnd (bG (aA v10 h12) v11 && (bG (aA v7 h12) v8 && true)) (
 bnd (aK 6 (env 6) h12) fun v13 _ =>
 some (.t [v13, v8, v11], h12))) (
 bnd (aN (env 9) h4) fun v14 h14 =>
 bnd (aB 0 v14 h14) fun v15 h15 =>
 bnd (aB 4 v15 h15) fun v16 h16 =>
 bnd (aA v16 h16) fun v17 h17 =>
 bnd (bZ v17 h17) fun v18 h18 =>
 bnd (aD .gtr v18 (aE 60) h18) fun v19 h19 =>
 aR v19 (
 bnd (bB [(.s []), (aE 0), (aE 0), (aE 0), .l0, .l0] [] h19) fun v20 h20 =>
 bnd (aG 6 (env 6) v20 h20) fun _ h21 =>
 bnd (aK 6 (env 6) h21) fun v22 _ =>
 some (.t [v22, (.s []), (aE 18)], h21)) (
 bnd (aN (env 9) h19) fun v23 h23 =>
 bnd (aB 0 v23 h23) fun v24 h24 =>
 bnd (aB 5 v24 h24) fun v25 h25 =>
 bnd (aA v25 h25) fun v26 h26 =>
 bnd (bZ v26 h26) fun v27 h27 =>
 bnd (aD .gtr v27 (aE 400) h27) fun v28 h28 =>
 aR v28 (
 bnd (bB [(.s []), (aE 0), (aE 0), (aE 0), .l0, .l0] [] h28) fun v29 h29 =>
 bnd (aG 6 (env 6) v29 h29) fun _ h30 =>
 bnd (aK 6 (env 6) h30) fun v31 _ =>
 some (.t [v31, (.s []), (aE 12)], h30)) (
     q0 (env 6) (env 9) h28))) := by kernel_rfl
theorem bFm : (fun (env : aZ) (h : Hp) =>
 bnd (aN (env 9) h) fun v1 h1 =>
 bnd (aB 8 v1 h1) fun v2 h2 =>
 bnd (aA v2 h2) fun v3 h3 =>
 bnd (aD .neq v3 (aE 0) h3) fun v4 h4 =>
 aR v4 (
 bnd (bB [(.s []), (aE 0), (aE 0), (aE 0), .l0, .l0] [] h4) fun v5 h5 =>
 bnd (aN (env 9) h5) fun v6 h6 =>
 bnd (aB 7 v6 h6) fun v7 h7 =>
 bnd (aA v7 h7) fun v8 h8 =>
 bnd (aN (env 9) h8) fun v9 h9 =>
 bnd (aB 8 v9 h9) fun v10 h10 =>
 bnd (aA v10 h10) fun v11 h11 =>
 bnd (aG 6 (env 6) v5 h11) fun v12 h12 =>
 cnd (bG (aA v10 h12) v11 && (bG (aA v7 h12) v8 && true)) (
 bnd (aK 6 (env 6) h12) fun v13 _ =>
 some (.t [v13, v8, v11], h12))) (
 bnd (aN (env 9) h4) fun v14 h14 =>
 bnd (aB 0 v14 h14) fun v15 h15 =>
 bnd (aB 4 v15 h15) fun v16 h16 =>
 bnd (aA v16 h16) fun v17 h17 =>
 bnd (bZ v17 h17) fun v18 h18 =>
 bnd (aD .gtr v18 (aE 60) h18) fun v19 h19 =>
 aR v19 (
 bnd (bB [(.s []), (aE 0), (aE 0), (aE 0), .l0, .l0] [] h19) fun v20 h20 =>
 bnd (aG 6 (env 6) v20 h20) fun _ h21 =>
 bnd (aK 6 (env 6) h21) fun v22 _ =>
 some (.t [v22, (.s []), (aE 18)], h21)) (
 bnd (aN (env 9) h19) fun v23 h23 =>
 bnd (aB 0 v23 h23) fun v24 h24 =>
 bnd (aB 5 v24 h24) fun v25 h25 =>
 bnd (aA v25 h25) fun v26 h26 =>
 bnd (bZ v26 h26) fun v27 h27 =>
 bnd (aD .gtr v27 (aE 400) h27) fun v28 h28 =>
 aR v28 (
 bnd (bB [(.s []), (aE 0), (aE 0), (aE 0), .l0, .l0] [] h28) fun v29 h29 =>
 bnd (aG 6 (env 6) v29 h29) fun _ h30 =>
 bnd (aK 6 (env 6) h30) fun v31 _ =>
 some (.t [v31, (.s []), (aE 12)], h30)) (
     yO r n (env 6) (env 9) h28)))) = (K2 (aCd r n) 6 9) := by kernel_rfl
theorem cLh : D112 r n aIl x0 r112 = (K2 (aCd r n) 6 9) :=
 (bLo r n).trans
 ((bIf r n (yO r n)).trans (bFm r n))
theorem bIq : D112 r n aCx x0 r112 = D112 r n aUx x0 (K2 (aCd r n) 6 9) :=
 congrArg (fun k => D112 r n aUx x0 k) (cLh r n)
theorem cLm : D112 r n aCx x0 r112 = (K4 (eF r n) 2 3 6 9) :=
 (bIq r n).trans
 ((by kernel_rfl))
theorem bFf (kk11 : TT7) (q0 : dL) : D112 r n jQ (xs x0 0 (K4 q0 2 3 6 9)) (K7 kk11 2 3 6 9 33 34 35) = fun (env : aZ) (h : Hp) =>
 bnd (aD .lss (env 35) (env 34) h) fun v1 h1 =>
 aR v1 (
 bnd (aI 1 (env 33) (env 35) h1) fun v2 h2 =>
 bnd (aA v2 h2) fun v3 h3 =>
 bnd (aN (env 9) h3) fun v4 h4 =>
 bnd (aB 6 v4 h4) fun v5 h5 =>
 bnd (aA v5 h5) fun v6 h6 =>
 bnd (bB [(.s []), (.b false), (.b false), (aE 0)] [(0, 1, v3), (1, 1, (.b true)), (2, 1, (.b false)), (3, 1, (env 35))] h6) fun v7 h7 =>
 bnd (aL [(.s []), (.b false), (.b false), (aE 0)] 1 [(0, 4, v7)] h7) fun v8 h8 =>
 bnd (bA 4 32 v6 v8 h8) fun v9 h9 =>
 bnd (aN (env 9) h9) fun v10 h10 =>
 bnd (aB 6 v10 h10) fun v11 h11 =>
 bnd (aG 1 v11 v9 h11) fun _ h12 =>
 bnd (aD .add (env 35) (aE 1) h12) fun v13 h13 =>
      kk11 (env 2) (env 3) (env 6) (env 9) (env 33) (env 34) v13 h13) (
      q0 (env 2) (env 3) (env 6) (env 9) h1) := by kernel_rfl
theorem aQa (kk11 : TT7) : (fun (env : aZ) (h : Hp) =>
 bnd (aD .lss (env 35) (env 34) h) fun v1 h1 =>
 aR v1 (
 bnd (aI 1 (env 33) (env 35) h1) fun v2 h2 =>
 bnd (aA v2 h2) fun v3 h3 =>
 bnd (aN (env 9) h3) fun v4 h4 =>
 bnd (aB 6 v4 h4) fun v5 h5 =>
 bnd (aA v5 h5) fun v6 h6 =>
 bnd (bB [(.s []), (.b false), (.b false), (aE 0)] [(0, 1, v3), (1, 1, (.b true)), (2, 1, (.b false)), (3, 1, (env 35))] h6) fun v7 h7 =>
 bnd (aL [(.s []), (.b false), (.b false), (aE 0)] 1 [(0, 4, v7)] h7) fun v8 h8 =>
 bnd (bA 4 32 v6 v8 h8) fun v9 h9 =>
 bnd (aN (env 9) h9) fun v10 h10 =>
 bnd (aB 6 v10 h10) fun v11 h11 =>
 bnd (aG 1 v11 v9 h11) fun _ h12 =>
 bnd (aD .add (env 35) (aE 1) h12) fun v13 h13 =>
      kk11 (env 2) (env 3) (env 6) (env 9) (env 33) (env 34) v13 h13) (
      eF r n (env 2) (env 3) (env 6) (env 9) h1)) = (K7 (wJ r n kk11) 2 3 6 9 33 34 35) := by kernel_rfl
theorem bCo (kk11 : TT7) : D112 r n jQ (xs x0 0 (K4 (eF r n) 2 3 6 9)) (K7 kk11 2 3 6 9 33 34 35) = (K7 (wJ r n kk11) 2 3 6 9 33 34 35) :=
 (bFf r n kk11 (eF r n)).trans (aQa r n kk11)
theorem bEm (m : Nat) : aO (fun kk => D112 r n jQ (xs x0 0 (K4 (eF r n) 2 3 6 9)) kk) m = (K7 (pV r n m) 2 3 6 9 33 34 35) := by
 induction m with
 | zero => exact (by kernel_rfl : aO (fun kk => D112 r n jQ (xs x0 0 (K4 (eF r n) 2 3 6 9)) kk) 0 = (K7 (pV r n 0) 2 3 6 9 33 34 35))
 | succ m ih =>
  refine (by kernel_rfl : aO (fun kk => D112 r n jQ (xs x0 0 (K4 (eF r n) 2 3 6 9)) kk) (m + 1) = D112 r n jQ (xs x0 0 (K4 (eF r n) 2 3 6 9)) (aO (fun kk => D112 r n jQ (xs x0 0 (K4 (eF r n) 2 3 6 9)) kk) m)).trans ?_
  rw [ih]
  exact (bCo r n (pV r n m)).trans (by kernel_rfl)
theorem bXf : D112 r n sX (xs x0 0 (K4 (eF r n) 2 3 6 9)) (K4 (eF r n) 2 3 6 9) = (K7 (bBf r n) 2 3 6 9 33 34 35) :=
 (by kernel_rfl : D112 r n sX (xs x0 0 (K4 (eF r n) 2 3 6 9)) (K4 (eF r n) 2 3 6 9) = aO (fun kk => D112 r n jQ (xs x0 0 (K4 (eF r n) 2 3 6 9)) kk) n).trans ((bEm r n n).trans (by kernel_rfl))
theorem bKn : D112 r n aHl x0 (K4 (eF r n) 2 3 6 9) = (K7 (aFb r n) 2 3 6 9 33 34 35) :=
 (by kernel_rfl : D112 r n aHl x0 (K4 (eF r n) 2 3 6 9) = D112 r n sX (xs x0 0 (K4 (eF r n) 2 3 6 9)) (K4 (eF r n) 2 3 6 9)).trans
 ((bXf r n).trans (by kernel_rfl))
theorem bPg : D112 r n aCy x0 r112 = D112 r n oV x0 (K4 (eF r n) 2 3 6 9) :=
 congrArg (fun k => D112 r n oV x0 k) (cLm r n)
theorem bHc : D112 r n oV x0 (K4 (eF r n) 2 3 6 9) = D112 r n aZf x0 (K7 (aFb r n) 2 3 6 9 33 34 35) :=
 congrArg (fun k => D112 r n aZf x0 k) (bKn r n)
theorem cJx : D112 r n aCy x0 r112 = (K5 (vS r n) 1 2 3 6 9) :=
 (bPg r n).trans
 ((bHc r n).trans
 ((by kernel_rfl)))
theorem bFo : D112 r n aEn x0 r112 = D112 r n aHn x0 (K5 (vS r n) 1 2 3 6 9) :=
 congrArg (fun k => D112 r n aHn x0 k) (cJx r n)
theorem bFa (q0 : cF) : D112 r n aHn x0 (K5 q0 1 2 3 6 9) = fun (env : aZ) (h : Hp) =>
 bnd (aB 1 (env 3) h) fun v1 h1 =>
 bnd (aA v1 h1) fun v2 h2 =>
 bnd (aB 3 (env 3) h2) fun v3 h3 =>
 bnd (aA v3 h3) fun v4 h4 =>
 bnd (bZ v4 h4) fun v5 h5 =>
 bnd (aB 2 (env 3) h5) fun v6 h6 =>
 bnd (aA v6 h6) fun v7 h7 =>
 bnd (bB [(.s []), (aE 0), (aE 0), (aE 0), .l0, .l0] [(0, 1, v2), (1, 1, v5), (3, 1, v7)] h7) fun v8 h8 =>
 bnd (bB [(.s []), (aE 0), (aE 0), (aE 0), .l0, .l0, .l0, (.s []), (aE 0)] [(0, 6, v8)] h8) fun v9 h9 =>
 bnd (bS v9 h9) fun v10 h10 =>
  q0 (env 1) (env 2) (env 3) (env 6) v10 h10 := by kernel_rfl
theorem aUc : (fun (env : aZ) (h : Hp) =>
 bnd (aB 1 (env 3) h) fun v1 h1 =>
 bnd (aA v1 h1) fun v2 h2 =>
 bnd (aB 3 (env 3) h2) fun v3 h3 =>
 bnd (aA v3 h3) fun v4 h4 =>
 bnd (bZ v4 h4) fun v5 h5 =>
 bnd (aB 2 (env 3) h5) fun v6 h6 =>
 bnd (aA v6 h6) fun v7 h7 =>
 bnd (bB [(.s []), (aE 0), (aE 0), (aE 0), .l0, .l0] [(0, 1, v2), (1, 1, v5), (3, 1, v7)] h7) fun v8 h8 =>
 bnd (bB [(.s []), (aE 0), (aE 0), (aE 0), .l0, .l0, .l0, (.s []), (aE 0)] [(0, 6, v8)] h8) fun v9 h9 =>
 bnd (bS v9 h9) fun v10 h10 =>
  vS r n (env 1) (env 2) (env 3) (env 6) v10 h10) = (K4 (rP r n) 1 2 3 6) := by kernel_rfl
theorem cIe : D112 r n aEn x0 r112 = (K4 (rP r n) 1 2 3 6) :=
 (bFo r n).trans
 ((bFa r n (vS r n)).trans (aUc r n))
theorem bDd : D112 r n aJs x0 r112 = D112 r n aDc x0 (K4 (rP r n) 1 2 3 6) :=
 congrArg (fun k => D112 r n aDc x0 k) (cIe r n)
theorem bEo (q0 : dL) : D112 r n aDc x0 (K4 q0 1 2 3 6) = fun (env : aZ) (h : Hp) =>
 bnd (aB 0 (env 3) h) fun v1 h1 =>
 bnd (aA v1 h1) fun v2 h2 =>
 bnd (aD .neq v2 (aE 11) h2) fun v3 h3 =>
 bnd (gD v3 false (some ((env 1), h3)) h3) fun v4 h4 =>
 bnd (gD v3 false (bZ v4 h4) h4) fun v5 h5 =>
 bnd (gD v3 false (aD .gtr v5 (aE 8) h5) h5) fun v6 h6 =>
 bnd (aP v3 (.b true) v6 h6) fun v7 h7 =>
 aR v7 (
 bnd (bB [(.s []), (aE 0), (aE 0), (aE 0), .l0, .l0] [] h7) fun v8 h8 =>
 bnd (aG 6 (env 6) v8 h8) fun _ h9 =>
 bnd (aK 6 (env 6) h9) fun v10 _ =>
 some (.t [v10, (.s []), (aE 1)], h9)) (
   q0 (env 1) (env 2) (env 3) (env 6) h7) := by kernel_rfl
theorem aRf : (fun (env : aZ) (h : Hp) =>
 bnd (aB 0 (env 3) h) fun v1 h1 =>
 bnd (aA v1 h1) fun v2 h2 =>
 bnd (aD .neq v2 (aE 11) h2) fun v3 h3 =>
 bnd (gD v3 false (some ((env 1), h3)) h3) fun v4 h4 =>
 bnd (gD v3 false (bZ v4 h4) h4) fun v5 h5 =>
 bnd (gD v3 false (aD .gtr v5 (aE 8) h5) h5) fun v6 h6 =>
 bnd (aP v3 (.b true) v6 h6) fun v7 h7 =>
 aR v7 (
 bnd (bB [(.s []), (aE 0), (aE 0), (aE 0), .l0, .l0] [] h7) fun v8 h8 =>
 bnd (aG 6 (env 6) v8 h8) fun _ h9 =>
 bnd (aK 6 (env 6) h9) fun v10 _ =>
 some (.t [v10, (.s []), (aE 1)], h9)) (
   rP r n (env 1) (env 2) (env 3) (env 6) h7)) = (K4 (rB r n) 1 2 3 6) := by kernel_rfl
theorem cHe : D112 r n aJs x0 r112 = (K4 (rB r n) 1 2 3 6) :=
 (bDd r n).trans
 ((bEo r n (rP r n)).trans (aRf r n))
theorem cJs : D112 r n c112 x0 r112 = D112 r n aHi x0 (K4 (rB r n) 1 2 3 6) :=
 congrArg (fun k => D112 r n aHi x0 k) (cHe r n)
theorem cEe (q0 : dL) : D112 r n aHi x0 (K4 q0 1 2 3 6) = fun (env : aZ) (h : Hp) =>
 bnd (bS (env 0) h) fun v1 h1 =>
 bnd (bM [(.s []), (aE 0), (aE 0), (aE 0), .l0, .l0] h1) fun v2 h2 =>
  q0 (env 1) (env 2) v1 v2 h2 := by kernel_rfl
theorem bXt : (fun (env : aZ) (h : Hp) =>
 bnd (bS (env 0) h) fun v1 h1 =>
 bnd (bM [(.s []), (aE 0), (aE 0), (aE 0), .l0, .l0] h1) fun v2 h2 =>
  rB r n (env 1) (env 2) v1 v2 h2) = (K3 (s112 r n) 0 1 2) := by kernel_rfl
theorem dJk : D112 r n c112 x0 r112 = (K3 (s112 r n) 0 1 2) :=
 (cJs r n).trans
 ((cEe r n (rB r n)).trans (bXt r n))
theorem dAy : aF CF r n 112 args h = s112 r n (aS args 0) (aS args 1) (aS args 2) h :=
 (by kernel_rfl : aF CF r n 112 args h = D112 r n c112 x0 r112 (aH args) h).trans ((congrFun (congrFun (dJk r n) (aH args)) h).trans (by kernel_rfl))
noncomputable def s113 (r : RT) (n : Nat) (x0 x1 x2 : DV) (h0 : Hp) : aJ :=
 bnd (bS x2 h0) fun v1 h1 =>
 bnd (r 67 [x0, x1] h1) fun v2 h2 =>
 bnd (gX .not v2 h2) fun v3 h3 =>
 aR v3 (
 some (.t [(aE 0), (aE 24)], h3)) (
 bnd (aK 6 v1 h3) fun v4 h4 =>
 bnd (r 37 [x0, x1] h4) fun v5 h5 =>
 cnd (bG (aK 6 v1 h5) v4 && true) (
 bnd (r 125 [v4, v5] h5) fun v6 h6 =>
 bnd (aD .neq v6 (aE 0) h6) fun v7 h7 =>
 aR v7 (
 some (.t [(aE 0), v6], h7)) (
 bnd (aB 0 v1 h7) fun v8 h8 =>
 bnd (aA v8 h8) fun v9 h9 =>
 bnd (r 44 [x0, v9] h9) fun v10 h10 =>
 bnd (aC 0 v10 h10) fun v11 h11 =>
 bnd (aC 1 v10 h11) fun v12 h12 =>
 bnd (aD .neq v12 (aE 0) h12) fun v13 h13 =>
 aR v13 (
 some (.t [(aE 0), v12], h13)) (
 bnd (aB 4 v1 h13) fun v14 h14 =>
 bnd (aA v14 h14) fun v15 h15 =>
 bnd (bB [(aE 0), (.s []), (aE 0), .l0] [(0, 1, (aE 4)), (3, 1, v15)] h15) fun v16 h16 =>
 bnd (r 126 [x0, v16] h16) fun v17 h17 =>
 bnd (aC 0 v17 h17) fun v18 h18 =>
 bnd (aC 1 v17 h18) fun v19 h19 =>
 bnd (aD .neq v19 (aE 0) h19) fun v20 h20 =>
 aR v20 (
 some (.t [(aE 0), v19], h20)) (
 bnd (aB 5 v1 h20) fun v21 h21 =>
 bnd (aA v21 h21) fun v22 h22 =>
 bnd (r 127 [v22] h22) fun v23 h23 =>
 bnd (aC 0 v23 h23) fun v24 h24 =>
 bnd (aC 1 v23 h24) fun v25 h25 =>
 bnd (r 128 [x0, v24] h25) fun v26 h26 =>
 bnd (aC 0 v26 h26) fun v27 h27 =>
 bnd (aC 1 v26 h27) fun v28 h28 =>
 bnd (aD .neq v28 (aE 0) h28) fun v29 h29 =>
 aR v29 (
 some (.t [(aE 0), v28], h29)) (
 bnd (r 30 [x0, (aE 14)] (resv 1 h29)) fun v30 h30 =>
 bnd (aB 1 v1 h30) fun v31 h31 =>
 bnd (aA v31 h31) fun v32 h32 =>
 cnd (bG (aA v31 (resv 1 h29)) v32 && true) (
 bnd (r 71 [v32] h32) fun v33 h33 =>
 bnd (aB 2 v1 h33) fun v34 h34 =>
 bnd (aA v34 h34) fun v35 h35 =>
 cnd (bG (aA v34 h30) v35 && (bG (aA v34 (resv 1 h29)) v35 && true)) (
 bnd (r 71 [v35] h35) fun v36 h36 =>
 bnd (aB 3 v1 h36) fun v37 h37 =>
 bnd (aA v37 h37) fun v38 h38 =>
 cnd (bG (aA v37 h33) v38 && (bG (aA v37 h30) v38 && (bG (aA v37 (resv 1 h29)) v38 && true))) (
 bnd (r 71 [v38] h38) fun v39 h39 =>
 bnd (bK (bW 0 h29.next) [(aE 0), (aE 0), (aE 0), (aE 0), (aE 0), (aE 0), (aE 0)] 7 [(0, 1, v11), (1, 1, v33), (2, 1, v36), (3, 1, v39), (4, 1, v18), (5, 1, v27), (6, 1, x1)] h39) fun v40 h40 =>
 bnd (r 82 [x0, v30, (aE 0), v40] h40) fun v41 h41 =>
 bnd (aC 0 v41 h41) fun v42 h42 =>
 bnd (aC 1 v41 h42) fun v43 h43 =>
 some (.t [v42, v43], h43))))))))))
noncomputable abbrev c113 : Code := cf Tryz.f113
noncomputable abbrev r113 : K := aU CF Tryz.f113
noncomputable def D113 (r : RT) (n : Nat) (c : Code) (X : Nat → K) (k : K) : K := aM CF r 83 n c X r113 k
theorem dFe : D113 r n c113 x0 r113 = (K3 (s113 r n) 0 1 2) :=
 (by kernel_rfl)
theorem cUj : aF CF r n 113 args h = s113 r n (aS args 0) (aS args 1) (aS args 2) h :=
 (by kernel_rfl : aF CF r n 113 args h = D113 r n c113 x0 r113 (aH args) h).trans ((congrFun (congrFun (dFe r n) (aH args)) h).trans (by kernel_rfl))
noncomputable def eR (r : RT) (n : Nat) (x0 x1 x3 : DV) (h0 : Hp) : aJ :=
 bnd (r 51 [x0, x1, (aE 4)] h0) fun v1 h1 =>
 bnd (r 73 [x0, x3, v1] h1) fun v2 h2 =>
 bnd (aC 0 v2 h2) fun v3 h3 =>
 bnd (aC 1 v2 h3) fun v4 h4 =>
 bnd (aD .neq v4 (aE 0) h4) fun v5 h5 =>
 aR v5 (
 some (v4, h5)) (
 bnd (aN x0 h5) fun v6 h6 =>
 bnd (aB 0 v6 h6) fun v7 h7 =>
 bnd (aA v7 h7) fun v8 h8 =>
 bnd (qF [v8, x1, (aE 4), v3] h8) fun v9 h9 =>
 some (v9, h9))
noncomputable def aYz (r : RT) (n : Nat) (kk5 : fG) (x0 x1 x2 x3 x9 x10 : DV) (h0 : Hp) : aJ :=
 bnd (aD .gtr x10 (aE 0) h0) fun v1 h1 =>
 bnd (gD v1 true (some (x0, h1)) h1) fun v2 h2 =>
 bnd (gD v1 true (aN v2 h2) h2) fun v3 h3 =>
 bnd (gD v1 true (aB 0 v3 h3) h3) fun v4 h4 =>
 bnd (gD v1 true (aA v4 h4) h4) fun v5 h5 =>
 bnd (gD v1 true (some (x9, h5)) h5) fun v6 h6 =>
 bnd (gD v1 true (isF [v5, v6] h6) h6) fun v7 h7 =>
 bnd (aP v1 v7 (.b false) h7) fun v8 h8 =>
 aR v8 (
 bnd (r 51 [x0, x9, (aE 0)] h8) fun v9 h9 =>
 bnd (r 51 [x0, v9, (aE 0)] h9) fun v10 h10 =>
 bnd (aD .eql v10 x2 h10) fun v11 h11 =>
 aR v11 (
 bnd (aN x0 h11) fun v12 h12 =>
 bnd (aB 0 v12 h12) fun v13 h13 =>
 bnd (aA v13 h13) fun v14 h14 =>
 bnd (qF [v14, x9, (aE 0), x3] h14) fun v15 h15 =>
 some (v15, h15)) (
 bnd (r 51 [x0, x9, (aE 1)] h11) fun v16 h16 =>
 bnd (aD .sub x10 (aE 1) h16) fun v17 h17 =>
    kk5 x0 x1 x2 x3 v16 v17 h17)) (
      eR r n x0 x1 x3 h8)
noncomputable def sV (r : RT) (n : Nat) (m : Nat) : fG :=
 Nat.rec (motive := fun _ => fG) (fun _ _ _ _ _ _ _ => none) (fun _ ih => aYz r n ih) m
noncomputable def bXu (r : RT) (n : Nat) : fG := sV r n n
noncomputable def aOt (r : RT) (n : Nat) (x0 x1 x2 x3 x9 x10 : DV) (h0 : Hp) : aJ :=
 bXu r n x0 x1 x2 x3 x9 x10 h0
noncomputable def aUg (r : RT) (n : Nat) (x0 x1 x2 x3 x9 : DV) (h0 : Hp) : aJ :=
 bnd (aN x0 h0) fun v1 h1 =>
 bnd (aB 0 v1 h1) fun v2 h2 =>
 bnd (aA v2 h2) fun v3 h3 =>
 bnd (aAi [v3] h3) fun v4 h4 =>
  aOt r n x0 x1 x2 x3 x9 v4 h4
noncomputable def aUk (r : RT) (n : Nat) (x0 x1 x2 x3 : DV) (h0 : Hp) : aJ :=
 bnd (r 51 [x0, x1, (aE 4)] h0) fun v1 h1 =>
  aUg r n x0 x1 x2 x3 v1 h1
noncomputable def s114 (r : RT) (n : Nat) (x0 x1 x2 x3 : DV) (h0 : Hp) : aJ :=
 aUk r n x0 x1 x2 x3 h0
noncomputable abbrev c114 : Code := cf Tryz.f114
noncomputable abbrev aGi : Code := cR c114
noncomputable abbrev aDp : Code := cR aGi
noncomputable abbrev cWd : Code := cR aDp
noncomputable abbrev yL : Code := cL aDp
noncomputable abbrev aOc : Code := cR yL
noncomputable abbrev aCv : Code := cL aOc
noncomputable abbrev nX : Code := cL aCv
noncomputable abbrev bVi : Code := cL yL
noncomputable abbrev bNh : Code := cL aGi
noncomputable abbrev aVs : Code := cL c114
noncomputable abbrev r114 : K := aU CF Tryz.f114
noncomputable def D114 (r : RT) (n : Nat) (c : Code) (X : Nat → K) (k : K) : K := aM CF r 69 n c X r114 k
theorem cBe : D114 r n cWd x0 r114 = (K3 (eR r n) 0 1 3) :=
 (by kernel_rfl)
theorem bPw (kk5 : fG) : D114 r n nX (xs x0 0 (K3 (eR r n) 0 1 3)) (K6 kk5 0 1 2 3 9 10) = (K6 (aYz r n kk5) 0 1 2 3 9 10) :=
 (by kernel_rfl)
theorem bGw (m : Nat) : aO (fun kk => D114 r n nX (xs x0 0 (K3 (eR r n) 0 1 3)) kk) m = (K6 (sV r n m) 0 1 2 3 9 10) := by
 induction m with
 | zero => exact (by kernel_rfl : aO (fun kk => D114 r n nX (xs x0 0 (K3 (eR r n) 0 1 3)) kk) 0 = (K6 (sV r n 0) 0 1 2 3 9 10))
 | succ m ih =>
  refine (by kernel_rfl : aO (fun kk => D114 r n nX (xs x0 0 (K3 (eR r n) 0 1 3)) kk) (m + 1) = D114 r n nX (xs x0 0 (K3 (eR r n) 0 1 3)) (aO (fun kk => D114 r n nX (xs x0 0 (K3 (eR r n) 0 1 3)) kk) m)).trans ?_
  rw [ih]
  exact (bPw r n (sV r n m)).trans (by kernel_rfl)
theorem cEw : D114 r n aCv (xs x0 0 (K3 (eR r n) 0 1 3)) (K3 (eR r n) 0 1 3) = (K6 (bXu r n) 0 1 2 3 9 10) :=
 (by kernel_rfl : D114 r n aCv (xs x0 0 (K3 (eR r n) 0 1 3)) (K3 (eR r n) 0 1 3) = aO (fun kk => D114 r n nX (xs x0 0 (K3 (eR r n) 0 1 3)) kk) n).trans ((bGw r n n).trans (by kernel_rfl))
theorem cDa : D114 r n aOc x0 (K3 (eR r n) 0 1 3) = (K6 (aOt r n) 0 1 2 3 9 10) :=
 (by kernel_rfl : D114 r n aOc x0 (K3 (eR r n) 0 1 3) = D114 r n aCv (xs x0 0 (K3 (eR r n) 0 1 3)) (K3 (eR r n) 0 1 3)).trans
 ((cEw r n).trans (by kernel_rfl))
theorem bQp : D114 r n aDp x0 r114 = D114 r n yL x0 (K3 (eR r n) 0 1 3) :=
 congrArg (fun k => D114 r n yL x0 k) (cBe r n)
theorem bJu : D114 r n yL x0 (K3 (eR r n) 0 1 3) = D114 r n bVi x0 (K6 (aOt r n) 0 1 2 3 9 10) :=
 congrArg (fun k => D114 r n bVi x0 k) (cDa r n)
theorem cCh : D114 r n aDp x0 r114 = (K5 (aUg r n) 0 1 2 3 9) :=
 (bQp r n).trans
 ((bJu r n).trans
 ((by kernel_rfl)))
theorem bUj : D114 r n aGi x0 r114 = D114 r n bNh x0 (K5 (aUg r n) 0 1 2 3 9) :=
 congrArg (fun k => D114 r n bNh x0 k) (cCh r n)
theorem cEd : D114 r n aGi x0 r114 = (K4 (aUk r n) 0 1 2 3) :=
 (bUj r n).trans
 ((by kernel_rfl))
theorem dAa : D114 r n c114 x0 r114 = D114 r n aVs x0 (K4 (aUk r n) 0 1 2 3) :=
 congrArg (fun k => D114 r n aVs x0 k) (cEd r n)
theorem dEh : D114 r n c114 x0 r114 = (K4 (s114 r n) 0 1 2 3) :=
 (dAa r n).trans
 ((by kernel_rfl))
theorem cRx : aF CF r n 114 args h = s114 r n (aS args 0) (aS args 1) (aS args 2) (aS args 3) h :=
 (by kernel_rfl : aF CF r n 114 args h = D114 r n c114 x0 r114 (aH args) h).trans ((congrFun (congrFun (dEh r n) (aH args)) h).trans (by kernel_rfl))
noncomputable def eT (r : RT) (n : Nat) (x0 x6 : DV) (h0 : Hp) : aJ :=
 bnd (dU x0 h0) fun v1 h1 =>
 bnd (bB [(aE 0), (.s []), (aE 0), (aE 0)] [(3, 1, v1)] h1) fun v2 h2 =>
 bnd (aL [(aE 0), (.s []), (aE 0), (aE 0)] 1 [(0, 4, v2)] h2) fun v3 h3 =>
 bnd (bA 4 40 x6 v3 h3) fun v4 h4 =>
 some (.t [v4, (aE 0), (aE 0)], h4)
noncomputable def aBu (r : RT) (n : Nat) (kk7 : mW) (x0 x5 x6 : DV) (h0 : Hp) : aJ :=
 bnd (r 130 [(.s [9, 10, 13, 32])] h0) fun v1 h1 =>
 bnd (dU x0 h1) fun v2 h2 =>
 bnd (r 129 [x5, v1, v2] h2) fun v3 h3 =>
 bnd (aN x5 h3) fun v4 h4 =>
 bnd (aB 1 v4 h4) fun v5 h5 =>
 bnd (aA v5 h5) fun v6 h6 =>
 bnd (dU x0 h6) fun v7 h7 =>
 bnd (aD .geq v6 v7 h7) fun v8 h8 =>
 aR v8 (
   eT r n x0 x6 h8) (
 bnd (aN x5 h8) fun v9 h9 =>
 bnd (aB 1 v9 h9) fun v10 h10 =>
 bnd (aA v10 h10) fun v11 h11 =>
 bnd (fF x0 v11 h11) fun v12 h12 =>
 bnd (aD .eql v12 (.i .u8 (Int.ofNat 34)) h12) fun v13 h13 =>
 aR v13 (
 bnd (aN x5 h13) fun v14 h14 =>
 bnd (aB 1 v14 h14) fun v15 h15 =>
 bnd (aA v15 h15) fun v16 h16 =>
 bnd (aD .add v16 (aE 1) h16) fun v17 h17 =>
 bnd (fE x0 (some v17) none h17) fun v18 h18 =>
 bnd (r 131 [v18, (.i .u8 (Int.ofNat 34))] h18) fun v19 h19 =>
 bnd (aD .lss v19 (aE 0) h19) fun v20 h20 =>
 aR v20 (
 bnd (aN x5 h20) fun v21 h21 =>
 bnd (aB 1 v21 h21) fun v22 h22 =>
 bnd (aA v22 h22) fun v23 h23 =>
 some (.t [.l0, v23, (aE 11)], h23)) (
 bnd (aN x5 h20) fun v24 h24 =>
 bnd (aB 1 v24 h24) fun v25 h25 =>
 bnd (aA v25 h25) fun v26 h26 =>
 bnd (aD .add v19 (aE 2) h26) fun v27 h27 =>
 bnd (aD .add v26 v27 h27) fun v28 h28 =>
 bnd (aN x5 h28) fun v29 h29 =>
 bnd (aB 1 v29 h29) fun v30 h30 =>
 bnd (aG 1 v30 v28 h30) fun _ h31 =>
     kk7 x0 x5 x6 h31)) (
 bnd (r 132 [x5] h13) fun v32 h32 =>
 bnd (aC 0 v32 h32) fun v33 h33 =>
 bnd (aC 1 v32 h33) fun v34 h34 =>
 bnd (bM [(aE 0), (.s []), (aE 0), (aE 0)] h34) fun v35 h35 =>
 bnd (aG 4 v35 v33 h35) fun _ h36 =>
 bnd (aD .neq v34 (aE 0) h36) fun v37 h37 =>
 aR v37 (
 bnd (aB 3 v35 h37) fun v38 h38 =>
 bnd (aA v38 h38) fun v39 h39 =>
 some (.t [.l0, v39, v34], h39)) (
 bnd (aK 4 v35 h37) fun v40 h40 =>
 bnd (aL [(aE 0), (.s []), (aE 0), (aE 0)] 1 [(0, 4, v40)] h40) fun v41 h41 =>
 bnd (bA 4 40 x6 v41 h41) fun v42 h42 =>
     kk7 x0 x5 v42 h42)))
noncomputable def uV (r : RT) (n : Nat) (m : Nat) : mW :=
 Nat.rec (motive := fun _ => mW) (fun _ _ _ _ => none) (fun _ ih => aBu r n ih) m
noncomputable def bGm (r : RT) (n : Nat) : mW := uV r n n
noncomputable def aOu (r : RT) (n : Nat) (x0 x5 x6 : DV) (h0 : Hp) : aJ :=
 bGm r n x0 x5 x6 h0
noncomputable def aPf (r : RT) (n : Nat) (x0 x5 x6 : DV) (h0 : Hp) : aJ :=
 aOu r n x0 x5 x6 h0
noncomputable def yU (r : RT) (n : Nat) (x0 x5 : DV) (h0 : Hp) : aJ :=
 aPf r n x0 x5 .l0 h0
noncomputable def aBf (r : RT) (n : Nat) (x0 : DV) (h0 : Hp) : aJ :=
 bnd (bB [(.s []), (aE 0)] [(0, 1, x0)] h0) fun v1 h1 =>
 bnd (bS v1 h1) fun v2 h2 =>
  yU r n x0 v2 h2
noncomputable def aPm (r : RT) (n : Nat) (x0 : DV) (h0 : Hp) : aJ :=
 bnd (dU x0 h0) fun v1 h1 =>
 bnd (aD .gtr v1 (aE 2000) h1) fun v2 h2 =>
 aR v2 (
 some (.t [.l0, (aE 0), (aE 12)], h2)) (
  aBf r n x0 h2)
noncomputable def s117 (r : RT) (n : Nat) (x0 : DV) (h0 : Hp) : aJ :=
 aPm r n x0 h0
noncomputable abbrev c117 : Code := cf Tryz.f117
noncomputable abbrev aRl : Code := cR c117
noncomputable abbrev aDw : Code := cL aRl
noncomputable abbrev aEe : Code := cR aDw
noncomputable abbrev aKk : Code := cR aEe
noncomputable abbrev aHs : Code := cR aKk
noncomputable abbrev aFq : Code := cR aHs
noncomputable abbrev cUc : Code := cR aFq
noncomputable abbrev aKa : Code := cL aFq
noncomputable abbrev aJr : Code := cL aKa
noncomputable abbrev jR : Code := cL aJr
noncomputable abbrev aYj : Code := cL aHs
noncomputable abbrev bBr : Code := cL aKk
noncomputable abbrev aIw : Code := cL aEe
noncomputable abbrev aZd : Code := cL aDw
noncomputable abbrev aXq : Code := cL c117
noncomputable abbrev r117 : K := aU CF Tryz.f117
noncomputable def D117 (r : RT) (n : Nat) (c : Code) (X : Nat → K) (k : K) : K := aM CF r 80 n c X r117 k
theorem cHb : D117 r n cUc x0 r117 = (K2 (eT r n) 0 6) :=
 (by kernel_rfl)
theorem bPe (kk7 : mW) (q0 : oU) : D117 r n jR (xs x0 0 (K2 q0 0 6)) (K3 kk7 0 5 6) = fun (env : aZ) (h : Hp) =>
 bnd (r 130 [(.s [9, 10, 13, 32])] h) fun v1 h1 =>
 bnd (dU (env 0) h1) fun v2 h2 =>
 bnd (r 129 [(env 5), v1, v2] h2) fun v3 h3 =>
 bnd (aN (env 5) h3) fun v4 h4 =>
 bnd (aB 1 v4 h4) fun v5 h5 =>
 bnd (aA v5 h5) fun v6 h6 =>
 bnd (dU (env 0) h6) fun v7 h7 =>
 bnd (aD .geq v6 v7 h7) fun v8 h8 =>
 aR v8 (
   q0 (env 0) (env 6) h8) (
 bnd (aN (env 5) h8) fun v9 h9 =>
 bnd (aB 1 v9 h9) fun v10 h10 =>
 bnd (aA v10 h10) fun v11 h11 =>
 bnd (fF (env 0) v11 h11) fun v12 h12 =>
 bnd (aD .eql v12 (.i .u8 (Int.ofNat 34)) h12) fun v13 h13 =>
 aR v13 (
 bnd (aN (env 5) h13) fun v14 h14 =>
 bnd (aB 1 v14 h14) fun v15 h15 =>
 bnd (aA v15 h15) fun v16 h16 =>
 bnd (aD .add v16 (aE 1) h16) fun v17 h17 =>
 bnd (fE (env 0) (some v17) none h17) fun v18 h18 =>
 bnd (r 131 [v18, (.i .u8 (Int.ofNat 34))] h18) fun v19 h19 =>
 bnd (aD .lss v19 (aE 0) h19) fun v20 h20 =>
 aR v20 (
 bnd (aN (env 5) h20) fun v21 h21 =>
 bnd (aB 1 v21 h21) fun v22 h22 =>
 bnd (aA v22 h22) fun v23 h23 =>
 some (.t [.l0, v23, (aE 11)], h23)) (
 bnd (aN (env 5) h20) fun v24 h24 =>
 bnd (aB 1 v24 h24) fun v25 h25 =>
 bnd (aA v25 h25) fun v26 h26 =>
 bnd (aD .add v19 (aE 2) h26) fun v27 h27 =>
 bnd (aD .add v26 v27 h27) fun v28 h28 =>
 bnd (aN (env 5) h28) fun v29 h29 =>
 bnd (aB 1 v29 h29) fun v30 h30 =>
 bnd (aG 1 v30 v28 h30) fun _ h31 =>
     kk7 (env 0) (env 5) (env 6) h31)) (
 bnd (r 132 [(env 5)] h13) fun v32 h32 =>
 bnd (aC 0 v32 h32) fun v33 h33 =>
 bnd (aC 1 v32 h33) fun v34 h34 =>
 bnd (bM [(aE 0), (.s []), (aE 0), (aE 0)] h34) fun v35 h35 =>
 bnd (aG 4 v35 v33 h35) fun _ h36 =>
 bnd (aD .neq v34 (aE 0) h36) fun v37 h37 =>
 aR v37 (
 bnd (aB 3 v35 h37) fun v38 h38 =>
 bnd (aA v38 h38) fun v39 h39 =>
 some (.t [.l0, v39, v34], h39)) (
 bnd (aK 4 v35 h37) fun v40 h40 =>
 bnd (aL [(aE 0), (.s []), (aE 0), (aE 0)] 1 [(0, 4, v40)] h40) fun v41 h41 =>
 bnd (bA 4 40 (env 6) v41 h41) fun v42 h42 =>
     kk7 (env 0) (env 5) v42 h42))) := by kernel_rfl
theorem bGg (kk7 : mW) : (fun (env : aZ) (h : Hp) =>
 bnd (r 130 [(.s [9, 10, 13, 32])] h) fun v1 h1 =>
 bnd (dU (env 0) h1) fun v2 h2 =>
 bnd (r 129 [(env 5), v1, v2] h2) fun v3 h3 =>
 bnd (aN (env 5) h3) fun v4 h4 =>
 bnd (aB 1 v4 h4) fun v5 h5 =>
 bnd (aA v5 h5) fun v6 h6 =>
 bnd (dU (env 0) h6) fun v7 h7 =>
 bnd (aD .geq v6 v7 h7) fun v8 h8 =>
 aR v8 (
   eT r n (env 0) (env 6) h8) (
 bnd (aN (env 5) h8) fun v9 h9 =>
 bnd (aB 1 v9 h9) fun v10 h10 =>
 bnd (aA v10 h10) fun v11 h11 =>
 bnd (fF (env 0) v11 h11) fun v12 h12 =>
 bnd (aD .eql v12 (.i .u8 (Int.ofNat 34)) h12) fun v13 h13 =>
 aR v13 (
 bnd (aN (env 5) h13) fun v14 h14 =>
 bnd (aB 1 v14 h14) fun v15 h15 =>
 bnd (aA v15 h15) fun v16 h16 =>
 bnd (aD .add v16 (aE 1) h16) fun v17 h17 =>
 bnd (fE (env 0) (some v17) none h17) fun v18 h18 =>
 bnd (r 131 [v18, (.i .u8 (Int.ofNat 34))] h18) fun v19 h19 =>
 bnd (aD .lss v19 (aE 0) h19) fun v20 h20 =>
 aR v20 (
 bnd (aN (env 5) h20) fun v21 h21 =>
 bnd (aB 1 v21 h21) fun v22 h22 =>
 bnd (aA v22 h22) fun v23 h23 =>
 some (.t [.l0, v23, (aE 11)], h23)) (
 bnd (aN (env 5) h20) fun v24 h24 =>
 bnd (aB 1 v24 h24) fun v25 h25 =>
 bnd (aA v25 h25) fun v26 h26 =>
 bnd (aD .add v19 (aE 2) h26) fun v27 h27 =>
 bnd (aD .add v26 v27 h27) fun v28 h28 =>
 bnd (aN (env 5) h28) fun v29 h29 =>
 bnd (aB 1 v29 h29) fun v30 h30 =>
 bnd (aG 1 v30 v28 h30) fun _ h31 =>
     kk7 (env 0) (env 5) (env 6) h31)) (
 bnd (r 132 [(env 5)] h13) fun v32 h32 =>
 bnd (aC 0 v32 h32) fun v33 h33 =>
 bnd (aC 1 v32 h33) fun v34 h34 =>
 bnd (bM [(aE 0), (.s []), (aE 0), (aE 0)] h34) fun v35 h35 =>
 bnd (aG 4 v35 v33 h35) fun _ h36 =>
 bnd (aD .neq v34 (aE 0) h36) fun v37 h37 =>
 aR v37 (
 bnd (aB 3 v35 h37) fun v38 h38 =>
 bnd (aA v38 h38) fun v39 h39 =>
 some (.t [.l0, v39, v34], h39)) (
 bnd (aK 4 v35 h37) fun v40 h40 =>
 bnd (aL [(aE 0), (.s []), (aE 0), (aE 0)] 1 [(0, 4, v40)] h40) fun v41 h41 =>
 bnd (bA 4 40 (env 6) v41 h41) fun v42 h42 =>
     kk7 (env 0) (env 5) v42 h42)))) = (K3 (aBu r n kk7) 0 5 6) := by kernel_rfl
theorem bKc (kk7 : mW) : D117 r n jR (xs x0 0 (K2 (eT r n) 0 6)) (K3 kk7 0 5 6) = (K3 (aBu r n kk7) 0 5 6) :=
 (bPe r n kk7 (eT r n)).trans (bGg r n kk7)
theorem bXi (m : Nat) : aO (fun kk => D117 r n jR (xs x0 0 (K2 (eT r n) 0 6)) kk) m = (K3 (uV r n m) 0 5 6) := by
 induction m with
 | zero => exact (by kernel_rfl : aO (fun kk => D117 r n jR (xs x0 0 (K2 (eT r n) 0 6)) kk) 0 = (K3 (uV r n 0) 0 5 6))
 | succ m ih =>
  refine (by kernel_rfl : aO (fun kk => D117 r n jR (xs x0 0 (K2 (eT r n) 0 6)) kk) (m + 1) = D117 r n jR (xs x0 0 (K2 (eT r n) 0 6)) (aO (fun kk => D117 r n jR (xs x0 0 (K2 (eT r n) 0 6)) kk) m)).trans ?_
  rw [ih]
  exact (bKc r n (uV r n m)).trans (by kernel_rfl)
theorem cDq : D117 r n aJr (xs x0 0 (K2 (eT r n) 0 6)) (K2 (eT r n) 0 6) = (K3 (bGm r n) 0 5 6) :=
 (by kernel_rfl : D117 r n aJr (xs x0 0 (K2 (eT r n) 0 6)) (K2 (eT r n) 0 6) = aO (fun kk => D117 r n jR (xs x0 0 (K2 (eT r n) 0 6)) kk) n).trans ((bXi r n n).trans (by kernel_rfl))
theorem bXg : D117 r n aFq x0 r117 = D117 r n aKa x0 (K2 (eT r n) 0 6) :=
 congrArg (fun k => D117 r n aKa x0 k) (cHb r n)
theorem cBp : D117 r n aFq x0 r117 = (K3 (aOu r n) 0 5 6) :=
 (bXg r n).trans
 ((by kernel_rfl : D117 r n aKa x0 (K2 (eT r n) 0 6) = D117 r n aJr (xs x0 0 (K2 (eT r n) 0 6)) (K2 (eT r n) 0 6)).trans
 ((cDq r n).trans (by kernel_rfl)))
theorem bNl : D117 r n aHs x0 r117 = D117 r n aYj x0 (K3 (aOu r n) 0 5 6) :=
 congrArg (fun k => D117 r n aYj x0 k) (cBp r n)
theorem cIb : D117 r n aHs x0 r117 = (K3 (aPf r n) 0 5 6) :=
 (bNl r n).trans
 ((by kernel_rfl))
theorem bIh : D117 r n aKk x0 r117 = D117 r n bBr x0 (K3 (aPf r n) 0 5 6) :=
 congrArg (fun k => D117 r n bBr x0 k) (cIb r n)
theorem cIy : D117 r n aKk x0 r117 = (K2 (yU r n) 0 5) :=
 (bIh r n).trans
 ((by kernel_rfl))
theorem bYw : D117 r n aEe x0 r117 = D117 r n aIw x0 (K2 (yU r n) 0 5) :=
 congrArg (fun k => D117 r n aIw x0 k) (cIy r n)
theorem bNk (q0 : oU) : D117 r n aIw x0 (K2 q0 0 5) = fun (env : aZ) (h : Hp) =>
 bnd (bB [(.s []), (aE 0)] [(0, 1, (env 0))] h) fun v1 h1 =>
 bnd (bS v1 h1) fun v2 h2 =>
  q0 (env 0) v2 h2 := by kernel_rfl
theorem bCf : (fun (env : aZ) (h : Hp) =>
 bnd (bB [(.s []), (aE 0)] [(0, 1, (env 0))] h) fun v1 h1 =>
 bnd (bS v1 h1) fun v2 h2 =>
  yU r n (env 0) v2 h2) = (K1 (aBf r n) 0) := by kernel_rfl
theorem cIx : D117 r n aEe x0 r117 = (K1 (aBf r n) 0) :=
 (bYw r n).trans
 ((bNk r n (yU r n)).trans (bCf r n))
theorem bHa : D117 r n aDw x0 r117 = D117 r n aZd x0 (K1 (aBf r n) 0) :=
 congrArg (fun k => D117 r n aZd x0 k) (cIx r n)
theorem cMm : D117 r n aRl x0 r117 = (K1 (aPm r n) 0) :=
 (by kernel_rfl : D117 r n aRl x0 r117 = D117 r n aDw x0 r117).trans
 ((bHa r n).trans
 ((by kernel_rfl)))
theorem cXy : D117 r n c117 x0 r117 = D117 r n aXq x0 (K1 (aPm r n) 0) :=
 congrArg (fun k => D117 r n aXq x0 k) (cMm r n)
theorem dGh : D117 r n c117 x0 r117 = (K1 (s117 r n) 0) :=
 (cXy r n).trans
 ((by kernel_rfl))
theorem cSi : aF CF r n 117 args h = s117 r n (aS args 0) h :=
 (by kernel_rfl : aF CF r n 117 args h = D117 r n c117 x0 r117 (aH args) h).trans ((congrFun (congrFun (dGh r n) (aH args)) h).trans (by kernel_rfl))
end Go.Dd

namespace Go.Dd
open Go.Proofs
variable (r : RT) (n : Nat) (args : List DV) (h : Hp)
noncomputable def s120 (r : RT) (n : Nat) (x0 x1 x2 : DV) (h0 : Hp) : aJ :=
 bnd (bM [(aE 0), (.s []), (aE 0), (aE 0)] h0) fun v1 h1 =>
 bnd (r 133 [x0, x1, x2] h1) fun v2 h2 =>
 bnd (gX .not v2 h2) fun v3 h3 =>
 aR v3 (
 bnd (r 137 [x0, (aE 0)] h3) fun v4 h4 =>
 bnd (r 136 [x0, v4, (aE 13)] h4) fun v5 h5 =>
 bnd (bB [(aE 0), (.s []), (aE 0), (aE 0)] [] h5) fun v6 h6 =>
 bnd (aG 4 v1 v6 h6) fun _ h7 =>
 bnd (aK 4 v1 h7) fun v8 _ =>
 some (v8, h7)) (
 bnd (r 134 [x0] h3) fun v9 h9 =>
 bnd (aG 4 v1 v9 h9) fun _ h10 =>
 bnd (aK 4 v1 h10) fun v11 _ =>
 some (v11, h10))
noncomputable abbrev c120 : Code := cf Tryz.f120
noncomputable abbrev r120 : K := aU CF Tryz.f120
noncomputable def D120 (r : RT) (n : Nat) (c : Code) (X : Nat → K) (k : K) : K := aM CF r 19 n c X r120 k
theorem dEj : D120 r n c120 x0 r120 = (K3 (s120 r n) 0 1 2) :=
 (by kernel_rfl)
theorem cYc : aF CF r n 120 args h = s120 r n (aS args 0) (aS args 1) (aS args 2) h :=
 (by kernel_rfl : aF CF r n 120 args h = D120 r n c120 x0 r120 (aH args) h).trans ((congrFun (congrFun (dEj r n) (aH args)) h).trans (by kernel_rfl))
noncomputable def bAz (r : RT) (n : Nat) (kk6 : mW) (x0 x1 x4 : DV) (h0 : Hp) : aJ :=
 bnd (gD x4 false (some (x0, h0)) h0) fun v1 h1 =>
 bnd (gD x4 false (r 133 [v1, (aE 2), (.s [])] h1) h1) fun v2 h2 =>
 bnd (aP x4 (.b true) v2 h2) fun v3 h3 =>
 aR v3 (
 bnd (aN x1 h3) fun v4 h4 =>
 bnd (aB 1 v4 h4) fun v5 h5 =>
 bnd (aA v5 h5) fun v6 h6 =>
 bnd (r 120 [x0, (aE 2), (.s [])] h6) fun v7 h7 =>
 cnd (bG (aA v5 h7) v6 && true) (
 bnd (fO 1 v7 h7) fun v8 h8 =>
 bnd (fM .add v6 v8 h8) fun v9 h9 =>
 bnd (aN x1 h9) fun v10 h10 =>
 bnd (aB 1 v10 h10) fun v11 h11 =>
 bnd (aG 1 v11 v9 h11) fun v12 h12 =>
 bnd (aN x1 (resv 1 h12)) fun v13 h13 =>
 bnd (aB 3 v13 h13) fun v14 h14 =>
 bnd (aA v14 h14) fun v15 h15 =>
 bnd (aN x1 h15) fun v16 h16 =>
 bnd (aB 3 v16 h16) fun v17 h17 =>
 bnd (aA v17 h17) fun v18 h18 =>
 bnd (r 138 [x0, (aE 1), v18] h18) fun v19 h19 =>
 cnd (bG (aA v14 h19) v15 && true) (
 bnd (bK (bW 0 h12.next) [(.s [])] 1 [(0, 1, v19)] h19) fun v20 h20 =>
 bnd (bA 1 16 v15 v20 h20) fun v21 h21 =>
 bnd (aN x1 h21) fun v22 h22 =>
 bnd (aB 3 v22 h22) fun v23 h23 =>
 bnd (aG 1 v23 v21 h23) fun v24 h24 =>
      kk6 x0 x1 (.b false) h24))) (
 some (.t [], h3))
noncomputable def tP (r : RT) (n : Nat) (m : Nat) : mW :=
 Nat.rec (motive := fun _ => mW) (fun _ _ _ _ => none) (fun _ ih => bAz r n ih) m
noncomputable def bRk (r : RT) (n : Nat) : mW := tP r n n
noncomputable def aTp (r : RT) (n : Nat) (x0 x1 x4 : DV) (h0 : Hp) : aJ :=
 bRk r n x0 x1 x4 h0
noncomputable def bPh (r : RT) (n : Nat) (x0 x1 : DV) (h0 : Hp) : aJ :=
 aTp r n x0 x1 (.b true) h0
noncomputable def aPg (r : RT) (n : Nat) (x0 x1 x44 : DV) (h0 : Hp) : aJ :=
 aR x44 (
 bnd (r 134 [x0] h0) fun v1 h1 =>
 bnd (fO 1 v1 h1) fun v2 h2 =>
 bnd (aN x1 h2) fun v3 h3 =>
 bnd (aB 1 v3 h3) fun v4 h4 =>
 bnd (aG 1 v4 v2 h4) fun _ h5 =>
 bnd (aN x1 (resv 1 h5)) fun v6 h6 =>
 bnd (aB 3 v6 h6) fun v7 h7 =>
 bnd (aA v7 h7) fun v8 h8 =>
 bnd (aN x1 h8) fun v9 h9 =>
 bnd (aB 3 v9 h9) fun v10 h10 =>
 bnd (aA v10 h10) fun v11 h11 =>
 bnd (r 138 [x0, (aE 1), v11] h11) fun v12 h12 =>
 cnd (bG (aA v7 h12) v8 && true) (
 bnd (bK (bW 0 h5.next) [(.s [])] 1 [(0, 1, v12)] h12) fun v13 h13 =>
 bnd (bA 1 16 v8 v13 h13) fun v14 h14 =>
 bnd (aN x1 h14) fun v15 h15 =>
 bnd (aB 3 v15 h15) fun v16 h16 =>
 bnd (aG 1 v16 v14 h16) fun v17 h17 =>
 some (.t [], h17))) (
  bPh r n x0 x1 h0)
noncomputable def bXr (r : RT) (n : Nat) (x0 x1 : DV) (h0 : Hp) : aJ :=
 bnd (r 133 [x0, (aE 3), (.s [])] h0) fun v1 h1 =>
  aPg r n x0 x1 v1 h1
noncomputable def aUm (r : RT) (n : Nat) (x0 x1 x35 : DV) (h0 : Hp) : aJ :=
 aR x35 (
 bnd (r 134 [x0] h0) fun v1 h1 =>
 bnd (fO 1 v1 h1) fun v2 h2 =>
 bnd (aN x1 h2) fun v3 h3 =>
 bnd (aB 1 v3 h3) fun v4 h4 =>
 bnd (aG 1 v4 v2 h4) fun _ h5 =>
 some (.t [], h5)) (
  bXr r n x0 x1 h0)
noncomputable def s121 (r : RT) (n : Nat) (x0 x1 : DV) (h0 : Hp) : aJ :=
 bnd (r 133 [x0, (aE 1), (.s [])] h0) fun v1 h1 =>
  aUm r n x0 x1 v1 h1
noncomputable abbrev c121 : Code := cf Tryz.f121
noncomputable abbrev aHe : Code := cL c121
noncomputable abbrev xZ : Code := cR aHe
noncomputable abbrev yY : Code := cR xZ
noncomputable abbrev zR : Code := cR yY
noncomputable abbrev zU : Code := cR zR
noncomputable abbrev aOa : Code := cR zU
noncomputable abbrev aCu : Code := cL aOa
noncomputable abbrev oJ : Code := cL aCu
noncomputable abbrev bXy : Code := cL zU
noncomputable abbrev cNe : Code := cL zR
noncomputable abbrev bCa : Code := cL yY
noncomputable abbrev cIf : Code := cL xZ
noncomputable abbrev aYn : Code := cL aHe
noncomputable abbrev r121 : K := aU CF Tryz.f121
noncomputable def D121 (r : RT) (n : Nat) (c : Code) (X : Nat → K) (k : K) : K := aM CF r 68 n c X r121 k
theorem bOx (kk6 : mW) : D121 r n oJ (xs (xs x0 0 r121) 1 r121) (K3 kk6 0 1 4) = (K3 (bAz r n kk6) 0 1 4) :=
 (by kernel_rfl)
theorem bWn (m : Nat) : aO (fun kk => D121 r n oJ (xs (xs x0 0 r121) 1 r121) kk) m = (K3 (tP r n m) 0 1 4) := by
 induction m with
 | zero => exact (by kernel_rfl : aO (fun kk => D121 r n oJ (xs (xs x0 0 r121) 1 r121) kk) 0 = (K3 (tP r n 0) 0 1 4))
 | succ m ih =>
  refine (by kernel_rfl : aO (fun kk => D121 r n oJ (xs (xs x0 0 r121) 1 r121) kk) (m + 1) = D121 r n oJ (xs (xs x0 0 r121) 1 r121) (aO (fun kk => D121 r n oJ (xs (xs x0 0 r121) 1 r121) kk) m)).trans ?_
  rw [ih]
  exact (bOx r n (tP r n m)).trans (by kernel_rfl)
theorem cFx : D121 r n aCu (xs (xs x0 0 r121) 1 r121) r121 = (K3 (bRk r n) 0 1 4) :=
 (by kernel_rfl : D121 r n aCu (xs (xs x0 0 r121) 1 r121) r121 = aO (fun kk => D121 r n oJ (xs (xs x0 0 r121) 1 r121) kk) n).trans ((bWn r n n).trans (by kernel_rfl))
theorem cIv : D121 r n aOa (xs x0 0 r121) r121 = (K3 (aTp r n) 0 1 4) :=
 (by kernel_rfl : D121 r n aOa (xs x0 0 r121) r121 = D121 r n aCu (xs (xs x0 0 r121) 1 r121) r121).trans
 ((cFx r n).trans (by kernel_rfl))
theorem bSq : D121 r n zU (xs x0 0 r121) r121 = D121 r n bXy (xs x0 0 r121) (K3 (aTp r n) 0 1 4) :=
 congrArg (fun k => D121 r n bXy (xs x0 0 r121) k) (cIv r n)
theorem cBg : D121 r n zU (xs x0 0 r121) r121 = (K2 (bPh r n) 0 1) :=
 (bSq r n).trans
 ((by kernel_rfl))
theorem cCb : D121 r n zR (xs x0 0 r121) r121 = (K3 (aPg r n) 0 1 44) :=
 (by kernel_rfl : D121 r n zR (xs x0 0 r121) r121 = (fun (env : aZ) (h : Hp) => aR (opr env (cC zR)) (D121 r n cNe (xs x0 0 r121) r121 env h) (D121 r n zU (xs x0 0 r121) r121 env h))).trans (by rw [cBg r n]; kernel_rfl)
theorem bNm : D121 r n yY (xs x0 0 r121) r121 = D121 r n bCa (xs x0 0 r121) (K3 (aPg r n) 0 1 44) :=
 congrArg (fun k => D121 r n bCa (xs x0 0 r121) k) (cCb r n)
theorem cKv : D121 r n yY (xs x0 0 r121) r121 = (K2 (bXr r n) 0 1) :=
 (bNm r n).trans
 ((by kernel_rfl))
theorem cAy : D121 r n xZ (xs x0 0 r121) r121 = (K3 (aUm r n) 0 1 35) :=
 (by kernel_rfl : D121 r n xZ (xs x0 0 r121) r121 = (fun (env : aZ) (h : Hp) => aR (opr env (cC xZ)) (D121 r n cIf (xs x0 0 r121) r121 env h) (D121 r n yY (xs x0 0 r121) r121 env h))).trans (by rw [cKv r n]; kernel_rfl)
theorem cRw : D121 r n aHe (xs x0 0 r121) r121 = D121 r n aYn (xs x0 0 r121) (K3 (aUm r n) 0 1 35) :=
 congrArg (fun k => D121 r n aYn (xs x0 0 r121) k) (cAy r n)
theorem dId : D121 r n c121 x0 r121 = (K2 (s121 r n) 0 1) :=
 (by kernel_rfl : D121 r n c121 x0 r121 = D121 r n aHe (xs x0 0 r121) r121).trans
 ((cRw r n).trans
 ((by kernel_rfl)))
theorem cZg : aF CF r n 121 args h = s121 r n (aS args 0) (aS args 1) h :=
 (by kernel_rfl : aF CF r n 121 args h = D121 r n c121 x0 r121 (aH args) h).trans ((congrFun (congrFun (dId r n) (aH args)) h).trans (by kernel_rfl))
noncomputable def aKd (r : RT) (n : Nat) (x0 x3 : DV) (h0 : Hp) : aJ :=
 bnd (r 120 [x0, (aE 3), (.s [62])] h0) fun v1 h1 =>
 bnd (aB 2 x3 h1) fun v2 h2 =>
 bnd (aA v2 h2) fun v3 h3 =>
 some (v3, h3)
noncomputable def wK (r : RT) (n : Nat) (x0 x3 : DV) (h0 : Hp) : aJ :=
 bnd (aB 2 x3 h0) fun v1 h1 =>
 bnd (aA v1 h1) fun v2 h2 =>
 bnd (aD .gtr v2 (aE 255) h2) fun v3 h3 =>
 aR v3 (
 bnd (aK 4 x3 h3) fun v4 h4 =>
 bnd (r 136 [x0, v4, (aE 2)] h4) fun v5 h5 =>
  aKd r n x0 x3 h5) (
  aKd r n x0 x3 h3)
noncomputable def aIh (r : RT) (n : Nat) (x0 : DV) (h0 : Hp) : aJ :=
 bnd (r 120 [x0, (aE 4), (.s [])] h0) fun v1 h1 =>
 bnd (bM [(aE 0), (.s []), (aE 0), (aE 0)] h1) fun v2 h2 =>
 bnd (aG 4 v2 v1 h2) fun _ h3 =>
  wK r n x0 v2 h3
noncomputable def aQu (r : RT) (n : Nat) (x0 : DV) (h0 : Hp) : aJ :=
 bnd (r 120 [x0, (aE 2), (.s [112, 114, 105, 109, 105, 116, 105, 118, 101, 58])] h0) fun v1 h1 =>
  aIh r n x0 h1
noncomputable def aOl (r : RT) (n : Nat) (x0 : DV) (h0 : Hp) : aJ :=
 bnd (r 134 [x0] h0) fun v1 h1 =>
  aQu r n x0 h1
noncomputable def aTt (r : RT) (n : Nat) (x0 : DV) (h0 : Hp) : aJ :=
 bnd (r 133 [x0, (aE 3), (.s [60])] h0) fun v1 h1 =>
 bnd (gX .not v1 h1) fun v2 h2 =>
 aR v2 (
 some ((aE 0), h2)) (
  aOl r n x0 h2)
noncomputable def s122 (r : RT) (n : Nat) (x0 : DV) (h0 : Hp) : aJ :=
 aTt r n x0 h0
noncomputable abbrev c122 : Code := cf Tryz.f122
noncomputable abbrev aCa : Code := cR c122
noncomputable abbrev aKb : Code := cR aCa
noncomputable abbrev aEo : Code := cR aKb
noncomputable abbrev aDt : Code := cR aEo
noncomputable abbrev aCq : Code := cR aDt
noncomputable abbrev cZu : Code := cR aCq
noncomputable abbrev bQj : Code := cL aCq
noncomputable abbrev aQs : Code := cL aDt
noncomputable abbrev bRh : Code := cL aEo
noncomputable abbrev bAx : Code := cL aKb
noncomputable abbrev bAb : Code := cL aCa
noncomputable abbrev aXx : Code := cL c122
noncomputable abbrev r122 : K := aU CF Tryz.f122
noncomputable def D122 (r : RT) (n : Nat) (c : Code) (X : Nat → K) (k : K) : K := aM CF r 23 n c X r122 k
theorem cIc : D122 r n cZu x0 r122 = (K2 (aKd r n) 0 3) :=
 (by kernel_rfl)
theorem bIx : D122 r n aCq x0 r122 = D122 r n bQj x0 (K2 (aKd r n) 0 3) :=
 congrArg (fun k => D122 r n bQj x0 k) (cIc r n)
theorem cCi : D122 r n aCq x0 r122 = (K2 (wK r n) 0 3) :=
 (bIx r n).trans
 ((by kernel_rfl))
theorem bHr : D122 r n aDt x0 r122 = D122 r n aQs x0 (K2 (wK r n) 0 3) :=
 congrArg (fun k => D122 r n aQs x0 k) (cCi r n)
theorem bNi (q0 : oU) : D122 r n aQs x0 (K2 q0 0 3) = fun (env : aZ) (h : Hp) =>
 bnd (r 120 [(env 0), (aE 4), (.s [])] h) fun v1 h1 =>
 bnd (bM [(aE 0), (.s []), (aE 0), (aE 0)] h1) fun v2 h2 =>
 bnd (aG 4 v2 v1 h2) fun _ h3 =>
  q0 (env 0) v2 h3 := by kernel_rfl
theorem bFy : (fun (env : aZ) (h : Hp) =>
 bnd (r 120 [(env 0), (aE 4), (.s [])] h) fun v1 h1 =>
 bnd (bM [(aE 0), (.s []), (aE 0), (aE 0)] h1) fun v2 h2 =>
 bnd (aG 4 v2 v1 h2) fun _ h3 =>
  wK r n (env 0) v2 h3) = (K1 (aIh r n) 0) := by kernel_rfl
theorem cDf : D122 r n aDt x0 r122 = (K1 (aIh r n) 0) :=
 (bHr r n).trans
 ((bNi r n (wK r n)).trans (bFy r n))
theorem bYy : D122 r n aEo x0 r122 = D122 r n bRh x0 (K1 (aIh r n) 0) :=
 congrArg (fun k => D122 r n bRh x0 k) (cDf r n)
theorem cGf : D122 r n aEo x0 r122 = (K1 (aQu r n) 0) :=
 (bYy r n).trans
 ((by kernel_rfl))
theorem bWa : D122 r n aKb x0 r122 = D122 r n bAx x0 (K1 (aQu r n) 0) :=
 congrArg (fun k => D122 r n bAx x0 k) (cGf r n)
theorem cJu : D122 r n aKb x0 r122 = (K1 (aOl r n) 0) :=
 (bWa r n).trans
 ((by kernel_rfl))
theorem bLs : D122 r n aCa x0 r122 = D122 r n bAb x0 (K1 (aOl r n) 0) :=
 congrArg (fun k => D122 r n bAb x0 k) (cJu r n)
theorem cKd : D122 r n aCa x0 r122 = (K1 (aTt r n) 0) :=
 (bLs r n).trans
 ((by kernel_rfl))
theorem cUh : D122 r n c122 x0 r122 = D122 r n aXx x0 (K1 (aTt r n) 0) :=
 congrArg (fun k => D122 r n aXx x0 k) (cKd r n)
theorem dHf : D122 r n c122 x0 r122 = (K1 (s122 r n) 0) :=
 (cUh r n).trans
 ((by kernel_rfl))
theorem cXi : aF CF r n 122 args h = s122 r n (aS args 0) h :=
 (by kernel_rfl : aF CF r n 122 args h = D122 r n c122 x0 r122 (aH args) h).trans ((congrFun (congrFun (dHf r n) (aH args)) h).trans (by kernel_rfl))
noncomputable def aDg (r : RT) (n : Nat) (x0 : DV) (h0 : Hp) : aJ :=
 bnd (r 141 [x0, (aE 20), (aE 0), (aE 0)] h0) fun v1 h1 =>
 some (.t [], h1)
noncomputable def cP (r : RT) (n : Nat) (x0 x2 : DV) (h0 : Hp) : aJ :=
 aR x2 (
 bnd (r 141 [x0, (aE 2), (aE 0), (aE 0)] h0) fun v1 h1 =>
  aDg r n x0 h1) (
 bnd (r 141 [x0, (aE 1), (aE 0), (aE 0)] h0) fun v2 h2 =>
  aDg r n x0 h2)
noncomputable def lD (r : RT) (n : Nat) (kk8 : fG) (x0 x2 x6 x22 x23 x24 : DV) (h0 : Hp) : aJ :=
 bnd (aD .add x24 (aE 1) h0) fun v1 h1 =>
  kk8 x0 x2 x6 x22 x23 v1 h1
noncomputable def uN (r : RT) (n : Nat) (kk8 : fG) (x0 x2 x6 x22 x23 x24 : DV) (h0 : Hp) : aJ :=
 bnd (aI 6 x22 x24 h0) fun v1 h1 =>
 bnd (aK 6 v1 h1) fun v2 h2 =>
 bnd (bM kA h2) fun v3 h3 =>
 bnd (aG 6 v3 v2 h3) fun _ h4 =>
 bnd (aK 6 v3 h4) fun v5 h5 =>
 bnd (r 140 [x0, v5] h5) fun v6 h6 =>
 bnd (aD .eql x24 x6 h6) fun v7 h7 =>
 bnd (gD v7 true (aB 0 v3 h7) h7) fun v8 h8 =>
 bnd (gD v7 true (aA v8 h8) h8) fun v9 h9 =>
 bnd (gD v7 true (aD .eql v9 (aE 10) h9) h9) fun v10 h10 =>
 bnd (aP v7 v10 (.b false) h10) fun v11 h11 =>
 aR v11 (
 some (.t [], h11)) (
 bnd (aD .eql x24 x6 h11) fun v12 h12 =>
 bnd (gD v12 true (some (x2, h12)) h12) fun v13 h13 =>
 bnd (aP v12 v13 (.b false) h13) fun v14 h14 =>
 aR v14 (
 bnd (r 141 [x0, (aE 20), (aE 0), (aE 0)] h14) fun v15 h15 =>
 some (.t [], h15)) (
 bnd (aB 0 v3 h14) fun v16 h16 =>
 bnd (aA v16 h16) fun v17 h17 =>
 bnd (aD .eql v17 (aE 10) h17) fun v18 h18 =>
 aR v18 (
    lD r n kk8 x0 x2 x6 x22 x23 x24 h18) (
 bnd (r 141 [x0, (aE 12), (aE 0), (aE 0)] h18) fun v19 h19 =>
    lD r n kk8 x0 x2 x6 x22 x23 x24 h19)))
noncomputable def aRx (r : RT) (n : Nat) (kk8 : fG) (x0 x2 x6 x22 x23 x24 x25 : DV) (h0 : Hp) : aJ :=
 aR x25 (
  uN r n kk8 x0 x2 x6 x22 x23 x24 h0) (
  cP r n x0 x2 h0)
noncomputable def aWd (r : RT) (n : Nat) (kk8 : fG) (x0 x2 x6 x22 x23 x24 : DV) (h0 : Hp) : aJ :=
 bnd (aD .lss x24 x23 h0) fun v1 h1 =>
  aRx r n kk8 x0 x2 x6 x22 x23 x24 v1 h1
noncomputable def vA (r : RT) (n : Nat) (m : Nat) : fG :=
 Nat.rec (motive := fun _ => fG) (fun _ _ _ _ _ _ _ => none) (fun _ ih => aWd r n ih) m
noncomputable def bJq (r : RT) (n : Nat) : fG := vA r n n
noncomputable def aRj (r : RT) (n : Nat) (x0 x2 x6 x22 x23 x24 : DV) (h0 : Hp) : aJ :=
 bJq r n x0 x2 x6 x22 x23 x24 h0
noncomputable def aPo (r : RT) (n : Nat) (x0 x2 x4 x6 : DV) (h0 : Hp) : aJ :=
 bnd (aB 5 x4 h0) fun v1 h1 =>
 bnd (aA v1 h1) fun v2 h2 =>
 bnd (bZ v2 h2) fun v3 h3 =>
  aRj r n x0 x2 x6 v2 v3 (aE 0) h3
noncomputable def aOx (r : RT) (n : Nat) (x0 x2 x4 : DV) (h0 : Hp) : aJ :=
 bnd (aB 5 x4 h0) fun v1 h1 =>
 bnd (aA v1 h1) fun v2 h2 =>
 bnd (bZ v2 h2) fun v3 h3 =>
 bnd (aD .sub v3 (aE 1) h3) fun v4 h4 =>
  aPo r n x0 x2 x4 v4 h4
noncomputable def aRg (r : RT) (n : Nat) (x0 x2 x4 : DV) (h0 : Hp) : aJ :=
 bnd (aB 4 x4 h0) fun v1 h1 =>
 bnd (aA v1 h1) fun v2 h2 =>
 bnd (r 139 [x0, v2, (.b false)] h2) fun v3 h3 =>
  aOx r n x0 x2 x4 h3
noncomputable def vO (r : RT) (n : Nat) (x0 x2 x4 : DV) (h0 : Hp) : aJ :=
 bnd (aB 3 x4 h0) fun v1 h1 =>
 bnd (aA v1 h1) fun v2 h2 =>
 bnd (r 139 [x0, v2, (.b true)] h2) fun v3 h3 =>
  aRg r n x0 x2 x4 h3
noncomputable def s123 (r : RT) (n : Nat) (x0 x1 x2 : DV) (h0 : Hp) : aJ :=
 bnd (bS x1 h0) fun v1 h1 =>
  vO r n x0 x2 v1 h1
noncomputable abbrev c123 : Code := cf Tryz.f123
noncomputable abbrev aCo : Code := cR c123
noncomputable abbrev aFi : Code := cR aCo
noncomputable abbrev aKn : Code := cR aFi
noncomputable abbrev aKc : Code := cR aKn
noncomputable abbrev aJl : Code := cR aKc
noncomputable abbrev dAq : Code := cR aJl
noncomputable abbrev bYt : Code := cL aJl
noncomputable abbrev vI : Code := cL aKc
noncomputable abbrev aQv : Code := cR vI
noncomputable abbrev tS : Code := cL aQv
noncomputable abbrev iG : Code := cL tS
noncomputable abbrev tX : Code := cR iG
noncomputable abbrev uI : Code := cR tX
noncomputable abbrev cFf : Code := cR uI
noncomputable abbrev aJm : Code := cL uI
noncomputable abbrev aXo : Code := cL tX
noncomputable abbrev aUw : Code := cL iG
noncomputable abbrev aXz : Code := cL vI
noncomputable abbrev aVo : Code := cL aKn
noncomputable abbrev aYd : Code := cL aFi
noncomputable abbrev aWa : Code := cL aCo
noncomputable abbrev aFa : Code := cL c123
noncomputable abbrev r123 : K := aU CF Tryz.f123
noncomputable def D123 (r : RT) (n : Nat) (c : Code) (X : Nat → K) (k : K) : K := aM CF r 64 n c X r123 k
theorem cOs : D123 r n dAq x0 r123 = (K1 (aDg r n) 0) :=
 (by kernel_rfl)
theorem bHo : D123 r n aJl x0 r123 = D123 r n bYt x0 (K1 (aDg r n) 0) :=
 congrArg (fun k => D123 r n bYt x0 k) (cOs r n)
theorem cCk : D123 r n aJl x0 r123 = (K2 (cP r n) 0 2) :=
 (bHo r n).trans
 ((by kernel_rfl))
theorem bWg (kk8 : fG) : D123 r n cFf (xs x0 0 (K2 (cP r n) 0 2)) (K6 kk8 0 2 6 22 23 24) = (K6 (lD r n kk8) 0 2 6 22 23 24) :=
 (by kernel_rfl)
theorem bEu (kk8 : fG) : D123 r n uI (xs x0 0 (K2 (cP r n) 0 2)) (K6 kk8 0 2 6 22 23 24) = D123 r n aJm (xs x0 0 (K2 (cP r n) 0 2)) (K6 (lD r n kk8) 0 2 6 22 23 24) :=
 congrArg (fun k => D123 r n aJm (xs x0 0 (K2 (cP r n) 0 2)) k) (bWg r n kk8)
theorem bEf (kk8 : fG) (q0 : fG) (q1 : oU) : D123 r n aJm (xs x0 0 (K2 q1 0 2)) (K6 q0 0 2 6 22 23 24) = fun (env : aZ) (h : Hp) =>
 bnd (aI 6 (env 22) (env 24) h) fun v1 h1 =>
 bnd (aK 6 v1 h1) fun v2 h2 =>
 bnd (bM kA h2) fun v3 h3 =>
 bnd (aG 6 v3 v2 h3) fun _ h4 =>
 bnd (aK 6 v3 h4) fun v5 h5 =>
 bnd (r 140 [(env 0), v5] h5) fun v6 h6 =>
 bnd (aD .eql (env 24) (env 6) h6) fun v7 h7 =>
 bnd (gD v7 true (aB 0 v3 h7) h7) fun v8 h8 =>
 bnd (gD v7 true (aA v8 h8) h8) fun v9 h9 =>
 bnd (gD v7 true (aD .eql v9 (aE 10) h9) h9) fun v10 h10 =>
 bnd (aP v7 v10 (.b false) h10) fun v11 h11 =>
 aR v11 (
 some (.t [], h11)) (
 bnd (aD .eql (env 24) (env 6) h11) fun v12 h12 =>
 bnd (gD v12 true (some ((env 2), h12)) h12) fun v13 h13 =>
 bnd (aP v12 v13 (.b false) h13) fun v14 h14 =>
 aR v14 (
 bnd (r 141 [(env 0), (aE 20), (aE 0), (aE 0)] h14) fun v15 h15 =>
 some (.t [], h15)) (
 bnd (aB 0 v3 h14) fun v16 h16 =>
 bnd (aA v16 h16) fun v17 h17 =>
 bnd (aD .eql v17 (aE 10) h17) fun v18 h18 =>
 aR v18 (
     q0 (env 0) (env 2) (env 6) (env 22) (env 23) (env 24) h18) (
 bnd (r 141 [(env 0), (aE 12), (aE 0), (aE 0)] h18) fun v19 h19 =>
     q0 (env 0) (env 2) (env 6) (env 22) (env 23) (env 24) h19))) := by kernel_rfl
theorem aRb (kk8 : fG) : (fun (env : aZ) (h : Hp) =>
 bnd (aI 6 (env 22) (env 24) h) fun v1 h1 =>
 bnd (aK 6 v1 h1) fun v2 h2 =>
 bnd (bM kA h2) fun v3 h3 =>
 bnd (aG 6 v3 v2 h3) fun _ h4 =>
 bnd (aK 6 v3 h4) fun v5 h5 =>
 bnd (r 140 [(env 0), v5] h5) fun v6 h6 =>
 bnd (aD .eql (env 24) (env 6) h6) fun v7 h7 =>
 bnd (gD v7 true (aB 0 v3 h7) h7) fun v8 h8 =>
 bnd (gD v7 true (aA v8 h8) h8) fun v9 h9 =>
 bnd (gD v7 true (aD .eql v9 (aE 10) h9) h9) fun v10 h10 =>
 bnd (aP v7 v10 (.b false) h10) fun v11 h11 =>
 aR v11 (
 some (.t [], h11)) (
 bnd (aD .eql (env 24) (env 6) h11) fun v12 h12 =>
 bnd (gD v12 true (some ((env 2), h12)) h12) fun v13 h13 =>
 bnd (aP v12 v13 (.b false) h13) fun v14 h14 =>
 aR v14 (
 bnd (r 141 [(env 0), (aE 20), (aE 0), (aE 0)] h14) fun v15 h15 =>
 some (.t [], h15)) (
 bnd (aB 0 v3 h14) fun v16 h16 =>
 bnd (aA v16 h16) fun v17 h17 =>
 bnd (aD .eql v17 (aE 10) h17) fun v18 h18 =>
 aR v18 (
     lD r n kk8 (env 0) (env 2) (env 6) (env 22) (env 23) (env 24) h18) (
 bnd (r 141 [(env 0), (aE 12), (aE 0), (aE 0)] h18) fun v19 h19 =>
     lD r n kk8 (env 0) (env 2) (env 6) (env 22) (env 23) (env 24) h19)))) = (K6 (uN r n kk8) 0 2 6 22 23 24) := by kernel_rfl
theorem bMa (kk8 : fG) : D123 r n uI (xs x0 0 (K2 (cP r n) 0 2)) (K6 kk8 0 2 6 22 23 24) = (K6 (uN r n kk8) 0 2 6 22 23 24) :=
 (bEu r n kk8).trans
 ((bEf r n kk8 (lD r n kk8) (cP r n)).trans (aRb r n kk8))
theorem bRy (kk8 : fG) : D123 r n tX (xs x0 0 (K2 (cP r n) 0 2)) (K6 kk8 0 2 6 22 23 24) = D123 r n aXo (xs x0 0 (K2 (cP r n) 0 2)) (K6 (uN r n kk8) 0 2 6 22 23 24) :=
 congrArg (fun k => D123 r n aXo (xs x0 0 (K2 (cP r n) 0 2)) k) (bMa r n kk8)
theorem cDj (kk8 : fG) : D123 r n tX (xs x0 0 (K2 (cP r n) 0 2)) (K6 kk8 0 2 6 22 23 24) = (K7 (aRx r n kk8) 0 2 6 22 23 24 25) :=
 (bRy r n kk8).trans
 ((by kernel_rfl))
theorem bZk (kk8 : fG) : D123 r n iG (xs x0 0 (K2 (cP r n) 0 2)) (K6 kk8 0 2 6 22 23 24) = D123 r n aUw (xs x0 0 (K2 (cP r n) 0 2)) (K7 (aRx r n kk8) 0 2 6 22 23 24 25) :=
 congrArg (fun k => D123 r n aUw (xs x0 0 (K2 (cP r n) 0 2)) k) (cDj r n kk8)
theorem bYa (kk8 : fG) : D123 r n iG (xs x0 0 (K2 (cP r n) 0 2)) (K6 kk8 0 2 6 22 23 24) = (K6 (aWd r n kk8) 0 2 6 22 23 24) :=
 (bZk r n kk8).trans
 ((by kernel_rfl))
theorem bPt (m : Nat) : aO (fun kk => D123 r n iG (xs x0 0 (K2 (cP r n) 0 2)) kk) m = (K6 (vA r n m) 0 2 6 22 23 24) := by
 induction m with
 | zero => exact (by kernel_rfl : aO (fun kk => D123 r n iG (xs x0 0 (K2 (cP r n) 0 2)) kk) 0 = (K6 (vA r n 0) 0 2 6 22 23 24))
 | succ m ih =>
  refine (by kernel_rfl : aO (fun kk => D123 r n iG (xs x0 0 (K2 (cP r n) 0 2)) kk) (m + 1) = D123 r n iG (xs x0 0 (K2 (cP r n) 0 2)) (aO (fun kk => D123 r n iG (xs x0 0 (K2 (cP r n) 0 2)) kk) m)).trans ?_
  rw [ih]
  exact (bYa r n (vA r n m)).trans (by kernel_rfl)
theorem cGi : D123 r n tS (xs x0 0 (K2 (cP r n) 0 2)) (K2 (cP r n) 0 2) = (K6 (bJq r n) 0 2 6 22 23 24) :=
 (by kernel_rfl : D123 r n tS (xs x0 0 (K2 (cP r n) 0 2)) (K2 (cP r n) 0 2) = aO (fun kk => D123 r n iG (xs x0 0 (K2 (cP r n) 0 2)) kk) n).trans ((bPt r n n).trans (by kernel_rfl))
theorem cGw : D123 r n aQv x0 (K2 (cP r n) 0 2) = (K6 (aRj r n) 0 2 6 22 23 24) :=
 (by kernel_rfl : D123 r n aQv x0 (K2 (cP r n) 0 2) = D123 r n tS (xs x0 0 (K2 (cP r n) 0 2)) (K2 (cP r n) 0 2)).trans
 ((cGi r n).trans (by kernel_rfl))
theorem bPf : D123 r n aKc x0 r123 = D123 r n vI x0 (K2 (cP r n) 0 2) :=
 congrArg (fun k => D123 r n vI x0 k) (cCk r n)
theorem bKk : D123 r n vI x0 (K2 (cP r n) 0 2) = D123 r n aXz x0 (K6 (aRj r n) 0 2 6 22 23 24) :=
 congrArg (fun k => D123 r n aXz x0 k) (cGw r n)
theorem cBf : D123 r n aKc x0 r123 = (K4 (aPo r n) 0 2 4 6) :=
 (bPf r n).trans
 ((bKk r n).trans
 ((by kernel_rfl)))
theorem bXj : D123 r n aKn x0 r123 = D123 r n aVo x0 (K4 (aPo r n) 0 2 4 6) :=
 congrArg (fun k => D123 r n aVo x0 k) (cBf r n)
theorem cIq : D123 r n aKn x0 r123 = (K3 (aOx r n) 0 2 4) :=
 (bXj r n).trans
 ((by kernel_rfl))
theorem cAl : D123 r n aFi x0 r123 = D123 r n aYd x0 (K3 (aOx r n) 0 2 4) :=
 congrArg (fun k => D123 r n aYd x0 k) (cIq r n)
theorem cCe : D123 r n aFi x0 r123 = (K3 (aRg r n) 0 2 4) :=
 (cAl r n).trans
 ((by kernel_rfl))
theorem bEv : D123 r n aCo x0 r123 = D123 r n aWa x0 (K3 (aRg r n) 0 2 4) :=
 congrArg (fun k => D123 r n aWa x0 k) (cCe r n)
theorem cNy : D123 r n aCo x0 r123 = (K3 (vO r n) 0 2 4) :=
 (bEv r n).trans
 ((by kernel_rfl))
theorem cHh : D123 r n c123 x0 r123 = D123 r n aFa x0 (K3 (vO r n) 0 2 4) :=
 congrArg (fun k => D123 r n aFa x0 k) (cNy r n)
theorem cHw (q0 : mW) : D123 r n aFa x0 (K3 q0 0 2 4) = fun (env : aZ) (h : Hp) =>
 bnd (bS (env 1) h) fun v1 h1 =>
  q0 (env 0) (env 2) v1 h1 := by kernel_rfl
theorem bWq : (fun (env : aZ) (h : Hp) =>
 bnd (bS (env 1) h) fun v1 h1 =>
  vO r n (env 0) (env 2) v1 h1) = (K3 (s123 r n) 0 1 2) := by kernel_rfl
theorem dEi : D123 r n c123 x0 r123 = (K3 (s123 r n) 0 1 2) :=
 (cHh r n).trans
 ((cHw r n (vO r n)).trans (bWq r n))
theorem cZj : aF CF r n 123 args h = s123 r n (aS args 0) (aS args 1) (aS args 2) h :=
 (by kernel_rfl : aF CF r n 123 args h = D123 r n c123 x0 r123 (aH args) h).trans ((congrFun (congrFun (dEi r n) (aH args)) h).trans (by kernel_rfl))
noncomputable def s124 (r : RT) (n : Nat) (x0 : DV) (h0 : Hp) : aJ :=
 bnd (bS x0 h0) fun v1 h1 =>
 bnd (aB 0 v1 h1) fun v2 h2 =>
 bnd (aA v2 h2) fun v3 h3 =>
 bnd (r 142 [v3] h3) fun v4 h4 =>
 bnd (aC 0 v4 h4) fun v5 h5 =>
 bnd (aC 1 v4 h5) fun v6 h6 =>
 bnd (aB 0 v1 h6) fun v7 h7 =>
 bnd (aA v7 h7) fun v8 h8 =>
 bnd (aD .geq v8 (aE 1) h8) fun v9 h9 =>
 bnd (gD v9 true (aB 0 v1 h9) h9) fun v10 h10 =>
 bnd (gD v9 true (aA v10 h10) h10) fun v11 h11 =>
 bnd (gD v9 true (aD .leq v11 (aE 20) h11) h11) fun v12 h12 =>
 bnd (aP v9 v12 (.b false) h12) fun v13 h13 =>
 bnd (gD v13 true (aB 1 v1 h13) h13) fun v14 h14 =>
 bnd (gD v13 true (aA v14 h14) h14) fun v15 h15 =>
 bnd (gD v13 true (some (v5, h15)) h15) fun v16 h16 =>
 bnd (gD v13 true (r 143 [v15, v16] h16) h16) fun v17 h17 =>
 bnd (aP v13 v17 (.b false) h17) fun v18 h18 =>
 bnd (gD v18 true (aB 2 v1 h18) h18) fun v19 h19 =>
 bnd (gD v18 true (aA v19 h19) h19) fun v20 h20 =>
 bnd (gD v18 true (some (v6, h20)) h20) fun v21 h21 =>
 bnd (gD v18 true (r 143 [v20, v21] h21) h21) fun v22 h22 =>
 bnd (aP v18 v22 (.b false) h22) fun v23 h23 =>
 some (v23, h23)
noncomputable abbrev c124 : Code := cf Tryz.f124
noncomputable abbrev r124 : K := aU CF Tryz.f124
noncomputable def D124 (r : RT) (n : Nat) (c : Code) (X : Nat → K) (k : K) : K := aM CF r 31 n c X r124 k
theorem dKb : D124 r n c124 x0 r124 = (K1 (s124 r n) 0) :=
 (by kernel_rfl)
theorem cSw : aF CF r n 124 args h = s124 r n (aS args 0) h :=
 (by kernel_rfl : aF CF r n 124 args h = D124 r n c124 x0 r124 (aH args) h).trans ((congrFun (congrFun (dKb r n) (aH args)) h).trans (by kernel_rfl))
noncomputable def s125 (r : RT) (n : Nat) (x0 x1 : DV) (h0 : Hp) : aJ :=
 bnd (bS x0 h0) fun v1 h1 =>
 bnd (aK 6 v1 h1) fun v2 h2 =>
 bnd (r 144 [v2, x1] h2) fun v3 h3 =>
 bnd (aC 0 v3 h3) fun v4 h4 =>
 bnd (aC 1 v3 h4) fun v5 h5 =>
 some (v5, h5)
noncomputable abbrev c125 : Code := cf Tryz.f125
noncomputable abbrev r125 : K := aU CF Tryz.f125
noncomputable def D125 (r : RT) (n : Nat) (c : Code) (X : Nat → K) (k : K) : K := aM CF r 14 n c X r125 k
theorem dIx : D125 r n c125 x0 r125 = (K2 (s125 r n) 0 1) :=
 (by kernel_rfl)
theorem dBa : aF CF r n 125 args h = s125 r n (aS args 0) (aS args 1) h :=
 (by kernel_rfl : aF CF r n 125 args h = D125 r n c125 x0 r125 (aH args) h).trans ((congrFun (congrFun (dIx r n) (aH args)) h).trans (by kernel_rfl))
noncomputable def dZ (r : RT) (n : Nat) (x0 x6 : DV) (h0 : Hp) : aJ :=
 bnd (r 46 [x0, x6] h0) fun v1 h1 =>
 bnd (aC 0 v1 h1) fun v2 h2 =>
 bnd (aC 1 v1 h2) fun v3 h3 =>
 some (.t [v2, v3], h3)
noncomputable def aFl (r : RT) (n : Nat) (kk6 : cF) (x0 x6 x38 x39 x40 : DV) (h0 : Hp) : aJ :=
 bnd (aD .lss x40 x39 h0) fun v1 h1 =>
 aR v1 (
 bnd (aI 4 x38 x40 h1) fun v2 h2 =>
 bnd (aK 4 v2 h2) fun v3 h3 =>
 bnd (bM [(aE 0), (.s []), (aE 0), .l0] h3) fun v4 h4 =>
 bnd (aG 4 v4 v3 h4) fun _ h5 =>
 bnd (aK 4 v4 h5) fun v6 h6 =>
 bnd (r 126 [x0, v6] h6) fun v7 h7 =>
 bnd (aC 0 v7 h7) fun v8 h8 =>
 bnd (aC 1 v7 h8) fun v9 h9 =>
 bnd (aD .neq v9 (aE 0) h9) fun v10 h10 =>
 aR v10 (
 some (.t [(aE 0), v9], h10)) (
 bnd (aL [(aE 0)] 1 [(0, 1, v8)] h10) fun v11 h11 =>
 bnd (bA 1 8 x6 v11 h11) fun v12 h12 =>
 bnd (aD .add x40 (aE 1) h12) fun v13 h13 =>
    kk6 x0 v12 x38 x39 v13 h13)) (
      dZ r n x0 x6 h1)
noncomputable def tQ (r : RT) (n : Nat) (m : Nat) : cF :=
 Nat.rec (motive := fun _ => cF) (fun _ _ _ _ _ _ => none) (fun _ ih => aFl r n ih) m
noncomputable def bYz (r : RT) (n : Nat) : cF := tQ r n n
noncomputable def aTo (r : RT) (n : Nat) (x0 x6 x38 x39 x40 : DV) (h0 : Hp) : aJ :=
 bYz r n x0 x6 x38 x39 x40 h0
noncomputable def aTy (r : RT) (n : Nat) (x0 x3 x6 : DV) (h0 : Hp) : aJ :=
 bnd (aB 3 x3 h0) fun v1 h1 =>
 bnd (aA v1 h1) fun v2 h2 =>
 bnd (bZ v2 h2) fun v3 h3 =>
  aTo r n x0 x6 v2 v3 (aE 0) h3
noncomputable def aTu (r : RT) (n : Nat) (x0 x3 : DV) (h0 : Hp) : aJ :=
 aTy r n x0 x3 .l0 h0
noncomputable def vW (r : RT) (n : Nat) (x0 x3 : DV) (h0 : Hp) : aJ :=
 bnd (aB 0 x3 h0) fun v1 h1 =>
 bnd (aA v1 h1) fun v2 h2 =>
 bnd (aD .eql v2 (aE 1) h2) fun v3 h3 =>
 aR v3 (
 bnd (aB 2 x3 h3) fun v4 h4 =>
 bnd (aA v4 h4) fun v5 h5 =>
 bnd (r 42 [x0, v5] h5) fun v6 h6 =>
 bnd (aC 0 v6 h6) fun v7 h7 =>
 bnd (aC 1 v6 h7) fun v8 h8 =>
 some (.t [v7, v8], h8)) (
 bnd (aD .eql v2 (aE 2) h3) fun v9 h9 =>
 aR v9 (
 bnd (aB 1 x3 h9) fun v10 h10 =>
 bnd (aA v10 h10) fun v11 h11 =>
 bnd (r 43 [x0, v11] h11) fun v12 h12 =>
 bnd (aC 0 v12 h12) fun v13 h13 =>
 bnd (aC 1 v12 h13) fun v14 h14 =>
 some (.t [v13, v14], h14)) (
 bnd (aD .eql v2 (aE 3) h9) fun v15 h15 =>
 aR v15 (
 bnd (aB 1 x3 h15) fun v16 h16 =>
 bnd (aA v16 h16) fun v17 h17 =>
 bnd (r 44 [x0, v17] h17) fun v18 h18 =>
 bnd (aC 0 v18 h18) fun v19 h19 =>
 bnd (aC 1 v18 h19) fun v20 h20 =>
 some (.t [v19, v20], h20)) (
    aTu r n x0 x3 h15)))
noncomputable def s126 (r : RT) (n : Nat) (x0 x1 : DV) (h0 : Hp) : aJ :=
 bnd (bS x1 h0) fun v1 h1 =>
  vW r n x0 v1 h1
noncomputable abbrev c126 : Code := cf Tryz.f126
noncomputable abbrev aGx : Code := cR c126
noncomputable abbrev aDh : Code := cR aGx
noncomputable abbrev aFx : Code := cR aDh
noncomputable abbrev dAx : Code := cR aFx
noncomputable abbrev vN : Code := cL aFx
noncomputable abbrev aUb : Code := cR vN
noncomputable abbrev aEg : Code := cL aUb
noncomputable abbrev lT : Code := cL aEg
noncomputable abbrev bNf : Code := cL vN
noncomputable abbrev bBc : Code := cL aDh
noncomputable abbrev bBd : Code := cL aGx
noncomputable abbrev aGa : Code := cL c126
noncomputable abbrev r126 : K := aU CF Tryz.f126
noncomputable def D126 (r : RT) (n : Nat) (c : Code) (X : Nat → K) (k : K) : K := aM CF r 63 n c X r126 k
theorem cMl : D126 r n dAx x0 r126 = (K2 (dZ r n) 0 6) :=
 (by kernel_rfl)
theorem bOy (kk6 : cF) (q0 : oU) : D126 r n lT (xs x0 1 (K2 q0 0 6)) (K5 kk6 0 6 38 39 40) = fun (env : aZ) (h : Hp) =>
 bnd (aD .lss (env 40) (env 39) h) fun v1 h1 =>
 aR v1 (
 bnd (aI 4 (env 38) (env 40) h1) fun v2 h2 =>
 bnd (aK 4 v2 h2) fun v3 h3 =>
 bnd (bM [(aE 0), (.s []), (aE 0), .l0] h3) fun v4 h4 =>
 bnd (aG 4 v4 v3 h4) fun _ h5 =>
 bnd (aK 4 v4 h5) fun v6 h6 =>
 bnd (r 126 [(env 0), v6] h6) fun v7 h7 =>
 bnd (aC 0 v7 h7) fun v8 h8 =>
 bnd (aC 1 v7 h8) fun v9 h9 =>
 bnd (aD .neq v9 (aE 0) h9) fun v10 h10 =>
 aR v10 (
 some (.t [(aE 0), v9], h10)) (
 bnd (aL [(aE 0)] 1 [(0, 1, v8)] h10) fun v11 h11 =>
 bnd (bA 1 8 (env 6) v11 h11) fun v12 h12 =>
 bnd (aD .add (env 40) (aE 1) h12) fun v13 h13 =>
    kk6 (env 0) v12 (env 38) (env 39) v13 h13)) (
      q0 (env 0) (env 6) h1) := by kernel_rfl
theorem bEg (kk6 : cF) : (fun (env : aZ) (h : Hp) =>
 bnd (aD .lss (env 40) (env 39) h) fun v1 h1 =>
 aR v1 (
 bnd (aI 4 (env 38) (env 40) h1) fun v2 h2 =>
 bnd (aK 4 v2 h2) fun v3 h3 =>
 bnd (bM [(aE 0), (.s []), (aE 0), .l0] h3) fun v4 h4 =>
 bnd (aG 4 v4 v3 h4) fun _ h5 =>
 bnd (aK 4 v4 h5) fun v6 h6 =>
 bnd (r 126 [(env 0), v6] h6) fun v7 h7 =>
 bnd (aC 0 v7 h7) fun v8 h8 =>
 bnd (aC 1 v7 h8) fun v9 h9 =>
 bnd (aD .neq v9 (aE 0) h9) fun v10 h10 =>
 aR v10 (
 some (.t [(aE 0), v9], h10)) (
 bnd (aL [(aE 0)] 1 [(0, 1, v8)] h10) fun v11 h11 =>
 bnd (bA 1 8 (env 6) v11 h11) fun v12 h12 =>
 bnd (aD .add (env 40) (aE 1) h12) fun v13 h13 =>
    kk6 (env 0) v12 (env 38) (env 39) v13 h13)) (
      dZ r n (env 0) (env 6) h1)) = (K5 (aFl r n kk6) 0 6 38 39 40) := by kernel_rfl
theorem bZv (kk6 : cF) : D126 r n lT (xs x0 1 (K2 (dZ r n) 0 6)) (K5 kk6 0 6 38 39 40) = (K5 (aFl r n kk6) 0 6 38 39 40) :=
 (bOy r n kk6 (dZ r n)).trans (bEg r n kk6)
theorem bJk (m : Nat) : aO (fun kk => D126 r n lT (xs x0 1 (K2 (dZ r n) 0 6)) kk) m = (K5 (tQ r n m) 0 6 38 39 40) := by
 induction m with
 | zero => exact (by kernel_rfl : aO (fun kk => D126 r n lT (xs x0 1 (K2 (dZ r n) 0 6)) kk) 0 = (K5 (tQ r n 0) 0 6 38 39 40))
 | succ m ih =>
  refine (by kernel_rfl : aO (fun kk => D126 r n lT (xs x0 1 (K2 (dZ r n) 0 6)) kk) (m + 1) = D126 r n lT (xs x0 1 (K2 (dZ r n) 0 6)) (aO (fun kk => D126 r n lT (xs x0 1 (K2 (dZ r n) 0 6)) kk) m)).trans ?_
  rw [ih]
  exact (bZv r n (tQ r n m)).trans (by kernel_rfl)
theorem cIp : D126 r n aEg (xs x0 1 (K2 (dZ r n) 0 6)) (K2 (dZ r n) 0 6) = (K5 (bYz r n) 0 6 38 39 40) :=
 (by kernel_rfl : D126 r n aEg (xs x0 1 (K2 (dZ r n) 0 6)) (K2 (dZ r n) 0 6) = aO (fun kk => D126 r n lT (xs x0 1 (K2 (dZ r n) 0 6)) kk) n).trans ((bJk r n n).trans (by kernel_rfl))
theorem cDy : D126 r n aUb x0 (K2 (dZ r n) 0 6) = (K5 (aTo r n) 0 6 38 39 40) :=
 (by kernel_rfl : D126 r n aUb x0 (K2 (dZ r n) 0 6) = D126 r n aEg (xs x0 1 (K2 (dZ r n) 0 6)) (K2 (dZ r n) 0 6)).trans
 ((cIp r n).trans (by kernel_rfl))
theorem bQg : D126 r n aFx x0 r126 = D126 r n vN x0 (K2 (dZ r n) 0 6) :=
 congrArg (fun k => D126 r n vN x0 k) (cMl r n)
theorem bHp : D126 r n vN x0 (K2 (dZ r n) 0 6) = D126 r n bNf x0 (K5 (aTo r n) 0 6 38 39 40) :=
 congrArg (fun k => D126 r n bNf x0 k) (cDy r n)
theorem cFy : D126 r n aFx x0 r126 = (K3 (aTy r n) 0 3 6) :=
 (bQg r n).trans
 ((bHp r n).trans
 ((by kernel_rfl)))
theorem bPl : D126 r n aDh x0 r126 = D126 r n bBc x0 (K3 (aTy r n) 0 3 6) :=
 congrArg (fun k => D126 r n bBc x0 k) (cFy r n)
theorem cNt : D126 r n aDh x0 r126 = (K2 (aTu r n) 0 3) :=
 (bPl r n).trans
 ((by kernel_rfl))
theorem cAo : D126 r n aGx x0 r126 = D126 r n bBd x0 (K2 (aTu r n) 0 3) :=
 congrArg (fun k => D126 r n bBd x0 k) (cNt r n)
theorem cFo : D126 r n aGx x0 r126 = (K2 (vW r n) 0 3) :=
 (cAo r n).trans
 ((by kernel_rfl))
theorem dAg : D126 r n c126 x0 r126 = D126 r n aGa x0 (K2 (vW r n) 0 3) :=
 congrArg (fun k => D126 r n aGa x0 k) (cFo r n)
theorem cWk (q0 : oU) : D126 r n aGa x0 (K2 q0 0 3) = fun (env : aZ) (h : Hp) =>
 bnd (bS (env 1) h) fun v1 h1 =>
  q0 (env 0) v1 h1 := by kernel_rfl
theorem cKk : (fun (env : aZ) (h : Hp) =>
 bnd (bS (env 1) h) fun v1 h1 =>
  vW r n (env 0) v1 h1) = (K2 (s126 r n) 0 1) := by kernel_rfl
theorem dGv : D126 r n c126 x0 r126 = (K2 (s126 r n) 0 1) :=
 (dAg r n).trans
 ((cWk r n (vW r n)).trans (cKk r n))
theorem cVo : aF CF r n 126 args h = s126 r n (aS args 0) (aS args 1) h :=
 (by kernel_rfl : aF CF r n 126 args h = D126 r n c126 x0 r126 (aH args) h).trans ((congrFun (congrFun (dGv r n) (aH args)) h).trans (by kernel_rfl))
noncomputable def eD (r : RT) (n : Nat) (x4 : DV) (h0 : Hp) : aJ :=
 some (.t [x4, (aE 0)], h0)
noncomputable def aBw (r : RT) (n : Nat) (kk6 : dL) (x4 x10 x11 x12 : DV) (h0 : Hp) : aJ :=
 bnd (aD .lss x12 x11 h0) fun v1 h1 =>
 aR v1 (
 bnd (aI 3 x10 x12 h1) fun v2 h2 =>
 bnd (aK 3 v2 h2) fun v3 h3 =>
 bnd (bM [(aE 0), (aE 0), (aE 0)] h3) fun v4 h4 =>
 bnd (aG 3 v4 v3 h4) fun _ h5 =>
 bnd (aK 3 v4 h5) fun v6 h6 =>
 bnd (r 124 [v6] h6) fun v7 h7 =>
 bnd (gX .not v7 h7) fun v8 h8 =>
 aR v8 (
 some (.t [.l0, (aE 19)], h8)) (
 bnd (aB 0 v4 h8) fun v9 h9 =>
 bnd (aA v9 h9) fun v10 h10 =>
 bnd (eA .u8 v10 h10) fun v11 h11 =>
 bnd (aB 1 v4 h11) fun v12 h12 =>
 bnd (aA v12 h12) fun v13 h13 =>
 bnd (eA .u8 v13 h13) fun v14 h14 =>
 bnd (aB 2 v4 h14) fun v15 h15 =>
 bnd (aA v15 h15) fun v16 h16 =>
 bnd (eA .u8 v16 h16) fun v17 h17 =>
 bnd (aL [(.i .u8 (Int.ofNat 0)), (.i .u8 (Int.ofNat 0)), (.i .u8 (Int.ofNat 0))] 3 [(0, 1, v11), (1, 1, v14), (2, 1, v17)] h17) fun v18 h18 =>
 bnd (bA 1 1 x4 v18 h18) fun v19 h19 =>
 bnd (aD .add x12 (aE 1) h19) fun v20 h20 =>
    kk6 v19 x10 x11 v20 h20)) (
      eD r n x4 h1)
noncomputable def uZ (r : RT) (n : Nat) (m : Nat) : dL :=
 Nat.rec (motive := fun _ => dL) (fun _ _ _ _ _ => none) (fun _ ih => aBw r n ih) m
noncomputable def bPo (r : RT) (n : Nat) : dL := uZ r n n
noncomputable def aOq (r : RT) (n : Nat) (x4 x10 x11 x12 : DV) (h0 : Hp) : aJ :=
 bPo r n x4 x10 x11 x12 h0
noncomputable def aTq (r : RT) (n : Nat) (x0 x4 : DV) (h0 : Hp) : aJ :=
 bnd (bZ x0 h0) fun v1 h1 =>
  aOq r n x4 x0 v1 (aE 0) h1
noncomputable def aTb (r : RT) (n : Nat) (x0 : DV) (h0 : Hp) : aJ :=
 aTq r n x0 .l0 h0
noncomputable def aOf (r : RT) (n : Nat) (x0 : DV) (h0 : Hp) : aJ :=
 bnd (bZ x0 h0) fun v1 h1 =>
 bnd (aD .gtr v1 (aE 400) h1) fun v2 h2 =>
 aR v2 (
 some (.t [.l0, (aE 19)], h2)) (
  aTb r n x0 h2)
noncomputable def s127 (r : RT) (n : Nat) (x0 : DV) (h0 : Hp) : aJ :=
 aOf r n x0 h0
noncomputable abbrev c127 : Code := cf Tryz.f127
noncomputable abbrev aDv : Code := cR c127
noncomputable abbrev aJd : Code := cR aDv
noncomputable abbrev aKi : Code := cR aJd
noncomputable abbrev cWi : Code := cR aKi
noncomputable abbrev xL : Code := cL aKi
noncomputable abbrev aQo : Code := cR xL
noncomputable abbrev aIe : Code := cL aQo
noncomputable abbrev lW : Code := cL aIe
noncomputable abbrev bPx : Code := cL xL
noncomputable abbrev aXs : Code := cL aJd
noncomputable abbrev aXi : Code := cL aDv
noncomputable abbrev aYr : Code := cL c127
noncomputable abbrev r127 : K := aU CF Tryz.f127
noncomputable def D127 (r : RT) (n : Nat) (c : Code) (X : Nat → K) (k : K) : K := aM CF r 33 n c X r127 k
theorem cJo : D127 r n cWi x0 r127 = (K1 (eD r n) 4) :=
 (by kernel_rfl)
theorem bUe (kk6 : dL) (q0 : TT1) : D127 r n lW (xs x0 0 (K1 q0 4)) (K4 kk6 4 10 11 12) = fun (env : aZ) (h : Hp) =>
 bnd (aD .lss (env 12) (env 11) h) fun v1 h1 =>
 aR v1 (
 bnd (aI 3 (env 10) (env 12) h1) fun v2 h2 =>
 bnd (aK 3 v2 h2) fun v3 h3 =>
 bnd (bM [(aE 0), (aE 0), (aE 0)] h3) fun v4 h4 =>
 bnd (aG 3 v4 v3 h4) fun _ h5 =>
 bnd (aK 3 v4 h5) fun v6 h6 =>
 bnd (r 124 [v6] h6) fun v7 h7 =>
 bnd (gX .not v7 h7) fun v8 h8 =>
 aR v8 (
 some (.t [.l0, (aE 19)], h8)) (
 bnd (aB 0 v4 h8) fun v9 h9 =>
 bnd (aA v9 h9) fun v10 h10 =>
 bnd (eA .u8 v10 h10) fun v11 h11 =>
 bnd (aB 1 v4 h11) fun v12 h12 =>
 bnd (aA v12 h12) fun v13 h13 =>
 bnd (eA .u8 v13 h13) fun v14 h14 =>
 bnd (aB 2 v4 h14) fun v15 h15 =>
 bnd (aA v15 h15) fun v16 h16 =>
 bnd (eA .u8 v16 h16) fun v17 h17 =>
 bnd (aL [(.i .u8 (Int.ofNat 0)), (.i .u8 (Int.ofNat 0)), (.i .u8 (Int.ofNat 0))] 3 [(0, 1, v11), (1, 1, v14), (2, 1, v17)] h17) fun v18 h18 =>
 bnd (bA 1 1 (env 4) v18 h18) fun v19 h19 =>
 bnd (aD .add (env 12) (aE 1) h19) fun v20 h20 =>
    kk6 v19 (env 10) (env 11) v20 h20)) (
      q0 (env 4) h1) := by kernel_rfl
theorem bCk (kk6 : dL) : (fun (env : aZ) (h : Hp) =>
 bnd (aD .lss (env 12) (env 11) h) fun v1 h1 =>
 aR v1 (
 bnd (aI 3 (env 10) (env 12) h1) fun v2 h2 =>
 bnd (aK 3 v2 h2) fun v3 h3 =>
 bnd (bM [(aE 0), (aE 0), (aE 0)] h3) fun v4 h4 =>
 bnd (aG 3 v4 v3 h4) fun _ h5 =>
 bnd (aK 3 v4 h5) fun v6 h6 =>
 bnd (r 124 [v6] h6) fun v7 h7 =>
 bnd (gX .not v7 h7) fun v8 h8 =>
 aR v8 (
 some (.t [.l0, (aE 19)], h8)) (
 bnd (aB 0 v4 h8) fun v9 h9 =>
 bnd (aA v9 h9) fun v10 h10 =>
 bnd (eA .u8 v10 h10) fun v11 h11 =>
 bnd (aB 1 v4 h11) fun v12 h12 =>
 bnd (aA v12 h12) fun v13 h13 =>
 bnd (eA .u8 v13 h13) fun v14 h14 =>
 bnd (aB 2 v4 h14) fun v15 h15 =>
 bnd (aA v15 h15) fun v16 h16 =>
 bnd (eA .u8 v16 h16) fun v17 h17 =>
 bnd (aL [(.i .u8 (Int.ofNat 0)), (.i .u8 (Int.ofNat 0)), (.i .u8 (Int.ofNat 0))] 3 [(0, 1, v11), (1, 1, v14), (2, 1, v17)] h17) fun v18 h18 =>
 bnd (bA 1 1 (env 4) v18 h18) fun v19 h19 =>
 bnd (aD .add (env 12) (aE 1) h19) fun v20 h20 =>
    kk6 v19 (env 10) (env 11) v20 h20)) (
      eD r n (env 4) h1)) = (K4 (aBw r n kk6) 4 10 11 12) := by kernel_rfl
theorem bWf (kk6 : dL) : D127 r n lW (xs x0 0 (K1 (eD r n) 4)) (K4 kk6 4 10 11 12) = (K4 (aBw r n kk6) 4 10 11 12) :=
 (bUe r n kk6 (eD r n)).trans (bCk r n kk6)
theorem bLr (m : Nat) : aO (fun kk => D127 r n lW (xs x0 0 (K1 (eD r n) 4)) kk) m = (K4 (uZ r n m) 4 10 11 12) := by
 induction m with
 | zero => exact (by kernel_rfl : aO (fun kk => D127 r n lW (xs x0 0 (K1 (eD r n) 4)) kk) 0 = (K4 (uZ r n 0) 4 10 11 12))
 | succ m ih =>
  refine (by kernel_rfl : aO (fun kk => D127 r n lW (xs x0 0 (K1 (eD r n) 4)) kk) (m + 1) = D127 r n lW (xs x0 0 (K1 (eD r n) 4)) (aO (fun kk => D127 r n lW (xs x0 0 (K1 (eD r n) 4)) kk) m)).trans ?_
  rw [ih]
  exact (bWf r n (uZ r n m)).trans (by kernel_rfl)
theorem cDt : D127 r n aIe (xs x0 0 (K1 (eD r n) 4)) (K1 (eD r n) 4) = (K4 (bPo r n) 4 10 11 12) :=
 (by kernel_rfl : D127 r n aIe (xs x0 0 (K1 (eD r n) 4)) (K1 (eD r n) 4) = aO (fun kk => D127 r n lW (xs x0 0 (K1 (eD r n) 4)) kk) n).trans ((bLr r n n).trans (by kernel_rfl))
theorem cFm : D127 r n aQo x0 (K1 (eD r n) 4) = (K4 (aOq r n) 4 10 11 12) :=
 (by kernel_rfl : D127 r n aQo x0 (K1 (eD r n) 4) = D127 r n aIe (xs x0 0 (K1 (eD r n) 4)) (K1 (eD r n) 4)).trans
 ((cDt r n).trans (by kernel_rfl))
theorem bUw : D127 r n aKi x0 r127 = D127 r n xL x0 (K1 (eD r n) 4) :=
 congrArg (fun k => D127 r n xL x0 k) (cJo r n)
theorem bJc : D127 r n xL x0 (K1 (eD r n) 4) = D127 r n bPx x0 (K4 (aOq r n) 4 10 11 12) :=
 congrArg (fun k => D127 r n bPx x0 k) (cFm r n)
theorem cMo : D127 r n aKi x0 r127 = (K2 (aTq r n) 0 4) :=
 (bUw r n).trans
 ((bJc r n).trans
 ((by kernel_rfl)))
theorem bHw : D127 r n aJd x0 r127 = D127 r n aXs x0 (K2 (aTq r n) 0 4) :=
 congrArg (fun k => D127 r n aXs x0 k) (cMo r n)
theorem cKp : D127 r n aJd x0 r127 = (K1 (aTb r n) 0) :=
 (bHw r n).trans
 ((by kernel_rfl))
theorem bNb : D127 r n aDv x0 r127 = D127 r n aXi x0 (K1 (aTb r n) 0) :=
 congrArg (fun k => D127 r n aXi x0 k) (cKp r n)
theorem cCn : D127 r n aDv x0 r127 = (K1 (aOf r n) 0) :=
 (bNb r n).trans
 ((by kernel_rfl))
theorem cUf : D127 r n c127 x0 r127 = D127 r n aYr x0 (K1 (aOf r n) 0) :=
 congrArg (fun k => D127 r n aYr x0 k) (cCn r n)
theorem dIa : D127 r n c127 x0 r127 = (K1 (s127 r n) 0) :=
 (cUf r n).trans
 ((by kernel_rfl))
theorem cUa : aF CF r n 127 args h = s127 r n (aS args 0) h :=
 (by kernel_rfl : aF CF r n 127 args h = D127 r n c127 x0 r127 (aH args) h).trans ((congrFun (congrFun (dIa r n) (aH args)) h).trans (by kernel_rfl))
noncomputable def eS (r : RT) (n : Nat) (x0 x6 : DV) (h0 : Hp) : aJ :=
 bnd (r 46 [x0, x6] h0) fun v1 h1 =>
 bnd (aC 0 v1 h1) fun v2 h2 =>
 bnd (aC 1 v1 h2) fun v3 h3 =>
 some (.t [v2, v3], h3)
noncomputable def aBg (r : RT) (n : Nat) (kk4 : mW) (x0 x1 x6 : DV) (h0 : Hp) : aJ :=
 bnd (bZ x1 h0) fun v1 h1 =>
 bnd (aD .gtr v1 (aE 0) h1) fun v2 h2 =>
 aR v2 (
 bnd (bZ x1 h2) fun v3 h3 =>
 bnd (aPl v3 (aE 240) h3) fun v4 h4 =>
 bnd (r 30 [x0, (aE 10)] h4) fun v5 h5 =>
 bnd (cT 1 x1 none (some v4) h5) fun v6 h6 =>
 cnd (bG (cT 1 x1 none (some v4) h4) v6 && true) (
 bnd (gJ v6 h6) fun v7 h7 =>
 cnd (bG (gJ v6 h4) v7 && true) (
 bnd (r 83 [x0, v5, v7] h7) fun v8 h8 =>
 bnd (aC 0 v8 h8) fun v9 h9 =>
 bnd (aC 1 v8 h9) fun v10 h10 =>
 bnd (aD .neq v10 (aE 0) h10) fun v11 h11 =>
 aR v11 (
 some (.t [(aE 0), v10], h11)) (
 bnd (bK (bW 0 h11.next) [(aE 0)] 1 [(0, 1, v9)] (resv 1 h11)) fun v12 h12 =>
 bnd (bA 1 8 x6 v12 h12) fun v13 h13 =>
 bnd (cT 1 x1 (some v4) none h13) fun v14 h14 =>
 cnd (bG (cT 1 x1 (some v4) none (resv 1 h11)) v14 && true) (
    kk4 x0 v14 v13 h14))))) (
      eS r n x0 x6 h2)
noncomputable def sW (r : RT) (n : Nat) (m : Nat) : mW :=
 Nat.rec (motive := fun _ => mW) (fun _ _ _ _ => none) (fun _ ih => aBg r n ih) m
noncomputable def cAi (r : RT) (n : Nat) : mW := sW r n n
noncomputable def aTl (r : RT) (n : Nat) (x0 x1 x6 : DV) (h0 : Hp) : aJ :=
 cAi r n x0 x1 x6 h0
noncomputable def aUi (r : RT) (n : Nat) (x0 x1 : DV) (h0 : Hp) : aJ :=
 aTl r n x0 x1 .l0 h0
noncomputable def s128 (r : RT) (n : Nat) (x0 x1 : DV) (h0 : Hp) : aJ :=
 aUi r n x0 x1 h0
noncomputable abbrev c128 : Code := cf Tryz.f128
noncomputable abbrev aDa : Code := cR c128
noncomputable abbrev aEi : Code := cR aDa
noncomputable abbrev cTn : Code := cR aEi
noncomputable abbrev aJk : Code := cL aEi
noncomputable abbrev aDu : Code := cL aJk
noncomputable abbrev mG : Code := cL aDu
noncomputable abbrev bJv : Code := cL aDa
noncomputable abbrev bTz : Code := cL c128
noncomputable abbrev r128 : K := aU CF Tryz.f128
noncomputable def D128 (r : RT) (n : Nat) (c : Code) (X : Nat → K) (k : K) : K := aM CF r 42 n c X r128 k
theorem cEo : D128 r n cTn x0 r128 = (K2 (eS r n) 0 6) :=
 (by kernel_rfl)
theorem bTt (kk4 : mW) (q0 : oU) : D128 r n mG (xs x0 0 (K2 q0 0 6)) (K3 kk4 0 1 6) = fun (env : aZ) (h : Hp) =>
 bnd (bZ (env 1) h) fun v1 h1 =>
 bnd (aD .gtr v1 (aE 0) h1) fun v2 h2 =>
 aR v2 (
 bnd (bZ (env 1) h2) fun v3 h3 =>
 bnd (aPl v3 (aE 240) h3) fun v4 h4 =>
 bnd (r 30 [(env 0), (aE 10)] h4) fun v5 h5 =>
 bnd (cT 1 (env 1) none (some v4) h5) fun v6 h6 =>
 cnd (bG (cT 1 (env 1) none (some v4) h4) v6 && true) (
 bnd (gJ v6 h6) fun v7 h7 =>
 cnd (bG (gJ v6 h4) v7 && true) (
 bnd (r 83 [(env 0), v5, v7] h7) fun v8 h8 =>
 bnd (aC 0 v8 h8) fun v9 h9 =>
 bnd (aC 1 v8 h9) fun v10 h10 =>
 bnd (aD .neq v10 (aE 0) h10) fun v11 h11 =>
 aR v11 (
 some (.t [(aE 0), v10], h11)) (
 bnd (bK (bW 0 h11.next) [(aE 0)] 1 [(0, 1, v9)] (resv 1 h11)) fun v12 h12 =>
 bnd (bA 1 8 (env 6) v12 h12) fun v13 h13 =>
 bnd (cT 1 (env 1) (some v4) none h13) fun v14 h14 =>
 cnd (bG (cT 1 (env 1) (some v4) none (resv 1 h11)) v14 && true) (
    kk4 (env 0) v14 v13 h14))))) (
      q0 (env 0) (env 6) h2) := by kernel_rfl
theorem bFz (kk4 : mW) : (fun (env : aZ) (h : Hp) =>
 bnd (bZ (env 1) h) fun v1 h1 =>
 bnd (aD .gtr v1 (aE 0) h1) fun v2 h2 =>
 aR v2 (
 bnd (bZ (env 1) h2) fun v3 h3 =>
 bnd (aPl v3 (aE 240) h3) fun v4 h4 =>
 bnd (r 30 [(env 0), (aE 10)] h4) fun v5 h5 =>
 bnd (cT 1 (env 1) none (some v4) h5) fun v6 h6 =>
 cnd (bG (cT 1 (env 1) none (some v4) h4) v6 && true) (
 bnd (gJ v6 h6) fun v7 h7 =>
 cnd (bG (gJ v6 h4) v7 && true) (
 bnd (r 83 [(env 0), v5, v7] h7) fun v8 h8 =>
 bnd (aC 0 v8 h8) fun v9 h9 =>
 bnd (aC 1 v8 h9) fun v10 h10 =>
 bnd (aD .neq v10 (aE 0) h10) fun v11 h11 =>
 aR v11 (
 some (.t [(aE 0), v10], h11)) (
 bnd (bK (bW 0 h11.next) [(aE 0)] 1 [(0, 1, v9)] (resv 1 h11)) fun v12 h12 =>
 bnd (bA 1 8 (env 6) v12 h12) fun v13 h13 =>
 bnd (cT 1 (env 1) (some v4) none h13) fun v14 h14 =>
 cnd (bG (cT 1 (env 1) (some v4) none (resv 1 h11)) v14 && true) (
    kk4 (env 0) v14 v13 h14))))) (
      eS r n (env 0) (env 6) h2)) = (K3 (aBg r n kk4) 0 1 6) := by kernel_rfl
theorem bMt (kk4 : mW) : D128 r n mG (xs x0 0 (K2 (eS r n) 0 6)) (K3 kk4 0 1 6) = (K3 (aBg r n kk4) 0 1 6) :=
 (bTt r n kk4 (eS r n)).trans (bFz r n kk4)
theorem bTc (m : Nat) : aO (fun kk => D128 r n mG (xs x0 0 (K2 (eS r n) 0 6)) kk) m = (K3 (sW r n m) 0 1 6) := by
 induction m with
 | zero => exact (by kernel_rfl : aO (fun kk => D128 r n mG (xs x0 0 (K2 (eS r n) 0 6)) kk) 0 = (K3 (sW r n 0) 0 1 6))
 | succ m ih =>
  refine (by kernel_rfl : aO (fun kk => D128 r n mG (xs x0 0 (K2 (eS r n) 0 6)) kk) (m + 1) = D128 r n mG (xs x0 0 (K2 (eS r n) 0 6)) (aO (fun kk => D128 r n mG (xs x0 0 (K2 (eS r n) 0 6)) kk) m)).trans ?_
  rw [ih]
  exact (bMt r n (sW r n m)).trans (by kernel_rfl)
theorem cGy : D128 r n aDu (xs x0 0 (K2 (eS r n) 0 6)) (K2 (eS r n) 0 6) = (K3 (cAi r n) 0 1 6) :=
 (by kernel_rfl : D128 r n aDu (xs x0 0 (K2 (eS r n) 0 6)) (K2 (eS r n) 0 6) = aO (fun kk => D128 r n mG (xs x0 0 (K2 (eS r n) 0 6)) kk) n).trans ((bTc r n n).trans (by kernel_rfl))
theorem bNj : D128 r n aEi x0 r128 = D128 r n aJk x0 (K2 (eS r n) 0 6) :=
 congrArg (fun k => D128 r n aJk x0 k) (cEo r n)
theorem cOp : D128 r n aEi x0 r128 = (K3 (aTl r n) 0 1 6) :=
 (bNj r n).trans
 ((by kernel_rfl : D128 r n aJk x0 (K2 (eS r n) 0 6) = D128 r n aDu (xs x0 0 (K2 (eS r n) 0 6)) (K2 (eS r n) 0 6)).trans
 ((cGy r n).trans (by kernel_rfl)))
theorem bKe : D128 r n aDa x0 r128 = D128 r n bJv x0 (K3 (aTl r n) 0 1 6) :=
 congrArg (fun k => D128 r n bJv x0 k) (cOp r n)
theorem cHg : D128 r n aDa x0 r128 = (K2 (aUi r n) 0 1) :=
 (bKe r n).trans
 ((by kernel_rfl))
theorem dCh : D128 r n c128 x0 r128 = D128 r n bTz x0 (K2 (aUi r n) 0 1) :=
 congrArg (fun k => D128 r n bTz x0 k) (cHg r n)
theorem dKl : D128 r n c128 x0 r128 = (K2 (s128 r n) 0 1) :=
 (dCh r n).trans
 ((by kernel_rfl))
theorem cUy : aF CF r n 128 args h = s128 r n (aS args 0) (aS args 1) h :=
 (by kernel_rfl : aF CF r n 128 args h = D128 r n c128 x0 r128 (aH args) h).trans ((congrFun (congrFun (dKl r n) (aH args)) h).trans (by kernel_rfl))
noncomputable def fJ (r : RT) (n : Nat) (x0 x7 : DV) (h0 : Hp) : aJ :=
 bnd (aN x0 h0) fun v1 h1 =>
 bnd (aB 0 v1 h1) fun v2 h2 =>
 bnd (aA v2 h2) fun v3 h3 =>
 bnd (aN x0 h3) fun v4 h4 =>
 bnd (aB 1 v4 h4) fun v5 h5 =>
 bnd (aA v5 h5) fun v6 h6 =>
 bnd (fE v3 (some x7) (some v6) h6) fun v7 h7 =>
 some (v7, h7)
noncomputable def aYw (r : RT) (n : Nat) (kk4 : dL) (x0 x1 x2 x7 : DV) (h0 : Hp) : aJ :=
 bnd (aN x0 h0) fun v1 h1 =>
 bnd (aB 1 v1 h1) fun v2 h2 =>
 bnd (aA v2 h2) fun v3 h3 =>
 bnd (aN x0 h3) fun v4 h4 =>
 bnd (aB 0 v4 h4) fun v5 h5 =>
 bnd (aA v5 h5) fun v6 h6 =>
 bnd (dU v6 h6) fun v7 h7 =>
 bnd (aD .lss v3 v7 h7) fun v8 h8 =>
 bnd (gD v8 true (some (x0, h8)) h8) fun v9 h9 =>
 bnd (gD v8 true (aN v9 h9) h9) fun v10 h10 =>
 bnd (gD v8 true (aB 1 v10 h10) h10) fun v11 h11 =>
 bnd (gD v8 true (aA v11 h11) h11) fun v12 h12 =>
 bnd (gD v8 true (some (x7, h12)) h12) fun v13 h13 =>
 bnd (gD v8 true (aD .sub v12 v13 h13) h13) fun v14 h14 =>
 bnd (gD v8 true (some (x2, h14)) h14) fun v15 h15 =>
 bnd (gD v8 true (aD .lss v14 v15 h15) h15) fun v16 h16 =>
 bnd (aP v8 v16 (.b false) h16) fun v17 h17 =>
 bnd (gD v17 true (some (x1, h17)) h17) fun v18 h18 =>
 bnd (gD v17 true (some (x0, h18)) h18) fun v19 h19 =>
 bnd (gD v17 true (aN v19 h19) h19) fun v20 h20 =>
 bnd (gD v17 true (aB 0 v20 h20) h20) fun v21 h21 =>
 bnd (gD v17 true (aA v21 h21) h21) fun v22 h22 =>
 bnd (gD v17 true (some (x0, h22)) h22) fun v23 h23 =>
 bnd (gD v17 true (aN v23 h23) h23) fun v24 h24 =>
 bnd (gD v17 true (aB 1 v24 h24) h24) fun v25 h25 =>
 bnd (gD v17 true (aA v25 h25) h25) fun v26 h26 =>
 bnd (gD v17 true (fF v22 v26 h26) h26) fun v27 h27 =>
 bnd (gD v17 true (cX CF r v18 [v27] h27) h27) fun v28 h28 =>
 bnd (aP v17 v28 (.b false) h28) fun v29 h29 =>
 aR v29 (
 bnd (aN x0 h29) fun v30 h30 =>
 bnd (aB 1 v30 h30) fun v31 h31 =>
 bnd (aA v31 h31) fun v32 h32 =>
 bnd (aD .add v32 (aE 1) h32) fun v33 h33 =>
 bnd (aN x0 h33) fun v34 h34 =>
 bnd (aB 1 v34 h34) fun v35 h35 =>
 bnd (aG 1 v35 v33 h35) fun _ h36 =>
      kk4 x0 x1 x2 x7 h36) (
      fJ r n x0 x7 h29)
noncomputable def tH (r : RT) (n : Nat) (m : Nat) : dL :=
 Nat.rec (motive := fun _ => dL) (fun _ _ _ _ _ => none) (fun _ ih => aYw r n ih) m
noncomputable def bWd (r : RT) (n : Nat) : dL := tH r n n
noncomputable def aSg (r : RT) (n : Nat) (x0 x1 x2 x7 : DV) (h0 : Hp) : aJ :=
 bWd r n x0 x1 x2 x7 h0
noncomputable def aPi (r : RT) (n : Nat) (x0 x1 x2 : DV) (h0 : Hp) : aJ :=
 bnd (aN x0 h0) fun v1 h1 =>
 bnd (aB 1 v1 h1) fun v2 h2 =>
 bnd (aA v2 h2) fun v3 h3 =>
  aSg r n x0 x1 x2 v3 h3
noncomputable def s129 (r : RT) (n : Nat) (x0 x1 x2 : DV) (h0 : Hp) : aJ :=
 aPi r n x0 x1 x2 h0
noncomputable abbrev c129 : Code := cf Tryz.f129
noncomputable abbrev aIg : Code := cR c129
noncomputable abbrev aCh : Code := cR aIg
noncomputable abbrev cYz : Code := cR aCh
noncomputable abbrev aFo : Code := cL aCh
noncomputable abbrev aHt : Code := cL aFo
noncomputable abbrev oL : Code := cL aHt
noncomputable abbrev bWb : Code := cL aIg
noncomputable abbrev bNd : Code := cL c129
noncomputable abbrev r129 : K := aU CF Tryz.f129
noncomputable def D129 (r : RT) (n : Nat) (c : Code) (X : Nat → K) (k : K) : K := aM CF r 62 n c X r129 k
theorem cFt : D129 r n cYz x0 r129 = (K2 (fJ r n) 0 7) :=
 (by kernel_rfl)
theorem bPj (kk4 : dL) : D129 r n oL (xs x0 0 (K2 (fJ r n) 0 7)) (K4 kk4 0 1 2 7) = (K4 (aYw r n kk4) 0 1 2 7) :=
 (by kernel_rfl)
theorem bKl (m : Nat) : aO (fun kk => D129 r n oL (xs x0 0 (K2 (fJ r n) 0 7)) kk) m = (K4 (tH r n m) 0 1 2 7) := by
 induction m with
 | zero => exact (by kernel_rfl : aO (fun kk => D129 r n oL (xs x0 0 (K2 (fJ r n) 0 7)) kk) 0 = (K4 (tH r n 0) 0 1 2 7))
 | succ m ih =>
  refine (by kernel_rfl : aO (fun kk => D129 r n oL (xs x0 0 (K2 (fJ r n) 0 7)) kk) (m + 1) = D129 r n oL (xs x0 0 (K2 (fJ r n) 0 7)) (aO (fun kk => D129 r n oL (xs x0 0 (K2 (fJ r n) 0 7)) kk) m)).trans ?_
  rw [ih]
  exact (bPj r n (tH r n m)).trans (by kernel_rfl)
theorem cNi : D129 r n aHt (xs x0 0 (K2 (fJ r n) 0 7)) (K2 (fJ r n) 0 7) = (K4 (bWd r n) 0 1 2 7) :=
 (by kernel_rfl : D129 r n aHt (xs x0 0 (K2 (fJ r n) 0 7)) (K2 (fJ r n) 0 7) = aO (fun kk => D129 r n oL (xs x0 0 (K2 (fJ r n) 0 7)) kk) n).trans ((bKl r n n).trans (by kernel_rfl))
theorem bZr : D129 r n aCh x0 r129 = D129 r n aFo x0 (K2 (fJ r n) 0 7) :=
 congrArg (fun k => D129 r n aFo x0 k) (cFt r n)
theorem cDk : D129 r n aCh x0 r129 = (K4 (aSg r n) 0 1 2 7) :=
 (bZr r n).trans
 ((by kernel_rfl : D129 r n aFo x0 (K2 (fJ r n) 0 7) = D129 r n aHt (xs x0 0 (K2 (fJ r n) 0 7)) (K2 (fJ r n) 0 7)).trans
 ((cNi r n).trans (by kernel_rfl)))
theorem bNy : D129 r n aIg x0 r129 = D129 r n bWb x0 (K4 (aSg r n) 0 1 2 7) :=
 congrArg (fun k => D129 r n bWb x0 k) (cDk r n)
theorem cCa : D129 r n aIg x0 r129 = (K3 (aPi r n) 0 1 2) :=
 (bNy r n).trans
 ((by kernel_rfl))
theorem cTd : D129 r n c129 x0 r129 = D129 r n bNd x0 (K3 (aPi r n) 0 1 2) :=
 congrArg (fun k => D129 r n bNd x0 k) (cCa r n)
theorem dHm : D129 r n c129 x0 r129 = (K3 (s129 r n) 0 1 2) :=
 (cTd r n).trans
 ((by kernel_rfl))
theorem cZs : aF CF r n 129 args h = s129 r n (aS args 0) (aS args 1) (aS args 2) h :=
 (by kernel_rfl : aF CF r n 129 args h = D129 r n c129 x0 r129 (aH args) h).trans ((congrFun (congrFun (dHm r n) (aH args)) h).trans (by kernel_rfl))
noncomputable def s130 (r : RT) (n : Nat) (x0 : DV) (h0 : Hp) : aJ :=
 bnd (bS x0 h0) fun v1 h1 =>
 some ((.f 145 [] [v1]), h1)
noncomputable abbrev c130 : Code := cf Tryz.f130
noncomputable abbrev r130 : K := aU CF Tryz.f130
noncomputable def D130 (r : RT) (n : Nat) (c : Code) (X : Nat → K) (k : K) : K := aM CF r 4 n c X r130 k
theorem dJi : D130 r n c130 x0 r130 = (K1 (s130 r n) 0) :=
 (by kernel_rfl)
theorem cVa : aF CF r n 130 args h = s130 r n (aS args 0) h :=
 (by kernel_rfl : aF CF r n 130 args h = D130 r n c130 x0 r130 (aH args) h).trans ((congrFun (congrFun (dJi r n) (aH args)) h).trans (by kernel_rfl))
noncomputable def s131 (r : RT) (n : Nat) (x0 x1 : DV) (h0 : Hp) : aJ :=
 bnd (r 146 [x0, x1] h0) fun v1 h1 =>
 some (v1, h1)
noncomputable abbrev c131 : Code := cf Tryz.f131
noncomputable abbrev r131 : K := aU CF Tryz.f131
noncomputable def D131 (r : RT) (n : Nat) (c : Code) (X : Nat → K) (k : K) : K := aM CF r 8 n c X r131 k
theorem dIk : D131 r n c131 x0 r131 = (K2 (s131 r n) 0 1) :=
 (by kernel_rfl)
theorem cSt : aF CF r n 131 args h = s131 r n (aS args 0) (aS args 1) h :=
 (by kernel_rfl : aF CF r n 131 args h = D131 r n c131 x0 r131 (aH args) h).trans ((congrFun (congrFun (dIk r n) (aH args)) h).trans (by kernel_rfl))
end Go.Dd

namespace Go.Dd
open Go.Proofs
variable (r : RT) (n : Nat) (args : List DV) (h : Hp)
noncomputable def hZ (r : RT) (n : Nat) (x2 x4 x5 : DV) (h0 : Hp) : aJ :=
 bnd (aK 4 x4 h0) fun v1 h1 =>
 bnd (aG 4 x2 v1 h1) fun _ h2 =>
 bnd (aK 4 x2 h2) fun v3 _ =>
 some (.t [v3, x5], h2)
noncomputable def aPc (r : RT) (n : Nat) (x0 x2 x4 x5 x6 : DV) (h0 : Hp) : aJ :=
 bnd (r 148 [x6] h0) fun v1 h1 =>
 aR v1 (
 bnd (aB 0 x4 h1) fun v2 h2 =>
 bnd (aG 1 v2 (aE 1) h2) fun _ h3 =>
 bnd (r 149 [x0] h3) fun v4 h4 =>
 bnd (aC 0 v4 h4) fun v5 h5 =>
 bnd (aC 1 v4 h5) fun v6 h6 =>
 bnd (aB 1 x4 h6) fun v7 h7 =>
 bnd (aG 1 v7 v5 h7) fun _ h8 =>
 bnd (aD .eql v6 (aE 0) h8) fun v9 h9 =>
 bnd (gD v9 true (some (x0, h9)) h9) fun v10 h10 =>
 bnd (gD v9 true (r 150 [v10] h10) h10) fun v11 h11 =>
 bnd (aP v9 v11 (.b false) h11) fun v12 h12 =>
 aR v12 (
 bnd (aB 1 x4 h12) fun v13 h13 =>
 bnd (aA v13 h13) fun v14 h14 =>
 bnd (fM .add v14 (.s [58]) h14) fun v15 h15 =>
 bnd (aB 0 x4 h15) fun v16 h16 =>
 bnd (aG 1 v16 (aE 2) h16) fun _ h17 =>
 bnd (aB 1 x4 h17) fun v18 h18 =>
 bnd (aG 1 v18 v15 h18) fun _ h19 =>
      hZ r n x2 x4 v6 h19) (
      hZ r n x2 x4 v6 h12)) (
 bnd (r 151 [x6] h1) fun v20 h20 =>
 aR v20 (
 bnd (aB 0 x4 h20) fun v21 h21 =>
 bnd (aG 1 v21 (aE 4) h21) fun _ h22 =>
 bnd (r 152 [x0] h22) fun v23 h23 =>
 bnd (aC 0 v23 h23) fun v24 h24 =>
 bnd (aC 1 v23 h24) fun v25 h25 =>
 bnd (aB 2 x4 h25) fun v26 h26 =>
 bnd (aG 1 v26 v24 h26) fun _ h27 =>
      hZ r n x2 x4 v25 h27) (
 bnd (aD .eql x6 (.i .u8 (Int.ofNat 39)) h20) fun v28 h28 =>
 aR v28 (
 bnd (aN x0 h28) fun v29 h29 =>
 bnd (aB 1 v29 h29) fun v30 h30 =>
 bnd (aA v30 h30) fun v31 h31 =>
 bnd (aD .add v31 (aE 1) h31) fun v32 h32 =>
 bnd (aN x0 h32) fun v33 h33 =>
 bnd (aB 1 v33 h33) fun v34 h34 =>
 bnd (aG 1 v34 v32 h34) fun _ h35 =>
 bnd (aB 0 x4 h35) fun v36 h36 =>
 bnd (aG 1 v36 (aE 5) h36) fun _ h37 =>
 bnd (r 153 [x0] h37) fun v38 h38 =>
 bnd (aC 0 v38 h38) fun v39 h39 =>
 bnd (aC 1 v38 h39) fun v40 h40 =>
 bnd (aB 1 x4 h40) fun v41 h41 =>
 bnd (aG 1 v41 v39 h41) fun _ h42 =>
    hZ r n x2 x4 v40 h42) (
 bnd (aD .eql x6 (.i .u8 (Int.ofNat 35)) h28) fun v43 h43 =>
 bnd (gD v43 true (some (x0, h43)) h43) fun v44 h44 =>
 bnd (gD v43 true (r 147 [v44, (aE 1)] h44) h44) fun v45 h45 =>
 bnd (gD v43 true (aD .eql v45 (.i .u8 (Int.ofNat 40)) h45) h45) fun v46 h46 =>
 bnd (aP v43 v46 (.b false) h46) fun v47 h47 =>
 aR v47 (
 bnd (aN x0 h47) fun v48 h48 =>
 bnd (aB 1 v48 h48) fun v49 h49 =>
 bnd (aA v49 h49) fun v50 h50 =>
 bnd (aD .add v50 (aE 2) h50) fun v51 h51 =>
 bnd (aN x0 h51) fun v52 h52 =>
 bnd (aB 1 v52 h52) fun v53 h53 =>
 bnd (aG 1 v53 v51 h53) fun _ h54 =>
 bnd (aB 0 x4 h54) fun v55 h55 =>
 bnd (aG 1 v55 (aE 7) h55) fun _ h56 =>
     hZ r n x2 x4 x5 h56) (
 bnd (aD .eql x6 (.i .u8 (Int.ofNat 35)) h47) fun v57 h57 =>
 aR v57 (
 bnd (aN x0 h57) fun v58 h58 =>
 bnd (aB 1 v58 h58) fun v59 h59 =>
 bnd (aA v59 h59) fun v60 h60 =>
 bnd (aD .add v60 (aE 1) h60) fun v61 h61 =>
 bnd (aN x0 h61) fun v62 h62 =>
 bnd (aB 1 v62 h62) fun v63 h63 =>
 bnd (aG 1 v63 v61 h63) fun _ h64 =>
 bnd (aB 0 x4 h64) fun v65 h65 =>
 bnd (aG 1 v65 (aE 6) h65) fun _ h66 =>
 bnd (r 154 [x0] h66) fun v67 h67 =>
 bnd (aC 0 v67 h67) fun v68 h68 =>
 bnd (aC 1 v67 h68) fun v69 h69 =>
 bnd (aB 1 x4 h69) fun v70 h70 =>
 bnd (aG 1 v70 v68 h70) fun _ h71 =>
      hZ r n x2 x4 v69 h71) (
 bnd (aD .eql x6 (.i .u8 (Int.ofNat 58)) h57) fun v72 h72 =>
 bnd (gD v72 true (some (x0, h72)) h72) fun v73 h73 =>
 bnd (gD v72 true (r 147 [v73, (aE 1)] h73) h73) fun v74 h74 =>
 bnd (gD v72 true (aD .eql v74 (.i .u8 (Int.ofNat 61)) h74) h74) fun v75 h75 =>
 bnd (aP v72 v75 (.b false) h75) fun v76 h76 =>
 aR v76 (
 bnd (aN x0 h76) fun v77 h77 =>
 bnd (aB 1 v77 h77) fun v78 h78 =>
 bnd (aA v78 h78) fun v79 h79 =>
 bnd (aD .add v79 (aE 2) h79) fun v80 h80 =>
 bnd (aN x0 h80) fun v81 h81 =>
 bnd (aB 1 v81 h81) fun v82 h82 =>
 bnd (aG 1 v82 v80 h82) fun _ h83 =>
 bnd (aB 0 x4 h83) fun v84 h84 =>
 bnd (aG 1 v84 (aE 9) h84) fun _ h85 =>
       hZ r n x2 x4 x5 h85) (
 bnd (aD .eql x6 (.i .u8 (Int.ofNat 58)) h76) fun v86 h86 =>
 bnd (gD v86 true (some (x0, h86)) h86) fun v87 h87 =>
 bnd (gD v86 true (r 147 [v87, (aE 1)] h87) h87) fun v88 h88 =>
 bnd (gD v86 true (r 148 [v88] h88) h88) fun v89 h89 =>
 bnd (aP v86 v89 (.b false) h89) fun v90 h90 =>
 aR v90 (
 bnd (aN x0 h90) fun v91 h91 =>
 bnd (aB 1 v91 h91) fun v92 h92 =>
 bnd (aA v92 h92) fun v93 h93 =>
 bnd (aD .add v93 (aE 1) h93) fun v94 h94 =>
 bnd (aN x0 h94) fun v95 h95 =>
 bnd (aB 1 v95 h95) fun v96 h96 =>
 bnd (aG 1 v96 v94 h96) fun _ h97 =>
 bnd (aB 0 x4 h97) fun v98 h98 =>
 bnd (aG 1 v98 (aE 8) h98) fun _ h99 =>
 bnd (r 149 [x0] h99) fun v100 h100 =>
 bnd (aC 0 v100 h100) fun v101 h101 =>
 bnd (aC 1 v100 h101) fun v102 h102 =>
 bnd (aB 1 x4 h102) fun v103 h103 =>
 bnd (aG 1 v103 v101 h103) fun _ h104 =>
        hZ r n x2 x4 v102 h104) (
 bnd (r 130 [(.s [43, 45, 42, 47, 60, 62, 61, 126, 44, 64, 38, 37])] h90) fun v105 h105 =>
 bnd (cX CF r v105 [x6] h105) fun v106 h106 =>
 aR v106 (
 bnd (r 130 [(.s [43, 45, 42, 47, 60, 62, 61, 126, 44, 64, 38, 37])] h106) fun v107 h107 =>
 bnd (r 129 [x0, v107, (aE 2)] h107) fun v108 h108 =>
 bnd (aB 0 x4 h108) fun v109 h109 =>
 bnd (aG 1 v109 (aE 3) h109) fun _ h110 =>
 bnd (aB 1 x4 h110) fun v111 h111 =>
 bnd (aG 1 v111 v108 h111) fun _ h112 =>
         hZ r n x2 x4 x5 h112) (
 bnd (r 130 [(.s [94, 46, 59, 40, 41, 91, 93, 124])] h106) fun v113 h113 =>
 bnd (cX CF r v113 [x6] h113) fun v114 h114 =>
 aR v114 (
 bnd (r 130 [(.s [94, 46, 59, 40, 41, 91, 93, 124])] h114) fun v115 h115 =>
 bnd (r 129 [x0, v115, (aE 1)] h115) fun v116 h116 =>
 bnd (aB 0 x4 h116) fun v117 h117 =>
 bnd (aG 1 v117 (aE 10) h117) fun _ h118 =>
 bnd (aB 1 x4 h118) fun v119 h119 =>
 bnd (aG 1 v119 v116 h119) fun _ h120 =>
          hZ r n x2 x4 x5 h120) (
          hZ r n x2 x4 (aE 10) h114)))))))))
noncomputable def aNs (r : RT) (n : Nat) (x0 x2 x4 x5 : DV) (h0 : Hp) : aJ :=
 bnd (r 147 [x0, (aE 0)] h0) fun v1 h1 =>
  aPc r n x0 x2 x4 x5 v1 h1
noncomputable def xS (r : RT) (n : Nat) (x0 x2 x4 : DV) (h0 : Hp) : aJ :=
 aNs r n x0 x2 x4 (aE 0) h0
noncomputable def qT (r : RT) (n : Nat) (x0 x2 : DV) (h0 : Hp) : aJ :=
 bnd (aN x0 h0) fun v1 h1 =>
 bnd (aB 1 v1 h1) fun v2 h2 =>
 bnd (aA v2 h2) fun v3 h3 =>
 bnd (bB [(aE 0), (.s []), (aE 0), (aE 0)] [(3, 1, v3)] h3) fun v4 h4 =>
 bnd (bM [(aE 0), (.s []), (aE 0), (aE 0)] h4) fun v5 h5 =>
 bnd (aG 4 v5 v4 h5) fun _ h6 =>
  xS r n x0 x2 v5 h6
noncomputable def s132 (r : RT) (n : Nat) (x0 : DV) (h0 : Hp) : aJ :=
 bnd (bM [(aE 0), (.s []), (aE 0), (aE 0)] h0) fun v1 h1 =>
  qT r n x0 v1 h1
noncomputable abbrev c132 : Code := cf Tryz.f132
noncomputable abbrev aGb : Code := cR c132
noncomputable abbrev aEm : Code := cR aGb
noncomputable abbrev aGk : Code := cR aEm
noncomputable abbrev aJb : Code := cR aGk
noncomputable abbrev cSf : Code := cR aJb
noncomputable abbrev bLd : Code := cL aJb
noncomputable abbrev bZm : Code := cL aGk
noncomputable abbrev bYg : Code := cL aEm
noncomputable abbrev aPh : Code := cL aGb
noncomputable abbrev aEk : Code := cL c132
noncomputable abbrev r132 : K := aU CF Tryz.f132
noncomputable def D132 (r : RT) (n : Nat) (c : Code) (X : Nat → K) (k : K) : K := aM CF r 153 n c X r132 k
theorem cJz : D132 r n cSf x0 r132 = (K3 (hZ r n) 2 4 5) :=
 (by kernel_rfl)
theorem bTb : D132 r n aJb x0 r132 = D132 r n bLd x0 (K3 (hZ r n) 2 4 5) :=
 congrArg (fun k => D132 r n bLd x0 k) (cJz r n)
theorem cKo : D132 r n aJb x0 r132 = (K5 (aPc r n) 0 2 4 5 6) :=
 (bTb r n).trans
 ((by kernel_rfl))
theorem cAc : D132 r n aGk x0 r132 = D132 r n bZm x0 (K5 (aPc r n) 0 2 4 5 6) :=
 congrArg (fun k => D132 r n bZm x0 k) (cKo r n)
theorem cEh : D132 r n aGk x0 r132 = (K4 (aNs r n) 0 2 4 5) :=
 (cAc r n).trans
 ((by kernel_rfl))
theorem bSt : D132 r n aEm x0 r132 = D132 r n bYg x0 (K4 (aNs r n) 0 2 4 5) :=
 congrArg (fun k => D132 r n bYg x0 k) (cEh r n)
theorem cKx : D132 r n aEm x0 r132 = (K3 (xS r n) 0 2 4) :=
 (bSt r n).trans
 ((by kernel_rfl))
theorem bSp : D132 r n aGb x0 r132 = D132 r n aPh x0 (K3 (xS r n) 0 2 4) :=
 congrArg (fun k => D132 r n aPh x0 k) (cKx r n)
theorem bHx (q0 : mW) : D132 r n aPh x0 (K3 q0 0 2 4) = fun (env : aZ) (h : Hp) =>
 bnd (aN (env 0) h) fun v1 h1 =>
 bnd (aB 1 v1 h1) fun v2 h2 =>
 bnd (aA v2 h2) fun v3 h3 =>
 bnd (bB [(aE 0), (.s []), (aE 0), (aE 0)] [(3, 1, v3)] h3) fun v4 h4 =>
 bnd (bM [(aE 0), (.s []), (aE 0), (aE 0)] h4) fun v5 h5 =>
 bnd (aG 4 v5 v4 h5) fun _ h6 =>
  q0 (env 0) (env 2) v5 h6 := by kernel_rfl
theorem bCl : (fun (env : aZ) (h : Hp) =>
 bnd (aN (env 0) h) fun v1 h1 =>
 bnd (aB 1 v1 h1) fun v2 h2 =>
 bnd (aA v2 h2) fun v3 h3 =>
 bnd (bB [(aE 0), (.s []), (aE 0), (aE 0)] [(3, 1, v3)] h3) fun v4 h4 =>
 bnd (bM [(aE 0), (.s []), (aE 0), (aE 0)] h4) fun v5 h5 =>
 bnd (aG 4 v5 v4 h5) fun _ h6 =>
  xS r n (env 0) (env 2) v5 h6) = (K2 (qT r n) 0 2) := by kernel_rfl
theorem cMz : D132 r n aGb x0 r132 = (K2 (qT r n) 0 2) :=
 (bSp r n).trans
 ((bHx r n (xS r n)).trans (bCl r n))
theorem cTy : D132 r n c132 x0 r132 = D132 r n aEk x0 (K2 (qT r n) 0 2) :=
 congrArg (fun k => D132 r n aEk x0 k) (cMz r n)
theorem cVn (q0 : oU) : D132 r n aEk x0 (K2 q0 0 2) = fun (env : aZ) (h : Hp) =>
 bnd (bM [(aE 0), (.s []), (aE 0), (aE 0)] h) fun v1 h1 =>
  q0 (env 0) v1 h1 := by kernel_rfl
theorem cHy : (fun (env : aZ) (h : Hp) =>
 bnd (bM [(aE 0), (.s []), (aE 0), (aE 0)] h) fun v1 h1 =>
  qT r n (env 0) v1 h1) = (K1 (s132 r n) 0) := by kernel_rfl
theorem dGq : D132 r n c132 x0 r132 = (K1 (s132 r n) 0) :=
 (cTy r n).trans
 ((cVn r n (qT r n)).trans (cHy r n))
theorem dAm : aF CF r n 132 args h = s132 r n (aS args 0) h :=
 (by kernel_rfl : aF CF r n 132 args h = D132 r n c132 x0 r132 (aH args) h).trans ((congrFun (congrFun (dGq r n) (aH args)) h).trans (by kernel_rfl))
noncomputable def s133 (r : RT) (n : Nat) (x0 x1 x2 : DV) (h0 : Hp) : aJ :=
 bnd (r 137 [x0, (aE 0)] h0) fun v1 h1 =>
 bnd (bM [(aE 0), (.s []), (aE 0), (aE 0)] h1) fun v2 h2 =>
 bnd (aG 4 v2 v1 h2) fun _ h3 =>
 bnd (aN x0 h3) fun v4 h4 =>
 bnd (aB 3 v4 h4) fun v5 h5 =>
 bnd (aA v5 h5) fun v6 h6 =>
 bnd (aD .eql v6 (aE 0) h6) fun v7 h7 =>
 bnd (gD v7 true (aB 0 v2 h7) h7) fun v8 h8 =>
 bnd (gD v7 true (aA v8 h8) h8) fun v9 h9 =>
 bnd (gD v7 true (some (x1, h9)) h9) fun v10 h10 =>
 bnd (gD v7 true (aD .eql v9 v10 h10) h10) fun v11 h11 =>
 bnd (aP v7 v11 (.b false) h11) fun v12 h12 =>
 bnd (gD v12 true (some (x2, h12)) h12) fun v13 h13 =>
 bnd (gD v12 true (fM .eql v13 (.s []) h13) h13) fun v14 h14 =>
 bnd (gD v12 true (some (v14, h14)) h14) fun v15 h15 =>
 bnd (gD v15 false (aB 1 v2 h15) h15) fun v16 h16 =>
 bnd (gD v15 false (aA v16 h16) h16) fun v17 h17 =>
 bnd (gD v15 false (some (x2, h17)) h17) fun v18 h18 =>
 bnd (gD v15 false (fM .eql v17 v18 h18) h18) fun v19 h19 =>
 bnd (gD v12 true (aP v15 (.b true) v19 h19) h19) fun v20 h20 =>
 bnd (aP v12 v20 (.b false) h20) fun v21 h21 =>
 some (v21, h21)
noncomputable abbrev c133 : Code := cf Tryz.f133
noncomputable abbrev r133 : K := aU CF Tryz.f133
noncomputable def D133 (r : RT) (n : Nat) (c : Code) (X : Nat → K) (k : K) : K := aM CF r 31 n c X r133 k
theorem dJx : D133 r n c133 x0 r133 = (K3 (s133 r n) 0 1 2) :=
 (by kernel_rfl)
theorem cTv : aF CF r n 133 args h = s133 r n (aS args 0) (aS args 1) (aS args 2) h :=
 (by kernel_rfl : aF CF r n 133 args h = D133 r n c133 x0 r133 (aH args) h).trans ((congrFun (congrFun (dJx r n) (aH args)) h).trans (by kernel_rfl))
noncomputable def aBq (r : RT) (n : Nat) (x2 x3 : DV) (h0 : Hp) : aJ :=
 bnd (aK 4 x3 h0) fun v1 h1 =>
 bnd (aG 4 x2 v1 h1) fun _ h2 =>
 bnd (aK 4 x2 h2) fun v3 _ =>
 some (v3, h2)
noncomputable def vH (r : RT) (n : Nat) (x0 x2 x3 : DV) (h0 : Hp) : aJ :=
 bnd (aB 0 x3 h0) fun v1 h1 =>
 bnd (aA v1 h1) fun v2 h2 =>
 bnd (aD .neq v2 (aE 0) h2) fun v3 h3 =>
 aR v3 (
 bnd (aN x0 h3) fun v4 h4 =>
 bnd (aB 0 v4 h4) fun v5 h5 =>
 bnd (aA v5 h5) fun v6 h6 =>
 bnd (cT 4 v6 (some (aE 1)) none h6) fun v7 h7 =>
 bnd (aN x0 h7) fun v8 h8 =>
 bnd (aB 0 v8 h8) fun v9 h9 =>
 bnd (aG 1 v9 v7 h9) fun _ h10 =>
  aBq r n x2 x3 h10) (
  aBq r n x2 x3 h3)
noncomputable def qM (r : RT) (n : Nat) (x0 x2 : DV) (h0 : Hp) : aJ :=
 bnd (r 137 [x0, (aE 0)] h0) fun v1 h1 =>
 bnd (bM [(aE 0), (.s []), (aE 0), (aE 0)] h1) fun v2 h2 =>
 bnd (aG 4 v2 v1 h2) fun _ h3 =>
  vH r n x0 x2 v2 h3
noncomputable def s134 (r : RT) (n : Nat) (x0 : DV) (h0 : Hp) : aJ :=
 bnd (bM [(aE 0), (.s []), (aE 0), (aE 0)] h0) fun v1 h1 =>
  qM r n x0 v1 h1
noncomputable abbrev c134 : Code := cf Tryz.f134
noncomputable abbrev aGg : Code := cR c134
noncomputable abbrev aCj : Code := cR aGg
noncomputable abbrev cXp : Code := cR aCj
noncomputable abbrev bOj : Code := cL aCj
noncomputable abbrev aTe : Code := cL aGg
noncomputable abbrev aTm : Code := cL c134
noncomputable abbrev r134 : K := aU CF Tryz.f134
noncomputable def D134 (r : RT) (n : Nat) (c : Code) (X : Nat → K) (k : K) : K := aM CF r 18 n c X r134 k
theorem cGm : D134 r n cXp x0 r134 = (K2 (aBq r n) 2 3) :=
 (by kernel_rfl)
theorem bLm : D134 r n aCj x0 r134 = D134 r n bOj x0 (K2 (aBq r n) 2 3) :=
 congrArg (fun k => D134 r n bOj x0 k) (cGm r n)
theorem cMj : D134 r n aCj x0 r134 = (K3 (vH r n) 0 2 3) :=
 (bLm r n).trans
 ((by kernel_rfl))
theorem bUa : D134 r n aGg x0 r134 = D134 r n aTe x0 (K3 (vH r n) 0 2 3) :=
 congrArg (fun k => D134 r n aTe x0 k) (cMj r n)
theorem bWy (q0 : mW) : D134 r n aTe x0 (K3 q0 0 2 3) = fun (env : aZ) (h : Hp) =>
 bnd (r 137 [(env 0), (aE 0)] h) fun v1 h1 =>
 bnd (bM [(aE 0), (.s []), (aE 0), (aE 0)] h1) fun v2 h2 =>
 bnd (aG 4 v2 v1 h2) fun _ h3 =>
  q0 (env 0) (env 2) v2 h3 := by kernel_rfl
theorem bFc : (fun (env : aZ) (h : Hp) =>
 bnd (r 137 [(env 0), (aE 0)] h) fun v1 h1 =>
 bnd (bM [(aE 0), (.s []), (aE 0), (aE 0)] h1) fun v2 h2 =>
 bnd (aG 4 v2 v1 h2) fun _ h3 =>
  vH r n (env 0) (env 2) v2 h3) = (K2 (qM r n) 0 2) := by kernel_rfl
theorem cHf : D134 r n aGg x0 r134 = (K2 (qM r n) 0 2) :=
 (bUa r n).trans
 ((bWy r n (vH r n)).trans (bFc r n))
theorem cZe : D134 r n c134 x0 r134 = D134 r n aTm x0 (K2 (qM r n) 0 2) :=
 congrArg (fun k => D134 r n aTm x0 k) (cHf r n)
theorem dBn (q0 : oU) : D134 r n aTm x0 (K2 q0 0 2) = fun (env : aZ) (h : Hp) =>
 bnd (bM [(aE 0), (.s []), (aE 0), (aE 0)] h) fun v1 h1 =>
  q0 (env 0) v1 h1 := by kernel_rfl
theorem cJb : (fun (env : aZ) (h : Hp) =>
 bnd (bM [(aE 0), (.s []), (aE 0), (aE 0)] h) fun v1 h1 =>
  qM r n (env 0) v1 h1) = (K1 (s134 r n) 0) := by kernel_rfl
theorem dDn : D134 r n c134 x0 r134 = (K1 (s134 r n) 0) :=
 (cZe r n).trans
 ((dBn r n (qM r n)).trans (cJb r n))
theorem dCq : aF CF r n 134 args h = s134 r n (aS args 0) h :=
 (by kernel_rfl : aF CF r n 134 args h = D134 r n c134 x0 r134 (aH args) h).trans ((congrFun (congrFun (dDn r n) (aH args)) h).trans (by kernel_rfl))
noncomputable def s135 (r : RT) (n : Nat) (x0 : DV) (h0 : Hp) : aJ :=
 bnd (bM kA h0) fun v1 h1 =>
 bnd (r 133 [x0, (aE 1), (.s [])] h1) fun v2 h2 =>
 bnd (gD v2 true (some (x0, h2)) h2) fun v3 h3 =>
 bnd (gD v2 true (r 137 [v3, (aE 1)] h3) h3) fun v4 h4 =>
 bnd (gD v2 true (fO 0 v4 h4) h4) fun v5 h5 =>
 bnd (gD v2 true (aD .eql v5 (aE 9) h5) h5) fun v6 h6 =>
 bnd (aP v2 v6 (.b false) h6) fun v7 h7 =>
 aR v7 (
 bnd (r 134 [x0] h7) fun v8 h8 =>
 bnd (fO 1 v8 h8) fun v9 h9 =>
 bnd (bB kA [(0, 1, (aE 6)), (1, 1, v9)] h9) fun v10 h10 =>
 bnd (bM kA h10) fun v11 h11 =>
 bnd (aG 6 v11 v10 h11) fun _ h12 =>
 bnd (r 134 [x0] h12) fun v13 h13 =>
 bnd (r 135 [x0] h13) fun v14 h14 =>
 bnd (aL kA 1 [(0, 6, v14)] h14) fun v15 h15 =>
 bnd (aB 5 v11 h15) fun v16 h16 =>
 bnd (aG 1 v16 v15 h16) fun _ h17 =>
 bnd (aK 6 v11 h17) fun v18 h18 =>
 bnd (aG 6 v1 v18 h18) fun _ h19 =>
 bnd (aK 6 v1 h19) fun v20 _ =>
 some (v20, h19)) (
 bnd (r 155 [x0] h7) fun v21 h21 =>
 bnd (aG 6 v1 v21 h21) fun _ h22 =>
 bnd (aK 6 v1 h22) fun v23 _ =>
 some (v23, h22))
noncomputable abbrev c135 : Code := cf Tryz.f135
noncomputable abbrev r135 : K := aU CF Tryz.f135
noncomputable def D135 (r : RT) (n : Nat) (c : Code) (X : Nat → K) (k : K) : K := aM CF r 25 n c X r135 k
theorem dFc : D135 r n c135 x0 r135 = (K1 (s135 r n) 0) :=
 (by kernel_rfl)
theorem cZh : aF CF r n 135 args h = s135 r n (aS args 0) h :=
 (by kernel_rfl : aF CF r n 135 args h = D135 r n c135 x0 r135 (aH args) h).trans ((congrFun (congrFun (dFc r n) (aH args)) h).trans (by kernel_rfl))
noncomputable def s137 (r : RT) (n : Nat) (x0 x1 : DV) (h0 : Hp) : aJ :=
 bnd (bM [(aE 0), (.s []), (aE 0), (aE 0)] h0) fun v1 h1 =>
 bnd (aN x0 h1) fun v2 h2 =>
 bnd (aB 0 v2 h2) fun v3 h3 =>
 bnd (aA v3 h3) fun v4 h4 =>
 bnd (aN x0 h4) fun v5 h5 =>
 bnd (aB 0 v5 h5) fun v6 h6 =>
 bnd (aA v6 h6) fun v7 h7 =>
 bnd (bZ v7 h7) fun v8 h8 =>
 bnd (aD .sub v8 (aE 1) h8) fun v9 h9 =>
 bnd (aPl x1 v9 h9) fun v10 h10 =>
 bnd (aI 4 v4 v10 h10) fun v11 h11 =>
 bnd (aK 4 v11 h11) fun v12 h12 =>
 bnd (aG 4 v1 v12 h12) fun v13 h13 =>
 bnd (aK 4 v1 h13) fun v14 _ =>
 some (v14, h13)
noncomputable abbrev c137 : Code := cf Tryz.f137
noncomputable abbrev r137 : K := aU CF Tryz.f137
noncomputable def D137 (r : RT) (n : Nat) (c : Code) (X : Nat → K) (k : K) : K := aM CF r 19 n c X r137 k
theorem dJb : D137 r n c137 x0 r137 = (K2 (s137 r n) 0 1) :=
 (by kernel_rfl)
theorem cXk : aF CF r n 137 args h = s137 r n (aS args 0) (aS args 1) h :=
 (by kernel_rfl : aF CF r n 137 args h = D137 r n c137 x0 r137 (aH args) h).trans ((congrFun (congrFun (dJb r n) (aH args)) h).trans (by kernel_rfl))
noncomputable def aHb (r : RT) (n : Nat) (x7 : DV) (h0 : Hp) : aJ :=
 bnd (aB 1 x7 h0) fun v1 h1 =>
 bnd (aA v1 h1) fun v2 h2 =>
 some (v2, h2)
noncomputable def yH (r : RT) (n : Nat) (x0 x2 x7 : DV) (h0 : Hp) : aJ :=
 bnd (bZ x2 h0) fun v1 h1 =>
 bnd (aD .eql v1 (aE 4) h1) fun v2 h2 =>
 aR v2 (
 bnd (aK 4 x7 h2) fun v3 h3 =>
 bnd (r 136 [x0, v3, (aE 18)] h3) fun v4 h4 =>
  aHb r n x7 h4) (
  aHb r n x7 h2)
noncomputable def aCn (r : RT) (n : Nat) (x0 x1 x2 : DV) (h0 : Hp) : aJ :=
 bnd (r 120 [x0, x1, (.s [])] h0) fun v1 h1 =>
 bnd (bM [(aE 0), (.s []), (aE 0), (aE 0)] h1) fun v2 h2 =>
 bnd (aG 4 v2 v1 h2) fun _ h3 =>
  yH r n x0 x2 v2 h3
noncomputable def s138 (r : RT) (n : Nat) (x0 x1 x2 : DV) (h0 : Hp) : aJ :=
 aCn r n x0 x1 x2 h0
noncomputable abbrev c138 : Code := cf Tryz.f138
noncomputable abbrev aFu : Code := cR c138
noncomputable abbrev aIx : Code := cR aFu
noncomputable abbrev cTe : Code := cR aIx
noncomputable abbrev bUx : Code := cL aIx
noncomputable abbrev aQd : Code := cL aFu
noncomputable abbrev bGo : Code := cL c138
noncomputable abbrev r138 : K := aU CF Tryz.f138
noncomputable def D138 (r : RT) (n : Nat) (c : Code) (X : Nat → K) (k : K) : K := aM CF r 19 n c X r138 k
theorem cPk : D138 r n cTe x0 r138 = (K1 (aHb r n) 7) :=
 (by kernel_rfl)
theorem bNw : D138 r n aIx x0 r138 = D138 r n bUx x0 (K1 (aHb r n) 7) :=
 congrArg (fun k => D138 r n bUx x0 k) (cPk r n)
theorem cGp : D138 r n aIx x0 r138 = (K3 (yH r n) 0 2 7) :=
 (bNw r n).trans
 ((by kernel_rfl))
theorem cAa : D138 r n aFu x0 r138 = D138 r n aQd x0 (K3 (yH r n) 0 2 7) :=
 congrArg (fun k => D138 r n aQd x0 k) (cGp r n)
theorem bHf (q0 : mW) : D138 r n aQd x0 (K3 q0 0 2 7) = fun (env : aZ) (h : Hp) =>
 bnd (r 120 [(env 0), (env 1), (.s [])] h) fun v1 h1 =>
 bnd (bM [(aE 0), (.s []), (aE 0), (aE 0)] h1) fun v2 h2 =>
 bnd (aG 4 v2 v1 h2) fun _ h3 =>
  q0 (env 0) (env 2) v2 h3 := by kernel_rfl
theorem bEc : (fun (env : aZ) (h : Hp) =>
 bnd (r 120 [(env 0), (env 1), (.s [])] h) fun v1 h1 =>
 bnd (bM [(aE 0), (.s []), (aE 0), (aE 0)] h1) fun v2 h2 =>
 bnd (aG 4 v2 v1 h2) fun _ h3 =>
  yH r n (env 0) (env 2) v2 h3) = (K3 (aCn r n) 0 1 2) := by kernel_rfl
theorem cOy : D138 r n aFu x0 r138 = (K3 (aCn r n) 0 1 2) :=
 (cAa r n).trans
 ((bHf r n (yH r n)).trans (bEc r n))
theorem cRt : D138 r n c138 x0 r138 = D138 r n bGo x0 (K3 (aCn r n) 0 1 2) :=
 congrArg (fun k => D138 r n bGo x0 k) (cOy r n)
theorem dJw : D138 r n c138 x0 r138 = (K3 (s138 r n) 0 1 2) :=
 (cRt r n).trans
 ((by kernel_rfl))
theorem cZp : aF CF r n 138 args h = s138 r n (aS args 0) (aS args 1) (aS args 2) h :=
 (by kernel_rfl : aF CF r n 138 args h = D138 r n c138 x0 r138 (aH args) h).trans ((congrFun (congrFun (dJw r n) (aH args)) h).trans (by kernel_rfl))
noncomputable def dC (r : RT) (n : Nat) (kk2 : cF) (x0 x2 x10 x11 x12 : DV) (h0 : Hp) : aJ :=
 bnd (aD .add x12 (aE 1) h0) fun v1 h1 =>
  kk2 x0 x2 x10 x11 v1 h1
noncomputable def yN (r : RT) (n : Nat) (kk2 : cF) (x0 x2 x7 x10 x11 x12 : DV) (h0 : Hp) : aJ :=
 bnd (aN x0 h0) fun v1 h1 =>
 bnd (aB 8 v1 h1) fun v2 h2 =>
 bnd (aA v2 h2) fun v3 h3 =>
 bnd (aD .neq v3 (aE 0) h3) fun v4 h4 =>
 aR v4 (
 some (.t [], h4)) (
 bnd (aN x0 (resv 1 h4)) fun v5 h5 =>
 bnd (aB 6 v5 h5) fun v6 h6 =>
 bnd (aA v6 h6) fun v7 h7 =>
 bnd (aN x0 h7) fun v8 h8 =>
 bnd (aB 0 v8 h8) fun v9 h9 =>
 bnd (aB 2 v9 h9) fun v10 h10 =>
 bnd (aA v10 h10) fun v11 h11 =>
 bnd (bB [(.s []), (.b false), (.b false), (aE 0)] [(0, 1, x7), (1, 1, (.b false)), (2, 1, x2), (3, 1, v11)] h11) fun v12 h12 =>
 bnd (bK (bW 0 h4.next) [(.s []), (.b false), (.b false), (aE 0)] 1 [(0, 4, v12)] h12) fun v13 h13 =>
 bnd (bA 4 32 v7 v13 h13) fun v14 h14 =>
 bnd (aN x0 h14) fun v15 h15 =>
 bnd (aB 6 v15 h15) fun v16 h16 =>
 bnd (aG 1 v16 v14 h16) fun v17 h17 =>
 bnd (aN x0 h17) fun v18 h18 =>
 bnd (aB 0 v18 h18) fun v19 h19 =>
 bnd (aB 2 v19 h19) fun v20 h20 =>
 bnd (aA v20 h20) fun v21 h21 =>
 bnd (aD .add v21 (aE 1) h21) fun v22 h22 =>
 bnd (aN x0 h22) fun v23 h23 =>
 bnd (aB 0 v23 h23) fun v24 h24 =>
 bnd (aB 2 v24 h24) fun v25 h25 =>
 bnd (aG 1 v25 v22 h25) fun _ h26 =>
  dC r n kk2 x0 x2 x10 x11 x12 h26)
noncomputable def oR (r : RT) (n : Nat) (kk2 : cF) (x0 x2 x7 x10 x11 x12 : DV) (h0 : Hp) : aJ :=
 bnd (aN x0 h0) fun v1 h1 =>
 bnd (aB 0 v1 h1) fun v2 h2 =>
 bnd (aB 2 v2 h2) fun v3 h3 =>
 bnd (aA v3 h3) fun v4 h4 =>
 bnd (aD .eql v4 (aE 24) h4) fun v5 h5 =>
 aR v5 (
 bnd (r 158 [x0, x7, (aE 18)] h5) fun v6 h6 =>
  yN r n kk2 x0 x2 x7 x10 x11 x12 h6) (
  yN r n kk2 x0 x2 x7 x10 x11 x12 h5)
noncomputable def aJq (r : RT) (n : Nat) (kk2 : cF) (x0 x2 x7 x10 x11 x12 : DV) (h0 : Hp) : aJ :=
 bnd (r 156 [x0, x7] h0) fun v1 h1 =>
 bnd (aC 0 v1 h1) fun v2 h2 =>
 bnd (aC 1 v1 h2) fun v3 h3 =>
 bnd (bM [(.s []), (.b false), (.b false), (aE 0)] h3) fun v4 h4 =>
 bnd (aG 4 v4 v2 h4) fun _ h5 =>
 bnd (gD v3 false (some (x7, h5)) h5) fun v6 h6 =>
 bnd (gD v3 false (r 157 [v6] h6) h6) fun v7 h7 =>
 bnd (aP v3 (.b true) v7 h7) fun v8 h8 =>
 aR v8 (
 bnd (r 158 [x0, x7, (aE 16)] h8) fun v9 h9 =>
  oR r n kk2 x0 x2 x7 x10 x11 x12 h9) (
  oR r n kk2 x0 x2 x7 x10 x11 x12 h8)
noncomputable def aQk (r : RT) (n : Nat) (kk2 : cF) (x0 x2 x10 x11 x12 : DV) (h0 : Hp) : aJ :=
 bnd (aI 1 x10 x12 h0) fun v1 h1 =>
 bnd (aA v1 h1) fun v2 h2 =>
  aJq r n kk2 x0 x2 v2 x10 x11 x12 h2
noncomputable def aQj (r : RT) (n : Nat) (kk2 : cF) (x0 x2 x10 x11 x12 x13 : DV) (h0 : Hp) : aJ :=
 aR x13 (
  aQk r n kk2 x0 x2 x10 x11 x12 h0) (
 some (.t [], h0))
noncomputable def bBm (r : RT) (n : Nat) (kk2 : cF) (x0 x2 x10 x11 x12 : DV) (h0 : Hp) : aJ :=
 bnd (aD .lss x12 x11 h0) fun v1 h1 =>
  aQj r n kk2 x0 x2 x10 x11 x12 v1 h1
noncomputable def tI (r : RT) (n : Nat) (m : Nat) : cF :=
 Nat.rec (motive := fun _ => cF) (fun _ _ _ _ _ _ => none) (fun _ ih => bBm r n ih) m
noncomputable def bUd (r : RT) (n : Nat) : cF := tI r n n
noncomputable def aRe (r : RT) (n : Nat) (x0 x2 x10 x11 x12 : DV) (h0 : Hp) : aJ :=
 bUd r n x0 x2 x10 x11 x12 h0
noncomputable def s139 (r : RT) (n : Nat) (x0 x1 x2 : DV) (h0 : Hp) : aJ :=
 bnd (bZ x1 h0) fun v1 h1 =>
  aRe r n x0 x2 x1 v1 (aE 0) h1
noncomputable abbrev c139 : Code := cf Tryz.f139
noncomputable abbrev aRd : Code := cR c139
noncomputable abbrev aCl : Code := cL aRd
noncomputable abbrev kF : Code := cL aCl
noncomputable abbrev aJx : Code := cR kF
noncomputable abbrev aFe : Code := cR aJx
noncomputable abbrev dCy : Code := cR aFe
noncomputable abbrev aCb : Code := cL aFe
noncomputable abbrev aIt : Code := cL aCb
noncomputable abbrev aIs : Code := cR aIt
noncomputable abbrev tZ : Code := cR aIs
noncomputable abbrev bBg : Code := cR tZ
noncomputable abbrev aVq : Code := cL tZ
noncomputable abbrev aCf : Code := cL aIs
noncomputable abbrev aUy : Code := cL aIt
noncomputable abbrev aXw : Code := cL aJx
noncomputable abbrev bCb : Code := cL kF
noncomputable abbrev aZi : Code := cL c139
noncomputable abbrev r139 : K := aU CF Tryz.f139
noncomputable def D139 (r : RT) (n : Nat) (c : Code) (X : Nat → K) (k : K) : K := aM CF r 71 n c X r139 k
theorem cDn (kk2 : cF) : D139 r n dCy (xs x0 0 r139) (K5 kk2 0 2 10 11 12) = (K5 (dC r n kk2) 0 2 10 11 12) :=
 (by kernel_rfl)
theorem bXm (kk2 : cF) (q0 : cF) : D139 r n bBg (xs (xs x0 0 r139) 1 (K5 q0 0 2 10 11 12)) (K5 q0 0 2 10 11 12) = fun (env : aZ) (h : Hp) =>
 bnd (aN (env 0) h) fun v1 h1 =>
 bnd (aB 8 v1 h1) fun v2 h2 =>
 bnd (aA v2 h2) fun v3 h3 =>
 bnd (aD .neq v3 (aE 0) h3) fun v4 h4 =>
 aR v4 (
 some (.t [], h4)) (
 bnd (aN (env 0) (resv 1 h4)) fun v5 h5 =>
 bnd (aB 6 v5 h5) fun v6 h6 =>
 bnd (aA v6 h6) fun v7 h7 =>
 bnd (aN (env 0) h7) fun v8 h8 =>
 bnd (aB 0 v8 h8) fun v9 h9 =>
 bnd (aB 2 v9 h9) fun v10 h10 =>
 bnd (aA v10 h10) fun v11 h11 =>
 bnd (bB [(.s []), (.b false), (.b false), (aE 0)] [(0, 1, (env 7)), (1, 1, (.b false)), (2, 1, (env 2)), (3, 1, v11)] h11) fun v12 h12 =>
 bnd (bK (bW 0 h4.next) [(.s []), (.b false), (.b false), (aE 0)] 1 [(0, 4, v12)] h12) fun v13 h13 =>
 bnd (bA 4 32 v7 v13 h13) fun v14 h14 =>
 bnd (aN (env 0) h14) fun v15 h15 =>
 bnd (aB 6 v15 h15) fun v16 h16 =>
 bnd (aG 1 v16 v14 h16) fun v17 h17 =>
 bnd (aN (env 0) h17) fun v18 h18 =>
 bnd (aB 0 v18 h18) fun v19 h19 =>
 bnd (aB 2 v19 h19) fun v20 h20 =>
 bnd (aA v20 h20) fun v21 h21 =>
 bnd (aD .add v21 (aE 1) h21) fun v22 h22 =>
 bnd (aN (env 0) h22) fun v23 h23 =>
 bnd (aB 0 v23 h23) fun v24 h24 =>
 bnd (aB 2 v24 h24) fun v25 h25 =>
 bnd (aG 1 v25 v22 h25) fun _ h26 =>
      q0 (env 0) (env 2) (env 10) (env 11) (env 12) h26) := by kernel_rfl
theorem bDx (kk2 : cF) : (fun (env : aZ) (h : Hp) =>
 bnd (aN (env 0) h) fun v1 h1 =>
 bnd (aB 8 v1 h1) fun v2 h2 =>
 bnd (aA v2 h2) fun v3 h3 =>
 bnd (aD .neq v3 (aE 0) h3) fun v4 h4 =>
 aR v4 (
 some (.t [], h4)) (
 bnd (aN (env 0) (resv 1 h4)) fun v5 h5 =>
 bnd (aB 6 v5 h5) fun v6 h6 =>
 bnd (aA v6 h6) fun v7 h7 =>
 bnd (aN (env 0) h7) fun v8 h8 =>
 bnd (aB 0 v8 h8) fun v9 h9 =>
 bnd (aB 2 v9 h9) fun v10 h10 =>
 bnd (aA v10 h10) fun v11 h11 =>
 bnd (bB [(.s []), (.b false), (.b false), (aE 0)] [(0, 1, (env 7)), (1, 1, (.b false)), (2, 1, (env 2)), (3, 1, v11)] h11) fun v12 h12 =>
 bnd (bK (bW 0 h4.next) [(.s []), (.b false), (.b false), (aE 0)] 1 [(0, 4, v12)] h12) fun v13 h13 =>
 bnd (bA 4 32 v7 v13 h13) fun v14 h14 =>
 bnd (aN (env 0) h14) fun v15 h15 =>
 bnd (aB 6 v15 h15) fun v16 h16 =>
 bnd (aG 1 v16 v14 h16) fun v17 h17 =>
 bnd (aN (env 0) h17) fun v18 h18 =>
 bnd (aB 0 v18 h18) fun v19 h19 =>
 bnd (aB 2 v19 h19) fun v20 h20 =>
 bnd (aA v20 h20) fun v21 h21 =>
 bnd (aD .add v21 (aE 1) h21) fun v22 h22 =>
 bnd (aN (env 0) h22) fun v23 h23 =>
 bnd (aB 0 v23 h23) fun v24 h24 =>
 bnd (aB 2 v24 h24) fun v25 h25 =>
 bnd (aG 1 v25 v22 h25) fun _ h26 =>
      dC r n kk2 (env 0) (env 2) (env 10) (env 11) (env 12) h26)) = (K6 (yN r n kk2) 0 2 7 10 11 12) := by kernel_rfl
theorem cPe (kk2 : cF) : D139 r n bBg (xs (xs x0 0 r139) 1 (K5 (dC r n kk2) 0 2 10 11 12)) (K5 (dC r n kk2) 0 2 10 11 12) = (K6 (yN r n kk2) 0 2 7 10 11 12) :=
 (bXm r n kk2 (dC r n kk2)).trans (bDx r n kk2)
theorem bHu (kk2 : cF) : D139 r n tZ (xs (xs x0 0 r139) 1 (K5 (dC r n kk2) 0 2 10 11 12)) (K5 (dC r n kk2) 0 2 10 11 12) = D139 r n aVq (xs (xs x0 0 r139) 1 (K5 (dC r n kk2) 0 2 10 11 12)) (K6 (yN r n kk2) 0 2 7 10 11 12) :=
 congrArg (fun k => D139 r n aVq (xs (xs x0 0 r139) 1 (K5 (dC r n kk2) 0 2 10 11 12)) k) (cPe r n kk2)
theorem cDs (kk2 : cF) : D139 r n tZ (xs (xs x0 0 r139) 1 (K5 (dC r n kk2) 0 2 10 11 12)) (K5 (dC r n kk2) 0 2 10 11 12) = (K6 (oR r n kk2) 0 2 7 10 11 12) :=
 (bHu r n kk2).trans
 ((by kernel_rfl))
theorem bRl (kk2 : cF) : D139 r n aIs (xs (xs x0 0 r139) 1 (K5 (dC r n kk2) 0 2 10 11 12)) (K5 (dC r n kk2) 0 2 10 11 12) = D139 r n aCf (xs (xs x0 0 r139) 1 (K5 (dC r n kk2) 0 2 10 11 12)) (K6 (oR r n kk2) 0 2 7 10 11 12) :=
 congrArg (fun k => D139 r n aCf (xs (xs x0 0 r139) 1 (K5 (dC r n kk2) 0 2 10 11 12)) k) (cDs r n kk2)
theorem bVl (kk2 : cF) (q0 : fG) (q1 : cF) : D139 r n aCf (xs (xs x0 0 r139) 1 (K5 q1 0 2 10 11 12)) (K6 q0 0 2 7 10 11 12) = fun (env : aZ) (h : Hp) =>
 bnd (r 156 [(env 0), (env 7)] h) fun v1 h1 =>
 bnd (aC 0 v1 h1) fun v2 h2 =>
 bnd (aC 1 v1 h2) fun v3 h3 =>
 bnd (bM [(.s []), (.b false), (.b false), (aE 0)] h3) fun v4 h4 =>
 bnd (aG 4 v4 v2 h4) fun _ h5 =>
 bnd (gD v3 false (some ((env 7), h5)) h5) fun v6 h6 =>
 bnd (gD v3 false (r 157 [v6] h6) h6) fun v7 h7 =>
 bnd (aP v3 (.b true) v7 h7) fun v8 h8 =>
 aR v8 (
 bnd (r 158 [(env 0), (env 7), (aE 16)] h8) fun v9 h9 =>
      q0 (env 0) (env 2) (env 7) (env 10) (env 11) (env 12) h9) (
      q0 (env 0) (env 2) (env 7) (env 10) (env 11) (env 12) h8) := by kernel_rfl
theorem bEe (kk2 : cF) : (fun (env : aZ) (h : Hp) =>
 bnd (r 156 [(env 0), (env 7)] h) fun v1 h1 =>
 bnd (aC 0 v1 h1) fun v2 h2 =>
 bnd (aC 1 v1 h2) fun v3 h3 =>
 bnd (bM [(.s []), (.b false), (.b false), (aE 0)] h3) fun v4 h4 =>
 bnd (aG 4 v4 v2 h4) fun _ h5 =>
 bnd (gD v3 false (some ((env 7), h5)) h5) fun v6 h6 =>
 bnd (gD v3 false (r 157 [v6] h6) h6) fun v7 h7 =>
 bnd (aP v3 (.b true) v7 h7) fun v8 h8 =>
 aR v8 (
 bnd (r 158 [(env 0), (env 7), (aE 16)] h8) fun v9 h9 =>
      oR r n kk2 (env 0) (env 2) (env 7) (env 10) (env 11) (env 12) h9) (
      oR r n kk2 (env 0) (env 2) (env 7) (env 10) (env 11) (env 12) h8)) = (K6 (aJq r n kk2) 0 2 7 10 11 12) := by kernel_rfl
theorem cIo (kk2 : cF) : D139 r n aIs (xs (xs x0 0 r139) 1 (K5 (dC r n kk2) 0 2 10 11 12)) (K5 (dC r n kk2) 0 2 10 11 12) = (K6 (aJq r n kk2) 0 2 7 10 11 12) :=
 (bRl r n kk2).trans
 ((bVl r n kk2 (oR r n kk2) (dC r n kk2)).trans (bEe r n kk2))
theorem bKu (kk2 : cF) : D139 r n aFe (xs x0 0 r139) (K5 kk2 0 2 10 11 12) = D139 r n aCb (xs x0 0 r139) (K5 (dC r n kk2) 0 2 10 11 12) :=
 congrArg (fun k => D139 r n aCb (xs x0 0 r139) k) (cDn r n kk2)
theorem bNu (kk2 : cF) : D139 r n aIt (xs (xs x0 0 r139) 1 (K5 (dC r n kk2) 0 2 10 11 12)) (K5 (dC r n kk2) 0 2 10 11 12) = D139 r n aUy (xs (xs x0 0 r139) 1 (K5 (dC r n kk2) 0 2 10 11 12)) (K6 (aJq r n kk2) 0 2 7 10 11 12) :=
 congrArg (fun k => D139 r n aUy (xs (xs x0 0 r139) 1 (K5 (dC r n kk2) 0 2 10 11 12)) k) (cIo r n kk2)
theorem cIu (kk2 : cF) : D139 r n aFe (xs x0 0 r139) (K5 kk2 0 2 10 11 12) = (K5 (aQk r n kk2) 0 2 10 11 12) :=
 (bKu r n kk2).trans
 ((by kernel_rfl : D139 r n aCb (xs x0 0 r139) (K5 (dC r n kk2) 0 2 10 11 12) = D139 r n aIt (xs (xs x0 0 r139) 1 (K5 (dC r n kk2) 0 2 10 11 12)) (K5 (dC r n kk2) 0 2 10 11 12)).trans
 ((bNu r n kk2).trans
 ((by kernel_rfl))))
theorem bZt (kk2 : cF) : D139 r n aJx (xs x0 0 r139) (K5 kk2 0 2 10 11 12) = D139 r n aXw (xs x0 0 r139) (K5 (aQk r n kk2) 0 2 10 11 12) :=
 congrArg (fun k => D139 r n aXw (xs x0 0 r139) k) (cIu r n kk2)
theorem cIs (kk2 : cF) : D139 r n aJx (xs x0 0 r139) (K5 kk2 0 2 10 11 12) = (K6 (aQj r n kk2) 0 2 10 11 12 13) :=
 (bZt r n kk2).trans
 ((by kernel_rfl))
theorem bQs (kk2 : cF) : D139 r n kF (xs x0 0 r139) (K5 kk2 0 2 10 11 12) = D139 r n bCb (xs x0 0 r139) (K6 (aQj r n kk2) 0 2 10 11 12 13) :=
 congrArg (fun k => D139 r n bCb (xs x0 0 r139) k) (cIs r n kk2)
theorem bOo (kk2 : cF) : D139 r n kF (xs x0 0 r139) (K5 kk2 0 2 10 11 12) = (K5 (bBm r n kk2) 0 2 10 11 12) :=
 (bQs r n kk2).trans
 ((by kernel_rfl))
theorem bRv (m : Nat) : aO (fun kk => D139 r n kF (xs x0 0 r139) kk) m = (K5 (tI r n m) 0 2 10 11 12) := by
 induction m with
 | zero => exact (by kernel_rfl : aO (fun kk => D139 r n kF (xs x0 0 r139) kk) 0 = (K5 (tI r n 0) 0 2 10 11 12))
 | succ m ih =>
  refine (by kernel_rfl : aO (fun kk => D139 r n kF (xs x0 0 r139) kk) (m + 1) = D139 r n kF (xs x0 0 r139) (aO (fun kk => D139 r n kF (xs x0 0 r139) kk) m)).trans ?_
  rw [ih]
  exact (bOo r n (tI r n m)).trans (by kernel_rfl)
theorem cMc : D139 r n aCl (xs x0 0 r139) r139 = (K5 (bUd r n) 0 2 10 11 12) :=
 (by kernel_rfl : D139 r n aCl (xs x0 0 r139) r139 = aO (fun kk => D139 r n kF (xs x0 0 r139) kk) n).trans ((bRv r n n).trans (by kernel_rfl))
theorem cGs : D139 r n aRd x0 r139 = (K5 (aRe r n) 0 2 10 11 12) :=
 (by kernel_rfl : D139 r n aRd x0 r139 = D139 r n aCl (xs x0 0 r139) r139).trans
 ((cMc r n).trans (by kernel_rfl))
theorem dCe : D139 r n c139 x0 r139 = D139 r n aZi x0 (K5 (aRe r n) 0 2 10 11 12) :=
 congrArg (fun k => D139 r n aZi x0 k) (cGs r n)
theorem dJh : D139 r n c139 x0 r139 = (K3 (s139 r n) 0 1 2) :=
 (dCe r n).trans
 ((by kernel_rfl))
theorem dBs : aF CF r n 139 args h = s139 r n (aS args 0) (aS args 1) (aS args 2) h :=
 (by kernel_rfl : aF CF r n 139 args h = D139 r n c139 x0 r139 (aH args) h).trans ((congrFun (congrFun (dJh r n) (aH args)) h).trans (by kernel_rfl))
noncomputable def rD (r : RT) (n : Nat) (x0 x3 x11 x14 : DV) (h0 : Hp) : aJ :=
 aR x14 (
 bnd (aK 6 x3 h0) fun v1 h1 =>
 bnd (r 160 [x0, v1] h1) fun v2 h2 =>
 bnd (lC [x0, v2] h2) fun v3 h3 =>
 bnd (r 141 [x0, (aE 6), v3, (aE 0)] h3) fun v4 h4 =>
 some (.t [], h4)) (
 bnd (aD .eql x11 (aE 5) h0) fun v5 h5 =>
 aR v5 (
 bnd (aB 1 x3 h5) fun v6 h6 =>
 bnd (aA v6 h6) fun v7 h7 =>
 bnd (r 161 [x0, v7] h7) fun v8 h8 =>
 some (.t [], h8)) (
 bnd (aD .eql x11 (aE 6) h5) fun v9 h9 =>
 aR v9 (
 bnd (aK 6 x3 h9) fun v10 h10 =>
 bnd (r 162 [x0, v10] h10) fun v11 h11 =>
 some (.t [], h11)) (
 bnd (aD .eql x11 (aE 7) h9) fun v12 h12 =>
 aR v12 (
 bnd (aK 6 x3 h12) fun v13 h13 =>
 bnd (r 163 [x0, v13] h13) fun v14 h14 =>
 some (.t [], h14)) (
 bnd (aD .eql x11 (aE 8) h12) fun v15 h15 =>
 aR v15 (
 bnd (aK 6 x3 h15) fun v16 h16 =>
 bnd (r 164 [x0, v16] h16) fun v17 h17 =>
 some (.t [], h17)) (
 bnd (aD .eql x11 (aE 9) h15) fun v18 h18 =>
 aR v18 (
 bnd (aN x0 h18) fun v19 h19 =>
 bnd (aB 0 v19 h19) fun v20 h20 =>
 bnd (aB 2 v20 h20) fun v21 h21 =>
 bnd (aA v21 h21) fun v22 h22 =>
 bnd (aB 3 x3 h22) fun v23 h23 =>
 bnd (aA v23 h23) fun v24 h24 =>
 bnd (bZ v24 h24) fun v25 h25 =>
 bnd (r 141 [x0, (aE 18), v22, v25] h25) fun v26 h26 =>
 bnd (r 165 [x0, (aE 16)] h26) fun v27 h27 =>
 bnd (aK 6 x3 h27) fun v28 h28 =>
 bnd (r 166 [x0, v28] h28) fun v29 h29 =>
 bnd (r 141 [x0, (aE 19), (aE 0), (aE 0)] h29) fun v30 h30 =>
 bnd (cX CF r v27 [] h30) fun v31 h31 =>
 some (.t [], h31)) (
 bnd (aD .eql x11 (aE 10) h18) fun v32 h32 =>
 aR v32 (
 bnd (aK 6 x3 h32) fun v33 h33 =>
 bnd (r 167 [x0, v33] h33) fun v34 h34 =>
 aR v34 (
 bnd (aB 5 x3 h34) fun v35 h35 =>
 bnd (aA v35 h35) fun v36 h36 =>
 bnd (aI 6 v36 (aE 0) h36) fun v37 h37 =>
 bnd (aK 6 v37 h37) fun v38 h38 =>
 bnd (r 140 [x0, v38] h38) fun v39 h39 =>
 bnd (r 141 [x0, (aE 20), (aE 0), (aE 0)] h39) fun v40 h40 =>
 some (.t [], h40)) (
 some (.t [], h34))) (
 bnd (r 158 [x0, (.s []), (aE 1)] h32) fun v41 h41 =>
 some (.t [], h41))))))))
noncomputable def aSc (r : RT) (n : Nat) (x0 x3 x11 : DV) (h0 : Hp) : aJ :=
 bnd (aD .eql x11 (aE 1) h0) fun v1 h1 =>
 aR v1 (
  rD r n x0 x3 x11 v1 h1) (
 bnd (aD .eql x11 (aE 2) h1) fun v2 h2 =>
 aR v2 (
   rD r n x0 x3 x11 v2 h2) (
 bnd (aD .eql x11 (aE 3) h2) fun v3 h3 =>
 aR v3 (
    rD r n x0 x3 x11 v3 h3) (
 bnd (aD .eql x11 (aE 4) h3) fun v4 h4 =>
    rD r n x0 x3 x11 v4 h4)))
noncomputable def aUh (r : RT) (n : Nat) (x0 x3 : DV) (h0 : Hp) : aJ :=
 bnd (aB 0 x3 h0) fun v1 h1 =>
 bnd (aA v1 h1) fun v2 h2 =>
  aSc r n x0 x3 v2 h2
noncomputable def wD (r : RT) (n : Nat) (x0 x3 : DV) (h0 : Hp) : aJ :=
 bnd (aN x0 h0) fun v1 h1 =>
 bnd (aB 8 v1 h1) fun v2 h2 =>
 bnd (aA v2 h2) fun v3 h3 =>
 bnd (aD .neq v3 (aE 0) h3) fun v4 h4 =>
 aR v4 (
 some (.t [], h4)) (
  aUh r n x0 x3 h4)
noncomputable def s140 (r : RT) (n : Nat) (x0 x1 : DV) (h0 : Hp) : aJ :=
 bnd (bS x1 h0) fun v1 h1 =>
  wD r n x0 v1 h1
noncomputable abbrev c140 : Code := cf Tryz.f140
noncomputable abbrev aGr : Code := cR c140
noncomputable abbrev aDy : Code := cR aGr
noncomputable abbrev aSq : Code := cR aDy
noncomputable abbrev aHo : Code := cL aSq
noncomputable abbrev cSa : Code := cR aHo
noncomputable abbrev bQi : Code := cL aHo
noncomputable abbrev bWk : Code := cL aDy
noncomputable abbrev bKj : Code := cL aGr
noncomputable abbrev aTc : Code := cL c140
noncomputable abbrev r140 : K := aU CF Tryz.f140
noncomputable def D140 (r : RT) (n : Nat) (c : Code) (X : Nat → K) (k : K) : K := aM CF r 81 n c X r140 k
theorem cNb : D140 r n cSa (xs x0 0 r140) r140 = (K4 (rD r n) 0 3 11 14) :=
 (by kernel_rfl)
theorem bOf : D140 r n aHo (xs x0 0 r140) r140 = D140 r n bQi (xs x0 0 r140) (K4 (rD r n) 0 3 11 14) :=
 congrArg (fun k => D140 r n bQi (xs x0 0 r140) k) (cNb r n)
theorem cCv : D140 r n aSq x0 r140 = (K3 (aSc r n) 0 3 11) :=
 (by kernel_rfl : D140 r n aSq x0 r140 = D140 r n aHo (xs x0 0 r140) r140).trans
 ((bOf r n).trans
 ((by kernel_rfl)))
theorem bYx : D140 r n aDy x0 r140 = D140 r n bWk x0 (K3 (aSc r n) 0 3 11) :=
 congrArg (fun k => D140 r n bWk x0 k) (cCv r n)
theorem cLn : D140 r n aDy x0 r140 = (K2 (aUh r n) 0 3) :=
 (bYx r n).trans
 ((by kernel_rfl))
theorem bXd : D140 r n aGr x0 r140 = D140 r n bKj x0 (K2 (aUh r n) 0 3) :=
 congrArg (fun k => D140 r n bKj x0 k) (cLn r n)
theorem cGr : D140 r n aGr x0 r140 = (K2 (wD r n) 0 3) :=
 (bXd r n).trans
 ((by kernel_rfl))
theorem dCu : D140 r n c140 x0 r140 = D140 r n aTc x0 (K2 (wD r n) 0 3) :=
 congrArg (fun k => D140 r n aTc x0 k) (cGr r n)
theorem dAk (q0 : oU) : D140 r n aTc x0 (K2 q0 0 3) = fun (env : aZ) (h : Hp) =>
 bnd (bS (env 1) h) fun v1 h1 =>
  q0 (env 0) v1 h1 := by kernel_rfl
theorem cHa : (fun (env : aZ) (h : Hp) =>
 bnd (bS (env 1) h) fun v1 h1 =>
  wD r n (env 0) v1 h1) = (K2 (s140 r n) 0 1) := by kernel_rfl
theorem dIp : D140 r n c140 x0 r140 = (K2 (s140 r n) 0 1) :=
 (dCu r n).trans
 ((dAk r n (wD r n)).trans (cHa r n))
theorem cSu : aF CF r n 140 args h = s140 r n (aS args 0) (aS args 1) h :=
 (by kernel_rfl : aF CF r n 140 args h = D140 r n c140 x0 r140 (aH args) h).trans ((congrFun (congrFun (dIp r n) (aH args)) h).trans (by kernel_rfl))
noncomputable def s141 (r : RT) (n : Nat) (x0 x1 x2 x3 : DV) (h0 : Hp) : aJ :=
 bnd (aN x0 h0) fun v1 h1 =>
 bnd (aB 0 v1 h1) fun v2 h2 =>
 bnd (aB 5 v2 h2) fun v3 h3 =>
 bnd (aA v3 h3) fun v4 h4 =>
 bnd (bB [(aE 0), (aE 0), (aE 0)] [(0, 1, x1), (1, 1, x2), (2, 1, x3)] h4) fun v5 h5 =>
 bnd (aL [(aE 0), (aE 0), (aE 0)] 1 [(0, 3, v5)] h5) fun v6 h6 =>
 bnd (bA 3 24 v4 v6 h6) fun v7 h7 =>
 bnd (aN x0 h7) fun v8 h8 =>
 bnd (aB 0 v8 h8) fun v9 h9 =>
 bnd (aB 5 v9 h9) fun v10 h10 =>
 bnd (aG 1 v10 v7 h10) fun _ h11 =>
 some (.t [], h11)
noncomputable abbrev c141 : Code := cf Tryz.f141
noncomputable abbrev r141 : K := aU CF Tryz.f141
noncomputable def D141 (r : RT) (n : Nat) (c : Code) (X : Nat → K) (k : K) : K := aM CF r 23 n c X r141 k
theorem dDu : D141 r n c141 x0 r141 = (K4 (s141 r n) 0 1 2 3) :=
 (by kernel_rfl)
theorem cSh : aF CF r n 141 args h = s141 r n (aS args 0) (aS args 1) (aS args 2) (aS args 3) h :=
 (by kernel_rfl : aF CF r n 141 args h = D141 r n c141 x0 r141 (aH args) h).trans ((congrFun (congrFun (dDu r n) (aH args)) h).trans (by kernel_rfl))
noncomputable def cH (r : RT) (n : Nat) (x2 x3 : DV) (h0 : Hp) : aJ :=
 some (.t [x2, x3], h0)
noncomputable def cS (r : RT) (n : Nat) (x3 : DV) (h0 : Hp) : aJ :=
 cH r n (.b true) x3 h0
noncomputable def dO (r : RT) (n : Nat) (h0 : Hp) : aJ :=
 cS r n (.b true) h0
noncomputable def oO (r : RT) (n : Nat) (x2 x3 : DV) (h0 : Hp) : aJ :=
 cH r n x2 x3 h0
noncomputable def mI (r : RT) (n : Nat) (x2 x3 x11 : DV) (h0 : Hp) : aJ :=
 aR x11 (
  cS r n x3 h0) (
  oO r n x2 x3 h0)
noncomputable def vG (r : RT) (n : Nat) (x2 x3 x4 : DV) (h0 : Hp) : aJ :=
 bnd (aD .eql x4 (aE 6) h0) fun v1 h1 =>
 aR v1 (
  mI r n x2 x3 v1 h1) (
 bnd (aD .eql x4 (aE 7) h1) fun v2 h2 =>
 aR v2 (
   mI r n x2 x3 v2 h2) (
 bnd (aD .eql x4 (aE 8) h2) fun v3 h3 =>
 aR v3 (
    mI r n x2 x3 v3 h3) (
 bnd (aD .eql x4 (aE 9) h3) fun v4 h4 =>
 aR v4 (
     mI r n x2 x3 v4 h4) (
 bnd (aD .eql x4 (aE 10) h4) fun v5 h5 =>
 aR v5 (
      mI r n x2 x3 v5 h5) (
 bnd (aD .eql x4 (aE 11) h5) fun v6 h6 =>
      mI r n x2 x3 v6 h6)))))
noncomputable def nR (r : RT) (n : Nat) (x2 x3 x4 x5 : DV) (h0 : Hp) : aJ :=
 aR x5 (
  dO r n h0) (
  vG r n x2 x3 x4 h0)
noncomputable def aOm (r : RT) (n : Nat) (x2 x3 x4 : DV) (h0 : Hp) : aJ :=
 bnd (aD .eql x4 (aE 14) h0) fun v1 h1 =>
 aR v1 (
  nR r n x2 x3 x4 v1 h1) (
 bnd (aD .eql x4 (aE 15) h1) fun v2 h2 =>
 aR v2 (
   nR r n x2 x3 x4 v2 h2) (
 bnd (aD .eql x4 (aE 16) h2) fun v3 h3 =>
 aR v3 (
    nR r n x2 x3 x4 v3 h3) (
 bnd (aD .eql x4 (aE 17) h3) fun v4 h4 =>
 aR v4 (
     nR r n x2 x3 x4 v4 h4) (
 bnd (aD .eql x4 (aE 18) h4) fun v5 h5 =>
     nR r n x2 x3 x4 v5 h5))))
noncomputable def aRi (r : RT) (n : Nat) (x0 x2 x3 : DV) (h0 : Hp) : aJ :=
 aOm r n x2 x3 x0 h0
noncomputable def s142 (r : RT) (n : Nat) (x0 : DV) (h0 : Hp) : aJ :=
 aRi r n x0 (.b false) (.b false) h0
noncomputable abbrev c142 : Code := cf Tryz.f142
noncomputable abbrev aEs : Code := cR c142
noncomputable abbrev cRl : Code := cR aEs
noncomputable abbrev xK : Code := cL aEs
noncomputable abbrev aTa : Code := cR xK
noncomputable abbrev aGd : Code := cL aTa
noncomputable abbrev dCi : Code := cR aGd
noncomputable abbrev aKl : Code := cL aGd
noncomputable abbrev aDx : Code := cL aKl
noncomputable abbrev cUp : Code := cR aDx
noncomputable abbrev tK : Code := cL aDx
noncomputable abbrev uE : Code := cL tK
noncomputable abbrev cJf : Code := cR uE
noncomputable abbrev pZ : Code := cL uE
noncomputable abbrev sY : Code := cR pZ
noncomputable abbrev cMa : Code := cR sY
noncomputable abbrev aUv : Code := cL sY
noncomputable abbrev oX : Code := cL pZ
noncomputable abbrev cDr : Code := cR oX
noncomputable abbrev bAy : Code := cL oX
noncomputable abbrev aWi : Code := cL xK
noncomputable abbrev aYb : Code := cL c142
noncomputable abbrev r142 : K := aU CF Tryz.f142
noncomputable def D142 (r : RT) (n : Nat) (c : Code) (X : Nat → K) (k : K) : K := aM CF r 20 n c X r142 k
theorem cKb : D142 r n cRl x0 r142 = (K2 (cH r n) 2 3) :=
 (by kernel_rfl)
theorem cHk : D142 r n dCi (xs x0 0 (K2 (cH r n) 2 3)) (K2 (cH r n) 2 3) = (K1 (cS r n) 3) :=
 (by kernel_rfl)
theorem cFb : D142 r n cUp (xs (xs x0 0 (K2 (cH r n) 2 3)) 2 (K1 (cS r n) 3)) (K1 (cS r n) 3) = (K0 (dO r n)) :=
 (by kernel_rfl)
theorem cNx : D142 r n cJf (xs (xs (xs x0 0 (K2 (cH r n) 2 3)) 2 (K1 (cS r n) 3)) 1 (K0 (dO r n))) (K0 (dO r n)) = (K2 (oO r n) 2 3) :=
 (by kernel_rfl)
theorem cCj : D142 r n cMa (xs (xs (xs x0 0 (K2 (cH r n) 2 3)) 2 (K1 (cS r n) 3)) 1 (K0 (dO r n))) (K2 (oO r n) 2 3) = (K3 (mI r n) 2 3 11) :=
 (by kernel_rfl)
theorem bTj : D142 r n sY (xs (xs (xs x0 0 (K2 (cH r n) 2 3)) 2 (K1 (cS r n) 3)) 1 (K0 (dO r n))) (K2 (oO r n) 2 3) = D142 r n aUv (xs (xs (xs x0 0 (K2 (cH r n) 2 3)) 2 (K1 (cS r n) 3)) 1 (K0 (dO r n))) (K3 (mI r n) 2 3 11) :=
 congrArg (fun k => D142 r n aUv (xs (xs (xs x0 0 (K2 (cH r n) 2 3)) 2 (K1 (cS r n) 3)) 1 (K0 (dO r n))) k) (cCj r n)
theorem cJr : D142 r n sY (xs (xs (xs x0 0 (K2 (cH r n) 2 3)) 2 (K1 (cS r n) 3)) 1 (K0 (dO r n))) (K2 (oO r n) 2 3) = (K3 (vG r n) 2 3 4) :=
 (bTj r n).trans
 ((by kernel_rfl))
theorem cNk : D142 r n cDr (xs (xs (xs x0 0 (K2 (cH r n) 2 3)) 2 (K1 (cS r n) 3)) 1 (K0 (dO r n))) (K3 (vG r n) 2 3 4) = (K4 (nR r n) 2 3 4 5) :=
 (by kernel_rfl)
theorem bPr : D142 r n aGd (xs x0 0 (K2 (cH r n) 2 3)) (K2 (cH r n) 2 3) = D142 r n aKl (xs x0 0 (K2 (cH r n) 2 3)) (K1 (cS r n) 3) :=
 congrArg (fun k => D142 r n aKl (xs x0 0 (K2 (cH r n) 2 3)) k) (cHk r n)
theorem bXc : D142 r n aDx (xs (xs x0 0 (K2 (cH r n) 2 3)) 2 (K1 (cS r n) 3)) (K1 (cS r n) 3) = D142 r n tK (xs (xs x0 0 (K2 (cH r n) 2 3)) 2 (K1 (cS r n) 3)) (K0 (dO r n)) :=
 congrArg (fun k => D142 r n tK (xs (xs x0 0 (K2 (cH r n) 2 3)) 2 (K1 (cS r n) 3)) k) (cFb r n)
theorem bGs : D142 r n uE (xs (xs (xs x0 0 (K2 (cH r n) 2 3)) 2 (K1 (cS r n) 3)) 1 (K0 (dO r n))) (K0 (dO r n)) = D142 r n pZ (xs (xs (xs x0 0 (K2 (cH r n) 2 3)) 2 (K1 (cS r n) 3)) 1 (K0 (dO r n))) (K2 (oO r n) 2 3) :=
 congrArg (fun k => D142 r n pZ (xs (xs (xs x0 0 (K2 (cH r n) 2 3)) 2 (K1 (cS r n) 3)) 1 (K0 (dO r n))) k) (cNx r n)
theorem bUo : D142 r n pZ (xs (xs (xs x0 0 (K2 (cH r n) 2 3)) 2 (K1 (cS r n) 3)) 1 (K0 (dO r n))) (K2 (oO r n) 2 3) = D142 r n oX (xs (xs (xs x0 0 (K2 (cH r n) 2 3)) 2 (K1 (cS r n) 3)) 1 (K0 (dO r n))) (K3 (vG r n) 2 3 4) :=
 congrArg (fun k => D142 r n oX (xs (xs (xs x0 0 (K2 (cH r n) 2 3)) 2 (K1 (cS r n) 3)) 1 (K0 (dO r n))) k) (cJr r n)
theorem bQw : D142 r n oX (xs (xs (xs x0 0 (K2 (cH r n) 2 3)) 2 (K1 (cS r n) 3)) 1 (K0 (dO r n))) (K3 (vG r n) 2 3 4) = D142 r n bAy (xs (xs (xs x0 0 (K2 (cH r n) 2 3)) 2 (K1 (cS r n) 3)) 1 (K0 (dO r n))) (K4 (nR r n) 2 3 4 5) :=
 congrArg (fun k => D142 r n bAy (xs (xs (xs x0 0 (K2 (cH r n) 2 3)) 2 (K1 (cS r n) 3)) 1 (K0 (dO r n))) k) (cNk r n)
theorem cId : D142 r n aTa x0 (K2 (cH r n) 2 3) = (K3 (aOm r n) 2 3 4) :=
 (by kernel_rfl : D142 r n aTa x0 (K2 (cH r n) 2 3) = D142 r n aGd (xs x0 0 (K2 (cH r n) 2 3)) (K2 (cH r n) 2 3)).trans
 ((bPr r n).trans
 ((by kernel_rfl : D142 r n aKl (xs x0 0 (K2 (cH r n) 2 3)) (K1 (cS r n) 3) = D142 r n aDx (xs (xs x0 0 (K2 (cH r n) 2 3)) 2 (K1 (cS r n) 3)) (K1 (cS r n) 3)).trans
 ((bXc r n).trans
 ((by kernel_rfl : D142 r n tK (xs (xs x0 0 (K2 (cH r n) 2 3)) 2 (K1 (cS r n) 3)) (K0 (dO r n)) = D142 r n uE (xs (xs (xs x0 0 (K2 (cH r n) 2 3)) 2 (K1 (cS r n) 3)) 1 (K0 (dO r n))) (K0 (dO r n))).trans
 ((bGs r n).trans
 ((bUo r n).trans
 ((bQw r n).trans
 ((by kernel_rfl)))))))))
theorem bUg : D142 r n aEs x0 r142 = D142 r n xK x0 (K2 (cH r n) 2 3) :=
 congrArg (fun k => D142 r n xK x0 k) (cKb r n)
theorem bJz : D142 r n xK x0 (K2 (cH r n) 2 3) = D142 r n aWi x0 (K3 (aOm r n) 2 3 4) :=
 congrArg (fun k => D142 r n aWi x0 k) (cId r n)
theorem cCp : D142 r n aEs x0 r142 = (K3 (aRi r n) 0 2 3) :=
 (bUg r n).trans
 ((bJz r n).trans
 ((by kernel_rfl)))
theorem dCt : D142 r n c142 x0 r142 = D142 r n aYb x0 (K3 (aRi r n) 0 2 3) :=
 congrArg (fun k => D142 r n aYb x0 k) (cCp r n)
theorem dFp : D142 r n c142 x0 r142 = (K1 (s142 r n) 0) :=
 (dCt r n).trans
 ((by kernel_rfl))
theorem cVl : aF CF r n 142 args h = s142 r n (aS args 0) h :=
 (by kernel_rfl : aF CF r n 142 args h = D142 r n c142 x0 r142 (aH args) h).trans ((congrFun (congrFun (dFp r n) (aH args)) h).trans (by kernel_rfl))
noncomputable def s143 (r : RT) (n : Nat) (x0 x1 : DV) (h0 : Hp) : aJ :=
 bnd (aD .eql x0 (aE 0) h0) fun v1 h1 =>
 bnd (gD v1 false (some (x1, h1)) h1) fun v2 h2 =>
 bnd (gD v1 false (some (v2, h2)) h2) fun v3 h3 =>
 bnd (gD v3 true (some (x0, h3)) h3) fun v4 h4 =>
 bnd (gD v3 true (aD .gtr v4 (aE 0) h4) h4) fun v5 h5 =>
 bnd (gD v1 false (aP v3 v5 (.b false) h5) h5) fun v6 h6 =>
 bnd (gD v1 false (some (v6, h6)) h6) fun v7 h7 =>
 bnd (gD v7 true (some (x0, h7)) h7) fun v8 h8 =>
 bnd (gD v7 true (aD .leq v8 (aE 255) h8) h8) fun v9 h9 =>
 bnd (gD v1 false (aP v7 v9 (.b false) h9) h9) fun v10 h10 =>
 bnd (aP v1 (.b true) v10 h10) fun v11 h11 =>
 some (v11, h11)
noncomputable abbrev c143 : Code := cf Tryz.f143
noncomputable abbrev r143 : K := aU CF Tryz.f143
noncomputable def D143 (r : RT) (n : Nat) (c : Code) (X : Nat → K) (k : K) : K := aM CF r 18 n c X r143 k
theorem dJe : D143 r n c143 x0 r143 = (K2 (s143 r n) 0 1) :=
 (by kernel_rfl)
theorem cSe : aF CF r n 143 args h = s143 r n (aS args 0) (aS args 1) h :=
 (by kernel_rfl : aF CF r n 143 args h = D143 r n c143 x0 r143 (aH args) h).trans ((congrFun (congrFun (dJe r n) (aH args)) h).trans (by kernel_rfl))
noncomputable def eB (r : RT) (n : Nat) (x2 : DV) (h0 : Hp) : aJ :=
 bnd (aB 5 x2 h0) fun v1 h1 =>
 bnd (aA v1 h1) fun v2 h2 =>
 bnd (r 173 [v2] h2) fun v3 h3 =>
 bnd (aB 5 x2 h3) fun v4 h4 =>
 bnd (aA v4 h4) fun v5 h5 =>
 bnd (r 174 [v5, v3] h5) fun v6 h6 =>
 bnd (gX .not v6 h6) fun v7 h7 =>
 aR v7 (
 some (.t [.l0, (aE 19)], h7)) (
 bnd (aB 5 x2 h7) fun v8 h8 =>
 bnd (aA v8 h8) fun v9 h9 =>
 bnd (r 175 [v9, v3] h9) fun v10 h10 =>
 bnd (aC 0 v10 h10) fun v11 h11 =>
 bnd (aC 1 v10 h11) fun v12 h12 =>
 bnd (gX .not v12 h12) fun v13 h13 =>
 aR v13 (
 some (.t [.l0, (aE 19)], h13)) (
 some (.t [v11, (aE 0)], h13)))
noncomputable def aEz (r : RT) (n : Nat) (kk7 : cF) (x1 x2 x60 x61 x62 : DV) (h0 : Hp) : aJ :=
 bnd (aD .lss x62 x61 h0) fun v1 h1 =>
 aR v1 (
 bnd (aI 3 x60 x62 h1) fun v2 h2 =>
 bnd (aK 3 v2 h2) fun v3 h3 =>
 bnd (bM [(aE 0), (aE 0), (aE 0)] h3) fun v4 h4 =>
 bnd (aG 3 v4 v3 h4) fun _ h5 =>
 bnd (aK 3 v4 h5) fun v6 h6 =>
 bnd (r 124 [v6] h6) fun v7 h7 =>
 bnd (gX .not v7 h7) fun v8 h8 =>
 bnd (gD v8 false (aK 6 x2 h8) h8) fun v9 h9 =>
 bnd (gD v8 false (aK 3 v4 h9) h9) fun v10 h10 =>
 bnd (gD v8 false (some (x1, h10)) h10) fun v11 h11 =>
 bnd (gD v8 false (r 172 [v9, v10, v11] h11) h11) fun v12 h12 =>
 bnd (gD v8 false (gX .not v12 h12) h12) fun v13 h13 =>
 bnd (aP v8 (.b true) v13 h13) fun v14 h14 =>
 aR v14 (
 some (.t [.l0, (aE 19)], h14)) (
 bnd (aD .add x62 (aE 1) h14) fun v15 h15 =>
    kk7 x1 x2 x60 x61 v15 h15)) (
      eB r n x2 h1)
noncomputable def sS (r : RT) (n : Nat) (m : Nat) : cF :=
 Nat.rec (motive := fun _ => cF) (fun _ _ _ _ _ _ => none) (fun _ ih => aEz r n ih) m
noncomputable def bHj (r : RT) (n : Nat) : cF := sS r n n
noncomputable def aSe (r : RT) (n : Nat) (x1 x2 x60 x61 x62 : DV) (h0 : Hp) : aJ :=
 bHj r n x1 x2 x60 x61 x62 h0
noncomputable def aOg (r : RT) (n : Nat) (x1 x2 : DV) (h0 : Hp) : aJ :=
 bnd (aB 5 x2 h0) fun v1 h1 =>
 bnd (aA v1 h1) fun v2 h2 =>
 bnd (bZ v2 h2) fun v3 h3 =>
  aSe r n x1 x2 v2 v3 (aE 0) h3
noncomputable def aQt (r : RT) (n : Nat) (x1 x2 x6 x7 : DV) (h0 : Hp) : aJ :=
 bnd (gX .not x6 h0) fun v1 h1 =>
 bnd (gD v1 false (some (x7, h1)) h1) fun v2 h2 =>
 bnd (aP v1 (.b true) v2 h2) fun v3 h3 =>
 bnd (gD v3 false (aB 4 x2 h3) h3) fun v4 h4 =>
 bnd (gD v3 false (aA v4 h4) h4) fun v5 h5 =>
 bnd (gD v3 false (bZ v5 h5) h5) fun v6 h6 =>
 bnd (gD v3 false (aD .gtr v6 (aE 60) h6) h6) fun v7 h7 =>
 bnd (aP v3 (.b true) v7 h7) fun v8 h8 =>
 bnd (gD v8 false (aB 5 x2 h8) h8) fun v9 h9 =>
 bnd (gD v8 false (aA v9 h9) h9) fun v10 h10 =>
 bnd (gD v8 false (bZ v10 h10) h10) fun v11 h11 =>
 bnd (gD v8 false (r 168 [v11, (aE 1), (aE 400)] h11) h11) fun v12 h12 =>
 bnd (gD v8 false (gX .not v12 h12) h12) fun v13 h13 =>
 bnd (aP v8 (.b true) v13 h13) fun v14 h14 =>
 aR v14 (
 some (.t [.l0, (aE 19)], h14)) (
  aOg r n x1 x2 h14)
noncomputable def aRs (r : RT) (n : Nat) (x1 x2 x6 : DV) (h0 : Hp) : aJ :=
 bnd (aB 4 x2 h0) fun v1 h1 =>
 bnd (aA v1 h1) fun v2 h2 =>
 bnd (r 169 [v2, (.f 170 [] [])] h2) fun v3 h3 =>
  aQt r n x1 x2 x6 v3 h3
noncomputable def xT (r : RT) (n : Nat) (x1 x2 : DV) (h0 : Hp) : aJ :=
 bnd (r 168 [x1, (aE 0), (aE 8)] h0) fun v1 h1 =>
 bnd (gD v1 true (aB 0 x2 h1) h1) fun v2 h2 =>
 bnd (gD v1 true (aA v2 h2) h2) fun v3 h3 =>
 bnd (gD v1 true (dU v3 h3) h3) fun v4 h4 =>
 bnd (gD v1 true (r 168 [v4, (aE 1), (aE 60)] h4) h4) fun v5 h5 =>
 bnd (aP v1 v5 (.b false) h5) fun v6 h6 =>
 bnd (gD v6 true (aB 1 x2 h6) h6) fun v7 h7 =>
 bnd (gD v6 true (aA v7 h7) h7) fun v8 h8 =>
 bnd (gD v6 true (r 168 [v8, (aE 0), (aE 4)] h8) h8) fun v9 h9 =>
 bnd (aP v6 v9 (.b false) h9) fun v10 h10 =>
 bnd (gD v10 true (aB 2 x2 h10) h10) fun v11 h11 =>
 bnd (gD v10 true (aA v11 h11) h11) fun v12 h12 =>
 bnd (gD v10 true (aB 1 x2 h12) h12) fun v13 h13 =>
 bnd (gD v10 true (aA v13 h13) h13) fun v14 h14 =>
 bnd (gD v10 true (r 168 [v12, v14, (aE 24)] h14) h14) fun v15 h15 =>
 bnd (aP v10 v15 (.b false) h15) fun v16 h16 =>
 bnd (gD v16 true (aB 3 x2 h16) h16) fun v17 h17 =>
 bnd (gD v16 true (aA v17 h17) h17) fun v18 h18 =>
 bnd (gD v16 true (r 168 [v18, (aE 0), (aE 255)] h18) h18) fun v19 h19 =>
 bnd (aP v16 v19 (.b false) h19) fun v20 h20 =>
  aRs r n x1 x2 v20 h20
noncomputable def s144 (r : RT) (n : Nat) (x0 x1 : DV) (h0 : Hp) : aJ :=
 bnd (bS x0 h0) fun v1 h1 =>
  xT r n x1 v1 h1
noncomputable abbrev c144 : Code := cf Tryz.f144
noncomputable abbrev aFh : Code := cR c144
noncomputable abbrev aHq : Code := cR aFh
noncomputable abbrev aBo : Code := cR aHq
noncomputable abbrev aBv : Code := cR aBo
noncomputable abbrev cVj : Code := cR aBv
noncomputable abbrev yQ : Code := cL aBv
noncomputable abbrev aQq : Code := cR yQ
noncomputable abbrev aEa : Code := cL aQq
noncomputable abbrev mB : Code := cL aEa
noncomputable abbrev aWn : Code := cL yQ
noncomputable abbrev aVd : Code := cL aBo
noncomputable abbrev aXt : Code := cL aHq
noncomputable abbrev aUu : Code := cL aFh
noncomputable abbrev aCs : Code := cL c144
noncomputable abbrev r144 : K := aU CF Tryz.f144
noncomputable def D144 (r : RT) (n : Nat) (c : Code) (X : Nat → K) (k : K) : K := aM CF r 95 n c X r144 k
theorem cNp : D144 r n cVj x0 r144 = (K1 (eB r n) 2) :=
 (by kernel_rfl)
theorem bOz (kk7 : cF) (q0 : TT1) : D144 r n mB (xs x0 0 (K1 q0 2)) (K5 kk7 1 2 60 61 62) = fun (env : aZ) (h : Hp) =>
 bnd (aD .lss (env 62) (env 61) h) fun v1 h1 =>
 aR v1 (
 bnd (aI 3 (env 60) (env 62) h1) fun v2 h2 =>
 bnd (aK 3 v2 h2) fun v3 h3 =>
 bnd (bM [(aE 0), (aE 0), (aE 0)] h3) fun v4 h4 =>
 bnd (aG 3 v4 v3 h4) fun _ h5 =>
 bnd (aK 3 v4 h5) fun v6 h6 =>
 bnd (r 124 [v6] h6) fun v7 h7 =>
 bnd (gX .not v7 h7) fun v8 h8 =>
 bnd (gD v8 false (aK 6 (env 2) h8) h8) fun v9 h9 =>
 bnd (gD v8 false (aK 3 v4 h9) h9) fun v10 h10 =>
 bnd (gD v8 false (some ((env 1), h10)) h10) fun v11 h11 =>
 bnd (gD v8 false (r 172 [v9, v10, v11] h11) h11) fun v12 h12 =>
 bnd (gD v8 false (gX .not v12 h12) h12) fun v13 h13 =>
 bnd (aP v8 (.b true) v13 h13) fun v14 h14 =>
 aR v14 (
 some (.t [.l0, (aE 19)], h14)) (
 bnd (aD .add (env 62) (aE 1) h14) fun v15 h15 =>
    kk7 (env 1) (env 2) (env 60) (env 61) v15 h15)) (
      q0 (env 2) h1) := by kernel_rfl
theorem bDy (kk7 : cF) : (fun (env : aZ) (h : Hp) =>
 bnd (aD .lss (env 62) (env 61) h) fun v1 h1 =>
 aR v1 (
 bnd (aI 3 (env 60) (env 62) h1) fun v2 h2 =>
 bnd (aK 3 v2 h2) fun v3 h3 =>
 bnd (bM [(aE 0), (aE 0), (aE 0)] h3) fun v4 h4 =>
 bnd (aG 3 v4 v3 h4) fun _ h5 =>
 bnd (aK 3 v4 h5) fun v6 h6 =>
 bnd (r 124 [v6] h6) fun v7 h7 =>
 bnd (gX .not v7 h7) fun v8 h8 =>
 bnd (gD v8 false (aK 6 (env 2) h8) h8) fun v9 h9 =>
 bnd (gD v8 false (aK 3 v4 h9) h9) fun v10 h10 =>
 bnd (gD v8 false (some ((env 1), h10)) h10) fun v11 h11 =>
 bnd (gD v8 false (r 172 [v9, v10, v11] h11) h11) fun v12 h12 =>
 bnd (gD v8 false (gX .not v12 h12) h12) fun v13 h13 =>
 bnd (aP v8 (.b true) v13 h13) fun v14 h14 =>
 aR v14 (
 some (.t [.l0, (aE 19)], h14)) (
 bnd (aD .add (env 62) (aE 1) h14) fun v15 h15 =>
    kk7 (env 1) (env 2) (env 60) (env 61) v15 h15)) (
      eB r n (env 2) h1)) = (K5 (aEz r n kk7) 1 2 60 61 62) := by kernel_rfl
theorem bTk (kk7 : cF) : D144 r n mB (xs x0 0 (K1 (eB r n) 2)) (K5 kk7 1 2 60 61 62) = (K5 (aEz r n kk7) 1 2 60 61 62) :=
 (bOz r n kk7 (eB r n)).trans (bDy r n kk7)
theorem bPa (m : Nat) : aO (fun kk => D144 r n mB (xs x0 0 (K1 (eB r n) 2)) kk) m = (K5 (sS r n m) 1 2 60 61 62) := by
 induction m with
 | zero => exact (by kernel_rfl : aO (fun kk => D144 r n mB (xs x0 0 (K1 (eB r n) 2)) kk) 0 = (K5 (sS r n 0) 1 2 60 61 62))
 | succ m ih =>
  refine (by kernel_rfl : aO (fun kk => D144 r n mB (xs x0 0 (K1 (eB r n) 2)) kk) (m + 1) = D144 r n mB (xs x0 0 (K1 (eB r n) 2)) (aO (fun kk => D144 r n mB (xs x0 0 (K1 (eB r n) 2)) kk) m)).trans ?_
  rw [ih]
  exact (bTk r n (sS r n m)).trans (by kernel_rfl)
theorem cLi : D144 r n aEa (xs x0 0 (K1 (eB r n) 2)) (K1 (eB r n) 2) = (K5 (bHj r n) 1 2 60 61 62) :=
 (by kernel_rfl : D144 r n aEa (xs x0 0 (K1 (eB r n) 2)) (K1 (eB r n) 2) = aO (fun kk => D144 r n mB (xs x0 0 (K1 (eB r n) 2)) kk) n).trans ((bPa r n n).trans (by kernel_rfl))
theorem cKh : D144 r n aQq x0 (K1 (eB r n) 2) = (K5 (aSe r n) 1 2 60 61 62) :=
 (by kernel_rfl : D144 r n aQq x0 (K1 (eB r n) 2) = D144 r n aEa (xs x0 0 (K1 (eB r n) 2)) (K1 (eB r n) 2)).trans
 ((cLi r n).trans (by kernel_rfl))
theorem bZe : D144 r n aBv x0 r144 = D144 r n yQ x0 (K1 (eB r n) 2) :=
 congrArg (fun k => D144 r n yQ x0 k) (cNp r n)
theorem bHd : D144 r n yQ x0 (K1 (eB r n) 2) = D144 r n aWn x0 (K5 (aSe r n) 1 2 60 61 62) :=
 congrArg (fun k => D144 r n aWn x0 k) (cKh r n)
theorem cFp : D144 r n aBv x0 r144 = (K2 (aOg r n) 1 2) :=
 (bZe r n).trans
 ((bHd r n).trans
 ((by kernel_rfl)))
theorem bLw : D144 r n aBo x0 r144 = D144 r n aVd x0 (K2 (aOg r n) 1 2) :=
 congrArg (fun k => D144 r n aVd x0 k) (cFp r n)
theorem cGe : D144 r n aBo x0 r144 = (K4 (aQt r n) 1 2 6 7) :=
 (bLw r n).trans
 ((by kernel_rfl))
theorem bHt : D144 r n aHq x0 r144 = D144 r n aXt x0 (K4 (aQt r n) 1 2 6 7) :=
 congrArg (fun k => D144 r n aXt x0 k) (cGe r n)
theorem cEr : D144 r n aHq x0 r144 = (K3 (aRs r n) 1 2 6) :=
 (bHt r n).trans
 ((by kernel_rfl))
theorem bPn : D144 r n aFh x0 r144 = D144 r n aUu x0 (K3 (aRs r n) 1 2 6) :=
 congrArg (fun k => D144 r n aUu x0 k) (cEr r n)
theorem cNh : D144 r n aFh x0 r144 = (K2 (xT r n) 1 2) :=
 (bPn r n).trans
 ((by kernel_rfl))
theorem cVw : D144 r n c144 x0 r144 = D144 r n aCs x0 (K2 (xT r n) 1 2) :=
 congrArg (fun k => D144 r n aCs x0 k) (cNh r n)
theorem cVh (q0 : oU) : D144 r n aCs x0 (K2 q0 1 2) = fun (env : aZ) (h : Hp) =>
 bnd (bS (env 0) h) fun v1 h1 =>
  q0 (env 1) v1 h1 := by kernel_rfl
theorem cMw : (fun (env : aZ) (h : Hp) =>
 bnd (bS (env 0) h) fun v1 h1 =>
  xT r n (env 1) v1 h1) = (K2 (s144 r n) 0 1) := by kernel_rfl
theorem dFj : D144 r n c144 x0 r144 = (K2 (s144 r n) 0 1) :=
 (cVw r n).trans
 ((cVh r n (xT r n)).trans (cMw r n))
theorem cTm : aF CF r n 144 args h = s144 r n (aS args 0) (aS args 1) h :=
 (by kernel_rfl : aF CF r n 144 args h = D144 r n c144 x0 r144 (aH args) h).trans ((congrFun (congrFun (dFj r n) (aH args)) h).trans (by kernel_rfl))
noncomputable def s145 (r : RT) (n : Nat) (x0 x1 : DV) (h0 : Hp) : aJ :=
 bnd (aA x1 h0) fun v1 h1 =>
 bnd (r 131 [v1, x0] h1) fun v2 h2 =>
 bnd (aD .geq v2 (aE 0) h2) fun v3 h3 =>
 some (v3, h3)
noncomputable abbrev c145 : Code := cf Tryz.f145
noncomputable abbrev r145 : K := aU CF Tryz.f145
noncomputable def D145 (r : RT) (n : Nat) (c : Code) (X : Nat → K) (k : K) : K := aM CF r 8 n c X r145 k
theorem dDz : D145 r n c145 x0 r145 = (K2 (s145 r n) 0 1) :=
 (by kernel_rfl)
theorem cWg : aF CF r n 145 args h = s145 r n (aS args 0) (aS args 1) h :=
 (by kernel_rfl : aF CF r n 145 args h = D145 r n c145 x0 r145 (aH args) h).trans ((congrFun (congrFun (dDz r n) (aH args)) h).trans (by kernel_rfl))
noncomputable def s146 (r : RT) (n : Nat) (x0 x1 : DV) (h0 : Hp) : aJ :=
 bnd (lQ [x0, x1] h0) fun v1 h1 =>
 some (v1, h1)
noncomputable abbrev c146 : Code := cf Tryz.f146
noncomputable abbrev r146 : K := aU CF Tryz.f146
noncomputable def D146 (r : RT) (n : Nat) (c : Code) (X : Nat → K) (k : K) : K := aM CF r 8 n c X r146 k
theorem dEp : D146 r n c146 x0 r146 = (K2 (s146 r n) 0 1) :=
 (by kernel_rfl)
theorem cTu : aF CF r n 146 args h = s146 r n (aS args 0) (aS args 1) h :=
 (by kernel_rfl : aF CF r n 146 args h = D146 r n c146 x0 r146 (aH args) h).trans ((congrFun (congrFun (dEp r n) (aH args)) h).trans (by kernel_rfl))
noncomputable def s147 (r : RT) (n : Nat) (x0 x1 : DV) (h0 : Hp) : aJ :=
 bnd (aN x0 h0) fun v1 h1 =>
 bnd (aB 1 v1 h1) fun v2 h2 =>
 bnd (aA v2 h2) fun v3 h3 =>
 bnd (aD .add v3 x1 h3) fun v4 h4 =>
 bnd (aN x0 h4) fun v5 h5 =>
 bnd (aB 0 v5 h5) fun v6 h6 =>
 bnd (aA v6 h6) fun v7 h7 =>
 bnd (dU v7 h7) fun v8 h8 =>
 bnd (aD .geq v4 v8 h8) fun v9 h9 =>
 aR v9 (
 some ((.i .u8 (Int.ofNat 0)), h9)) (
 bnd (aN x0 h9) fun v10 h10 =>
 bnd (aB 0 v10 h10) fun v11 h11 =>
 bnd (aA v11 h11) fun v12 h12 =>
 bnd (aN x0 h12) fun v13 h13 =>
 bnd (aB 1 v13 h13) fun v14 h14 =>
 bnd (aA v14 h14) fun v15 h15 =>
 bnd (aD .add v15 x1 h15) fun v16 h16 =>
 bnd (fF v12 v16 h16) fun v17 h17 =>
 some (v17, h17))
noncomputable abbrev c147 : Code := cf Tryz.f147
noncomputable abbrev r147 : K := aU CF Tryz.f147
noncomputable def D147 (r : RT) (n : Nat) (c : Code) (X : Nat → K) (k : K) : K := aM CF r 28 n c X r147 k
theorem dGc : D147 r n c147 x0 r147 = (K2 (s147 r n) 0 1) :=
 (by kernel_rfl)
theorem cTj : aF CF r n 147 args h = s147 r n (aS args 0) (aS args 1) h :=
 (by kernel_rfl : aF CF r n 147 args h = D147 r n c147 x0 r147 (aH args) h).trans ((congrFun (congrFun (dGc r n) (aH args)) h).trans (by kernel_rfl))
noncomputable def s148 (r : RT) (n : Nat) (x0 : DV) (h0 : Hp) : aJ :=
 bnd (aD .geq x0 (.i .u8 (Int.ofNat 97)) h0) fun v1 h1 =>
 bnd (gD v1 true (some (x0, h1)) h1) fun v2 h2 =>
 bnd (gD v1 true (aD .leq v2 (.i .u8 (Int.ofNat 122)) h2) h2) fun v3 h3 =>
 bnd (aP v1 v3 (.b false) h3) fun v4 h4 =>
 bnd (gD v4 false (some (x0, h4)) h4) fun v5 h5 =>
 bnd (gD v4 false (aD .geq v5 (.i .u8 (Int.ofNat 65)) h5) h5) fun v6 h6 =>
 bnd (gD v4 false (some (v6, h6)) h6) fun v7 h7 =>
 bnd (gD v7 true (some (x0, h7)) h7) fun v8 h8 =>
 bnd (gD v7 true (aD .leq v8 (.i .u8 (Int.ofNat 90)) h8) h8) fun v9 h9 =>
 bnd (gD v4 false (aP v7 v9 (.b false) h9) h9) fun v10 h10 =>
 bnd (aP v4 (.b true) v10 h10) fun v11 h11 =>
 some (v11, h11)
noncomputable abbrev c148 : Code := cf Tryz.f148
noncomputable abbrev r148 : K := aU CF Tryz.f148
noncomputable def D148 (r : RT) (n : Nat) (c : Code) (X : Nat → K) (k : K) : K := aM CF r 17 n c X r148 k
theorem dFk : D148 r n c148 x0 r148 = (K1 (s148 r n) 0) :=
 (by kernel_rfl)
theorem cZx : aF CF r n 148 args h = s148 r n (aS args 0) h :=
 (by kernel_rfl : aF CF r n 148 args h = D148 r n c148 x0 r148 (aH args) h).trans ((congrFun (congrFun (dFk r n) (aH args)) h).trans (by kernel_rfl))
noncomputable def s149 (r : RT) (n : Nat) (x0 : DV) (h0 : Hp) : aJ :=
 bnd (aN x0 h0) fun v1 h1 =>
 bnd (aB 0 v1 h1) fun v2 h2 =>
 bnd (aA v2 h2) fun v3 h3 =>
 bnd (dU v3 h3) fun v4 h4 =>
 bnd (r 129 [x0, (.f 177 [] []), v4] h4) fun v5 h5 =>
 bnd (dU v5 h5) fun v6 h6 =>
 bnd (aD .gtr v6 (aE 24) h6) fun v7 h7 =>
 aR v7 (
 some (.t [(.s []), (aE 12)], h7)) (
 some (.t [v5, (aE 0)], h7))
noncomputable abbrev c149 : Code := cf Tryz.f149
noncomputable abbrev r149 : K := aU CF Tryz.f149
noncomputable def D149 (r : RT) (n : Nat) (c : Code) (X : Nat → K) (k : K) : K := aM CF r 16 n c X r149 k
theorem dIi : D149 r n c149 x0 r149 = (K1 (s149 r n) 0) :=
 (by kernel_rfl)
theorem dCv : aF CF r n 149 args h = s149 r n (aS args 0) h :=
 (by kernel_rfl : aF CF r n 149 args h = D149 r n c149 x0 r149 (aH args) h).trans ((congrFun (congrFun (dIi r n) (aH args)) h).trans (by kernel_rfl))
noncomputable def s150 (r : RT) (n : Nat) (x0 : DV) (h0 : Hp) : aJ :=
 bnd (r 147 [x0, (aE 0)] h0) fun v1 h1 =>
 bnd (aD .neq v1 (.i .u8 (Int.ofNat 58)) h1) fun v2 h2 =>
 bnd (gD v2 false (some (x0, h2)) h2) fun v3 h3 =>
 bnd (gD v2 false (r 147 [v3, (aE 1)] h3) h3) fun v4 h4 =>
 bnd (gD v2 false (aD .eql v4 (.i .u8 (Int.ofNat 61)) h4) h4) fun v5 h5 =>
 bnd (aP v2 (.b true) v5 h5) fun v6 h6 =>
 aR v6 (
 some ((.b false), h6)) (
 bnd (aN x0 h6) fun v7 h7 =>
 bnd (aB 1 v7 h7) fun v8 h8 =>
 bnd (aA v8 h8) fun v9 h9 =>
 bnd (aD .add v9 (aE 1) h9) fun v10 h10 =>
 bnd (aN x0 h10) fun v11 h11 =>
 bnd (aB 1 v11 h11) fun v12 h12 =>
 bnd (aG 1 v12 v10 h12) fun _ h13 =>
 some ((.b true), h13))
noncomputable abbrev c150 : Code := cf Tryz.f150
noncomputable abbrev r150 : K := aU CF Tryz.f150
noncomputable def D150 (r : RT) (n : Nat) (c : Code) (X : Nat → K) (k : K) : K := aM CF r 18 n c X r150 k
theorem dHu : D150 r n c150 x0 r150 = (K1 (s150 r n) 0) :=
 (by kernel_rfl)
theorem cVs : aF CF r n 150 args h = s150 r n (aS args 0) h :=
 (by kernel_rfl : aF CF r n 150 args h = D150 r n c150 x0 r150 (aH args) h).trans ((congrFun (congrFun (dHu r n) (aH args)) h).trans (by kernel_rfl))
noncomputable def s151 (r : RT) (n : Nat) (x0 : DV) (h0 : Hp) : aJ :=
 bnd (aD .geq x0 (.i .u8 (Int.ofNat 48)) h0) fun v1 h1 =>
 bnd (gD v1 true (some (x0, h1)) h1) fun v2 h2 =>
 bnd (gD v1 true (aD .leq v2 (.i .u8 (Int.ofNat 57)) h2) h2) fun v3 h3 =>
 bnd (aP v1 v3 (.b false) h3) fun v4 h4 =>
 some (v4, h4)
noncomputable abbrev c151 : Code := cf Tryz.f151
noncomputable abbrev r151 : K := aU CF Tryz.f151
noncomputable def D151 (r : RT) (n : Nat) (c : Code) (X : Nat → K) (k : K) : K := aM CF r 9 n c X r151 k
theorem dJq : D151 r n c151 x0 r151 = (K1 (s151 r n) 0) :=
 (by kernel_rfl)
theorem dAt : aF CF r n 151 args h = s151 r n (aS args 0) h :=
 (by kernel_rfl : aF CF r n 151 args h = D151 r n c151 x0 r151 (aH args) h).trans ((congrFun (congrFun (dJq r n) (aH args)) h).trans (by kernel_rfl))
noncomputable def eN (r : RT) (n : Nat) (x4 : DV) (h0 : Hp) : aJ :=
 some (.t [x4, (aE 0)], h0)
noncomputable def aUq (r : RT) (n : Nat) (kk5 : oU) (x4 x14 : DV) (h0 : Hp) : aJ :=
 bnd (yK x14 h0) fun v1 h1 =>
 bnd (aC 0 v1 h1) fun v2 h2 =>
 aR v2 (
 bnd (aC 2 v1 h2) fun v3 h3 =>
 bnd (aD .gtr x4 (aE 115292150460684697) h3) fun v4 h4 =>
 aR v4 (
 some (.t [(aE 0), (aE 2)], h4)) (
 bnd (aD .mul x4 (aE 10) h4) fun v5 h5 =>
 bnd (aD .sub v3 (.i .i32 (Int.ofNat 48)) h5) fun v6 h6 =>
 bnd (eA .i64 v6 h6) fun v7 h7 =>
 bnd (aD .add v5 v7 h7) fun v8 h8 =>
 bnd (aD .gtr v8 (aE 1152921504606846976) h8) fun v9 h9 =>
 aR v9 (
 some (.t [(aE 0), (aE 2)], h9)) (
     kk5 v8 x14 h9))) (
   eN r n x4 h2)
noncomputable def uM (r : RT) (n : Nat) (m : Nat) : oU :=
 Nat.rec (motive := fun _ => oU) (fun _ _ _ => none) (fun _ ih => aUq r n ih) m
noncomputable def bKg (r : RT) (n : Nat) : oU := uM r n n
noncomputable def aRo (r : RT) (n : Nat) (x4 x14 : DV) (h0 : Hp) : aJ :=
 bKg r n x4 x14 h0
noncomputable def aUn (r : RT) (n : Nat) (x0 x4 : DV) (h0 : Hp) : aJ :=
 bnd (aN x0 h0) fun v1 h1 =>
 bnd (aB 0 v1 h1) fun v2 h2 =>
 bnd (aA v2 h2) fun v3 h3 =>
 bnd (dU v3 h3) fun v4 h4 =>
 bnd (r 129 [x0, (.f 151 [] []), v4] h4) fun v5 h5 =>
 bnd (oC v5 h5) fun v6 h6 =>
  aRo r n x4 v6 h6
noncomputable def aRq (r : RT) (n : Nat) (x0 : DV) (h0 : Hp) : aJ :=
 aUn r n x0 (aE 0) h0
noncomputable def s152 (r : RT) (n : Nat) (x0 : DV) (h0 : Hp) : aJ :=
 aRq r n x0 h0
noncomputable abbrev c152 : Code := cf Tryz.f152
noncomputable abbrev aEq : Code := cR c152
noncomputable abbrev aBn : Code := cR aEq
noncomputable abbrev cXo : Code := cR aBn
noncomputable abbrev wE : Code := cL aBn
noncomputable abbrev aOb : Code := cR wE
noncomputable abbrev aKj : Code := cL aOb
noncomputable abbrev oF : Code := cL aKj
noncomputable abbrev bOq : Code := cL wE
noncomputable abbrev bOp : Code := cL aEq
noncomputable abbrev bCc : Code := cL c152
noncomputable abbrev r152 : K := aU CF Tryz.f152
noncomputable def D152 (r : RT) (n : Nat) (c : Code) (X : Nat → K) (k : K) : K := aM CF r 29 n c X r152 k
theorem cNq : D152 r n cXo x0 r152 = (K1 (eN r n) 4) :=
 (by kernel_rfl)
theorem bYp (kk5 : oU) : D152 r n oF (xs x0 0 (K1 (eN r n) 4)) (K2 kk5 4 14) = (K2 (aUq r n kk5) 4 14) :=
 (by kernel_rfl)
theorem bXs (m : Nat) : aO (fun kk => D152 r n oF (xs x0 0 (K1 (eN r n) 4)) kk) m = (K2 (uM r n m) 4 14) := by
 induction m with
 | zero => exact (by kernel_rfl : aO (fun kk => D152 r n oF (xs x0 0 (K1 (eN r n) 4)) kk) 0 = (K2 (uM r n 0) 4 14))
 | succ m ih =>
  refine (by kernel_rfl : aO (fun kk => D152 r n oF (xs x0 0 (K1 (eN r n) 4)) kk) (m + 1) = D152 r n oF (xs x0 0 (K1 (eN r n) 4)) (aO (fun kk => D152 r n oF (xs x0 0 (K1 (eN r n) 4)) kk) m)).trans ?_
  rw [ih]
  exact (bYp r n (uM r n m)).trans (by kernel_rfl)
theorem cIr : D152 r n aKj (xs x0 0 (K1 (eN r n) 4)) (K1 (eN r n) 4) = (K2 (bKg r n) 4 14) :=
 (by kernel_rfl : D152 r n aKj (xs x0 0 (K1 (eN r n) 4)) (K1 (eN r n) 4) = aO (fun kk => D152 r n oF (xs x0 0 (K1 (eN r n) 4)) kk) n).trans ((bXs r n n).trans (by kernel_rfl))
theorem cFu : D152 r n aOb x0 (K1 (eN r n) 4) = (K2 (aRo r n) 4 14) :=
 (by kernel_rfl : D152 r n aOb x0 (K1 (eN r n) 4) = D152 r n aKj (xs x0 0 (K1 (eN r n) 4)) (K1 (eN r n) 4)).trans
 ((cIr r n).trans (by kernel_rfl))
theorem bTr : D152 r n aBn x0 r152 = D152 r n wE x0 (K1 (eN r n) 4) :=
 congrArg (fun k => D152 r n wE x0 k) (cNq r n)
theorem bMz : D152 r n wE x0 (K1 (eN r n) 4) = D152 r n bOq x0 (K2 (aRo r n) 4 14) :=
 congrArg (fun k => D152 r n bOq x0 k) (cFu r n)
theorem cFi : D152 r n aBn x0 r152 = (K2 (aUn r n) 0 4) :=
 (bTr r n).trans
 ((bMz r n).trans
 ((by kernel_rfl)))
theorem bGn : D152 r n aEq x0 r152 = D152 r n bOp x0 (K2 (aUn r n) 0 4) :=
 congrArg (fun k => D152 r n bOp x0 k) (cFi r n)
theorem cCo : D152 r n aEq x0 r152 = (K1 (aRq r n) 0) :=
 (bGn r n).trans
 ((by kernel_rfl))
theorem dAj : D152 r n c152 x0 r152 = D152 r n bCc x0 (K1 (aRq r n) 0) :=
 congrArg (fun k => D152 r n bCc x0 k) (cCo r n)
theorem dKd : D152 r n c152 x0 r152 = (K1 (s152 r n) 0) :=
 (dAj r n).trans
 ((by kernel_rfl))
theorem cWw : aF CF r n 152 args h = s152 r n (aS args 0) h :=
 (by kernel_rfl : aF CF r n 152 args h = D152 r n c152 x0 r152 (aH args) h).trans ((congrFun (congrFun (dKd r n) (aH args)) h).trans (by kernel_rfl))
end Go.Dd

namespace Go.Dd
open Go.Proofs
variable (r : RT) (n : Nat) (args : List DV) (h : Hp)
noncomputable def s156 (r : RT) (n : Nat) (x0 x1 : DV) (h0 : Hp) : aJ :=
 bnd (bS x1 h0) fun v1 h1 =>
 bnd (bM [(.s []), (.b false), (.b false), (aE 0)] h1) fun v2 h2 =>
 bnd (aN x0 h2) fun v3 h3 =>
 bnd (aB 6 v3 h3) fun v4 h4 =>
 bnd (aA v4 h4) fun v5 h5 =>
 bnd (r 185 [v5, (.f 186 [] [v1])] h5) fun v6 h6 =>
 bnd (aD .lss v6 (aE 0) h6) fun v7 h7 =>
 aR v7 (
 bnd (bB [(.s []), (.b false), (.b false), (aE 0)] [] h7) fun v8 h8 =>
 bnd (aG 4 v2 v8 h8) fun _ h9 =>
 bnd (aK 4 v2 h9) fun v10 _ =>
 some (.t [v10, (.b false)], h9)) (
 bnd (aN x0 h7) fun v11 h11 =>
 bnd (aB 6 v11 h11) fun v12 h12 =>
 bnd (aA v12 h12) fun v13 h13 =>
 bnd (aI 4 v13 v6 h13) fun v14 h14 =>
 bnd (aK 4 v14 h14) fun v15 h15 =>
 bnd (aG 4 v2 v15 h15) fun _ h16 =>
 bnd (aK 4 v2 h16) fun v17 _ =>
 some (.t [v17, (.b true)], h16))
noncomputable abbrev c156 : Code := cf Tryz.f156
noncomputable abbrev r156 : K := aU CF Tryz.f156
noncomputable def D156 (r : RT) (n : Nat) (c : Code) (X : Nat → K) (k : K) : K := aM CF r 23 n c X r156 k
theorem dDi : D156 r n c156 x0 r156 = (K2 (s156 r n) 0 1) :=
 (by kernel_rfl)
theorem cTz : aF CF r n 156 args h = s156 r n (aS args 0) (aS args 1) h :=
 (by kernel_rfl : aF CF r n 156 args h = D156 r n c156 x0 r156 (aH args) h).trans ((congrFun (congrFun (dDi r n) (aH args)) h).trans (by kernel_rfl))
noncomputable def gP (r : RT) (n : Nat) (h0 : Hp) : aJ :=
 some ((.b false), h0)
noncomputable def mE (r : RT) (n : Nat) (x4 : DV) (h0 : Hp) : aJ :=
 aR x4 (
 some ((.b true), h0)) (
  gP r n h0)
noncomputable def aQe (r : RT) (n : Nat) (x3 : DV) (h0 : Hp) : aJ :=
 bnd (fM .eql x3 (.s [115, 101, 108, 102]) h0) fun v1 h1 =>
 aR v1 (
  mE r n v1 h1) (
 bnd (fM .eql x3 (.s [115, 117, 112, 101, 114]) h1) fun v2 h2 =>
 aR v2 (
   mE r n v2 h2) (
 bnd (fM .eql x3 (.s [110, 105, 108]) h2) fun v3 h3 =>
 aR v3 (
    mE r n v3 h3) (
 bnd (fM .eql x3 (.s [116, 114, 117, 101]) h3) fun v4 h4 =>
 aR v4 (
     mE r n v4 h4) (
 bnd (fM .eql x3 (.s [102, 97, 108, 115, 101]) h4) fun v5 h5 =>
 aR v5 (
      mE r n v5 h5) (
 bnd (fM .eql x3 (.s [116, 104, 105, 115, 67, 111, 110, 116, 101, 120, 116]) h5) fun v6 h6 =>
      mE r n v6 h6)))))
noncomputable def aSl (r : RT) (n : Nat) (x0 : DV) (h0 : Hp) : aJ :=
 aQe r n x0 h0
noncomputable def s157 (r : RT) (n : Nat) (x0 : DV) (h0 : Hp) : aJ :=
 aSl r n x0 h0
noncomputable abbrev c157 : Code := cf Tryz.f157
noncomputable abbrev aBy : Code := cR c157
noncomputable abbrev dCg : Code := cR aBy
noncomputable abbrev wA : Code := cL aBy
noncomputable abbrev aSu : Code := cR wA
noncomputable abbrev aEr : Code := cL aSu
noncomputable abbrev cVm : Code := cR aEr
noncomputable abbrev bQz : Code := cL aEr
noncomputable abbrev bMf : Code := cL wA
noncomputable abbrev bTv : Code := cL c157
noncomputable abbrev r157 : K := aU CF Tryz.f157
noncomputable def D157 (r : RT) (n : Nat) (c : Code) (X : Nat → K) (k : K) : K := aM CF r 11 n c X r157 k
theorem cBl : D157 r n dCg x0 r157 = (K0 (gP r n)) :=
 (by kernel_rfl)
theorem cLj : D157 r n cVm (xs x0 0 (K0 (gP r n))) (K0 (gP r n)) = (K1 (mE r n) 4) :=
 (by kernel_rfl)
theorem bSk : D157 r n aEr (xs x0 0 (K0 (gP r n))) (K0 (gP r n)) = D157 r n bQz (xs x0 0 (K0 (gP r n))) (K1 (mE r n) 4) :=
 congrArg (fun k => D157 r n bQz (xs x0 0 (K0 (gP r n))) k) (cLj r n)
theorem cDx : D157 r n aSu x0 (K0 (gP r n)) = (K1 (aQe r n) 3) :=
 (by kernel_rfl : D157 r n aSu x0 (K0 (gP r n)) = D157 r n aEr (xs x0 0 (K0 (gP r n))) (K0 (gP r n))).trans
 ((bSk r n).trans
 ((by kernel_rfl)))
theorem bIa : D157 r n aBy x0 r157 = D157 r n wA x0 (K0 (gP r n)) :=
 congrArg (fun k => D157 r n wA x0 k) (cBl r n)
theorem bIo : D157 r n wA x0 (K0 (gP r n)) = D157 r n bMf x0 (K1 (aQe r n) 3) :=
 congrArg (fun k => D157 r n bMf x0 k) (cDx r n)
theorem cLo : D157 r n aBy x0 r157 = (K1 (aSl r n) 0) :=
 (bIa r n).trans
 ((bIo r n).trans
 ((by kernel_rfl)))
theorem dCa : D157 r n c157 x0 r157 = D157 r n bTv x0 (K1 (aSl r n) 0) :=
 congrArg (fun k => D157 r n bTv x0 k) (cLo r n)
theorem dGi : D157 r n c157 x0 r157 = (K1 (s157 r n) 0) :=
 (dCa r n).trans
 ((by kernel_rfl))
theorem cYx : aF CF r n 157 args h = s157 r n (aS args 0) h :=
 (by kernel_rfl : aF CF r n 157 args h = D157 r n c157 x0 r157 (aH args) h).trans ((congrFun (congrFun (dGi r n) (aH args)) h).trans (by kernel_rfl))
noncomputable def aJe (r : RT) (n : Nat) (x0 x1 : DV) (h0 : Hp) : aJ :=
 bnd (r 156 [x0, x1] h0) fun v1 h1 =>
 bnd (aC 0 v1 h1) fun v2 h2 =>
 bnd (aC 1 v1 h2) fun v3 h3 =>
 bnd (bM [(.s []), (.b false), (.b false), (aE 0)] h3) fun v4 h4 =>
 bnd (aG 4 v4 v2 h4) fun _ h5 =>
 bnd (gD v3 true (aB 1 v4 h5) h5) fun v6 h6 =>
 bnd (gD v3 true (aA v6 h6) h6) fun v7 h7 =>
 bnd (aP v3 v7 (.b false) h7) fun v8 h8 =>
 aR v8 (
 bnd (aB 3 v4 h8) fun v9 h9 =>
 bnd (aA v9 h9) fun v10 h10 =>
 bnd (r 141 [x0, (aE 8), v10, (aE 0)] h10) fun v11 h11 =>
 some (.t [], h11)) (
 aR v3 (
 bnd (aB 3 v4 h8) fun v12 h12 =>
 bnd (aA v12 h12) fun v13 h13 =>
 bnd (r 141 [x0, (aE 7), v13, (aE 0)] h13) fun v14 h14 =>
 some (.t [], h14)) (
 bnd (r 190 [x1] h8) fun v15 h15 =>
 aR v15 (
 bnd (r 191 [x0, x1] h15) fun v16 h16 =>
 bnd (r 141 [x0, (aE 9), v16, (aE 0)] h16) fun v17 h17 =>
 some (.t [], h17)) (
 bnd (r 158 [x0, x1, (aE 15)] h15) fun v18 h18 =>
 some (.t [], h18))))
noncomputable def s161 (r : RT) (n : Nat) (x0 x1 : DV) (h0 : Hp) : aJ :=
 bnd (fM .eql x1 (.s [115, 101, 108, 102]) h0) fun v1 h1 =>
 aR v1 (
 bnd (r 141 [x0, (aE 1), (aE 0), (aE 0)] h1) fun v2 h2 =>
 some (.t [], h2)) (
 bnd (fM .eql x1 (.s [110, 105, 108]) h1) fun v3 h3 =>
 aR v3 (
 bnd (r 141 [x0, (aE 2), (aE 0), (aE 0)] h3) fun v4 h4 =>
 some (.t [], h4)) (
 bnd (fM .eql x1 (.s [116, 114, 117, 101]) h3) fun v5 h5 =>
 aR v5 (
 bnd (r 141 [x0, (aE 3), (aE 0), (aE 0)] h5) fun v6 h6 =>
 some (.t [], h6)) (
 bnd (fM .eql x1 (.s [102, 97, 108, 115, 101]) h5) fun v7 h7 =>
 aR v7 (
 bnd (r 141 [x0, (aE 4), (aE 0), (aE 0)] h7) fun v8 h8 =>
 some (.t [], h8)) (
 bnd (fM .eql x1 (.s [116, 104, 105, 115, 67, 111, 110, 116, 101, 120, 116]) h7) fun v9 h9 =>
 aR v9 (
 bnd (r 141 [x0, (aE 5), (aE 0), (aE 0)] h9) fun v10 h10 =>
 some (.t [], h10)) (
 bnd (fM .eql x1 (.s [115, 117, 112, 101, 114]) h9) fun v11 h11 =>
 aR v11 (
 bnd (r 158 [x0, x1, (aE 15)] h11) fun v12 h12 =>
       aJe r n x0 x1 h12) (
       aJe r n x0 x1 h11))))))
noncomputable abbrev c161 : Code := cf Tryz.f161
noncomputable abbrev cSy : Code := cR c161
noncomputable abbrev bGq : Code := cL c161
noncomputable abbrev r161 : K := aU CF Tryz.f161
noncomputable def D161 (r : RT) (n : Nat) (c : Code) (X : Nat → K) (k : K) : K := aM CF r 65 n c X r161 k
theorem cPj : D161 r n cSy x0 r161 = (K2 (aJe r n) 0 1) :=
 (by kernel_rfl)
theorem cYi : D161 r n c161 x0 r161 = D161 r n bGq x0 (K2 (aJe r n) 0 1) :=
 congrArg (fun k => D161 r n bGq x0 k) (cPj r n)
theorem dIy : D161 r n c161 x0 r161 = (K2 (s161 r n) 0 1) :=
 (cYi r n).trans
 ((by kernel_rfl))
theorem cSq : aF CF r n 161 args h = s161 r n (aS args 0) (aS args 1) h :=
 (by kernel_rfl : aF CF r n 161 args h = D161 r n c161 x0 r161 (aH args) h).trans ((congrFun (congrFun (dIy r n) (aH args)) h).trans (by kernel_rfl))
noncomputable def s163 (r : RT) (n : Nat) (x0 x1 : DV) (h0 : Hp) : aJ :=
 bnd (bS x1 h0) fun v1 h1 =>
 bnd (aB 5 v1 h1) fun v2 h2 =>
 bnd (aA v2 h2) fun v3 h3 =>
 bnd (bZ v3 h3) fun v4 h4 =>
 bnd (aD .eql v4 (aE 0) h4) fun v5 h5 =>
 aR v5 (
 bnd (r 158 [x0, (.s []), (aE 1)] h5) fun v6 h6 =>
 some (.t [], h6)) (
 bnd (aK 6 v1 h5) fun v7 h7 =>
 bnd (r 192 [x0, v7] h7) fun v8 h8 =>
 bnd (gD v8 false (some (x0, h8)) h8) fun v9 h9 =>
 bnd (gD v8 false (aK 6 v1 h9) h9) fun v10 h10 =>
 bnd (gD v8 false (r 193 [v9, v10] h10) h10) fun v11 h11 =>
 bnd (aP v8 (.b true) v11 h11) fun v12 h12 =>
 aR v12 (
 some (.t [], h12)) (
 bnd (aB 5 v1 h12) fun v13 h13 =>
 bnd (aA v13 h13) fun v14 h14 =>
 bnd (aI 6 v14 (aE 0) h14) fun v15 h15 =>
 bnd (aK 6 v15 h15) fun v16 h16 =>
 bnd (r 195 [x0, v16] h16) fun v17 h17 =>
 bnd (aB 1 v1 h17) fun v18 h18 =>
 bnd (aA v18 h18) fun v19 h19 =>
 cnd (bG (aA v18 h12) v19 && true) (
 bnd (aB 5 v1 h19) fun v20 h20 =>
 bnd (aA v20 h20) fun v21 h21 =>
 cnd (bG (aA v20 h12) v21 && true) (
 bnd (cT 6 v21 (some (aE 1)) none h21) fun v22 h22 =>
 cnd (bG (cT 6 v21 (some (aE 1)) none h12) v22 && true) (
 bnd (r 194 [x0, v17, v19, v22] h22) fun v23 h23 =>
 some (.t [], h23))))))
noncomputable abbrev c163 : Code := cf Tryz.f163
noncomputable abbrev r163 : K := aU CF Tryz.f163
noncomputable def D163 (r : RT) (n : Nat) (c : Code) (X : Nat → K) (k : K) : K := aM CF r 31 n c X r163 k
theorem dDk : D163 r n c163 x0 r163 = (K2 (s163 r n) 0 1) :=
 (by kernel_rfl)
theorem dCd : aF CF r n 163 args h = s163 r n (aS args 0) (aS args 1) h :=
 (by kernel_rfl : aF CF r n 163 args h = D163 r n c163 x0 r163 (aH args) h).trans ((congrFun (congrFun (dDk r n) (aH args)) h).trans (by kernel_rfl))
noncomputable def aIq (r : RT) (n : Nat) (x3 : DV) (h0 : Hp) : aJ :=
 bnd (aB 5 x3 h0) fun v1 h1 =>
 bnd (aA v1 h1) fun v2 h2 =>
 bnd (bZ v2 h2) fun v3 h3 =>
 bnd (aD .eql v3 (aE 1) h3) fun v4 h4 =>
 some (v4, h4)
noncomputable def yB (r : RT) (n : Nat) (x0 x3 : DV) (h0 : Hp) : aJ :=
 bnd (aB 5 x3 h0) fun v1 h1 =>
 bnd (aA v1 h1) fun v2 h2 =>
 bnd (bZ v2 h2) fun v3 h3 =>
 bnd (aD .neq v3 (aE 1) h3) fun v4 h4 =>
 aR v4 (
 bnd (r 158 [x0, (.s []), (aE 1)] h4) fun v5 h5 =>
  aIq r n x3 h5) (
  aIq r n x3 h4)
noncomputable def s167 (r : RT) (n : Nat) (x0 x1 : DV) (h0 : Hp) : aJ :=
 bnd (bS x1 h0) fun v1 h1 =>
  yB r n x0 v1 h1
noncomputable abbrev c167 : Code := cf Tryz.f167
noncomputable abbrev aKq : Code := cR c167
noncomputable abbrev cZf : Code := cR aKq
noncomputable abbrev bLj : Code := cL aKq
noncomputable abbrev aPa : Code := cL c167
noncomputable abbrev r167 : K := aU CF Tryz.f167
noncomputable def D167 (r : RT) (n : Nat) (c : Code) (X : Nat → K) (k : K) : K := aM CF r 15 n c X r167 k
theorem cIm : D167 r n cZf x0 r167 = (K1 (aIq r n) 3) :=
 (by kernel_rfl)
theorem cAe : D167 r n aKq x0 r167 = D167 r n bLj x0 (K1 (aIq r n) 3) :=
 congrArg (fun k => D167 r n bLj x0 k) (cIm r n)
theorem cNr : D167 r n aKq x0 r167 = (K2 (yB r n) 0 3) :=
 (cAe r n).trans
 ((by kernel_rfl))
theorem cTo : D167 r n c167 x0 r167 = D167 r n aPa x0 (K2 (yB r n) 0 3) :=
 congrArg (fun k => D167 r n aPa x0 k) (cNr r n)
theorem cVc (q0 : oU) : D167 r n aPa x0 (K2 q0 0 3) = fun (env : aZ) (h : Hp) =>
 bnd (bS (env 1) h) fun v1 h1 =>
  q0 (env 0) v1 h1 := by kernel_rfl
theorem cMf : (fun (env : aZ) (h : Hp) =>
 bnd (bS (env 1) h) fun v1 h1 =>
  yB r n (env 0) v1 h1) = (K2 (s167 r n) 0 1) := by kernel_rfl
theorem dJs : D167 r n c167 x0 r167 = (K2 (s167 r n) 0 1) :=
 (cTo r n).trans
 ((cVc r n (yB r n)).trans (cMf r n))
theorem cYl : aF CF r n 167 args h = s167 r n (aS args 0) (aS args 1) h :=
 (by kernel_rfl : aF CF r n 167 args h = D167 r n c167 x0 r167 (aH args) h).trans ((congrFun (congrFun (dJs r n) (aH args)) h).trans (by kernel_rfl))
noncomputable def s168 (r : RT) (n : Nat) (x0 x1 x2 : DV) (h0 : Hp) : aJ :=
 bnd (aD .geq x0 x1 h0) fun v1 h1 =>
 bnd (gD v1 true (some (x0, h1)) h1) fun v2 h2 =>
 bnd (gD v1 true (some (x2, h2)) h2) fun v3 h3 =>
 bnd (gD v1 true (aD .leq v2 v3 h3) h3) fun v4 h4 =>
 bnd (aP v1 v4 (.b false) h4) fun v5 h5 =>
 some (v5, h5)
noncomputable abbrev c168 : Code := cf Tryz.f168
noncomputable abbrev r168 : K := aU CF Tryz.f168
noncomputable def D168 (r : RT) (n : Nat) (c : Code) (X : Nat → K) (k : K) : K := aM CF r 15 n c X r168 k
theorem dKe : D168 r n c168 x0 r168 = (K3 (s168 r n) 0 1 2) :=
 (by kernel_rfl)
theorem cRn : aF CF r n 168 args h = s168 r n (aS args 0) (aS args 1) (aS args 2) h :=
 (by kernel_rfl : aF CF r n 168 args h = D168 r n c168 x0 r168 (aH args) h).trans ((congrFun (congrFun (dKe r n) (aH args)) h).trans (by kernel_rfl))
noncomputable def s169 (r : RT) (n : Nat) (x0 x1 : DV) (h0 : Hp) : aJ :=
 bnd (r 187 [x0, x1] h0) fun v1 h1 =>
 bnd (aD .geq v1 (aE 0) h1) fun v2 h2 =>
 some (v2, h2)
noncomputable abbrev c169 : Code := cf Tryz.f169
noncomputable abbrev r169 : K := aU CF Tryz.f169
noncomputable def D169 (r : RT) (n : Nat) (c : Code) (X : Nat → K) (k : K) : K := aM CF r 9 n c X r169 k
theorem dHo : D169 r n c169 x0 r169 = (K2 (s169 r n) 0 1) :=
 (by kernel_rfl)
theorem dBc : aF CF r n 169 args h = s169 r n (aS args 0) (aS args 1) h :=
 (by kernel_rfl : aF CF r n 169 args h = D169 r n c169 x0 r169 (aH args) h).trans ((congrFun (congrFun (dHo r n) (aH args)) h).trans (by kernel_rfl))
noncomputable def s170 (r : RT) (n : Nat) (x0 : DV) (h0 : Hp) : aJ :=
 bnd (bS x0 h0) fun v1 h1 =>
 bnd (aK 4 v1 h1) fun v2 h2 =>
 bnd (r 171 [v2, (aE 20)] h2) fun v3 h3 =>
 bnd (gX .not v3 h3) fun v4 h4 =>
 some (v4, h4)
noncomputable abbrev c170 : Code := cf Tryz.f170
noncomputable abbrev r170 : K := aU CF Tryz.f170
noncomputable def D170 (r : RT) (n : Nat) (c : Code) (X : Nat → K) (k : K) : K := aM CF r 6 n c X r170 k
theorem dGx : D170 r n c170 x0 r170 = (K1 (s170 r n) 0) :=
 (by kernel_rfl)
theorem cUz : aF CF r n 170 args h = s170 r n (aS args 0) h :=
 (by kernel_rfl : aF CF r n 170 args h = D170 r n c170 x0 r170 (aH args) h).trans ((congrFun (congrFun (dGx r n) (aH args)) h).trans (by kernel_rfl))
noncomputable def s171 (r : RT) (n : Nat) (x0 x1 : DV) (h0 : Hp) : aJ :=
 bnd (bS x0 h0) fun v1 h1 =>
 bnd (bS x1 h1) fun v2 h2 =>
 bnd (aB 0 v1 h2) fun v3 h3 =>
 bnd (aA v3 h3) fun v4 h4 =>
 bnd (aD .eql v4 (aE 1) h4) fun v5 h5 =>
 aR v5 (
 bnd (aB 1 v1 h5) fun v6 h6 =>
 bnd (aA v6 h6) fun v7 h7 =>
 bnd (fM .eql v7 (.s []) h7) fun v8 h8 =>
 bnd (gD v8 true (aB 3 v1 h8) h8) fun v9 h9 =>
 bnd (gD v8 true (aA v9 h9) h9) fun v10 h10 =>
 bnd (gD v8 true (bZ v10 h10) h10) fun v11 h11 =>
 bnd (gD v8 true (aD .eql v11 (aE 0) h11) h11) fun v12 h12 =>
 bnd (aP v8 v12 (.b false) h12) fun v13 h13 =>
 bnd (gD v13 true (aB 2 v1 h13) h13) fun v14 h14 =>
 bnd (gD v13 true (aA v14 h14) h14) fun v15 h15 =>
 bnd (gD v13 true (r 168 [v15, (.i .i64 (Int.negSucc 1152921504606846975)), (aE 1152921504606846976)] h15) h15) fun v16 h16 =>
 bnd (aP v13 v16 (.b false) h16) fun v17 h17 =>
 some (v17, h17)) (
 bnd (aD .eql v4 (aE 2) h5) fun v18 h18 =>
 aR v18 (
 bnd (aB 2 v1 h18) fun v19 h19 =>
 bnd (aA v19 h19) fun v20 h20 =>
 bnd (aD .eql v20 (aE 0) h20) fun v21 h21 =>
 bnd (gD v21 true (aB 3 v1 h21) h21) fun v22 h22 =>
 bnd (gD v21 true (aA v22 h22) h22) fun v23 h23 =>
 bnd (gD v21 true (bZ v23 h23) h23) fun v24 h24 =>
 bnd (gD v21 true (aD .eql v24 (aE 0) h24) h24) fun v25 h25 =>
 bnd (aP v21 v25 (.b false) h25) fun v26 h26 =>
 bnd (gD v26 true (aB 1 v1 h26) h26) fun v27 h27 =>
 bnd (gD v26 true (aA v27 h27) h27) fun v28 h28 =>
 bnd (gD v26 true (dU v28 h28) h28) fun v29 h29 =>
 bnd (gD v26 true (aD .leq v29 (aE 250) h29) h29) fun v30 h30 =>
 bnd (aP v26 v30 (.b false) h30) fun v31 h31 =>
 some (v31, h31)) (
 bnd (aD .eql v4 (aE 3) h18) fun v32 h32 =>
 aR v32 (
 bnd (aB 2 v1 h32) fun v33 h33 =>
 bnd (aA v33 h33) fun v34 h34 =>
 bnd (aD .eql v34 (aE 0) h34) fun v35 h35 =>
 bnd (gD v35 true (aB 3 v1 h35) h35) fun v36 h36 =>
 bnd (gD v35 true (aA v36 h36) h36) fun v37 h37 =>
 bnd (gD v35 true (bZ v37 h37) h37) fun v38 h38 =>
 bnd (gD v35 true (aD .eql v38 (aE 0) h38) h38) fun v39 h39 =>
 bnd (aP v35 v39 (.b false) h39) fun v40 h40 =>
 bnd (gD v40 true (aB 1 v1 h40) h40) fun v41 h41 =>
 bnd (gD v40 true (aA v41 h41) h41) fun v42 h42 =>
 bnd (gD v40 true (dU v42 h42) h42) fun v43 h43 =>
 bnd (gD v40 true (r 168 [v43, (aE 1), (aE 60)] h43) h43) fun v44 h44 =>
 bnd (aP v40 v44 (.b false) h44) fun v45 h45 =>
 some (v45, h45)) (
 bnd (aD .eql v4 (aE 4) h32) fun v46 h46 =>
 aR v46 (
 bnd (aB 3 v1 h46) fun v47 h47 =>
 bnd (aA v47 h47) fun v48 h48 =>
 bnd (r 169 [v48, (.f 199 [] [v2])] h48) fun v49 h49 =>
 bnd (aB 2 v1 h49) fun v50 h50 =>
 bnd (aA v50 h50) fun v51 h51 =>
 bnd (aD .eql v51 (aE 0) h51) fun v52 h52 =>
 bnd (gD v52 true (aB 1 v1 h52) h52) fun v53 h53 =>
 bnd (gD v52 true (aA v53 h53) h53) fun v54 h54 =>
 bnd (gD v52 true (fM .eql v54 (.s []) h54) h54) fun v55 h55 =>
 bnd (aP v52 v55 (.b false) h55) fun v56 h56 =>
 bnd (gD v56 true (aA v2 h56) h56) fun v57 h57 =>
 bnd (gD v56 true (aD .gtr v57 (aE 0) h57) h57) fun v58 h58 =>
 bnd (aP v56 v58 (.b false) h58) fun v59 h59 =>
 bnd (gD v59 true (aB 3 v1 h59) h59) fun v60 h60 =>
 bnd (gD v59 true (aA v60 h60) h60) fun v61 h61 =>
 bnd (gD v59 true (bZ v61 h61) h61) fun v62 h62 =>
 bnd (gD v59 true (aD .leq v62 (aE 250) h62) h62) fun v63 h63 =>
 bnd (aP v59 v63 (.b false) h63) fun v64 h64 =>
 bnd (gD v64 true (some (v49, h64)) h64) fun v65 h65 =>
 bnd (gD v64 true (gX .not v65 h65) h65) fun v66 h66 =>
 bnd (aP v64 v66 (.b false) h66) fun v67 h67 =>
 some (v67, h67)) (
 some ((.b false), h46)))))
noncomputable abbrev c171 : Code := cf Tryz.f171
noncomputable abbrev r171 : K := aU CF Tryz.f171
noncomputable def D171 (r : RT) (n : Nat) (c : Code) (X : Nat → K) (k : K) : K := aM CF r 86 n c X r171 k
theorem dKf : D171 r n c171 x0 r171 = (K2 (s171 r n) 0 1) :=
 (by kernel_rfl)
theorem cVy : aF CF r n 171 args h = s171 r n (aS args 0) (aS args 1) h :=
 (by kernel_rfl : aF CF r n 171 args h = D171 r n c171 x0 r171 (aH args) h).trans ((congrFun (congrFun (dKf r n) (aH args)) h).trans (by kernel_rfl))
end Go.Dd

namespace Go.Dd
open Go.Proofs
variable (r : RT) (n : Nat) (args : List DV) (h : Hp)
noncomputable def bD (r : RT) (n : Nat) (h0 : Hp) : aJ :=
 some ((.b true), h0)
noncomputable def tF (r : RT) (n : Nat) (x2 x3 x4 x27 x51 : DV) (h0 : Hp) : aJ :=
 aR x51 (
 bnd (aB 1 x4 h0) fun v1 h1 =>
 bnd (aA v1 h1) fun v2 h2 =>
 bnd (aD .lss v2 x2 h2) fun v3 h3 =>
 some (v3, h3)) (
 bnd (aD .eql x27 (aE 18) h0) fun v4 h4 =>
 aR v4 (
 bnd (aB 2 x4 h4) fun v5 h5 =>
 bnd (aA v5 h5) fun v6 h6 =>
 bnd (aD .leq v6 (aE 4) h6) fun v7 h7 =>
 bnd (gD v7 true (aB 1 x4 h7) h7) fun v8 h8 =>
 bnd (gD v7 true (aA v8 h8) h8) fun v9 h9 =>
 bnd (gD v7 true (aB 2 x4 h9) h9) fun v10 h10 =>
 bnd (gD v7 true (aA v10 h10) h10) fun v11 h11 =>
 bnd (gD v7 true (aD .add v9 v11 h11) h11) fun v12 h12 =>
 bnd (gD v7 true (aB 2 x3 h12) h12) fun v13 h13 =>
 bnd (gD v7 true (aA v13 h13) h13) fun v14 h14 =>
 bnd (gD v7 true (aD .leq v12 v14 h14) h14) fun v15 h15 =>
 bnd (aP v7 v15 (.b false) h15) fun v16 h16 =>
 some (v16, h16)) (
   bD r n h4))
noncomputable def aZe (r : RT) (n : Nat) (x2 x3 x4 x27 : DV) (h0 : Hp) : aJ :=
 bnd (aD .eql x27 (aE 8) h0) fun v1 h1 =>
 aR v1 (
  tF r n x2 x3 x4 x27 v1 h1) (
 bnd (aD .eql x27 (aE 11) h1) fun v2 h2 =>
  tF r n x2 x3 x4 x27 v2 h2)
noncomputable def tE (r : RT) (n : Nat) (x2 x3 x4 x27 x43 : DV) (h0 : Hp) : aJ :=
 aR x43 (
 bnd (aB 1 x4 h0) fun v1 h1 =>
 bnd (aA v1 h1) fun v2 h2 =>
 bnd (aB 2 x3 h2) fun v3 h3 =>
 bnd (aA v3 h3) fun v4 h4 =>
 bnd (aD .lss v2 v4 h4) fun v5 h5 =>
 some (v5, h5)) (
  aZe r n x2 x3 x4 x27 h0)
noncomputable def aWh (r : RT) (n : Nat) (x2 x3 x4 x27 : DV) (h0 : Hp) : aJ :=
 bnd (aD .eql x27 (aE 7) h0) fun v1 h1 =>
 aR v1 (
  tE r n x2 x3 x4 x27 v1 h1) (
 bnd (aD .eql x27 (aE 10) h1) fun v2 h2 =>
  tE r n x2 x3 x4 x27 v2 h2)
noncomputable def sP (r : RT) (n : Nat) (x2 x3 x4 x8 x27 x34 : DV) (h0 : Hp) : aJ :=
 aR x34 (
 bnd (gD x8 true (aB 2 x4 h0) h0) fun v1 h1 =>
 bnd (gD x8 true (aA v1 h1) h1) fun v2 h2 =>
 bnd (gD x8 true (aD .leq v2 (aE 4) h2) h2) fun v3 h3 =>
 bnd (aP x8 v3 (.b false) h3) fun v4 h4 =>
 some (v4, h4)) (
  aWh r n x2 x3 x4 x27 h0)
noncomputable def bSs (r : RT) (n : Nat) (x2 x3 x4 x8 x27 : DV) (h0 : Hp) : aJ :=
 bnd (aD .eql x27 (aE 14) h0) fun v1 h1 =>
 aR v1 (
  sP r n x2 x3 x4 x8 x27 v1 h1) (
 bnd (aD .eql x27 (aE 15) h1) fun v2 h2 =>
  sP r n x2 x3 x4 x8 x27 v2 h2)
noncomputable def aTs (r : RT) (n : Nat) (x2 x3 x4 x8 x27 x31 : DV) (h0 : Hp) : aJ :=
 aR x31 (
 some (x8, h0)) (
  bSs r n x2 x3 x4 x8 x27 h0)
noncomputable def bLp (r : RT) (n : Nat) (x2 x3 x4 x8 x27 : DV) (h0 : Hp) : aJ :=
 bnd (aD .eql x27 (aE 9) h0) fun v1 h1 =>
  aTs r n x2 x3 x4 x8 x27 v1 h1
noncomputable def aQn (r : RT) (n : Nat) (x2 x3 x4 x7 x8 x27 x28 : DV) (h0 : Hp) : aJ :=
 aR x28 (
 some (x7, h0)) (
  bLp r n x2 x3 x4 x8 x27 h0)
noncomputable def aOd (r : RT) (n : Nat) (x2 x3 x4 x7 x8 x27 : DV) (h0 : Hp) : aJ :=
 bnd (aD .eql x27 (aE 6) h0) fun v1 h1 =>
  aQn r n x2 x3 x4 x7 x8 x27 v1 h1
noncomputable def aOe (r : RT) (n : Nat) (x2 x3 x4 x7 x8 : DV) (h0 : Hp) : aJ :=
 bnd (aB 0 x4 h0) fun v1 h1 =>
 bnd (aA v1 h1) fun v2 h2 =>
  aOd r n x2 x3 x4 x7 x8 v2 h2
noncomputable def aUl (r : RT) (n : Nat) (x2 x3 x4 x7 : DV) (h0 : Hp) : aJ :=
 bnd (gD x7 true (aB 4 x3 h0) h0) fun v1 h1 =>
 bnd (gD x7 true (aA v1 h1) h1) fun v2 h2 =>
 bnd (gD x7 true (aB 1 x4 h2) h2) fun v3 h3 =>
 bnd (gD x7 true (aA v3 h3) h3) fun v4 h4 =>
 bnd (gD x7 true (aI 4 v2 v4 h4) h4) fun v5 h5 =>
 bnd (gD x7 true (aB 0 v5 h5) h5) fun v6 h6 =>
 bnd (gD x7 true (aA v6 h6) h6) fun v7 h7 =>
 bnd (gD x7 true (aD .eql v7 (aE 3) h7) h7) fun v8 h8 =>
 bnd (aP x7 v8 (.b false) h8) fun v9 h9 =>
  aOe r n x2 x3 x4 x7 v9 h9
noncomputable def vU (r : RT) (n : Nat) (x2 x3 x4 : DV) (h0 : Hp) : aJ :=
 bnd (aB 1 x4 h0) fun v1 h1 =>
 bnd (aA v1 h1) fun v2 h2 =>
 bnd (aB 4 x3 h2) fun v3 h3 =>
 bnd (aA v3 h3) fun v4 h4 =>
 bnd (bZ v4 h4) fun v5 h5 =>
 bnd (aD .lss v2 v5 h5) fun v6 h6 =>
  aUl r n x2 x3 x4 v6 h6
noncomputable def s172 (r : RT) (n : Nat) (x0 x1 x2 : DV) (h0 : Hp) : aJ :=
 bnd (bS x0 h0) fun v1 h1 =>
 bnd (bS x1 h1) fun v2 h2 =>
  vU r n x2 v1 v2 h2
noncomputable abbrev c172 : Code := cf Tryz.f172
noncomputable abbrev aEb : Code := cR c172
noncomputable abbrev aCc : Code := cR aEb
noncomputable abbrev aFy : Code := cR aCc
noncomputable abbrev dBu : Code := cR aFy
noncomputable abbrev xI : Code := cL aFy
noncomputable abbrev aPd : Code := cR xI
noncomputable abbrev aFk : Code := cL aPd
noncomputable abbrev yX : Code := cR aFk
noncomputable abbrev wB : Code := cR yX
noncomputable abbrev pR : Code := cR wB
noncomputable abbrev pD : Code := cR pR
noncomputable abbrev pI : Code := cR pD
noncomputable abbrev pF : Code := cR pI
noncomputable abbrev pT : Code := cR pF
noncomputable abbrev qB : Code := cR pT
noncomputable abbrev cCy : Code := cR qB
noncomputable abbrev aWq : Code := cL qB
noncomputable abbrev cBm : Code := cL pT
noncomputable abbrev aZm : Code := cL pF
noncomputable abbrev cBw : Code := cL pI
noncomputable abbrev bBj : Code := cL pD
noncomputable abbrev cOc : Code := cL pR
noncomputable abbrev aYo : Code := cL wB
noncomputable abbrev cBj : Code := cL yX
noncomputable abbrev aWr : Code := cL aFk
noncomputable abbrev aWz : Code := cL xI
noncomputable abbrev bAs : Code := cL aCc
noncomputable abbrev aVg : Code := cL aEb
noncomputable abbrev aJh : Code := cL c172
noncomputable abbrev r172 : K := aU CF Tryz.f172
noncomputable def D172 (r : RT) (n : Nat) (c : Code) (X : Nat → K) (k : K) : K := aM CF r 73 n c X r172 k
theorem cCu : D172 r n dBu x0 r172 = (K0 (bD r n)) :=
 (by kernel_rfl)
theorem bMv : D172 r n cCy (xs x0 0 (K0 (bD r n))) (K0 (bD r n)) = (K5 (tF r n) 2 3 4 27 51) :=
 (by kernel_rfl)
theorem bDg : D172 r n qB (xs x0 0 (K0 (bD r n))) (K0 (bD r n)) = D172 r n aWq (xs x0 0 (K0 (bD r n))) (K5 (tF r n) 2 3 4 27 51) :=
 congrArg (fun k => D172 r n aWq (xs x0 0 (K0 (bD r n))) k) (bMv r n)
theorem bWt : D172 r n qB (xs x0 0 (K0 (bD r n))) (K0 (bD r n)) = (K4 (aZe r n) 2 3 4 27) :=
 (bDg r n).trans
 ((by kernel_rfl))
theorem bOa : D172 r n pT (xs x0 0 (K0 (bD r n))) (K0 (bD r n)) = (K5 (tE r n) 2 3 4 27 43) :=
 (by kernel_rfl : D172 r n pT (xs x0 0 (K0 (bD r n))) (K0 (bD r n)) = (fun (env : aZ) (h : Hp) => aR (opr env (cC pT)) (D172 r n cBm (xs x0 0 (K0 (bD r n))) (K0 (bD r n)) env h) (D172 r n qB (xs x0 0 (K0 (bD r n))) (K0 (bD r n)) env h))).trans (by rw [bWt r n]; kernel_rfl)
theorem bGa : D172 r n pF (xs x0 0 (K0 (bD r n))) (K0 (bD r n)) = D172 r n aZm (xs x0 0 (K0 (bD r n))) (K5 (tE r n) 2 3 4 27 43) :=
 congrArg (fun k => D172 r n aZm (xs x0 0 (K0 (bD r n))) k) (bOa r n)
theorem bNo : D172 r n pF (xs x0 0 (K0 (bD r n))) (K0 (bD r n)) = (K4 (aWh r n) 2 3 4 27) :=
 (bGa r n).trans
 ((by kernel_rfl))
theorem bPd : D172 r n pI (xs x0 0 (K0 (bD r n))) (K0 (bD r n)) = (K6 (sP r n) 2 3 4 8 27 34) :=
 (by kernel_rfl : D172 r n pI (xs x0 0 (K0 (bD r n))) (K0 (bD r n)) = (fun (env : aZ) (h : Hp) => aR (opr env (cC pI)) (D172 r n cBw (xs x0 0 (K0 (bD r n))) (K0 (bD r n)) env h) (D172 r n pF (xs x0 0 (K0 (bD r n))) (K0 (bD r n)) env h))).trans (by rw [bNo r n]; kernel_rfl)
theorem bYo : D172 r n pD (xs x0 0 (K0 (bD r n))) (K0 (bD r n)) = D172 r n bBj (xs x0 0 (K0 (bD r n))) (K6 (sP r n) 2 3 4 8 27 34) :=
 congrArg (fun k => D172 r n bBj (xs x0 0 (K0 (bD r n))) k) (bPd r n)
theorem cHt : D172 r n pD (xs x0 0 (K0 (bD r n))) (K0 (bD r n)) = (K5 (bSs r n) 2 3 4 8 27) :=
 (bYo r n).trans
 ((by kernel_rfl))
theorem cEx : D172 r n pR (xs x0 0 (K0 (bD r n))) (K0 (bD r n)) = (K6 (aTs r n) 2 3 4 8 27 31) :=
 (by kernel_rfl : D172 r n pR (xs x0 0 (K0 (bD r n))) (K0 (bD r n)) = (fun (env : aZ) (h : Hp) => aR (opr env (cC pR)) (D172 r n cOc (xs x0 0 (K0 (bD r n))) (K0 (bD r n)) env h) (D172 r n pD (xs x0 0 (K0 (bD r n))) (K0 (bD r n)) env h))).trans (by rw [cHt r n]; kernel_rfl)
theorem bKz : D172 r n wB (xs x0 0 (K0 (bD r n))) (K0 (bD r n)) = D172 r n aYo (xs x0 0 (K0 (bD r n))) (K6 (aTs r n) 2 3 4 8 27 31) :=
 congrArg (fun k => D172 r n aYo (xs x0 0 (K0 (bD r n))) k) (cEx r n)
theorem cHn : D172 r n wB (xs x0 0 (K0 (bD r n))) (K0 (bD r n)) = (K5 (bLp r n) 2 3 4 8 27) :=
 (bKz r n).trans
 ((by kernel_rfl))
theorem cKr : D172 r n yX (xs x0 0 (K0 (bD r n))) (K0 (bD r n)) = (K7 (aQn r n) 2 3 4 7 8 27 28) :=
 (by kernel_rfl : D172 r n yX (xs x0 0 (K0 (bD r n))) (K0 (bD r n)) = (fun (env : aZ) (h : Hp) => aR (opr env (cC yX)) (D172 r n cBj (xs x0 0 (K0 (bD r n))) (K0 (bD r n)) env h) (D172 r n wB (xs x0 0 (K0 (bD r n))) (K0 (bD r n)) env h))).trans (by rw [cHn r n]; kernel_rfl)
theorem bNg : D172 r n aFk (xs x0 0 (K0 (bD r n))) (K0 (bD r n)) = D172 r n aWr (xs x0 0 (K0 (bD r n))) (K7 (aQn r n) 2 3 4 7 8 27 28) :=
 congrArg (fun k => D172 r n aWr (xs x0 0 (K0 (bD r n))) k) (cKr r n)
theorem cHp : D172 r n aPd x0 (K0 (bD r n)) = (K6 (aOd r n) 2 3 4 7 8 27) :=
 (by kernel_rfl : D172 r n aPd x0 (K0 (bD r n)) = D172 r n aFk (xs x0 0 (K0 (bD r n))) (K0 (bD r n))).trans
 ((bNg r n).trans
 ((by kernel_rfl)))
theorem bXq : D172 r n aFy x0 r172 = D172 r n xI x0 (K0 (bD r n)) :=
 congrArg (fun k => D172 r n xI x0 k) (cCu r n)
theorem cAu : D172 r n xI x0 (K0 (bD r n)) = D172 r n aWz x0 (K6 (aOd r n) 2 3 4 7 8 27) :=
 congrArg (fun k => D172 r n aWz x0 k) (cHp r n)
theorem cMh : D172 r n aFy x0 r172 = (K5 (aOe r n) 2 3 4 7 8) :=
 (bXq r n).trans
 ((cAu r n).trans
 ((by kernel_rfl)))
theorem bKt : D172 r n aCc x0 r172 = D172 r n bAs x0 (K5 (aOe r n) 2 3 4 7 8) :=
 congrArg (fun k => D172 r n bAs x0 k) (cMh r n)
theorem cLv : D172 r n aCc x0 r172 = (K4 (aUl r n) 2 3 4 7) :=
 (bKt r n).trans
 ((by kernel_rfl))
theorem bQy : D172 r n aEb x0 r172 = D172 r n aVg x0 (K4 (aUl r n) 2 3 4 7) :=
 congrArg (fun k => D172 r n aVg x0 k) (cLv r n)
theorem cGk : D172 r n aEb x0 r172 = (K3 (vU r n) 2 3 4) :=
 (bQy r n).trans
 ((by kernel_rfl))
theorem cOb : D172 r n c172 x0 r172 = D172 r n aJh x0 (K3 (vU r n) 2 3 4) :=
 congrArg (fun k => D172 r n aJh x0 k) (cGk r n)
theorem cMb (q0 : mW) : D172 r n aJh x0 (K3 q0 2 3 4) = fun (env : aZ) (h : Hp) =>
 bnd (bS (env 0) h) fun v1 h1 =>
 bnd (bS (env 1) h1) fun v2 h2 =>
  q0 (env 2) v1 v2 h2 := by kernel_rfl
theorem bQe : (fun (env : aZ) (h : Hp) =>
 bnd (bS (env 0) h) fun v1 h1 =>
 bnd (bS (env 1) h1) fun v2 h2 =>
  vU r n (env 2) v1 v2 h2) = (K3 (s172 r n) 0 1 2) := by kernel_rfl
theorem dHe : D172 r n c172 x0 r172 = (K3 (s172 r n) 0 1 2) :=
 (cOb r n).trans
 ((cMb r n (vU r n)).trans (bQe r n))
theorem cZl : aF CF r n 172 args h = s172 r n (aS args 0) (aS args 1) (aS args 2) h :=
 (by kernel_rfl : aF CF r n 172 args h = D172 r n c172 x0 r172 (aH args) h).trans ((congrFun (congrFun (dHe r n) (aH args)) h).trans (by kernel_rfl))
noncomputable def eQ (r : RT) (n : Nat) (x3 : DV) (h0 : Hp) : aJ :=
 some (x3, h0)
noncomputable def aZz (r : RT) (n : Nat) (kk6 : dL) (x3 x4 x11 x12 : DV) (h0 : Hp) : aJ :=
 bnd (aD .lss x12 x11 h0) fun v1 h1 =>
 aR v1 (
 bnd (cX CF r x4 [x12] h1) fun v2 h2 =>
 bnd (aI 1 x3 x12 h2) fun v3 h3 =>
 bnd (aG 1 v3 v2 h3) fun _ h4 =>
 bnd (aD .add x12 (aE 1) h4) fun v5 h5 =>
      kk6 x3 x4 x11 v5 h5) (
      eQ r n x3 h1)
noncomputable def tL (r : RT) (n : Nat) (m : Nat) : dL :=
 Nat.rec (motive := fun _ => dL) (fun _ _ _ _ _ => none) (fun _ ih => aZz r n ih) m
noncomputable def bZo (r : RT) (n : Nat) : dL := tL r n n
noncomputable def aTj (r : RT) (n : Nat) (x3 x4 x11 x12 : DV) (h0 : Hp) : aJ :=
 bZo r n x3 x4 x11 x12 h0
noncomputable def aTk (r : RT) (n : Nat) (x1 x3 x4 : DV) (h0 : Hp) : aJ :=
 bnd (aA x1 h0) fun v1 h1 =>
 bnd (bZ v1 h1) fun v2 h2 =>
  aTj r n x3 x4 v2 (aE 0) h2
noncomputable def vF (r : RT) (n : Nat) (x1 x3 : DV) (h0 : Hp) : aJ :=
 aTk r n x1 x3 (.f 200 [] [x1]) h0
noncomputable def qN (r : RT) (n : Nat) (x1 : DV) (h0 : Hp) : aJ :=
 bnd (aA x1 h0) fun v1 h1 =>
 bnd (bZ v1 h1) fun v2 h2 =>
 bnd (cK 1 8 [(aE 0)] v2 v2 h2) fun v3 h3 =>
  vF r n x1 v3 h3
noncomputable def s173 (r : RT) (n : Nat) (x0 : DV) (h0 : Hp) : aJ :=
 bnd (bS x0 h0) fun v1 h1 =>
  qN r n v1 h1
noncomputable abbrev c173 : Code := cf Tryz.f173
noncomputable abbrev aFr : Code := cR c173
noncomputable abbrev aJy : Code := cR aFr
noncomputable abbrev aCm : Code := cR aJy
noncomputable abbrev cXz : Code := cR aCm
noncomputable abbrev xP : Code := cL aCm
noncomputable abbrev aTh : Code := cR xP
noncomputable abbrev aFs : Code := cL aTh
noncomputable abbrev oT : Code := cL aFs
noncomputable abbrev bWm : Code := cL xP
noncomputable abbrev aXp : Code := cL aJy
noncomputable abbrev aBe : Code := cL aFr
noncomputable abbrev aIf : Code := cL c173
noncomputable abbrev r173 : K := aU CF Tryz.f173
noncomputable def D173 (r : RT) (n : Nat) (c : Code) (X : Nat → K) (k : K) : K := aM CF r 23 n c X r173 k
theorem cMs : D173 r n cXz x0 r173 = (K1 (eQ r n) 3) :=
 (by kernel_rfl)
theorem bWo (kk6 : dL) : D173 r n oT (xs x0 0 (K1 (eQ r n) 3)) (K4 kk6 3 4 11 12) = (K4 (aZz r n kk6) 3 4 11 12) :=
 (by kernel_rfl)
theorem bVv (m : Nat) : aO (fun kk => D173 r n oT (xs x0 0 (K1 (eQ r n) 3)) kk) m = (K4 (tL r n m) 3 4 11 12) := by
 induction m with
 | zero => exact (by kernel_rfl : aO (fun kk => D173 r n oT (xs x0 0 (K1 (eQ r n) 3)) kk) 0 = (K4 (tL r n 0) 3 4 11 12))
 | succ m ih =>
  refine (by kernel_rfl : aO (fun kk => D173 r n oT (xs x0 0 (K1 (eQ r n) 3)) kk) (m + 1) = D173 r n oT (xs x0 0 (K1 (eQ r n) 3)) (aO (fun kk => D173 r n oT (xs x0 0 (K1 (eQ r n) 3)) kk) m)).trans ?_
  rw [ih]
  exact (bWo r n (tL r n m)).trans (by kernel_rfl)
theorem cIh : D173 r n aFs (xs x0 0 (K1 (eQ r n) 3)) (K1 (eQ r n) 3) = (K4 (bZo r n) 3 4 11 12) :=
 (by kernel_rfl : D173 r n aFs (xs x0 0 (K1 (eQ r n) 3)) (K1 (eQ r n) 3) = aO (fun kk => D173 r n oT (xs x0 0 (K1 (eQ r n) 3)) kk) n).trans ((bVv r n n).trans (by kernel_rfl))
theorem cFe : D173 r n aTh x0 (K1 (eQ r n) 3) = (K4 (aTj r n) 3 4 11 12) :=
 (by kernel_rfl : D173 r n aTh x0 (K1 (eQ r n) 3) = D173 r n aFs (xs x0 0 (K1 (eQ r n) 3)) (K1 (eQ r n) 3)).trans
 ((cIh r n).trans (by kernel_rfl))
theorem bTs : D173 r n aCm x0 r173 = D173 r n xP x0 (K1 (eQ r n) 3) :=
 congrArg (fun k => D173 r n xP x0 k) (cMs r n)
theorem bQr : D173 r n xP x0 (K1 (eQ r n) 3) = D173 r n bWm x0 (K4 (aTj r n) 3 4 11 12) :=
 congrArg (fun k => D173 r n bWm x0 k) (cFe r n)
theorem cMt : D173 r n aCm x0 r173 = (K3 (aTk r n) 1 3 4) :=
 (bTs r n).trans
 ((bQr r n).trans
 ((by kernel_rfl)))
theorem bSm : D173 r n aJy x0 r173 = D173 r n aXp x0 (K3 (aTk r n) 1 3 4) :=
 congrArg (fun k => D173 r n aXp x0 k) (cMt r n)
theorem cBa : D173 r n aJy x0 r173 = (K2 (vF r n) 1 3) :=
 (bSm r n).trans
 ((by kernel_rfl))
theorem bHy : D173 r n aFr x0 r173 = D173 r n aBe x0 (K2 (vF r n) 1 3) :=
 congrArg (fun k => D173 r n aBe x0 k) (cBa r n)
theorem bKw (q0 : oU) : D173 r n aBe x0 (K2 q0 1 3) = fun (env : aZ) (h : Hp) =>
 bnd (aA (env 1) h) fun v1 h1 =>
 bnd (bZ v1 h1) fun v2 h2 =>
 bnd (cK 1 8 [(aE 0)] v2 v2 h2) fun v3 h3 =>
  q0 (env 1) v3 h3 := by kernel_rfl
theorem bCu : (fun (env : aZ) (h : Hp) =>
 bnd (aA (env 1) h) fun v1 h1 =>
 bnd (bZ v1 h1) fun v2 h2 =>
 bnd (cK 1 8 [(aE 0)] v2 v2 h2) fun v3 h3 =>
  vF r n (env 1) v3 h3) = (K1 (qN r n) 1) := by kernel_rfl
theorem cOf : D173 r n aFr x0 r173 = (K1 (qN r n) 1) :=
 (bHy r n).trans
 ((bKw r n (vF r n)).trans (bCu r n))
theorem cWc : D173 r n c173 x0 r173 = D173 r n aIf x0 (K1 (qN r n) 1) :=
 congrArg (fun k => D173 r n aIf x0 k) (cOf r n)
theorem cYw (q0 : TT1) : D173 r n aIf x0 (K1 q0 1) = fun (env : aZ) (h : Hp) =>
 bnd (bS (env 0) h) fun v1 h1 =>
  q0 v1 h1 := by kernel_rfl
theorem cBn : (fun (env : aZ) (h : Hp) =>
 bnd (bS (env 0) h) fun v1 h1 =>
  qN r n v1 h1) = (K1 (s173 r n) 0) := by kernel_rfl
theorem dEv : D173 r n c173 x0 r173 = (K1 (s173 r n) 0) :=
 (cWc r n).trans
 ((cYw r n (qN r n)).trans (cBn r n))
theorem dBm : aF CF r n 173 args h = s173 r n (aS args 0) h :=
 (by kernel_rfl : aF CF r n 173 args h = D173 r n c173 x0 r173 (aH args) h).trans ((congrFun (congrFun (dEv r n) (aH args)) h).trans (by kernel_rfl))
noncomputable def bI (r : RT) (n : Nat) (h0 : Hp) : aJ :=
 some ((.b true), h0)
noncomputable def cI (r : RT) (n : Nat) (kk4 : cF) (x0 x1 x11 x12 x13 : DV) (h0 : Hp) : aJ :=
 bnd (aD .add x13 (aE 1) h0) fun v1 h1 =>
  kk4 x0 x1 x11 x12 v1 h1
noncomputable def fT (r : RT) (n : Nat) (kk4 : cF) (x0 x1 x5 x6 x11 x12 x13 : DV) (h0 : Hp) : aJ :=
 bnd (aK 3 x6 h0) fun v1 h1 =>
 bnd (r 202 [v1] h1) fun v2 h2 =>
 bnd (aD .geq v2 (aE 0) h2) fun v3 h3 =>
 bnd (gD v3 true (some (v2, h3)) h3) fun v4 h4 =>
 bnd (gD v3 true (some (x0, h4)) h4) fun v5 h5 =>
 bnd (gD v3 true (bZ v5 h5) h5) fun v6 h6 =>
 bnd (gD v3 true (aD .geq v4 v6 h6) h6) fun v7 h7 =>
 bnd (gD v3 true (some (v7, h7)) h7) fun v8 h8 =>
 bnd (gD v8 false (some (x1, h8)) h8) fun v9 h9 =>
 bnd (gD v8 false (some (v2, h9)) h9) fun v10 h10 =>
 bnd (gD v8 false (aI 1 v9 v10 h10) h10) fun v11 h11 =>
 bnd (gD v8 false (aA v11 h11) h11) fun v12 h12 =>
 bnd (gD v8 false (some (x1, h12)) h12) fun v13 h13 =>
 bnd (gD v8 false (some (x5, h13)) h13) fun v14 h14 =>
 bnd (gD v8 false (aI 1 v13 v14 h14) h14) fun v15 h15 =>
 bnd (gD v8 false (aA v15 h15) h15) fun v16 h16 =>
 bnd (gD v8 false (aD .neq v12 v16 h16) h16) fun v17 h17 =>
 bnd (gD v3 true (aP v8 (.b true) v17 h17) h17) fun v18 h18 =>
 bnd (aP v3 v18 (.b false) h18) fun v19 h19 =>
 aR v19 (
 some ((.b false), h19)) (
  cI r n kk4 x0 x1 x11 x12 x13 h19)
noncomputable def uD (r : RT) (n : Nat) (kk4 : cF) (x0 x1 x5 x6 x7 x8 x9 x11 x12 x13 : DV) (h0 : Hp) : aJ :=
 bnd (gX .not x8 h0) fun v1 h1 =>
 bnd (gD v1 false (some (x7, h1)) h1) fun v2 h2 =>
 bnd (gD v1 false (some (x9, h2)) h2) fun v3 h3 =>
 bnd (gD v1 false (aD .gtr v2 v3 h3) h3) fun v4 h4 =>
 bnd (aP v1 (.b true) v4 h4) fun v5 h5 =>
 aR v5 (
 some ((.b false), h5)) (
  fT r n kk4 x0 x1 x5 x6 x11 x12 x13 h5)
noncomputable def aIi (r : RT) (n : Nat) (kk4 : cF) (x0 x1 x5 x6 x7 x8 x9 x11 x12 x13 : DV) (h0 : Hp) : aJ :=
 bnd (aI 1 x1 x5 h0) fun v1 h1 =>
 bnd (aA v1 h1) fun v2 h2 =>
 bnd (aD .geq v2 (aE 0) h2) fun v3 h3 =>
 aR v3 (
 bnd (aI 1 x1 x5 h3) fun v4 h4 =>
 bnd (aA v4 h4) fun v5 h5 =>
 bnd (r 201 [x0, v5] h5) fun v6 h6 =>
 bnd (aC 0 v6 h6) fun v7 h7 =>
 bnd (aC 1 v6 h7) fun v8 h8 =>
  uD r n kk4 x0 x1 x5 x6 x7 x8 v7 x11 x12 x13 h8) (
  uD r n kk4 x0 x1 x5 x6 x7 x8 x9 x11 x12 x13 h3)
noncomputable def aGu (r : RT) (n : Nat) (kk4 : cF) (x0 x1 x5 x6 x7 x8 x11 x12 x13 : DV) (h0 : Hp) : aJ :=
 bnd (bZ x0 h0) fun v1 h1 =>
  aIi r n kk4 x0 x1 x5 x6 x7 x8 v1 x11 x12 x13 h1
noncomputable def bAp (r : RT) (n : Nat) (kk4 : cF) (x0 x1 x5 x6 x11 x12 x13 : DV) (h0 : Hp) : aJ :=
 bnd (r 201 [x0, x5] h0) fun v1 h1 =>
 bnd (aC 0 v1 h1) fun v2 h2 =>
 bnd (aC 1 v1 h2) fun v3 h3 =>
  aGu r n kk4 x0 x1 x5 x6 v2 v3 x11 x12 x13 h3
noncomputable def aHw (r : RT) (n : Nat) (kk4 : cF) (x0 x1 x5 x6 x11 x12 x13 x20 : DV) (h0 : Hp) : aJ :=
 aR x20 (
  bAp r n kk4 x0 x1 x5 x6 x11 x12 x13 h0) (
  fT r n kk4 x0 x1 x5 x6 x11 x12 x13 h0)
noncomputable def wH (r : RT) (n : Nat) (kk4 : cF) (x0 x1 x5 x6 x11 x12 x13 : DV) (h0 : Hp) : aJ :=
 bnd (aB 0 x6 h0) fun v1 h1 =>
 bnd (aA v1 h1) fun v2 h2 =>
 bnd (aD .eql v2 (aE 18) h2) fun v3 h3 =>
  aHw r n kk4 x0 x1 x5 x6 x11 x12 x13 v3 h3
noncomputable def aIj (r : RT) (n : Nat) (kk4 : cF) (x0 x1 x11 x12 x13 : DV) (h0 : Hp) : aJ :=
 bnd (aI 3 x11 x13 h0) fun v1 h1 =>
 bnd (aK 3 v1 h1) fun v2 h2 =>
 bnd (bM [(aE 0), (aE 0), (aE 0)] h2) fun v3 h3 =>
 bnd (aG 3 v3 v2 h3) fun _ h4 =>
  wH r n kk4 x0 x1 x13 v3 x11 x12 x13 h4
noncomputable def aPx (r : RT) (n : Nat) (kk4 : cF) (x0 x1 x11 x12 x13 x14 : DV) (h0 : Hp) : aJ :=
 aR x14 (
  aIj r n kk4 x0 x1 x11 x12 x13 h0) (
  bI r n h0)
noncomputable def aYk (r : RT) (n : Nat) (kk4 : cF) (x0 x1 x11 x12 x13 : DV) (h0 : Hp) : aJ :=
 bnd (aD .lss x13 x12 h0) fun v1 h1 =>
  aPx r n kk4 x0 x1 x11 x12 x13 v1 h1
noncomputable def uG (r : RT) (n : Nat) (m : Nat) : cF :=
 Nat.rec (motive := fun _ => cF) (fun _ _ _ _ _ _ => none) (fun _ ih => aYk r n ih) m
noncomputable def bPc (r : RT) (n : Nat) : cF := uG r n n
noncomputable def aOh (r : RT) (n : Nat) (x0 x1 x11 x12 x13 : DV) (h0 : Hp) : aJ :=
 bPc r n x0 x1 x11 x12 x13 h0
noncomputable def aUj (r : RT) (n : Nat) (x0 x1 : DV) (h0 : Hp) : aJ :=
 bnd (bZ x0 h0) fun v1 h1 =>
  aOh r n x0 x1 x0 v1 (aE 0) h1
noncomputable def s174 (r : RT) (n : Nat) (x0 x1 : DV) (h0 : Hp) : aJ :=
 aUj r n x0 x1 h0
noncomputable abbrev c174 : Code := cf Tryz.f174
noncomputable abbrev aDd : Code := cR c174
noncomputable abbrev cTa : Code := cR aDd
noncomputable abbrev zD : Code := cL aDd
noncomputable abbrev aRy : Code := cR zD
noncomputable abbrev aHm : Code := cL aRy
noncomputable abbrev kD : Code := cL aHm
noncomputable abbrev aDq : Code := cR kD
noncomputable abbrev aHx : Code := cR aDq
noncomputable abbrev cYm : Code := cR aHx
noncomputable abbrev tY : Code := cL aHx
noncomputable abbrev uA : Code := cL tY
noncomputable abbrev tB : Code := cR uA
noncomputable abbrev cNf : Code := cR tB
noncomputable abbrev pX : Code := cL tB
noncomputable abbrev pP : Code := cR pX
noncomputable abbrev pO : Code := cL pP
noncomputable abbrev tG : Code := cR pO
noncomputable abbrev uO : Code := cR tG
noncomputable abbrev cPb : Code := cR uO
noncomputable abbrev aZw : Code := cL uO
noncomputable abbrev bAi : Code := cL tG
noncomputable abbrev aWk : Code := cL pO
noncomputable abbrev cPm : Code := cR pP
noncomputable abbrev aVm : Code := cL pX
noncomputable abbrev aIc : Code := cL uA
noncomputable abbrev bAu : Code := cL aDq
noncomputable abbrev aYq : Code := cL kD
noncomputable abbrev aVj : Code := cL zD
noncomputable abbrev aXr : Code := cL c174
noncomputable abbrev r174 : K := aU CF Tryz.f174
noncomputable def D174 (r : RT) (n : Nat) (c : Code) (X : Nat → K) (k : K) : K := aM CF r 72 n c X r174 k
theorem cJy : D174 r n cTa x0 r174 = (K0 (bI r n)) :=
 (by kernel_rfl)
theorem cKj (kk4 : cF) : D174 r n cYm (xs x0 0 (K0 (bI r n))) (K5 kk4 0 1 11 12 13) = (K5 (cI r n kk4) 0 1 11 12 13) :=
 (by kernel_rfl)
theorem cMy (kk4 : cF) : D174 r n cNf (xs (xs x0 0 (K0 (bI r n))) 1 (K5 (cI r n kk4) 0 1 11 12 13)) (K5 (cI r n kk4) 0 1 11 12 13) = (K7 (fT r n kk4) 0 1 5 6 11 12 13) :=
 (by kernel_rfl)
theorem bUz (kk4 : cF) : D174 r n cPb (xs (xs x0 0 (K0 (bI r n))) 1 (K5 (cI r n kk4) 0 1 11 12 13)) (K7 (fT r n kk4) 0 1 5 6 11 12 13) = (K10 (uD r n kk4) 0 1 5 6 7 8 9 11 12 13) :=
 (by kernel_rfl)
theorem bEk (kk4 : cF) : D174 r n uO (xs (xs x0 0 (K0 (bI r n))) 1 (K5 (cI r n kk4) 0 1 11 12 13)) (K7 (fT r n kk4) 0 1 5 6 11 12 13) = D174 r n aZw (xs (xs x0 0 (K0 (bI r n))) 1 (K5 (cI r n kk4) 0 1 11 12 13)) (K10 (uD r n kk4) 0 1 5 6 7 8 9 11 12 13) :=
 congrArg (fun k => D174 r n aZw (xs (xs x0 0 (K0 (bI r n))) 1 (K5 (cI r n kk4) 0 1 11 12 13)) k) (bUz r n kk4)
theorem bSi (kk4 : cF) : D174 r n uO (xs (xs x0 0 (K0 (bI r n))) 1 (K5 (cI r n kk4) 0 1 11 12 13)) (K7 (fT r n kk4) 0 1 5 6 11 12 13) = (K10 (aIi r n kk4) 0 1 5 6 7 8 9 11 12 13) :=
 (bEk r n kk4).trans
 ((by kernel_rfl))
theorem bEs (kk4 : cF) : D174 r n tG (xs (xs x0 0 (K0 (bI r n))) 1 (K5 (cI r n kk4) 0 1 11 12 13)) (K7 (fT r n kk4) 0 1 5 6 11 12 13) = D174 r n bAi (xs (xs x0 0 (K0 (bI r n))) 1 (K5 (cI r n kk4) 0 1 11 12 13)) (K10 (aIi r n kk4) 0 1 5 6 7 8 9 11 12 13) :=
 congrArg (fun k => D174 r n bAi (xs (xs x0 0 (K0 (bI r n))) 1 (K5 (cI r n kk4) 0 1 11 12 13)) k) (bSi r n kk4)
theorem bLn (kk4 : cF) : D174 r n tG (xs (xs x0 0 (K0 (bI r n))) 1 (K5 (cI r n kk4) 0 1 11 12 13)) (K7 (fT r n kk4) 0 1 5 6 11 12 13) = (K9 (aGu r n kk4) 0 1 5 6 7 8 11 12 13) :=
 (bEs r n kk4).trans
 ((by kernel_rfl))
theorem bDh (kk4 : cF) : D174 r n pO (xs (xs x0 0 (K0 (bI r n))) 1 (K5 (cI r n kk4) 0 1 11 12 13)) (K7 (fT r n kk4) 0 1 5 6 11 12 13) = D174 r n aWk (xs (xs x0 0 (K0 (bI r n))) 1 (K5 (cI r n kk4) 0 1 11 12 13)) (K9 (aGu r n kk4) 0 1 5 6 7 8 11 12 13) :=
 congrArg (fun k => D174 r n aWk (xs (xs x0 0 (K0 (bI r n))) 1 (K5 (cI r n kk4) 0 1 11 12 13)) k) (bLn r n kk4)
theorem bZf (kk4 : cF) : D174 r n pO (xs (xs x0 0 (K0 (bI r n))) 1 (K5 (cI r n kk4) 0 1 11 12 13)) (K7 (fT r n kk4) 0 1 5 6 11 12 13) = (K7 (bAp r n kk4) 0 1 5 6 11 12 13) :=
 (bDh r n kk4).trans
 ((by kernel_rfl))
theorem bQx (kk4 : cF) : D174 r n pP (xs (xs x0 0 (K0 (bI r n))) 1 (K5 (cI r n kk4) 0 1 11 12 13)) (K7 (fT r n kk4) 0 1 5 6 11 12 13) = (K8 (aHw r n kk4) 0 1 5 6 11 12 13 20) :=
 (by kernel_rfl : D174 r n pP (xs (xs x0 0 (K0 (bI r n))) 1 (K5 (cI r n kk4) 0 1 11 12 13)) (K7 (fT r n kk4) 0 1 5 6 11 12 13) = (fun (env : aZ) (h : Hp) => aR (opr env (cC pP)) (D174 r n pO (xs (xs x0 0 (K0 (bI r n))) 1 (K5 (cI r n kk4) 0 1 11 12 13)) (K7 (fT r n kk4) 0 1 5 6 11 12 13) env h) (D174 r n cPm (xs (xs x0 0 (K0 (bI r n))) 1 (K5 (cI r n kk4) 0 1 11 12 13)) (K7 (fT r n kk4) 0 1 5 6 11 12 13) env h))).trans (by rw [bZf r n kk4]; kernel_rfl)
theorem bPk (kk4 : cF) : D174 r n tB (xs (xs x0 0 (K0 (bI r n))) 1 (K5 (cI r n kk4) 0 1 11 12 13)) (K5 (cI r n kk4) 0 1 11 12 13) = D174 r n pX (xs (xs x0 0 (K0 (bI r n))) 1 (K5 (cI r n kk4) 0 1 11 12 13)) (K7 (fT r n kk4) 0 1 5 6 11 12 13) :=
 congrArg (fun k => D174 r n pX (xs (xs x0 0 (K0 (bI r n))) 1 (K5 (cI r n kk4) 0 1 11 12 13)) k) (cMy r n kk4)
theorem bUt (kk4 : cF) : D174 r n pX (xs (xs x0 0 (K0 (bI r n))) 1 (K5 (cI r n kk4) 0 1 11 12 13)) (K7 (fT r n kk4) 0 1 5 6 11 12 13) = D174 r n aVm (xs (xs x0 0 (K0 (bI r n))) 1 (K5 (cI r n kk4) 0 1 11 12 13)) (K8 (aHw r n kk4) 0 1 5 6 11 12 13 20) :=
 congrArg (fun k => D174 r n aVm (xs (xs x0 0 (K0 (bI r n))) 1 (K5 (cI r n kk4) 0 1 11 12 13)) k) (bQx r n kk4)
theorem cNa (kk4 : cF) : D174 r n tB (xs (xs x0 0 (K0 (bI r n))) 1 (K5 (cI r n kk4) 0 1 11 12 13)) (K5 (cI r n kk4) 0 1 11 12 13) = (K7 (wH r n kk4) 0 1 5 6 11 12 13) :=
 (bPk r n kk4).trans
 ((bUt r n kk4).trans
 ((by kernel_rfl)))
theorem bQu (kk4 : cF) : D174 r n aHx (xs x0 0 (K0 (bI r n))) (K5 kk4 0 1 11 12 13) = D174 r n tY (xs x0 0 (K0 (bI r n))) (K5 (cI r n kk4) 0 1 11 12 13) :=
 congrArg (fun k => D174 r n tY (xs x0 0 (K0 (bI r n))) k) (cKj r n kk4)
theorem bVt (kk4 : cF) : D174 r n uA (xs (xs x0 0 (K0 (bI r n))) 1 (K5 (cI r n kk4) 0 1 11 12 13)) (K5 (cI r n kk4) 0 1 11 12 13) = D174 r n aIc (xs (xs x0 0 (K0 (bI r n))) 1 (K5 (cI r n kk4) 0 1 11 12 13)) (K7 (wH r n kk4) 0 1 5 6 11 12 13) :=
 congrArg (fun k => D174 r n aIc (xs (xs x0 0 (K0 (bI r n))) 1 (K5 (cI r n kk4) 0 1 11 12 13)) k) (cNa r n kk4)
theorem bUc (kk4 : cF) (q0 : TT7) (q1 : Hp → aJ) (q2 : cF) : D174 r n aIc (xs (xs x0 0 (K0 q1)) 1 (K5 q2 0 1 11 12 13)) (K7 q0 0 1 5 6 11 12 13) = fun (env : aZ) (h : Hp) =>
 bnd (aI 3 (env 11) (env 13) h) fun v1 h1 =>
 bnd (aK 3 v1 h1) fun v2 h2 =>
 bnd (bM [(aE 0), (aE 0), (aE 0)] h2) fun v3 h3 =>
 bnd (aG 3 v3 v2 h3) fun _ h4 =>
  q0 (env 0) (env 1) (env 13) v3 (env 11) (env 12) (env 13) h4 := by kernel_rfl
theorem bDf (kk4 : cF) : (fun (env : aZ) (h : Hp) =>
 bnd (aI 3 (env 11) (env 13) h) fun v1 h1 =>
 bnd (aK 3 v1 h1) fun v2 h2 =>
 bnd (bM [(aE 0), (aE 0), (aE 0)] h2) fun v3 h3 =>
 bnd (aG 3 v3 v2 h3) fun _ h4 =>
  wH r n kk4 (env 0) (env 1) (env 13) v3 (env 11) (env 12) (env 13) h4) = (K5 (aIj r n kk4) 0 1 11 12 13) := by kernel_rfl
theorem cJt (kk4 : cF) : D174 r n aHx (xs x0 0 (K0 (bI r n))) (K5 kk4 0 1 11 12 13) = (K5 (aIj r n kk4) 0 1 11 12 13) :=
 (bQu r n kk4).trans
 ((by kernel_rfl : D174 r n tY (xs x0 0 (K0 (bI r n))) (K5 (cI r n kk4) 0 1 11 12 13) = D174 r n uA (xs (xs x0 0 (K0 (bI r n))) 1 (K5 (cI r n kk4) 0 1 11 12 13)) (K5 (cI r n kk4) 0 1 11 12 13)).trans
 ((bVt r n kk4).trans
 ((bUc r n kk4 (wH r n kk4) (bI r n) (cI r n kk4)).trans (bDf r n kk4))))
theorem bYf (kk4 : cF) : D174 r n aDq (xs x0 0 (K0 (bI r n))) (K5 kk4 0 1 11 12 13) = D174 r n bAu (xs x0 0 (K0 (bI r n))) (K5 (aIj r n kk4) 0 1 11 12 13) :=
 congrArg (fun k => D174 r n bAu (xs x0 0 (K0 (bI r n))) k) (cJt r n kk4)
theorem cGn (kk4 : cF) : D174 r n aDq (xs x0 0 (K0 (bI r n))) (K5 kk4 0 1 11 12 13) = (K6 (aPx r n kk4) 0 1 11 12 13 14) :=
 (bYf r n kk4).trans
 ((by kernel_rfl))
theorem bCy (kk4 : cF) : D174 r n kD (xs x0 0 (K0 (bI r n))) (K5 kk4 0 1 11 12 13) = D174 r n aYq (xs x0 0 (K0 (bI r n))) (K6 (aPx r n kk4) 0 1 11 12 13 14) :=
 congrArg (fun k => D174 r n aYq (xs x0 0 (K0 (bI r n))) k) (cGn r n kk4)
theorem bSd (kk4 : cF) : D174 r n kD (xs x0 0 (K0 (bI r n))) (K5 kk4 0 1 11 12 13) = (K5 (aYk r n kk4) 0 1 11 12 13) :=
 (bCy r n kk4).trans
 ((by kernel_rfl))
theorem bVh (m : Nat) : aO (fun kk => D174 r n kD (xs x0 0 (K0 (bI r n))) kk) m = (K5 (uG r n m) 0 1 11 12 13) := by
 induction m with
 | zero => exact (by kernel_rfl : aO (fun kk => D174 r n kD (xs x0 0 (K0 (bI r n))) kk) 0 = (K5 (uG r n 0) 0 1 11 12 13))
 | succ m ih =>
  refine (by kernel_rfl : aO (fun kk => D174 r n kD (xs x0 0 (K0 (bI r n))) kk) (m + 1) = D174 r n kD (xs x0 0 (K0 (bI r n))) (aO (fun kk => D174 r n kD (xs x0 0 (K0 (bI r n))) kk) m)).trans ?_
  rw [ih]
  exact (bSd r n (uG r n m)).trans (by kernel_rfl)
theorem cPl : D174 r n aHm (xs x0 0 (K0 (bI r n))) (K0 (bI r n)) = (K5 (bPc r n) 0 1 11 12 13) :=
 (by kernel_rfl : D174 r n aHm (xs x0 0 (K0 (bI r n))) (K0 (bI r n)) = aO (fun kk => D174 r n kD (xs x0 0 (K0 (bI r n))) kk) n).trans ((bVh r n n).trans (by kernel_rfl))
theorem cCs : D174 r n aRy x0 (K0 (bI r n)) = (K5 (aOh r n) 0 1 11 12 13) :=
 (by kernel_rfl : D174 r n aRy x0 (K0 (bI r n)) = D174 r n aHm (xs x0 0 (K0 (bI r n))) (K0 (bI r n))).trans
 ((cPl r n).trans (by kernel_rfl))
theorem bEn : D174 r n aDd x0 r174 = D174 r n zD x0 (K0 (bI r n)) :=
 congrArg (fun k => D174 r n zD x0 k) (cJy r n)
theorem bEb : D174 r n zD x0 (K0 (bI r n)) = D174 r n aVj x0 (K5 (aOh r n) 0 1 11 12 13) :=
 congrArg (fun k => D174 r n aVj x0 k) (cCs r n)
theorem cCt : D174 r n aDd x0 r174 = (K2 (aUj r n) 0 1) :=
 (bEn r n).trans
 ((bEb r n).trans
 ((by kernel_rfl)))
theorem cFv : D174 r n c174 x0 r174 = D174 r n aXr x0 (K2 (aUj r n) 0 1) :=
 congrArg (fun k => D174 r n aXr x0 k) (cCt r n)
theorem dIg : D174 r n c174 x0 r174 = (K2 (s174 r n) 0 1) :=
 (cFv r n).trans
 ((by kernel_rfl))
theorem cUg : aF CF r n 174 args h = s174 r n (aS args 0) (aS args 1) h :=
 (by kernel_rfl : aF CF r n 174 args h = D174 r n c174 x0 r174 (aH args) h).trans ((congrFun (congrFun (dIg r n) (aH args)) h).trans (by kernel_rfl))
noncomputable def bU (r : RT) (n : Nat) (x6 x9 : DV) (h0 : Hp) : aJ :=
 bnd (aA x6 h0) fun v1 h1 =>
 bnd (aA x9 h1) fun v2 h2 =>
 some (.t [v1, v2], h2)
noncomputable def uF (r : RT) (n : Nat) (kk9 : fG) (x2 x3 x6 x7 x9 x10 x11 x14 : DV) (h0 : Hp) : aJ :=
 bnd (aD .add x11 (aE 1) h0) fun v1 h1 =>
 bnd (aA x3 h1) fun v2 h2 =>
 bnd (aI 1 v2 x11 h2) fun v3 h3 =>
 bnd (aA v3 h3) fun v4 h4 =>
 bnd (cX CF r x10 [v1, v4, x14] h4) fun v5 h5 =>
  kk9 x2 x3 x6 x7 x9 x10 h5
noncomputable def aGh (r : RT) (n : Nat) (kk9 : fG) (x2 x3 x6 x7 x9 x10 x11 x12 x13 x14 : DV) (h0 : Hp) : aJ :=
 bnd (aB 0 x12 h0) fun v1 h1 =>
 bnd (aA v1 h1) fun v2 h2 =>
 bnd (aD .eql v2 (aE 19) h2) fun v3 h3 =>
 aR v3 (
 bnd (aD .neq x13 (aE 1) h3) fun v4 h4 =>
 bnd (gD v4 false (aA x3 h4) h4) fun v5 h5 =>
 bnd (gD v4 false (some (x11, h5)) h5) fun v6 h6 =>
 bnd (gD v4 false (aI 1 v5 v6 h6) h6) fun v7 h7 =>
 bnd (gD v4 false (aA v7 h7) h7) fun v8 h8 =>
 bnd (gD v4 false (aD .lss v8 (aE 0) h8) h8) fun v9 h9 =>
 bnd (aP v4 (.b true) v9 h9) fun v10 h10 =>
 aR v10 (
 some (.t [.l0, (.b false)], h10)) (
   kk9 x2 x3 x6 x7 x9 x10 h10)) (
 bnd (aD .eql v2 (aE 20) h3) fun v11 h11 =>
 aR v11 (
   kk9 x2 x3 x6 x7 x9 x10 h11) (
 bnd (aD .eql v2 (aE 16) h11) fun v12 h12 =>
 aR v12 (
 bnd (aK 3 x12 h12) fun v13 h13 =>
 bnd (r 202 [v13] h13) fun v14 h14 =>
 bnd (aA x3 h14) fun v15 h15 =>
 cnd (bG (aA x3 h12) v15 && true) (
 bnd (aI 1 v15 x11 h15) fun v16 h16 =>
 bnd (aA v16 h16) fun v17 h17 =>
 cnd (bG (aA v16 h12) v17 && true) (
 bnd (cX CF r x10 [v14, v17, x14] h17) fun v18 h18 =>
    kk9 x2 x3 x6 x7 x9 x10 h18))) (
 bnd (aD .eql v2 (aE 17) h12) fun v19 h19 =>
 aR v19 (
 bnd (aK 3 x12 h19) fun v20 h20 =>
 bnd (r 202 [v20] h20) fun v21 h21 =>
 bnd (aA x3 h21) fun v22 h22 =>
 cnd (bG (aA x3 h19) v22 && true) (
 bnd (aI 1 v22 x11 h22) fun v23 h23 =>
 bnd (aA v23 h23) fun v24 h24 =>
 cnd (bG (aA v23 h19) v24 && true) (
 bnd (cX CF r x10 [v21, v24, x14] h24) fun v25 h25 =>
     uF r n kk9 x2 x3 x6 x7 x9 x10 x11 x14 h25))) (
     uF r n kk9 x2 x3 x6 x7 x9 x10 x11 x14 h19))))
noncomputable def aDf (r : RT) (n : Nat) (kk9 : fG) (x2 x3 x6 x7 x9 x10 x11 x12 x13 x14 : DV) (h0 : Hp) : aJ :=
 bnd (aK 3 x12 h0) fun v1 h1 =>
 bnd (r 205 [v1] h1) fun v2 h2 =>
 bnd (aD .lss x13 v2 h2) fun v3 h3 =>
 bnd (gD v3 false (some (x14, h3)) h3) fun v4 h4 =>
 bnd (gD v3 false (aD .gtr v4 (aE 24) h4) h4) fun v5 h5 =>
 bnd (aP v3 (.b true) v5 h5) fun v6 h6 =>
 aR v6 (
 some (.t [.l0, (.b false)], h6)) (
  aGh r n kk9 x2 x3 x6 x7 x9 x10 x11 x12 x13 x14 h6)
noncomputable def aDn (r : RT) (n : Nat) (kk9 : fG) (x2 x3 x6 x7 x9 x10 x11 x12 x13 : DV) (h0 : Hp) : aJ :=
 bnd (aK 3 x12 h0) fun v1 h1 =>
 bnd (r 204 [v1] h1) fun v2 h2 =>
 bnd (aD .add x13 v2 h2) fun v3 h3 =>
  aDf r n kk9 x2 x3 x6 x7 x9 x10 x11 x12 x13 v3 h3
noncomputable def aFz (r : RT) (n : Nat) (kk9 : fG) (x2 x3 x6 x7 x9 x10 x11 : DV) (h0 : Hp) : aJ :=
 bnd (aA x2 (resv 1 h0)) fun v1 h1 =>
 bnd (aI 3 v1 x11 h1) fun v2 h2 =>
 bnd (aK 3 v2 h2) fun v3 h3 =>
 bnd (aA x6 h3) fun v4 h4 =>
 bnd (aI 1 v4 x11 h4) fun v5 h5 =>
 bnd (aA v5 h5) fun v6 h6 =>
 bnd (jZ (bW 0 h0.next) [(aE 0), (aE 0), (aE 0)] h6) fun v7 h7 =>
 bnd (aG 3 v7 v3 h7) fun v8 h8 =>
 cnd (bG (aA v5 h8) v6 && (bG (aA x6 h8) v4 && true)) (
  aDn r n kk9 x2 x3 x6 x7 x9 x10 x11 v7 v6 h8)
noncomputable def aFc (r : RT) (n : Nat) (kk9 : fG) (x2 x3 x6 x7 x9 x10 x11 : DV) (h0 : Hp) : aJ :=
 bnd (aA x7 h0) fun v1 h1 =>
 bnd (aA x7 h1) fun v2 h2 =>
 bnd (bZ v2 h2) fun v3 h3 =>
 bnd (aD .sub v3 (aE 1) h3) fun v4 h4 =>
 bnd (cT 1 v1 none (some v4) h4) fun v5 h5 =>
 bnd (aG 1 x7 v5 h5) fun _ h6 =>
  aFz r n kk9 x2 x3 x6 x7 x9 x10 x11 h6
noncomputable def aDs (r : RT) (n : Nat) (kk9 : fG) (x2 x3 x6 x7 x9 x10 : DV) (h0 : Hp) : aJ :=
 bnd (aA x7 h0) fun v1 h1 =>
 bnd (aA x7 h1) fun v2 h2 =>
 bnd (bZ v2 h2) fun v3 h3 =>
 bnd (aD .sub v3 (aE 1) h3) fun v4 h4 =>
 bnd (aI 1 v1 v4 h4) fun v5 h5 =>
 bnd (aA v5 h5) fun v6 h6 =>
  aFc r n kk9 x2 x3 x6 x7 x9 x10 v6 h6
noncomputable def aXd (r : RT) (n : Nat) (kk9 : fG) (x2 x3 x6 x7 x9 x10 : DV) (h0 : Hp) : aJ :=
 bnd (aA x7 h0) fun v1 h1 =>
 bnd (bZ v1 h1) fun v2 h2 =>
 bnd (aD .gtr v2 (aE 0) h2) fun v3 h3 =>
 bnd (gD v3 true (aA x9 h3) h3) fun v4 h4 =>
 bnd (aP v3 v4 (.b false) h4) fun v5 h5 =>
 aR v5 (
   aDs r n kk9 x2 x3 x6 x7 x9 x10 h5) (
   bU r n x6 x9 h5)
noncomputable def uB (r : RT) (n : Nat) (m : Nat) : fG :=
 Nat.rec (motive := fun _ => fG) (fun _ _ _ _ _ _ _ => none) (fun _ ih => aXd r n ih) m
noncomputable def bHz (r : RT) (n : Nat) : fG := uB r n n
noncomputable def aNz (r : RT) (n : Nat) (x2 x3 x6 x7 x9 x10 : DV) (h0 : Hp) : aJ :=
 bHz r n x2 x3 x6 x7 x9 x10 h0
noncomputable def aTd (r : RT) (n : Nat) (x2 x3 x6 x7 x9 x10 : DV) (h0 : Hp) : aJ :=
 aNz r n x2 x3 x6 x7 x9 x10 h0
noncomputable def wV (r : RT) (n : Nat) (x2 x3 x6 x7 x9 : DV) (h0 : Hp) : aJ :=
 aTd r n x2 x3 x6 x7 x9 (.f 203 [] [x2, x3, x6, x9, x7]) h0
noncomputable def cO (r : RT) (n : Nat) (x2 x3 x6 x7 : DV) (h0 : Hp) : aJ :=
 bnd (bM [(.b false)] h0) fun v1 h1 =>
 bnd (aG 1 v1 (.b true) h1) fun _ h2 =>
  wV r n x2 x3 x6 x7 v1 h2
noncomputable def lE (r : RT) (n : Nat) (kk18 : fG) (x2 x3 x6 x7 x19 x20 : DV) (h0 : Hp) : aJ :=
 bnd (aD .add x20 (aE 1) h0) fun v1 h1 =>
  kk18 x2 x3 x6 x7 x19 v1 h1
noncomputable def uQ (r : RT) (n : Nat) (kk18 : fG) (x2 x3 x6 x7 x19 x20 : DV) (h0 : Hp) : aJ :=
 bnd (aA x6 h0) fun v1 h1 =>
 bnd (aI 1 v1 x20 h1) fun v2 h2 =>
 bnd (aG 1 v2 (.i .i64 (Int.negSucc 0)) h2) fun _ h3 =>
 bnd (aD .eql x20 (aE 0) h3) fun v4 h4 =>
 bnd (gD v4 false (some (x20, h4)) h4) fun v5 h5 =>
 bnd (gD v4 false (aD .gtr v5 (aE 1) h5) h5) fun v6 h6 =>
 bnd (gD v4 false (some (v6, h6)) h6) fun v7 h7 =>
 bnd (gD v7 true (aA x2 h7) h7) fun v8 h8 =>
 bnd (gD v7 true (some (x20, h8)) h8) fun v9 h9 =>
 bnd (gD v7 true (aD .sub v9 (aE 2) h9) h9) fun v10 h10 =>
 bnd (gD v7 true (aI 3 v8 v10 h10) h10) fun v11 h11 =>
 bnd (gD v7 true (aB 0 v11 h11) h11) fun v12 h12 =>
 bnd (gD v7 true (aA v12 h12) h12) fun v13 h13 =>
 bnd (gD v7 true (aD .eql v13 (aE 18) h13) h13) fun v14 h14 =>
 bnd (gD v4 false (aP v7 v14 (.b false) h14) h14) fun v15 h15 =>
 bnd (gD v4 false (some (v15, h15)) h15) fun v16 h16 =>
 bnd (gD v16 true (aA x3 h16) h16) fun v17 h17 =>
 bnd (gD v16 true (some (x20, h17)) h17) fun v18 h18 =>
 bnd (gD v16 true (aI 1 v17 v18 h18) h18) fun v19 h19 =>
 bnd (gD v16 true (aA v19 h19) h19) fun v20 h20 =>
 bnd (gD v16 true (some (x20, h20)) h20) fun v21 h21 =>
 bnd (gD v16 true (aD .sub v21 (aE 2) h21) h21) fun v22 h22 =>
 bnd (gD v16 true (aD .eql v20 v22 h22) h22) fun v23 h23 =>
 bnd (gD v4 false (aP v16 v23 (.b false) h23) h23) fun v24 h24 =>
 bnd (aP v4 (.b true) v24 h24) fun v25 h25 =>
 aR v25 (
 bnd (aA x6 h25) fun v26 h26 =>
 bnd (aI 1 v26 x20 h26) fun v27 h27 =>
 bnd (aG 1 v27 (aE 0) h27) fun _ h28 =>
 bnd (aA x7 h28) fun v29 h29 =>
 bnd (aL [(aE 0)] 1 [(0, 1, x20)] h29) fun v30 h30 =>
 bnd (bA 1 8 v29 v30 h30) fun v31 h31 =>
 bnd (aG 1 x7 v31 h31) fun _ h32 =>
  lE r n kk18 x2 x3 x6 x7 x19 x20 h32) (
  lE r n kk18 x2 x3 x6 x7 x19 x20 h25)
noncomputable def aIu (r : RT) (n : Nat) (kk18 : fG) (x2 x3 x6 x7 x19 x20 x21 : DV) (h0 : Hp) : aJ :=
 aR x21 (
  uQ r n kk18 x2 x3 x6 x7 x19 x20 h0) (
  cO r n x2 x3 x6 x7 h0)
noncomputable def aLy (r : RT) (n : Nat) (kk18 : fG) (x2 x3 x6 x7 x19 x20 : DV) (h0 : Hp) : aJ :=
 bnd (aD .lss x20 x19 h0) fun v1 h1 =>
  aIu r n kk18 x2 x3 x6 x7 x19 x20 v1 h1
noncomputable def pM (r : RT) (n : Nat) (m : Nat) : fG :=
 Nat.rec (motive := fun _ => fG) (fun _ _ _ _ _ _ _ => none) (fun _ ih => aLy r n ih) m
noncomputable def bBe (r : RT) (n : Nat) : fG := pM r n n
noncomputable def aEh (r : RT) (n : Nat) (x2 x3 x6 x7 x19 x20 : DV) (h0 : Hp) : aJ :=
 bBe r n x2 x3 x6 x7 x19 x20 h0
noncomputable def yR (r : RT) (n : Nat) (x2 x3 x6 x7 : DV) (h0 : Hp) : aJ :=
 bnd (aA x6 h0) fun v1 h1 =>
 bnd (bZ v1 h1) fun v2 h2 =>
  aEh r n x2 x3 x6 x7 v2 (aE 0) h2
noncomputable def rV (r : RT) (n : Nat) (x2 x3 x6 : DV) (h0 : Hp) : aJ :=
 bnd (bM [.l0] h0) fun v1 h1 =>
  yR r n x2 x3 x6 v1 h1
noncomputable def qS (r : RT) (n : Nat) (x2 x3 : DV) (h0 : Hp) : aJ :=
 bnd (aA x2 h0) fun v1 h1 =>
 bnd (bZ v1 h1) fun v2 h2 =>
 bnd (cK 1 8 [(aE 0)] v2 v2 h2) fun v3 h3 =>
 bnd (bM [.l0] h3) fun v4 h4 =>
 bnd (aG 1 v4 v3 h4) fun _ h5 =>
  rV r n x2 x3 v4 h5
noncomputable def s175 (r : RT) (n : Nat) (x0 x1 : DV) (h0 : Hp) : aJ :=
 bnd (bS x0 h0) fun v1 h1 =>
 bnd (bS x1 h1) fun v2 h2 =>
  qS r n v1 v2 h2
noncomputable abbrev c175 : Code := cf Tryz.f175
noncomputable abbrev aSh : Code := cR c175
noncomputable abbrev aDk : Code := cL aSh
noncomputable abbrev aFn : Code := cR aDk
noncomputable abbrev aBl : Code := cR aFn
noncomputable abbrev aIb : Code := cR aBl
noncomputable abbrev aDo : Code := cR aIb
noncomputable abbrev aBx : Code := cR aDo
noncomputable abbrev aJz : Code := cR aBx
noncomputable abbrev cVp : Code := cR aJz
noncomputable abbrev uW : Code := cL aJz
noncomputable abbrev uP : Code := cL uW
noncomputable abbrev iC : Code := cL uP
noncomputable abbrev aCz : Code := cR iC
noncomputable abbrev tV : Code := cL aCz
noncomputable abbrev tO : Code := cR tV
noncomputable abbrev tU : Code := cR tO
noncomputable abbrev tR : Code := cR tU
noncomputable abbrev uH : Code := cR tR
noncomputable abbrev uU : Code := cR uH
noncomputable abbrev cGb : Code := cR uU
noncomputable abbrev aWb : Code := cL uU
noncomputable abbrev aZy : Code := cL uH
noncomputable abbrev aZa : Code := cL tR
noncomputable abbrev aYl : Code := cL tU
noncomputable abbrev aXa : Code := cL tO
noncomputable abbrev aWc : Code := cL tV
noncomputable abbrev aVk : Code := cL iC
noncomputable abbrev aZb : Code := cL aBx
noncomputable abbrev aWv : Code := cL aDo
noncomputable abbrev aJi : Code := cL aIb
noncomputable abbrev oY : Code := cL aBl
noncomputable abbrev aHf : Code := cR oY
noncomputable abbrev sQ : Code := cL aHf
noncomputable abbrev iE : Code := cL sQ
noncomputable abbrev tM : Code := cR iE
noncomputable abbrev tA : Code := cR tM
noncomputable abbrev cDv : Code := cR tA
noncomputable abbrev aJg : Code := cL tA
noncomputable abbrev aYe : Code := cL tM
noncomputable abbrev aXm : Code := cL iE
noncomputable abbrev aWt : Code := cL oY
noncomputable abbrev aEp : Code := cL aFn
noncomputable abbrev aDz : Code := cL aDk
noncomputable abbrev aGw : Code := cL c175
noncomputable abbrev r175 : K := aU CF Tryz.f175
noncomputable def D175 (r : RT) (n : Nat) (c : Code) (X : Nat → K) (k : K) : K := aM CF r 144 n c X r175 k
theorem cLx : D175 r n cVp x0 r175 = (K2 (bU r n) 6 9) :=
 (by kernel_rfl)
theorem cAw (kk9 : fG) : D175 r n cGb (xs (xs x0 2 (K2 (bU r n) 6 9)) 3 (K6 kk9 2 3 6 7 9 10)) (K6 kk9 2 3 6 7 9 10) = (K8 (uF r n kk9) 2 3 6 7 9 10 11 14) :=
 (by kernel_rfl)
theorem bDz (kk9 : fG) : D175 r n uU (xs (xs x0 2 (K2 (bU r n) 6 9)) 3 (K6 kk9 2 3 6 7 9 10)) (K6 kk9 2 3 6 7 9 10) = D175 r n aWb (xs (xs x0 2 (K2 (bU r n) 6 9)) 3 (K6 kk9 2 3 6 7 9 10)) (K8 (uF r n kk9) 2 3 6 7 9 10 11 14) :=
 congrArg (fun k => D175 r n aWb (xs (xs x0 2 (K2 (bU r n) 6 9)) 3 (K6 kk9 2 3 6 7 9 10)) k) (cAw r n kk9)
theorem bMo (kk9 : fG) : D175 r n uU (xs (xs x0 2 (K2 (bU r n) 6 9)) 3 (K6 kk9 2 3 6 7 9 10)) (K6 kk9 2 3 6 7 9 10) = (K10 (aGh r n kk9) 2 3 6 7 9 10 11 12 13 14) :=
 (bDz r n kk9).trans
 ((by kernel_rfl))
theorem bGf (kk9 : fG) : D175 r n uH (xs (xs x0 2 (K2 (bU r n) 6 9)) 3 (K6 kk9 2 3 6 7 9 10)) (K6 kk9 2 3 6 7 9 10) = D175 r n aZy (xs (xs x0 2 (K2 (bU r n) 6 9)) 3 (K6 kk9 2 3 6 7 9 10)) (K10 (aGh r n kk9) 2 3 6 7 9 10 11 12 13 14) :=
 congrArg (fun k => D175 r n aZy (xs (xs x0 2 (K2 (bU r n) 6 9)) 3 (K6 kk9 2 3 6 7 9 10)) k) (bMo r n kk9)
theorem bRf (kk9 : fG) : D175 r n uH (xs (xs x0 2 (K2 (bU r n) 6 9)) 3 (K6 kk9 2 3 6 7 9 10)) (K6 kk9 2 3 6 7 9 10) = (K10 (aDf r n kk9) 2 3 6 7 9 10 11 12 13 14) :=
 (bGf r n kk9).trans
 ((by kernel_rfl))
theorem bCz (kk9 : fG) : D175 r n tR (xs (xs x0 2 (K2 (bU r n) 6 9)) 3 (K6 kk9 2 3 6 7 9 10)) (K6 kk9 2 3 6 7 9 10) = D175 r n aZa (xs (xs x0 2 (K2 (bU r n) 6 9)) 3 (K6 kk9 2 3 6 7 9 10)) (K10 (aDf r n kk9) 2 3 6 7 9 10 11 12 13 14) :=
 congrArg (fun k => D175 r n aZa (xs (xs x0 2 (K2 (bU r n) 6 9)) 3 (K6 kk9 2 3 6 7 9 10)) k) (bRf r n kk9)
theorem bQv (kk9 : fG) : D175 r n tR (xs (xs x0 2 (K2 (bU r n) 6 9)) 3 (K6 kk9 2 3 6 7 9 10)) (K6 kk9 2 3 6 7 9 10) = (K9 (aDn r n kk9) 2 3 6 7 9 10 11 12 13) :=
 (bCz r n kk9).trans
 ((by kernel_rfl))
theorem bFh (kk9 : fG) : D175 r n tU (xs (xs x0 2 (K2 (bU r n) 6 9)) 3 (K6 kk9 2 3 6 7 9 10)) (K6 kk9 2 3 6 7 9 10) = D175 r n aYl (xs (xs x0 2 (K2 (bU r n) 6 9)) 3 (K6 kk9 2 3 6 7 9 10)) (K9 (aDn r n kk9) 2 3 6 7 9 10 11 12 13) :=
 congrArg (fun k => D175 r n aYl (xs (xs x0 2 (K2 (bU r n) 6 9)) 3 (K6 kk9 2 3 6 7 9 10)) k) (bQv r n kk9)
theorem cAb (kk9 : fG) : D175 r n tU (xs (xs x0 2 (K2 (bU r n) 6 9)) 3 (K6 kk9 2 3 6 7 9 10)) (K6 kk9 2 3 6 7 9 10) = (K7 (aFz r n kk9) 2 3 6 7 9 10 11) :=
 (bFh r n kk9).trans
 ((by kernel_rfl))
theorem bEt (kk9 : fG) : D175 r n tO (xs (xs x0 2 (K2 (bU r n) 6 9)) 3 (K6 kk9 2 3 6 7 9 10)) (K6 kk9 2 3 6 7 9 10) = D175 r n aXa (xs (xs x0 2 (K2 (bU r n) 6 9)) 3 (K6 kk9 2 3 6 7 9 10)) (K7 (aFz r n kk9) 2 3 6 7 9 10 11) :=
 congrArg (fun k => D175 r n aXa (xs (xs x0 2 (K2 (bU r n) 6 9)) 3 (K6 kk9 2 3 6 7 9 10)) k) (cAb r n kk9)
theorem bQt (kk9 : fG) : D175 r n tO (xs (xs x0 2 (K2 (bU r n) 6 9)) 3 (K6 kk9 2 3 6 7 9 10)) (K6 kk9 2 3 6 7 9 10) = (K7 (aFc r n kk9) 2 3 6 7 9 10 11) :=
 (bEt r n kk9).trans
 ((by kernel_rfl))
theorem bCq (kk9 : fG) : D175 r n tV (xs (xs x0 2 (K2 (bU r n) 6 9)) 3 (K6 kk9 2 3 6 7 9 10)) (K6 kk9 2 3 6 7 9 10) = D175 r n aWc (xs (xs x0 2 (K2 (bU r n) 6 9)) 3 (K6 kk9 2 3 6 7 9 10)) (K7 (aFc r n kk9) 2 3 6 7 9 10 11) :=
 congrArg (fun k => D175 r n aWc (xs (xs x0 2 (K2 (bU r n) 6 9)) 3 (K6 kk9 2 3 6 7 9 10)) k) (bQt r n kk9)
theorem bZn (kk9 : fG) : D175 r n aCz (xs x0 2 (K2 (bU r n) 6 9)) (K6 kk9 2 3 6 7 9 10) = (K6 (aDs r n kk9) 2 3 6 7 9 10) :=
 (by kernel_rfl : D175 r n aCz (xs x0 2 (K2 (bU r n) 6 9)) (K6 kk9 2 3 6 7 9 10) = D175 r n tV (xs (xs x0 2 (K2 (bU r n) 6 9)) 3 (K6 kk9 2 3 6 7 9 10)) (K6 kk9 2 3 6 7 9 10)).trans
 ((bCq r n kk9).trans
 ((by kernel_rfl)))
theorem cAk (kk9 : fG) : D175 r n iC (xs x0 2 (K2 (bU r n) 6 9)) (K6 kk9 2 3 6 7 9 10) = D175 r n aVk (xs x0 2 (K2 (bU r n) 6 9)) (K6 (aDs r n kk9) 2 3 6 7 9 10) :=
 congrArg (fun k => D175 r n aVk (xs x0 2 (K2 (bU r n) 6 9)) k) (bZn r n kk9)
theorem bGt (kk9 : fG) : D175 r n iC (xs x0 2 (K2 (bU r n) 6 9)) (K6 kk9 2 3 6 7 9 10) = (K6 (aXd r n kk9) 2 3 6 7 9 10) :=
 (cAk r n kk9).trans
 ((by kernel_rfl))
theorem bZl (m : Nat) : aO (fun kk => D175 r n iC (xs x0 2 (K2 (bU r n) 6 9)) kk) m = (K6 (uB r n m) 2 3 6 7 9 10) := by
 induction m with
 | zero => exact (by kernel_rfl : aO (fun kk => D175 r n iC (xs x0 2 (K2 (bU r n) 6 9)) kk) 0 = (K6 (uB r n 0) 2 3 6 7 9 10))
 | succ m ih =>
  refine (by kernel_rfl : aO (fun kk => D175 r n iC (xs x0 2 (K2 (bU r n) 6 9)) kk) (m + 1) = D175 r n iC (xs x0 2 (K2 (bU r n) 6 9)) (aO (fun kk => D175 r n iC (xs x0 2 (K2 (bU r n) 6 9)) kk) m)).trans ?_
  rw [ih]
  exact (bGt r n (uB r n m)).trans (by kernel_rfl)
theorem cFk : D175 r n uP (xs x0 2 (K2 (bU r n) 6 9)) (K2 (bU r n) 6 9) = (K6 (bHz r n) 2 3 6 7 9 10) :=
 (by kernel_rfl : D175 r n uP (xs x0 2 (K2 (bU r n) 6 9)) (K2 (bU r n) 6 9) = aO (fun kk => D175 r n iC (xs x0 2 (K2 (bU r n) 6 9)) kk) n).trans ((bZl r n n).trans (by kernel_rfl))
theorem bRc : D175 r n aJz x0 r175 = D175 r n uW x0 (K2 (bU r n) 6 9) :=
 congrArg (fun k => D175 r n uW x0 k) (cLx r n)
theorem cJm : D175 r n aJz x0 r175 = (K6 (aNz r n) 2 3 6 7 9 10) :=
 (bRc r n).trans
 ((by kernel_rfl : D175 r n uW x0 (K2 (bU r n) 6 9) = D175 r n uP (xs x0 2 (K2 (bU r n) 6 9)) (K2 (bU r n) 6 9)).trans
 ((cFk r n).trans (by kernel_rfl)))
theorem bGp : D175 r n aBx x0 r175 = D175 r n aZb x0 (K6 (aNz r n) 2 3 6 7 9 10) :=
 congrArg (fun k => D175 r n aZb x0 k) (cJm r n)
theorem cGx : D175 r n aBx x0 r175 = (K6 (aTd r n) 2 3 6 7 9 10) :=
 (bGp r n).trans
 ((by kernel_rfl))
theorem bDr : D175 r n aDo x0 r175 = D175 r n aWv x0 (K6 (aTd r n) 2 3 6 7 9 10) :=
 congrArg (fun k => D175 r n aWv x0 k) (cGx r n)
theorem cEg : D175 r n aDo x0 r175 = (K5 (wV r n) 2 3 6 7 9) :=
 (bDr r n).trans
 ((by kernel_rfl))
theorem bDc : D175 r n aIb x0 r175 = D175 r n aJi x0 (K5 (wV r n) 2 3 6 7 9) :=
 congrArg (fun k => D175 r n aJi x0 k) (cEg r n)
theorem bFb (q0 : cF) : D175 r n aJi x0 (K5 q0 2 3 6 7 9) = fun (env : aZ) (h : Hp) =>
 bnd (bM [(.b false)] h) fun v1 h1 =>
 bnd (aG 1 v1 (.b true) h1) fun _ h2 =>
  q0 (env 2) (env 3) (env 6) (env 7) v1 h2 := by kernel_rfl
theorem aSv : (fun (env : aZ) (h : Hp) =>
 bnd (bM [(.b false)] h) fun v1 h1 =>
 bnd (aG 1 v1 (.b true) h1) fun _ h2 =>
  wV r n (env 2) (env 3) (env 6) (env 7) v1 h2) = (K4 (cO r n) 2 3 6 7) := by kernel_rfl
theorem cBi : D175 r n aIb x0 r175 = (K4 (cO r n) 2 3 6 7) :=
 (bDc r n).trans
 ((bFb r n (wV r n)).trans (aSv r n))
theorem bTm (kk18 : fG) : D175 r n cDv (xs x0 0 (K4 (cO r n) 2 3 6 7)) (K6 kk18 2 3 6 7 19 20) = (K6 (lE r n kk18) 2 3 6 7 19 20) :=
 (by kernel_rfl)
theorem aPu (kk18 : fG) : D175 r n tA (xs x0 0 (K4 (cO r n) 2 3 6 7)) (K6 kk18 2 3 6 7 19 20) = D175 r n aJg (xs x0 0 (K4 (cO r n) 2 3 6 7)) (K6 (lE r n kk18) 2 3 6 7 19 20) :=
 congrArg (fun k => D175 r n aJg (xs x0 0 (K4 (cO r n) 2 3 6 7)) k) (bTm r n kk18)
theorem aOw (kk18 : fG) (q0 : fG) (q1 : dL) : D175 r n aJg (xs x0 0 (K4 q1 2 3 6 7)) (K6 q0 2 3 6 7 19 20) = fun (env : aZ) (h : Hp) =>
 bnd (aA (env 6) h) fun v1 h1 =>
 bnd (aI 1 v1 (env 20) h1) fun v2 h2 =>
 bnd (aG 1 v2 (.i .i64 (Int.negSucc 0)) h2) fun _ h3 =>
 bnd (aD .eql (env 20) (aE 0) h3) fun v4 h4 =>
 bnd (gD v4 false (some ((env 20), h4)) h4) fun v5 h5 =>
 bnd (gD v4 false (aD .gtr v5 (aE 1) h5) h5) fun v6 h6 =>
 bnd (gD v4 false (some (v6, h6)) h6) fun v7 h7 =>
 bnd (gD v7 true (aA (env 2) h7) h7) fun v8 h8 =>
 bnd (gD v7 true (some ((env 20), h8)) h8) fun v9 h9 =>
 bnd (gD v7 true (aD .sub v9 (aE 2) h9) h9) fun v10 h10 =>
 bnd (gD v7 true (aI 3 v8 v10 h10) h10) fun v11 h11 =>
 bnd (gD v7 true (aB 0 v11 h11) h11) fun v12 h12 =>
 bnd (gD v7 true (aA v12 h12) h12) fun v13 h13 =>
 bnd (gD v7 true (aD .eql v13 (aE 18) h13) h13) fun v14 h14 =>
 bnd (gD v4 false (aP v7 v14 (.b false) h14) h14) fun v15 h15 =>
 bnd (gD v4 false (some (v15, h15)) h15) fun v16 h16 =>
 bnd (gD v16 true (aA (env 3) h16) h16) fun v17 h17 =>
 bnd (gD v16 true (some ((env 20), h17)) h17) fun v18 h18 =>
 bnd (gD v16 true (aI 1 v17 v18 h18) h18) fun v19 h19 =>
 bnd (gD v16 true (aA v19 h19) h19) fun v20 h20 =>
 bnd (gD v16 true (some ((env 20), h20)) h20) fun v21 h21 =>
 bnd (gD v16 true (aD .sub v21 (aE 2) h21) h21) fun v22 h22 =>
 bnd (gD v16 true (aD .eql v20 v22 h22) h22) fun v23 h23 =>
 bnd (gD v4 false (aP v16 v23 (.b false) h23) h23) fun v24 h24 =>
 bnd (aP v4 (.b true) v24 h24) fun v25 h25 =>
 aR v25 (
 bnd (aA (env 6) h25) fun v26 h26 =>
 bnd (aI 1 v26 (env 20) h26) fun v27 h27 =>
 bnd (aG 1 v27 (aE 0) h27) fun _ h28 =>
 bnd (aA (env 7) h28) fun v29 h29 =>
 bnd (aL [(aE 0)] 1 [(0, 1, (env 20))] h29) fun v30 h30 =>
 bnd (bA 1 8 v29 v30 h30) fun v31 h31 =>
 bnd (aG 1 (env 7) v31 h31) fun _ h32 =>
      q0 (env 2) (env 3) (env 6) (env 7) (env 19) (env 20) h32) (
      q0 (env 2) (env 3) (env 6) (env 7) (env 19) (env 20) h25) := by kernel_rfl
theorem aLu (kk18 : fG) : (fun (env : aZ) (h : Hp) =>
 bnd (aA (env 6) h) fun v1 h1 =>
 bnd (aI 1 v1 (env 20) h1) fun v2 h2 =>
 bnd (aG 1 v2 (.i .i64 (Int.negSucc 0)) h2) fun _ h3 =>
 bnd (aD .eql (env 20) (aE 0) h3) fun v4 h4 =>
 bnd (gD v4 false (some ((env 20), h4)) h4) fun v5 h5 =>
 bnd (gD v4 false (aD .gtr v5 (aE 1) h5) h5) fun v6 h6 =>
 bnd (gD v4 false (some (v6, h6)) h6) fun v7 h7 =>
 bnd (gD v7 true (aA (env 2) h7) h7) fun v8 h8 =>
 bnd (gD v7 true (some ((env 20), h8)) h8) fun v9 h9 =>
 bnd (gD v7 true (aD .sub v9 (aE 2) h9) h9) fun v10 h10 =>
 bnd (gD v7 true (aI 3 v8 v10 h10) h10) fun v11 h11 =>
 bnd (gD v7 true (aB 0 v11 h11) h11) fun v12 h12 =>
 bnd (gD v7 true (aA v12 h12) h12) fun v13 h13 =>
 bnd (gD v7 true (aD .eql v13 (aE 18) h13) h13) fun v14 h14 =>
 bnd (gD v4 false (aP v7 v14 (.b false) h14) h14) fun v15 h15 =>
 bnd (gD v4 false (some (v15, h15)) h15) fun v16 h16 =>
 bnd (gD v16 true (aA (env 3) h16) h16) fun v17 h17 =>
 bnd (gD v16 true (some ((env 20), h17)) h17) fun v18 h18 =>
 bnd (gD v16 true (aI 1 v17 v18 h18) h18) fun v19 h19 =>
 bnd (gD v16 true (aA v19 h19) h19) fun v20 h20 =>
 bnd (gD v16 true (some ((env 20), h20)) h20) fun v21 h21 =>
 bnd (gD v16 true (aD .sub v21 (aE 2) h21) h21) fun v22 h22 =>
 bnd (gD v16 true (aD .eql v20 v22 h22) h22) fun v23 h23 =>
 bnd (gD v4 false (aP v16 v23 (.b false) h23) h23) fun v24 h24 =>
 bnd (aP v4 (.b true) v24 h24) fun v25 h25 =>
 aR v25 (
 bnd (aA (env 6) h25) fun v26 h26 =>
 bnd (aI 1 v26 (env 20) h26) fun v27 h27 =>
 bnd (aG 1 v27 (aE 0) h27) fun _ h28 =>
 bnd (aA (env 7) h28) fun v29 h29 =>
 bnd (aL [(aE 0)] 1 [(0, 1, (env 20))] h29) fun v30 h30 =>
 bnd (bA 1 8 v29 v30 h30) fun v31 h31 =>
 bnd (aG 1 (env 7) v31 h31) fun _ h32 =>
      lE r n kk18 (env 2) (env 3) (env 6) (env 7) (env 19) (env 20) h32) (
      lE r n kk18 (env 2) (env 3) (env 6) (env 7) (env 19) (env 20) h25)) = (K6 (uQ r n kk18) 2 3 6 7 19 20) := by kernel_rfl
theorem bMk (kk18 : fG) : D175 r n tA (xs x0 0 (K4 (cO r n) 2 3 6 7)) (K6 kk18 2 3 6 7 19 20) = (K6 (uQ r n kk18) 2 3 6 7 19 20) :=
 (aPu r n kk18).trans
 ((aOw r n kk18 (lE r n kk18) (cO r n)).trans (aLu r n kk18))
theorem aSy (kk18 : fG) : D175 r n tM (xs x0 0 (K4 (cO r n) 2 3 6 7)) (K6 kk18 2 3 6 7 19 20) = D175 r n aYe (xs x0 0 (K4 (cO r n) 2 3 6 7)) (K6 (uQ r n kk18) 2 3 6 7 19 20) :=
 congrArg (fun k => D175 r n aYe (xs x0 0 (K4 (cO r n) 2 3 6 7)) k) (bMk r n kk18)
theorem bUh (kk18 : fG) : D175 r n tM (xs x0 0 (K4 (cO r n) 2 3 6 7)) (K6 kk18 2 3 6 7 19 20) = (K7 (aIu r n kk18) 2 3 6 7 19 20 21) :=
 (aSy r n kk18).trans
 ((by kernel_rfl))
theorem aPk (kk18 : fG) : D175 r n iE (xs x0 0 (K4 (cO r n) 2 3 6 7)) (K6 kk18 2 3 6 7 19 20) = D175 r n aXm (xs x0 0 (K4 (cO r n) 2 3 6 7)) (K7 (aIu r n kk18) 2 3 6 7 19 20 21) :=
 congrArg (fun k => D175 r n aXm (xs x0 0 (K4 (cO r n) 2 3 6 7)) k) (bUh r n kk18)
theorem bFt (kk18 : fG) : D175 r n iE (xs x0 0 (K4 (cO r n) 2 3 6 7)) (K6 kk18 2 3 6 7 19 20) = (K6 (aLy r n kk18) 2 3 6 7 19 20) :=
 (aPk r n kk18).trans
 ((by kernel_rfl))
theorem bDm (m : Nat) : aO (fun kk => D175 r n iE (xs x0 0 (K4 (cO r n) 2 3 6 7)) kk) m = (K6 (pM r n m) 2 3 6 7 19 20) := by
 induction m with
 | zero => exact (by kernel_rfl : aO (fun kk => D175 r n iE (xs x0 0 (K4 (cO r n) 2 3 6 7)) kk) 0 = (K6 (pM r n 0) 2 3 6 7 19 20))
 | succ m ih =>
  refine (by kernel_rfl : aO (fun kk => D175 r n iE (xs x0 0 (K4 (cO r n) 2 3 6 7)) kk) (m + 1) = D175 r n iE (xs x0 0 (K4 (cO r n) 2 3 6 7)) (aO (fun kk => D175 r n iE (xs x0 0 (K4 (cO r n) 2 3 6 7)) kk) m)).trans ?_
  rw [ih]
  exact (bFt r n (pM r n m)).trans (by kernel_rfl)
theorem bNs : D175 r n sQ (xs x0 0 (K4 (cO r n) 2 3 6 7)) (K4 (cO r n) 2 3 6 7) = (K6 (bBe r n) 2 3 6 7 19 20) :=
 (by kernel_rfl : D175 r n sQ (xs x0 0 (K4 (cO r n) 2 3 6 7)) (K4 (cO r n) 2 3 6 7) = aO (fun kk => D175 r n iE (xs x0 0 (K4 (cO r n) 2 3 6 7)) kk) n).trans ((bDm r n n).trans (by kernel_rfl))
theorem bQq : D175 r n aHf x0 (K4 (cO r n) 2 3 6 7) = (K6 (aEh r n) 2 3 6 7 19 20) :=
 (by kernel_rfl : D175 r n aHf x0 (K4 (cO r n) 2 3 6 7) = D175 r n sQ (xs x0 0 (K4 (cO r n) 2 3 6 7)) (K4 (cO r n) 2 3 6 7)).trans
 ((bNs r n).trans (by kernel_rfl))
theorem bCp : D175 r n aBl x0 r175 = D175 r n oY x0 (K4 (cO r n) 2 3 6 7) :=
 congrArg (fun k => D175 r n oY x0 k) (cBi r n)
theorem bFv : D175 r n oY x0 (K4 (cO r n) 2 3 6 7) = D175 r n aWt x0 (K6 (aEh r n) 2 3 6 7 19 20) :=
 congrArg (fun k => D175 r n aWt x0 k) (bQq r n)
theorem cIn : D175 r n aBl x0 r175 = (K4 (yR r n) 2 3 6 7) :=
 (bCp r n).trans
 ((bFv r n).trans
 ((by kernel_rfl)))
theorem bCt : D175 r n aFn x0 r175 = D175 r n aEp x0 (K4 (yR r n) 2 3 6 7) :=
 congrArg (fun k => D175 r n aEp x0 k) (cIn r n)
theorem bFi (q0 : dL) : D175 r n aEp x0 (K4 q0 2 3 6 7) = fun (env : aZ) (h : Hp) =>
 bnd (bM [.l0] h) fun v1 h1 =>
  q0 (env 2) (env 3) (env 6) v1 h1 := by kernel_rfl
theorem aPn : (fun (env : aZ) (h : Hp) =>
 bnd (bM [.l0] h) fun v1 h1 =>
  yR r n (env 2) (env 3) (env 6) v1 h1) = (K3 (rV r n) 2 3 6) := by kernel_rfl
theorem cCl : D175 r n aFn x0 r175 = (K3 (rV r n) 2 3 6) :=
 (bCt r n).trans
 ((bFi r n (yR r n)).trans (aPn r n))
theorem bEp : D175 r n aDk x0 r175 = D175 r n aDz x0 (K3 (rV r n) 2 3 6) :=
 congrArg (fun k => D175 r n aDz x0 k) (cCl r n)
theorem bCj (q0 : mW) : D175 r n aDz x0 (K3 q0 2 3 6) = fun (env : aZ) (h : Hp) =>
 bnd (aA (env 2) h) fun v1 h1 =>
 bnd (bZ v1 h1) fun v2 h2 =>
 bnd (cK 1 8 [(aE 0)] v2 v2 h2) fun v3 h3 =>
 bnd (bM [.l0] h3) fun v4 h4 =>
 bnd (aG 1 v4 v3 h4) fun _ h5 =>
  q0 (env 2) (env 3) v4 h5 := by kernel_rfl
theorem aPq : (fun (env : aZ) (h : Hp) =>
 bnd (aA (env 2) h) fun v1 h1 =>
 bnd (bZ v1 h1) fun v2 h2 =>
 bnd (cK 1 8 [(aE 0)] v2 v2 h2) fun v3 h3 =>
 bnd (bM [.l0] h3) fun v4 h4 =>
 bnd (aG 1 v4 v3 h4) fun _ h5 =>
  rV r n (env 2) (env 3) v4 h5) = (K2 (qS r n) 2 3) := by kernel_rfl
theorem cFh : D175 r n aSh x0 r175 = (K2 (qS r n) 2 3) :=
 (by kernel_rfl : D175 r n aSh x0 r175 = D175 r n aDk x0 r175).trans
 ((bEp r n).trans
 ((bCj r n (rV r n)).trans (aPq r n)))
theorem cPh : D175 r n c175 x0 r175 = D175 r n aGw x0 (K2 (qS r n) 2 3) :=
 congrArg (fun k => D175 r n aGw x0 k) (cFh r n)
theorem cFa (q0 : oU) : D175 r n aGw x0 (K2 q0 2 3) = fun (env : aZ) (h : Hp) =>
 bnd (bS (env 0) h) fun v1 h1 =>
 bnd (bS (env 1) h1) fun v2 h2 =>
  q0 v1 v2 h2 := by kernel_rfl
theorem bZy : (fun (env : aZ) (h : Hp) =>
 bnd (bS (env 0) h) fun v1 h1 =>
 bnd (bS (env 1) h1) fun v2 h2 =>
  qS r n v1 v2 h2) = (K2 (s175 r n) 0 1) := by kernel_rfl
theorem dEs : D175 r n c175 x0 r175 = (K2 (s175 r n) 0 1) :=
 (cPh r n).trans
 ((cFa r n (qS r n)).trans (bZy r n))
theorem cYr : aF CF r n 175 args h = s175 r n (aS args 0) (aS args 1) h :=
 (by kernel_rfl : aF CF r n 175 args h = D175 r n c175 x0 r175 (aH args) h).trans ((congrFun (congrFun (dEs r n) (aH args)) h).trans (by kernel_rfl))
noncomputable def s177 (r : RT) (n : Nat) (x0 : DV) (h0 : Hp) : aJ :=
 bnd (r 148 [x0] h0) fun v1 h1 =>
 bnd (gD v1 false (some (x0, h1)) h1) fun v2 h2 =>
 bnd (gD v1 false (r 151 [v2] h2) h2) fun v3 h3 =>
 bnd (aP v1 (.b true) v3 h3) fun v4 h4 =>
 some (v4, h4)
noncomputable abbrev c177 : Code := cf Tryz.f177
noncomputable abbrev r177 : K := aU CF Tryz.f177
noncomputable def D177 (r : RT) (n : Nat) (c : Code) (X : Nat → K) (k : K) : K := aM CF r 9 n c X r177 k
theorem dEo : D177 r n c177 x0 r177 = (K1 (s177 r n) 0) :=
 (by kernel_rfl)
theorem dBo : aF CF r n 177 args h = s177 r n (aS args 0) h :=
 (by kernel_rfl : aF CF r n 177 args h = D177 r n c177 x0 r177 (aH args) h).trans ((congrFun (congrFun (dEo r n) (aH args)) h).trans (by kernel_rfl))
end Go.Dd

namespace Go.Dd
open Go.Proofs
variable (r : RT) (n : Nat) (args : List DV) (h : Hp)
noncomputable def oI (r : RT) (n : Nat) (x2 : DV) (h0 : Hp) : aJ :=
 bnd (bB kA [] h0) fun v1 h1 =>
 bnd (aG 6 x2 v1 h1) fun _ h2 =>
 bnd (aK 6 x2 h2) fun v3 _ =>
 some (v3, h2)
noncomputable def rC (r : RT) (n : Nat) (x0 x2 : DV) (h0 : Hp) : aJ :=
 bnd (r 137 [x0, (aE 0)] h0) fun v1 h1 =>
 bnd (bM [(aE 0), (.s []), (aE 0), (aE 0)] h1) fun v2 h2 =>
 bnd (aG 4 v2 v1 h2) fun _ h3 =>
 bnd (aN x0 h3) fun v4 h4 =>
 bnd (aB 3 v4 h4) fun v5 h5 =>
 bnd (aA v5 h5) fun v6 h6 =>
 bnd (aD .neq v6 (aE 0) h6) fun v7 h7 =>
 aR v7 (
  oI r n x2 h7) (
 bnd (aB 0 v2 h7) fun v8 h8 =>
 bnd (aA v8 h8) fun v9 h9 =>
 bnd (aD .eql v9 (aE 1) h9) fun v10 h10 =>
 aR v10 (
 bnd (r 134 [x0] h10) fun v11 h11 =>
 bnd (fO 1 v11 h11) fun v12 h12 =>
 bnd (bB kA [(0, 1, (aE 5)), (1, 1, v12)] h12) fun v13 h13 =>
 bnd (aG 6 x2 v13 h13) fun _ h14 =>
 bnd (aK 6 x2 h14) fun v15 _ =>
 some (v15, h14)) (
 bnd (aB 0 v2 h10) fun v16 h16 =>
 bnd (aA v16 h16) fun v17 h17 =>
 bnd (aD .eql v17 (aE 7) h17) fun v18 h18 =>
 aR v18 (
 bnd (r 208 [x0, (.f 209 [x0] [])] h18) fun v19 h19 =>
 bnd (aG 6 x2 v19 h19) fun _ h20 =>
 bnd (aK 6 x2 h20) fun v21 _ =>
 some (v21, h20)) (
 bnd (r 133 [x0, (aE 10), (.s [40])] h18) fun v22 h22 =>
 aR v22 (
 bnd (r 208 [x0, (.f 210 [x0] [])] h22) fun v23 h23 =>
 bnd (aG 6 x2 v23 h23) fun _ h24 =>
 bnd (aK 6 x2 h24) fun v25 _ =>
 some (v25, h24)) (
 bnd (r 133 [x0, (aE 10), (.s [91])] h22) fun v26 h26 =>
 aR v26 (
 bnd (r 208 [x0, (.f 211 [x0] [])] h26) fun v27 h27 =>
 bnd (aG 6 x2 v27 h27) fun _ h28 =>
 bnd (aK 6 x2 h28) fun v29 _ =>
 some (v29, h28)) (
 bnd (aK 4 v2 h26) fun v30 h30 =>
 bnd (r 136 [x0, v30, (aE 13)] h30) fun v31 h31 =>
      oI r n x2 h31)))))
noncomputable def rF (r : RT) (n : Nat) (x0 x2 : DV) (h0 : Hp) : aJ :=
 bnd (r 207 [x0] h0) fun v1 h1 =>
 bnd (aC 0 v1 h1) fun v2 h2 =>
 bnd (aC 1 v1 h2) fun v3 h3 =>
 bnd (bM kA h3) fun v4 h4 =>
 bnd (aG 6 v4 v2 h4) fun _ h5 =>
 aR v3 (
 bnd (aK 6 v4 h5) fun v6 h6 =>
 bnd (aG 6 x2 v6 h6) fun _ h7 =>
 bnd (aK 6 x2 h7) fun v8 _ =>
 some (v8, h7)) (
  rC r n x0 x2 h5)
noncomputable def s182 (r : RT) (n : Nat) (x0 : DV) (h0 : Hp) : aJ :=
 bnd (bM kA h0) fun v1 h1 =>
  rF r n x0 v1 h1
noncomputable abbrev c182 : Code := cf Tryz.f182
noncomputable abbrev aBc : Code := cR c182
noncomputable abbrev aJw : Code := cR aBc
noncomputable abbrev cTf : Code := cR aJw
noncomputable abbrev aRw : Code := cL aJw
noncomputable abbrev aQm : Code := cL aBc
noncomputable abbrev aSm : Code := cL c182
noncomputable abbrev r182 : K := aU CF Tryz.f182
noncomputable def D182 (r : RT) (n : Nat) (c : Code) (X : Nat → K) (k : K) : K := aM CF r 55 n c X r182 k
theorem cEb : D182 r n cTf x0 r182 = (K1 (oI r n) 2) :=
 (by kernel_rfl)
theorem bYb : D182 r n aJw x0 r182 = D182 r n aRw x0 (K1 (oI r n) 2) :=
 congrArg (fun k => D182 r n aRw x0 k) (cEb r n)
theorem bZx (q0 : TT1) : D182 r n aRw x0 (K1 q0 2) = fun (env : aZ) (h : Hp) =>
 bnd (r 137 [(env 0), (aE 0)] h) fun v1 h1 =>
 bnd (bM [(aE 0), (.s []), (aE 0), (aE 0)] h1) fun v2 h2 =>
 bnd (aG 4 v2 v1 h2) fun _ h3 =>
 bnd (aN (env 0) h3) fun v4 h4 =>
 bnd (aB 3 v4 h4) fun v5 h5 =>
 bnd (aA v5 h5) fun v6 h6 =>
 bnd (aD .neq v6 (aE 0) h6) fun v7 h7 =>
 aR v7 (
   q0 (env 2) h7) (
 bnd (aB 0 v2 h7) fun v8 h8 =>
 bnd (aA v8 h8) fun v9 h9 =>
 bnd (aD .eql v9 (aE 1) h9) fun v10 h10 =>
 aR v10 (
 bnd (r 134 [(env 0)] h10) fun v11 h11 =>
 bnd (fO 1 v11 h11) fun v12 h12 =>
 bnd (bB kA [(0, 1, (aE 5)), (1, 1, v12)] h12) fun v13 h13 =>
 bnd (aG 6 (env 2) v13 h13) fun _ h14 =>
 bnd (aK 6 (env 2) h14) fun v15 _ =>
 some (v15, h14)) (
 bnd (aB 0 v2 h10) fun v16 h16 =>
 bnd (aA v16 h16) fun v17 h17 =>
 bnd (aD .eql v17 (aE 7) h17) fun v18 h18 =>
 aR v18 (
 bnd (r 208 [(env 0), (.f 209 [(env 0)] [])] h18) fun v19 h19 =>
 bnd (aG 6 (env 2) v19 h19) fun _ h20 =>
 bnd (aK 6 (env 2) h20) fun v21 _ =>
 some (v21, h20)) (
 bnd (r 133 [(env 0), (aE 10), (.s [40])] h18) fun v22 h22 =>
 aR v22 (
 bnd (r 208 [(env 0), (.f 210 [(env 0)] [])] h22) fun v23 h23 =>
 bnd (aG 6 (env 2) v23 h23) fun _ h24 =>
 bnd (aK 6 (env 2) h24) fun v25 _ =>
 some (v25, h24)) (
 bnd (r 133 [(env 0), (aE 10), (.s [91])] h22) fun v26 h26 =>
 aR v26 (
 bnd (r 208 [(env 0), (.f 211 [(env 0)] [])] h26) fun v27 h27 =>
 bnd (aG 6 (env 2) v27 h27) fun _ h28 =>
 bnd (aK 6 (env 2) h28) fun v29 _ =>
 some (v29, h28)) (
 bnd (aK 4 v2 h26) fun v30 h30 =>
 bnd (r 136 [(env 0), v30, (aE 13)] h30) fun v31 h31 =>
       q0 (env 2) h31))))) := by kernel_rfl
theorem bCg : (fun (env : aZ) (h : Hp) =>
 bnd (r 137 [(env 0), (aE 0)] h) fun v1 h1 =>
 bnd (bM [(aE 0), (.s []), (aE 0), (aE 0)] h1) fun v2 h2 =>
 bnd (aG 4 v2 v1 h2) fun _ h3 =>
 bnd (aN (env 0) h3) fun v4 h4 =>
 bnd (aB 3 v4 h4) fun v5 h5 =>
 bnd (aA v5 h5) fun v6 h6 =>
 bnd (aD .neq v6 (aE 0) h6) fun v7 h7 =>
 aR v7 (
   oI r n (env 2) h7) (
 bnd (aB 0 v2 h7) fun v8 h8 =>
 bnd (aA v8 h8) fun v9 h9 =>
 bnd (aD .eql v9 (aE 1) h9) fun v10 h10 =>
 aR v10 (
 bnd (r 134 [(env 0)] h10) fun v11 h11 =>
 bnd (fO 1 v11 h11) fun v12 h12 =>
 bnd (bB kA [(0, 1, (aE 5)), (1, 1, v12)] h12) fun v13 h13 =>
 bnd (aG 6 (env 2) v13 h13) fun _ h14 =>
 bnd (aK 6 (env 2) h14) fun v15 _ =>
 some (v15, h14)) (
 bnd (aB 0 v2 h10) fun v16 h16 =>
 bnd (aA v16 h16) fun v17 h17 =>
 bnd (aD .eql v17 (aE 7) h17) fun v18 h18 =>
 aR v18 (
 bnd (r 208 [(env 0), (.f 209 [(env 0)] [])] h18) fun v19 h19 =>
 bnd (aG 6 (env 2) v19 h19) fun _ h20 =>
 bnd (aK 6 (env 2) h20) fun v21 _ =>
 some (v21, h20)) (
 bnd (r 133 [(env 0), (aE 10), (.s [40])] h18) fun v22 h22 =>
 aR v22 (
 bnd (r 208 [(env 0), (.f 210 [(env 0)] [])] h22) fun v23 h23 =>
 bnd (aG 6 (env 2) v23 h23) fun _ h24 =>
 bnd (aK 6 (env 2) h24) fun v25 _ =>
 some (v25, h24)) (
 bnd (r 133 [(env 0), (aE 10), (.s [91])] h22) fun v26 h26 =>
 aR v26 (
 bnd (r 208 [(env 0), (.f 211 [(env 0)] [])] h26) fun v27 h27 =>
 bnd (aG 6 (env 2) v27 h27) fun _ h28 =>
 bnd (aK 6 (env 2) h28) fun v29 _ =>
 some (v29, h28)) (
 bnd (aK 4 v2 h26) fun v30 h30 =>
 bnd (r 136 [(env 0), v30, (aE 13)] h30) fun v31 h31 =>
       oI r n (env 2) h31)))))) = (K2 (rC r n) 0 2) := by kernel_rfl
theorem cGo : D182 r n aJw x0 r182 = (K2 (rC r n) 0 2) :=
 (bYb r n).trans
 ((bZx r n (oI r n)).trans (bCg r n))
theorem bLi : D182 r n aBc x0 r182 = D182 r n aQm x0 (K2 (rC r n) 0 2) :=
 congrArg (fun k => D182 r n aQm x0 k) (cGo r n)
theorem bSy (q0 : oU) : D182 r n aQm x0 (K2 q0 0 2) = fun (env : aZ) (h : Hp) =>
 bnd (r 207 [(env 0)] h) fun v1 h1 =>
 bnd (aC 0 v1 h1) fun v2 h2 =>
 bnd (aC 1 v1 h2) fun v3 h3 =>
 bnd (bM kA h3) fun v4 h4 =>
 bnd (aG 6 v4 v2 h4) fun _ h5 =>
 aR v3 (
 bnd (aK 6 v4 h5) fun v6 h6 =>
 bnd (aG 6 (env 2) v6 h6) fun _ h7 =>
 bnd (aK 6 (env 2) h7) fun v8 _ =>
 some (v8, h7)) (
   q0 (env 0) (env 2) h5) := by kernel_rfl
theorem bCn : (fun (env : aZ) (h : Hp) =>
 bnd (r 207 [(env 0)] h) fun v1 h1 =>
 bnd (aC 0 v1 h1) fun v2 h2 =>
 bnd (aC 1 v1 h2) fun v3 h3 =>
 bnd (bM kA h3) fun v4 h4 =>
 bnd (aG 6 v4 v2 h4) fun _ h5 =>
 aR v3 (
 bnd (aK 6 v4 h5) fun v6 h6 =>
 bnd (aG 6 (env 2) v6 h6) fun _ h7 =>
 bnd (aK 6 (env 2) h7) fun v8 _ =>
 some (v8, h7)) (
   rC r n (env 0) (env 2) h5)) = (K2 (rF r n) 0 2) := by kernel_rfl
theorem cBy : D182 r n aBc x0 r182 = (K2 (rF r n) 0 2) :=
 (bLi r n).trans
 ((bSy r n (rC r n)).trans (bCn r n))
theorem cTk : D182 r n c182 x0 r182 = D182 r n aSm x0 (K2 (rF r n) 0 2) :=
 congrArg (fun k => D182 r n aSm x0 k) (cBy r n)
theorem cZv (q0 : oU) : D182 r n aSm x0 (K2 q0 0 2) = fun (env : aZ) (h : Hp) =>
 bnd (bM kA h) fun v1 h1 =>
  q0 (env 0) v1 h1 := by kernel_rfl
theorem cHv : (fun (env : aZ) (h : Hp) =>
 bnd (bM kA h) fun v1 h1 =>
  rF r n (env 0) v1 h1) = (K1 (s182 r n) 0) := by kernel_rfl
theorem dIf : D182 r n c182 x0 r182 = (K1 (s182 r n) 0) :=
 (cTk r n).trans
 ((cZv r n (rF r n)).trans (cHv r n))
theorem cZz : aF CF r n 182 args h = s182 r n (aS args 0) h :=
 (by kernel_rfl : aF CF r n 182 args h = D182 r n c182 x0 r182 (aH args) h).trans ((congrFun (congrFun (dIf r n) (aH args)) h).trans (by kernel_rfl))
noncomputable def eV (r : RT) (n : Nat) (h0 : Hp) : aJ :=
 some ((.i .i64 (Int.negSucc 0)), h0)
noncomputable def aWs (r : RT) (n : Nat) (kk4 : dL) (x0 x1 x7 x8 : DV) (h0 : Hp) : aJ :=
 bnd (aD .lss x8 x7 h0) fun v1 h1 =>
 aR v1 (
 bnd (aI 4 x0 x8 h1) fun v2 h2 =>
 bnd (aK 4 v2 h2) fun v3 h3 =>
 bnd (cX CF r x1 [v3] h3) fun v4 h4 =>
 aR v4 (
 some (x8, h4)) (
 bnd (aD .add x8 (aE 1) h4) fun v5 h5 =>
    kk4 x0 x1 x7 v5 h5)) (
      eV r n h1)
noncomputable def uJ (r : RT) (n : Nat) (m : Nat) : dL :=
 Nat.rec (motive := fun _ => dL) (fun _ _ _ _ _ => none) (fun _ ih => aWs r n ih) m
noncomputable def bOc (r : RT) (n : Nat) : dL := uJ r n n
noncomputable def aQp (r : RT) (n : Nat) (x0 x1 x7 x8 : DV) (h0 : Hp) : aJ :=
 bOc r n x0 x1 x7 x8 h0
noncomputable def aSt (r : RT) (n : Nat) (x0 x1 : DV) (h0 : Hp) : aJ :=
 bnd (bZ x0 h0) fun v1 h1 =>
  aQp r n x0 x1 v1 (aE 0) h1
noncomputable def s185 (r : RT) (n : Nat) (x0 x1 : DV) (h0 : Hp) : aJ :=
 aSt r n x0 x1 h0
noncomputable abbrev c185 : Code := cf Tryz.f185
noncomputable abbrev aBp : Code := cR c185
noncomputable abbrev cWu : Code := cR aBp
noncomputable abbrev wQ : Code := cL aBp
noncomputable abbrev aTf : Code := cR wQ
noncomputable abbrev aEv : Code := cL aTf
noncomputable abbrev nS : Code := cL aEv
noncomputable abbrev bSr : Code := cL wQ
noncomputable abbrev bTw : Code := cL c185
noncomputable abbrev r185 : K := aU CF Tryz.f185
noncomputable def D185 (r : RT) (n : Nat) (c : Code) (X : Nat → K) (k : K) : K := aM CF r 19 n c X r185 k
theorem cLa : D185 r n cWu x0 r185 = (K0 (eV r n)) :=
 (by kernel_rfl)
theorem bZb (kk4 : dL) : D185 r n nS (xs x0 0 (K0 (eV r n))) (K4 kk4 0 1 7 8) = (K4 (aWs r n kk4) 0 1 7 8) :=
 (by kernel_rfl)
theorem bMg (m : Nat) : aO (fun kk => D185 r n nS (xs x0 0 (K0 (eV r n))) kk) m = (K4 (uJ r n m) 0 1 7 8) := by
 induction m with
 | zero => exact (by kernel_rfl : aO (fun kk => D185 r n nS (xs x0 0 (K0 (eV r n))) kk) 0 = (K4 (uJ r n 0) 0 1 7 8))
 | succ m ih =>
  refine (by kernel_rfl : aO (fun kk => D185 r n nS (xs x0 0 (K0 (eV r n))) kk) (m + 1) = D185 r n nS (xs x0 0 (K0 (eV r n))) (aO (fun kk => D185 r n nS (xs x0 0 (K0 (eV r n))) kk) m)).trans ?_
  rw [ih]
  exact (bZb r n (uJ r n m)).trans (by kernel_rfl)
theorem cJd : D185 r n aEv (xs x0 0 (K0 (eV r n))) (K0 (eV r n)) = (K4 (bOc r n) 0 1 7 8) :=
 (by kernel_rfl : D185 r n aEv (xs x0 0 (K0 (eV r n))) (K0 (eV r n)) = aO (fun kk => D185 r n nS (xs x0 0 (K0 (eV r n))) kk) n).trans ((bMg r n n).trans (by kernel_rfl))
theorem cGv : D185 r n aTf x0 (K0 (eV r n)) = (K4 (aQp r n) 0 1 7 8) :=
 (by kernel_rfl : D185 r n aTf x0 (K0 (eV r n)) = D185 r n aEv (xs x0 0 (K0 (eV r n))) (K0 (eV r n))).trans
 ((cJd r n).trans (by kernel_rfl))
theorem cAg : D185 r n aBp x0 r185 = D185 r n wQ x0 (K0 (eV r n)) :=
 congrArg (fun k => D185 r n wQ x0 k) (cLa r n)
theorem bUs : D185 r n wQ x0 (K0 (eV r n)) = D185 r n bSr x0 (K4 (aQp r n) 0 1 7 8) :=
 congrArg (fun k => D185 r n bSr x0 k) (cGv r n)
theorem cOi : D185 r n aBp x0 r185 = (K2 (aSt r n) 0 1) :=
 (cAg r n).trans
 ((bUs r n).trans
 ((by kernel_rfl)))
theorem cWj : D185 r n c185 x0 r185 = D185 r n bTw x0 (K2 (aSt r n) 0 1) :=
 congrArg (fun k => D185 r n bTw x0 k) (cOi r n)
theorem dHx : D185 r n c185 x0 r185 = (K2 (s185 r n) 0 1) :=
 (cWj r n).trans
 ((by kernel_rfl))
theorem cUq : aF CF r n 185 args h = s185 r n (aS args 0) (aS args 1) h :=
 (by kernel_rfl : aF CF r n 185 args h = D185 r n c185 x0 r185 (aH args) h).trans ((congrFun (congrFun (dHx r n) (aH args)) h).trans (by kernel_rfl))
noncomputable def s186 (r : RT) (n : Nat) (x0 x1 : DV) (h0 : Hp) : aJ :=
 bnd (bS x0 h0) fun v1 h1 =>
 bnd (aB 0 v1 h1) fun v2 h2 =>
 bnd (aA v2 h2) fun v3 h3 =>
 bnd (aA x1 h3) fun v4 h4 =>
 bnd (fM .eql v3 v4 h4) fun v5 h5 =>
 some (v5, h5)
noncomputable abbrev c186 : Code := cf Tryz.f186
noncomputable abbrev r186 : K := aU CF Tryz.f186
noncomputable def D186 (r : RT) (n : Nat) (c : Code) (X : Nat → K) (k : K) : K := aM CF r 8 n c X r186 k
theorem dDo : D186 r n c186 x0 r186 = (K2 (s186 r n) 0 1) :=
 (by kernel_rfl)
theorem cWm : aF CF r n 186 args h = s186 r n (aS args 0) (aS args 1) h :=
 (by kernel_rfl : aF CF r n 186 args h = D186 r n c186 x0 r186 (aH args) h).trans ((congrFun (congrFun (dDo r n) (aH args)) h).trans (by kernel_rfl))
noncomputable def eM (r : RT) (n : Nat) (h0 : Hp) : aJ :=
 some ((.i .i64 (Int.negSucc 0)), h0)
noncomputable def aVh (r : RT) (n : Nat) (kk4 : dL) (x0 x1 x7 x8 : DV) (h0 : Hp) : aJ :=
 bnd (aD .lss x8 x7 h0) fun v1 h1 =>
 aR v1 (
 bnd (aI 4 x0 x8 h1) fun v2 h2 =>
 bnd (aK 4 v2 h2) fun v3 h3 =>
 bnd (cX CF r x1 [v3] h3) fun v4 h4 =>
 aR v4 (
 some (x8, h4)) (
 bnd (aD .add x8 (aE 1) h4) fun v5 h5 =>
    kk4 x0 x1 x7 v5 h5)) (
      eM r n h1)
noncomputable def sT (r : RT) (n : Nat) (m : Nat) : dL :=
 Nat.rec (motive := fun _ => dL) (fun _ _ _ _ _ => none) (fun _ ih => aVh r n ih) m
noncomputable def bRe (r : RT) (n : Nat) : dL := sT r n n
noncomputable def aSi (r : RT) (n : Nat) (x0 x1 x7 x8 : DV) (h0 : Hp) : aJ :=
 bRe r n x0 x1 x7 x8 h0
noncomputable def aRt (r : RT) (n : Nat) (x0 x1 : DV) (h0 : Hp) : aJ :=
 bnd (bZ x0 h0) fun v1 h1 =>
  aSi r n x0 x1 v1 (aE 0) h1
noncomputable def s187 (r : RT) (n : Nat) (x0 x1 : DV) (h0 : Hp) : aJ :=
 aRt r n x0 x1 h0
noncomputable abbrev c187 : Code := cf Tryz.f187
noncomputable abbrev aEf : Code := cR c187
noncomputable abbrev cZd : Code := cR aEf
noncomputable abbrev xE : Code := cL aEf
noncomputable abbrev aOz : Code := cR xE
noncomputable abbrev aKg : Code := cL aOz
noncomputable abbrev nN : Code := cL aKg
noncomputable abbrev bRo : Code := cL xE
noncomputable abbrev bXb : Code := cL c187
noncomputable abbrev r187 : K := aU CF Tryz.f187
noncomputable def D187 (r : RT) (n : Nat) (c : Code) (X : Nat → K) (k : K) : K := aM CF r 19 n c X r187 k
theorem cCg : D187 r n cZd x0 r187 = (K0 (eM r n)) :=
 (by kernel_rfl)
theorem bUq (kk4 : dL) : D187 r n nN (xs x0 0 (K0 (eM r n))) (K4 kk4 0 1 7 8) = (K4 (aVh r n kk4) 0 1 7 8) :=
 (by kernel_rfl)
theorem bUi (m : Nat) : aO (fun kk => D187 r n nN (xs x0 0 (K0 (eM r n))) kk) m = (K4 (sT r n m) 0 1 7 8) := by
 induction m with
 | zero => exact (by kernel_rfl : aO (fun kk => D187 r n nN (xs x0 0 (K0 (eM r n))) kk) 0 = (K4 (sT r n 0) 0 1 7 8))
 | succ m ih =>
  refine (by kernel_rfl : aO (fun kk => D187 r n nN (xs x0 0 (K0 (eM r n))) kk) (m + 1) = D187 r n nN (xs x0 0 (K0 (eM r n))) (aO (fun kk => D187 r n nN (xs x0 0 (K0 (eM r n))) kk) m)).trans ?_
  rw [ih]
  exact (bUq r n (sT r n m)).trans (by kernel_rfl)
theorem cHo : D187 r n aKg (xs x0 0 (K0 (eM r n))) (K0 (eM r n)) = (K4 (bRe r n) 0 1 7 8) :=
 (by kernel_rfl : D187 r n aKg (xs x0 0 (K0 (eM r n))) (K0 (eM r n)) = aO (fun kk => D187 r n nN (xs x0 0 (K0 (eM r n))) kk) n).trans ((bUi r n n).trans (by kernel_rfl))
theorem cFd : D187 r n aOz x0 (K0 (eM r n)) = (K4 (aSi r n) 0 1 7 8) :=
 (by kernel_rfl : D187 r n aOz x0 (K0 (eM r n)) = D187 r n aKg (xs x0 0 (K0 (eM r n))) (K0 (eM r n))).trans
 ((cHo r n).trans (by kernel_rfl))
theorem bMe : D187 r n aEf x0 r187 = D187 r n xE x0 (K0 (eM r n)) :=
 congrArg (fun k => D187 r n xE x0 k) (cCg r n)
theorem bIj : D187 r n xE x0 (K0 (eM r n)) = D187 r n bRo x0 (K4 (aSi r n) 0 1 7 8) :=
 congrArg (fun k => D187 r n bRo x0 k) (cFd r n)
theorem cLk : D187 r n aEf x0 r187 = (K2 (aRt r n) 0 1) :=
 (bMe r n).trans
 ((bIj r n).trans
 ((by kernel_rfl)))
theorem cVi : D187 r n c187 x0 r187 = D187 r n bXb x0 (K2 (aRt r n) 0 1) :=
 congrArg (fun k => D187 r n bXb x0 k) (cLk r n)
theorem dJm : D187 r n c187 x0 r187 = (K2 (s187 r n) 0 1) :=
 (cVi r n).trans
 ((by kernel_rfl))
theorem dCm : aF CF r n 187 args h = s187 r n (aS args 0) (aS args 1) h :=
 (by kernel_rfl : aF CF r n 187 args h = D187 r n c187 x0 r187 (aH args) h).trans ((congrFun (congrFun (dJm r n) (aH args)) h).trans (by kernel_rfl))
noncomputable def s188 (r : RT) (n : Nat) (x0 x1 : DV) (h0 : Hp) : aJ :=
 bnd (bS x0 h0) fun v1 h1 =>
 bnd (aK 4 v1 h1) fun v2 h2 =>
 bnd (aK 4 x1 h2) fun v3 h3 =>
 bnd (r 189 [v2, v3] h3) fun v4 h4 =>
 some (v4, h4)
noncomputable abbrev c188 : Code := cf Tryz.f188
noncomputable abbrev r188 : K := aU CF Tryz.f188
noncomputable def D188 (r : RT) (n : Nat) (c : Code) (X : Nat → K) (k : K) : K := aM CF r 7 n c X r188 k
theorem dEq : D188 r n c188 x0 r188 = (K2 (s188 r n) 0 1) :=
 (by kernel_rfl)
theorem dCc : aF CF r n 188 args h = s188 r n (aS args 0) (aS args 1) h :=
 (by kernel_rfl : aF CF r n 188 args h = D188 r n c188 x0 r188 (aH args) h).trans ((congrFun (congrFun (dEq r n) (aH args)) h).trans (by kernel_rfl))
noncomputable def s189 (r : RT) (n : Nat) (x0 x1 : DV) (h0 : Hp) : aJ :=
 bnd (bS x0 h0) fun v1 h1 =>
 bnd (bS x1 h1) fun v2 h2 =>
 bnd (aB 0 v1 h2) fun v3 h3 =>
 bnd (aA v3 h3) fun v4 h4 =>
 bnd (aB 0 v2 h4) fun v5 h5 =>
 bnd (aA v5 h5) fun v6 h6 =>
 bnd (aD .eql v4 v6 h6) fun v7 h7 =>
 bnd (gD v7 true (aB 1 v1 h7) h7) fun v8 h8 =>
 bnd (gD v7 true (aA v8 h8) h8) fun v9 h9 =>
 bnd (gD v7 true (aB 1 v2 h9) h9) fun v10 h10 =>
 bnd (gD v7 true (aA v10 h10) h10) fun v11 h11 =>
 bnd (gD v7 true (fM .eql v9 v11 h11) h11) fun v12 h12 =>
 bnd (aP v7 v12 (.b false) h12) fun v13 h13 =>
 bnd (gD v13 true (aB 2 v1 h13) h13) fun v14 h14 =>
 bnd (gD v13 true (aA v14 h14) h14) fun v15 h15 =>
 bnd (gD v13 true (aB 2 v2 h15) h15) fun v16 h16 =>
 bnd (gD v13 true (aA v16 h16) h16) fun v17 h17 =>
 bnd (gD v13 true (aD .eql v15 v17 h17) h17) fun v18 h18 =>
 bnd (aP v13 v18 (.b false) h18) fun v19 h19 =>
 bnd (gD v19 true (aB 3 v1 h19) h19) fun v20 h20 =>
 bnd (gD v19 true (aA v20 h20) h20) fun v21 h21 =>
 bnd (gD v19 true (aB 3 v2 h21) h21) fun v22 h22 =>
 bnd (gD v19 true (aA v22 h22) h22) fun v23 h23 =>
 bnd (gD v19 true (r 213 [v21, v23, (.f 189 [] [])] h23) h23) fun v24 h24 =>
 bnd (aP v19 v24 (.b false) h24) fun v25 h25 =>
 some (v25, h25)
noncomputable abbrev c189 : Code := cf Tryz.f189
noncomputable abbrev r189 : K := aU CF Tryz.f189
noncomputable def D189 (r : RT) (n : Nat) (c : Code) (X : Nat → K) (k : K) : K := aM CF r 31 n c X r189 k
theorem dFn : D189 r n c189 x0 r189 = (K2 (s189 r n) 0 1) :=
 (by kernel_rfl)
theorem cYj : aF CF r n 189 args h = s189 r n (aS args 0) (aS args 1) h :=
 (by kernel_rfl : aF CF r n 189 args h = D189 r n c189 x0 r189 (aH args) h).trans ((congrFun (congrFun (dFn r n) (aH args)) h).trans (by kernel_rfl))
noncomputable def s191 (r : RT) (n : Nat) (x0 x1 : DV) (h0 : Hp) : aJ :=
 bnd (bB [(aE 0), (.s []), (aE 0), .l0] [(0, 1, (aE 3)), (1, 1, x1)] h0) fun v1 h1 =>
 bnd (lC [x0, v1] h1) fun v2 h2 =>
 some (v2, h2)
noncomputable abbrev c191 : Code := cf Tryz.f191
noncomputable abbrev r191 : K := aU CF Tryz.f191
noncomputable def D191 (r : RT) (n : Nat) (c : Code) (X : Nat → K) (k : K) : K := aM CF r 9 n c X r191 k
theorem dEf : D191 r n c191 x0 r191 = (K2 (s191 r n) 0 1) :=
 (by kernel_rfl)
theorem dBz : aF CF r n 191 args h = s191 r n (aS args 0) (aS args 1) h :=
 (by kernel_rfl : aF CF r n 191 args h = D191 r n c191 x0 r191 (aH args) h).trans ((congrFun (congrFun (dEf r n) (aH args)) h).trans (by kernel_rfl))
noncomputable def lY (r : RT) (n : Nat) (x2 x3 x5 x6 x9 : DV) (h0 : Hp) : aJ :=
 bnd (aB 5 x3 h0) fun v1 h1 =>
 bnd (aA v1 h1) fun v2 h2 =>
 bnd (bZ v2 h2) fun v3 h3 =>
 bnd (aD .neq v3 x9 h3) fun v4 h4 =>
 bnd (gD v4 false (aB 5 x3 h4) h4) fun v5 h5 =>
 bnd (gD v4 false (aA v5 h5) h5) fun v6 h6 =>
 bnd (gD v4 false (cT 6 v6 (some (aE 1)) none h6) h6) fun v7 h7 =>
 bnd (gD v4 false (r 220 [v7, (.f 221 [] [])] h7) h7) fun v8 h8 =>
 bnd (aP v4 (.b true) v8 h8) fun v9 h9 =>
 aR v9 (
 some ((.b false), h9)) (
 bnd (aA x2 h9) fun v10 h10 =>
 bnd (aB 5 x3 h10) fun v11 h11 =>
 bnd (aA v11 h11) fun v12 h12 =>
 bnd (aI 6 v12 (aE 0) h12) fun v13 h13 =>
 bnd (aK 6 v13 h13) fun v14 h14 =>
 bnd (r 140 [v10, v14] h14) fun v15 h15 =>
 bnd (aA x2 h15) fun v16 h16 =>
 bnd (r 165 [v16, (aE 17)] h16) fun v17 h17 =>
 bnd (cX CF r x5 [] h17) fun v18 h18 =>
 bnd (aA x2 h18) fun v19 h19 =>
 bnd (r 165 [v19, (aE 16)] h19) fun v20 h20 =>
 bnd (cX CF r v17 [] h20) fun v21 h21 =>
 bnd (cX CF r x6 [] h21) fun v22 h22 =>
 bnd (cX CF r v20 [] h22) fun v23 h23 =>
 some ((.b true), h23))
noncomputable def aRm (r : RT) (n : Nat) (x2 x3 x7 x8 x9 : DV) (h0 : Hp) : aJ :=
 bnd (aB 1 x3 h0) fun v1 h1 =>
 bnd (aA v1 h1) fun v2 h2 =>
 bnd (fM .eql v2 (.s [105, 102, 84, 114, 117, 101, 58]) h2) fun v3 h3 =>
 aR v3 (
 bnd (cX CF r x7 [(aE 1)] h3) fun v4 h4 =>
 bnd (cX CF r x8 [(aE 2)] h4) fun v5 h5 =>
  lY r n x2 x3 v4 v5 x9 h5) (
 bnd (fM .eql v2 (.s [105, 102, 70, 97, 108, 115, 101, 58]) h3) fun v6 h6 =>
 aR v6 (
 bnd (cX CF r x8 [(aE 2)] h6) fun v7 h7 =>
 bnd (cX CF r x7 [(aE 1)] h7) fun v8 h8 =>
      lY r n x2 x3 v7 v8 x9 h8) (
 bnd (fM .eql v2 (.s [97, 110, 100, 58]) h6) fun v9 h9 =>
 aR v9 (
 bnd (cX CF r x7 [(aE 1)] h9) fun v10 h10 =>
 bnd (cX CF r x8 [(aE 4)] h10) fun v11 h11 =>
    lY r n x2 x3 v10 v11 x9 h11) (
 bnd (fM .eql v2 (.s [111, 114, 58]) h9) fun v12 h12 =>
 aR v12 (
 bnd (cX CF r x8 [(aE 3)] h12) fun v13 h13 =>
 bnd (cX CF r x7 [(aE 1)] h13) fun v14 h14 =>
     lY r n x2 x3 v13 v14 x9 h14) (
 bnd (fM .eql v2 (.s [105, 102, 84, 114, 117, 101, 58, 105, 102, 70, 97, 108, 115, 101, 58]) h12) fun v15 h15 =>
 aR v15 (
 bnd (cX CF r x7 [(aE 1)] h15) fun v16 h16 =>
 bnd (cX CF r x7 [(aE 2)] h16) fun v17 h17 =>
      lY r n x2 x3 v16 v17 (aE 3) h17) (
 bnd (fM .eql v2 (.s [105, 102, 70, 97, 108, 115, 101, 58, 105, 102, 84, 114, 117, 101, 58]) h15) fun v18 h18 =>
 aR v18 (
 bnd (cX CF r x7 [(aE 2)] h18) fun v19 h19 =>
 bnd (cX CF r x7 [(aE 1)] h19) fun v20 h20 =>
       lY r n x2 x3 v19 v20 (aE 3) h20) (
 some ((.b false), h18)))))))
noncomputable def aRv (r : RT) (n : Nat) (x2 x3 x7 x8 : DV) (h0 : Hp) : aJ :=
 aRm r n x2 x3 x7 x8 (aE 2) h0
noncomputable def aNx (r : RT) (n : Nat) (x2 x3 x7 : DV) (h0 : Hp) : aJ :=
 aRv r n x2 x3 x7 (.f 218 [] [x2]) h0
noncomputable def aPz (r : RT) (n : Nat) (x2 x3 : DV) (h0 : Hp) : aJ :=
 aNx r n x2 x3 (.f 216 [] [x2, x3]) h0
noncomputable def vV (r : RT) (n : Nat) (x2 x3 : DV) (h0 : Hp) : aJ :=
 aPz r n x2 x3 h0
noncomputable def s192 (r : RT) (n : Nat) (x0 x1 : DV) (h0 : Hp) : aJ :=
 bnd (bS x0 h0) fun v1 h1 =>
 bnd (bS x1 h1) fun v2 h2 =>
  vV r n v1 v2 h2
noncomputable abbrev c192 : Code := cf Tryz.f192
noncomputable abbrev aFv : Code := cR c192
noncomputable abbrev aBs : Code := cR aFv
noncomputable abbrev aDr : Code := cR aBs
noncomputable abbrev aGz : Code := cR aDr
noncomputable abbrev aKf : Code := cR aGz
noncomputable abbrev dAz : Code := cR aKf
noncomputable abbrev bVk : Code := cL aKf
noncomputable abbrev bHl : Code := cL aGz
noncomputable abbrev bOs : Code := cL aDr
noncomputable abbrev aZn : Code := cL aBs
noncomputable abbrev aYx : Code := cL aFv
noncomputable abbrev aCw : Code := cL c192
noncomputable abbrev r192 : K := aU CF Tryz.f192
noncomputable def D192 (r : RT) (n : Nat) (c : Code) (X : Nat → K) (k : K) : K := aM CF r 81 n c X r192 k
theorem cFn : D192 r n dAz x0 r192 = (K5 (lY r n) 2 3 5 6 9) :=
 (by kernel_rfl)
theorem bYq : D192 r n aKf x0 r192 = D192 r n bVk x0 (K5 (lY r n) 2 3 5 6 9) :=
 congrArg (fun k => D192 r n bVk x0 k) (cFn r n)
theorem cJh : D192 r n aKf x0 r192 = (K5 (aRm r n) 2 3 7 8 9) :=
 (bYq r n).trans
 ((by kernel_rfl))
theorem bWj : D192 r n aGz x0 r192 = D192 r n bHl x0 (K5 (aRm r n) 2 3 7 8 9) :=
 congrArg (fun k => D192 r n bHl x0 k) (cJh r n)
theorem cKs : D192 r n aGz x0 r192 = (K4 (aRv r n) 2 3 7 8) :=
 (bWj r n).trans
 ((by kernel_rfl))
theorem bJx : D192 r n aDr x0 r192 = D192 r n bOs x0 (K4 (aRv r n) 2 3 7 8) :=
 congrArg (fun k => D192 r n bOs x0 k) (cKs r n)
theorem cIl : D192 r n aDr x0 r192 = (K3 (aNx r n) 2 3 7) :=
 (bJx r n).trans
 ((by kernel_rfl))
theorem bWc : D192 r n aBs x0 r192 = D192 r n aZn x0 (K3 (aNx r n) 2 3 7) :=
 congrArg (fun k => D192 r n aZn x0 k) (cIl r n)
theorem cDi : D192 r n aBs x0 r192 = (K2 (aPz r n) 2 3) :=
 (bWc r n).trans
 ((by kernel_rfl))
theorem bZw : D192 r n aFv x0 r192 = D192 r n aYx x0 (K2 (aPz r n) 2 3) :=
 congrArg (fun k => D192 r n aYx x0 k) (cDi r n)
theorem cOz : D192 r n aFv x0 r192 = (K2 (vV r n) 2 3) :=
 (bZw r n).trans
 ((by kernel_rfl))
theorem cVb : D192 r n c192 x0 r192 = D192 r n aCw x0 (K2 (vV r n) 2 3) :=
 congrArg (fun k => D192 r n aCw x0 k) (cOz r n)
theorem cXv (q0 : oU) : D192 r n aCw x0 (K2 q0 2 3) = fun (env : aZ) (h : Hp) =>
 bnd (bS (env 0) h) fun v1 h1 =>
 bnd (bS (env 1) h1) fun v2 h2 =>
  q0 v1 v2 h2 := by kernel_rfl
theorem cBd : (fun (env : aZ) (h : Hp) =>
 bnd (bS (env 0) h) fun v1 h1 =>
 bnd (bS (env 1) h1) fun v2 h2 =>
  vV r n v1 v2 h2) = (K2 (s192 r n) 0 1) := by kernel_rfl
theorem dHj : D192 r n c192 x0 r192 = (K2 (s192 r n) 0 1) :=
 (cVb r n).trans
 ((cXv r n (vV r n)).trans (cBd r n))
theorem dAs : aF CF r n 192 args h = s192 r n (aS args 0) (aS args 1) h :=
 (by kernel_rfl : aF CF r n 192 args h = D192 r n c192 x0 r192 (aH args) h).trans ((congrFun (congrFun (dHj r n) (aH args)) h).trans (by kernel_rfl))
noncomputable def s195 (r : RT) (n : Nat) (x0 x1 : DV) (h0 : Hp) : aJ :=
 bnd (bS x1 h0) fun v1 h1 =>
 bnd (aK 6 v1 h1) fun v2 h2 =>
 bnd (r 223 [v2] h2) fun v3 h3 =>
 aR v3 (
 bnd (r 141 [x0, (aE 1), (aE 0), (aE 0)] h3) fun v4 h4 =>
 some ((aE 15), h4)) (
 bnd (aK 6 v1 h3) fun v5 h5 =>
 bnd (r 140 [x0, v5] h5) fun v6 h6 =>
 some ((aE 14), h6))
noncomputable abbrev c195 : Code := cf Tryz.f195
noncomputable abbrev r195 : K := aU CF Tryz.f195
noncomputable def D195 (r : RT) (n : Nat) (c : Code) (X : Nat → K) (k : K) : K := aM CF r 12 n c X r195 k
theorem dEu : D195 r n c195 x0 r195 = (K2 (s195 r n) 0 1) :=
 (by kernel_rfl)
theorem cSb : aF CF r n 195 args h = s195 r n (aS args 0) (aS args 1) h :=
 (by kernel_rfl : aF CF r n 195 args h = D195 r n c195 x0 r195 (aH args) h).trans ((congrFun (congrFun (dEu r n) (aH args)) h).trans (by kernel_rfl))
noncomputable def s196 (r : RT) (n : Nat) (x0 : DV) (h0 : Hp) : aJ :=
 bnd (aN x0 h0) fun v1 h1 =>
 bnd (aB 0 v1 h1) fun v2 h2 =>
 bnd (aB 5 v2 h2) fun v3 h3 =>
 bnd (aA v3 h3) fun v4 h4 =>
 bnd (bZ v4 h4) fun v5 h5 =>
 some (v5, h5)
noncomputable abbrev c196 : Code := cf Tryz.f196
noncomputable abbrev r196 : K := aU CF Tryz.f196
noncomputable def D196 (r : RT) (n : Nat) (c : Code) (X : Nat → K) (k : K) : K := aM CF r 9 n c X r196 k
theorem dDv : D196 r n c196 x0 r196 = (K1 (s196 r n) 0) :=
 (by kernel_rfl)
theorem cTc : aF CF r n 196 args h = s196 r n (aS args 0) h :=
 (by kernel_rfl : aF CF r n 196 args h = D196 r n c196 x0 r196 (aH args) h).trans ((congrFun (congrFun (dDv r n) (aH args)) h).trans (by kernel_rfl))
noncomputable def dD (r : RT) (n : Nat) (x4 : DV) (h0 : Hp) : aJ :=
 some (x4, h0)
noncomputable def aJa (r : RT) (n : Nat) (kk5 : dL) (x0 x1 x4 x5 : DV) (h0 : Hp) : aJ :=
 bnd (aD .add x5 (aE 1) h0) fun v1 h1 =>
  kk5 x0 x1 x4 v1 h1
noncomputable def aQi (r : RT) (n : Nat) (kk5 : dL) (x0 x1 x4 x5 : DV) (h0 : Hp) : aJ :=
 bnd (aA x1 h0) fun v1 h1 =>
 bnd (r 201 [v1, x5] h1) fun v2 h2 =>
 bnd (aC 0 v2 h2) fun v3 h3 =>
 bnd (aC 1 v2 h3) fun v4 h4 =>
 bnd (gD v4 true (some (x0, h4)) h4) fun v5 h5 =>
 bnd (gD v4 true (some (v3, h5)) h5) fun v6 h6 =>
 bnd (gD v4 true (aD .lss v5 v6 h6) h6) fun v7 h7 =>
 bnd (aP v4 v7 (.b false) h7) fun v8 h8 =>
 aR v8 (
  aJa r n kk5 x0 x1 x5 x5 h8) (
  aJa r n kk5 x0 x1 x4 x5 h8)
noncomputable def bAk (r : RT) (n : Nat) (kk5 : dL) (x0 x1 x4 x5 : DV) (h0 : Hp) : aJ :=
 bnd (aD .add x5 (aE 2) h0) fun v1 h1 =>
 bnd (aD .leq v1 x0 h1) fun v2 h2 =>
 aR v2 (
   aQi r n kk5 x0 x1 x4 x5 h2) (
   dD r n x4 h2)
noncomputable def tN (r : RT) (n : Nat) (m : Nat) : dL :=
 Nat.rec (motive := fun _ => dL) (fun _ _ _ _ _ => none) (fun _ ih => bAk r n ih) m
noncomputable def bIn (r : RT) (n : Nat) : dL := tN r n n
noncomputable def aSx (r : RT) (n : Nat) (x0 x1 x4 x5 : DV) (h0 : Hp) : aJ :=
 bIn r n x0 x1 x4 x5 h0
noncomputable def aNy (r : RT) (n : Nat) (x0 x1 x4 : DV) (h0 : Hp) : aJ :=
 aSx r n x0 x1 x4 (aE 0) h0
noncomputable def aUa (r : RT) (n : Nat) (x0 x1 : DV) (h0 : Hp) : aJ :=
 aNy r n x0 x1 (.i .i64 (Int.negSucc 0)) h0
noncomputable def s200 (r : RT) (n : Nat) (x0 x1 : DV) (h0 : Hp) : aJ :=
 aUa r n x0 x1 h0
noncomputable abbrev c200 : Code := cf Tryz.f200
noncomputable abbrev aJc : Code := cR c200
noncomputable abbrev aGc : Code := cR aJc
noncomputable abbrev cWa : Code := cR aGc
noncomputable abbrev wY : Code := cL aGc
noncomputable abbrev aOv : Code := cR wY
noncomputable abbrev aIm : Code := cL aOv
noncomputable abbrev kG : Code := cL aIm
noncomputable abbrev aIr : Code := cR kG
noncomputable abbrev cZk : Code := cR aIr
noncomputable abbrev aUt : Code := cL aIr
noncomputable abbrev bBt : Code := cL kG
noncomputable abbrev aYc : Code := cL wY
noncomputable abbrev aXf : Code := cL aJc
noncomputable abbrev bBz : Code := cL c200
noncomputable abbrev r200 : K := aU CF Tryz.f200
noncomputable def D200 (r : RT) (n : Nat) (c : Code) (X : Nat → K) (k : K) : K := aM CF r 28 n c X r200 k
theorem cPi : D200 r n cWa x0 r200 = (K1 (dD r n) 4) :=
 (by kernel_rfl)
theorem cHu (kk5 : dL) : D200 r n cZk (xs x0 0 (K1 (dD r n) 4)) (K4 kk5 0 1 4 5) = (K4 (aJa r n kk5) 0 1 4 5) :=
 (by kernel_rfl)
theorem bZc (kk5 : dL) : D200 r n aIr (xs x0 0 (K1 (dD r n) 4)) (K4 kk5 0 1 4 5) = D200 r n aUt (xs x0 0 (K1 (dD r n) 4)) (K4 (aJa r n kk5) 0 1 4 5) :=
 congrArg (fun k => D200 r n aUt (xs x0 0 (K1 (dD r n) 4)) k) (cHu r n kk5)
theorem cPf (kk5 : dL) : D200 r n aIr (xs x0 0 (K1 (dD r n) 4)) (K4 kk5 0 1 4 5) = (K4 (aQi r n kk5) 0 1 4 5) :=
 (bZc r n kk5).trans
 ((by kernel_rfl))
theorem bZa (kk5 : dL) : D200 r n kG (xs x0 0 (K1 (dD r n) 4)) (K4 kk5 0 1 4 5) = D200 r n bBt (xs x0 0 (K1 (dD r n) 4)) (K4 (aQi r n kk5) 0 1 4 5) :=
 congrArg (fun k => D200 r n bBt (xs x0 0 (K1 (dD r n) 4)) k) (cPf r n kk5)
theorem bNz (kk5 : dL) : D200 r n kG (xs x0 0 (K1 (dD r n) 4)) (K4 kk5 0 1 4 5) = (K4 (bAk r n kk5) 0 1 4 5) :=
 (bZa r n kk5).trans
 ((by kernel_rfl))
theorem bIe (m : Nat) : aO (fun kk => D200 r n kG (xs x0 0 (K1 (dD r n) 4)) kk) m = (K4 (tN r n m) 0 1 4 5) := by
 induction m with
 | zero => exact (by kernel_rfl : aO (fun kk => D200 r n kG (xs x0 0 (K1 (dD r n) 4)) kk) 0 = (K4 (tN r n 0) 0 1 4 5))
 | succ m ih =>
  refine (by kernel_rfl : aO (fun kk => D200 r n kG (xs x0 0 (K1 (dD r n) 4)) kk) (m + 1) = D200 r n kG (xs x0 0 (K1 (dD r n) 4)) (aO (fun kk => D200 r n kG (xs x0 0 (K1 (dD r n) 4)) kk) m)).trans ?_
  rw [ih]
  exact (bNz r n (tN r n m)).trans (by kernel_rfl)
theorem cPd : D200 r n aIm (xs x0 0 (K1 (dD r n) 4)) (K1 (dD r n) 4) = (K4 (bIn r n) 0 1 4 5) :=
 (by kernel_rfl : D200 r n aIm (xs x0 0 (K1 (dD r n) 4)) (K1 (dD r n) 4) = aO (fun kk => D200 r n kG (xs x0 0 (K1 (dD r n) 4)) kk) n).trans ((bIe r n n).trans (by kernel_rfl))
theorem cEc : D200 r n aOv x0 (K1 (dD r n) 4) = (K4 (aSx r n) 0 1 4 5) :=
 (by kernel_rfl : D200 r n aOv x0 (K1 (dD r n) 4) = D200 r n aIm (xs x0 0 (K1 (dD r n) 4)) (K1 (dD r n) 4)).trans
 ((cPd r n).trans (by kernel_rfl))
theorem bTn : D200 r n aGc x0 r200 = D200 r n wY x0 (K1 (dD r n) 4) :=
 congrArg (fun k => D200 r n wY x0 k) (cPi r n)
theorem bHm : D200 r n wY x0 (K1 (dD r n) 4) = D200 r n aYc x0 (K4 (aSx r n) 0 1 4 5) :=
 congrArg (fun k => D200 r n aYc x0 k) (cEc r n)
theorem cEv : D200 r n aGc x0 r200 = (K3 (aNy r n) 0 1 4) :=
 (bTn r n).trans
 ((bHm r n).trans
 ((by kernel_rfl)))
theorem bNv : D200 r n aJc x0 r200 = D200 r n aXf x0 (K3 (aNy r n) 0 1 4) :=
 congrArg (fun k => D200 r n aXf x0 k) (cEv r n)
theorem cIt : D200 r n aJc x0 r200 = (K2 (aUa r n) 0 1) :=
 (bNv r n).trans
 ((by kernel_rfl))
theorem cYk : D200 r n c200 x0 r200 = D200 r n bBz x0 (K2 (aUa r n) 0 1) :=
 congrArg (fun k => D200 r n bBz x0 k) (cIt r n)
theorem dFu : D200 r n c200 x0 r200 = (K2 (s200 r n) 0 1) :=
 (cYk r n).trans
 ((by kernel_rfl))
theorem cYp : aF CF r n 200 args h = s200 r n (aS args 0) (aS args 1) h :=
 (by kernel_rfl : aF CF r n 200 args h = D200 r n c200 x0 r200 (aH args) h).trans ((congrFun (congrFun (dFu r n) (aH args)) h).trans (by kernel_rfl))
noncomputable def s201 (r : RT) (n : Nat) (x0 x1 : DV) (h0 : Hp) : aJ :=
 bnd (aI 3 x0 x1 h0) fun v1 h1 =>
 bnd (aB 0 v1 h1) fun v2 h2 =>
 bnd (aA v2 h2) fun v3 h3 =>
 bnd (aD .neq v3 (aE 18) h3) fun v4 h4 =>
 bnd (gD v4 false (some (x1, h4)) h4) fun v5 h5 =>
 bnd (gD v4 false (aD .add v5 (aE 1) h5) h5) fun v6 h6 =>
 bnd (gD v4 false (some (x0, h6)) h6) fun v7 h7 =>
 bnd (gD v4 false (bZ v7 h7) h7) fun v8 h8 =>
 bnd (gD v4 false (aD .geq v6 v8 h8) h8) fun v9 h9 =>
 bnd (aP v4 (.b true) v9 h9) fun v10 h10 =>
 bnd (gD v10 false (some (x0, h10)) h10) fun v11 h11 =>
 bnd (gD v10 false (some (x1, h11)) h11) fun v12 h12 =>
 bnd (gD v10 false (aD .add v12 (aE 1) h12) h12) fun v13 h13 =>
 bnd (gD v10 false (aI 3 v11 v13 h13) h13) fun v14 h14 =>
 bnd (gD v10 false (aB 0 v14 h14) h14) fun v15 h15 =>
 bnd (gD v10 false (aA v15 h15) h15) fun v16 h16 =>
 bnd (gD v10 false (aD .neq v16 (aE 16) h16) h16) fun v17 h17 =>
 bnd (aP v10 (.b true) v17 h17) fun v18 h18 =>
 aR v18 (
 some (.t [(aE 0), (.b false)], h18)) (
 bnd (aD .add x1 (aE 1) h18) fun v19 h19 =>
 bnd (aI 3 x0 v19 h19) fun v20 h20 =>
 bnd (aK 3 v20 h20) fun v21 h21 =>
 bnd (r 202 [v21] h21) fun v22 h22 =>
 bnd (aD .add x1 (aE 2) h22) fun v23 h23 =>
 bnd (aD .gtr v22 v23 h23) fun v24 h24 =>
 some (.t [v22, v24], h24))
noncomputable abbrev c201 : Code := cf Tryz.f201
noncomputable abbrev r201 : K := aU CF Tryz.f201
noncomputable def D201 (r : RT) (n : Nat) (c : Code) (X : Nat → K) (k : K) : K := aM CF r 40 n c X r201 k
theorem dIw : D201 r n c201 x0 r201 = (K2 (s201 r n) 0 1) :=
 (by kernel_rfl)
theorem dAr : aF CF r n 201 args h = s201 r n (aS args 0) (aS args 1) h :=
 (by kernel_rfl : aF CF r n 201 args h = D201 r n c201 x0 r201 (aH args) h).trans ((congrFun (congrFun (dIw r n) (aH args)) h).trans (by kernel_rfl))
noncomputable def s202 (r : RT) (n : Nat) (x0 : DV) (h0 : Hp) : aJ :=
 bnd (bS x0 h0) fun v1 h1 =>
 bnd (aB 0 v1 h1) fun v2 h2 =>
 bnd (aA v2 h2) fun v3 h3 =>
 bnd (r 224 [v3] h3) fun v4 h4 =>
 bnd (gX .not v4 h4) fun v5 h5 =>
 aR v5 (
 some ((.i .i64 (Int.negSucc 0)), h5)) (
 bnd (aB 1 v1 h5) fun v6 h6 =>
 bnd (aA v6 h6) fun v7 h7 =>
 bnd (aB 2 v1 h7) fun v8 h8 =>
 bnd (aA v8 h8) fun v9 h9 =>
 bnd (dN .shl v9 (.i .u64 (Int.ofNat 8)) h9) fun v10 h10 =>
 bnd (aD .add v7 v10 h10) fun v11 h11 =>
 some (v11, h11))
noncomputable abbrev c202 : Code := cf Tryz.f202
noncomputable abbrev r202 : K := aU CF Tryz.f202
noncomputable def D202 (r : RT) (n : Nat) (c : Code) (X : Nat → K) (k : K) : K := aM CF r 13 n c X r202 k
theorem dIl : D202 r n c202 x0 r202 = (K1 (s202 r n) 0) :=
 (by kernel_rfl)
theorem cZa : aF CF r n 202 args h = s202 r n (aS args 0) h :=
 (by kernel_rfl : aF CF r n 202 args h = D202 r n c202 x0 r202 (aH args) h).trans ((congrFun (congrFun (dIl r n) (aH args)) h).trans (by kernel_rfl))
noncomputable def s203 (r : RT) (n : Nat) (x0 x1 x2 x3 x4 x5 x6 x7 : DV) (h0 : Hp) : aJ :=
 bnd (aA x3 h0) fun v1 h1 =>
 bnd (bZ v1 h1) fun v2 h2 =>
 bnd (aD .geq x0 v2 h2) fun v3 h3 =>
 bnd (gD v3 false (aA x4 h3) h3) fun v4 h4 =>
 bnd (gD v3 false (some (x0, h4)) h4) fun v5 h5 =>
 bnd (gD v3 false (aI 1 v4 v5 h5) h5) fun v6 h6 =>
 bnd (gD v3 false (aA v6 h6) h6) fun v7 h7 =>
 bnd (gD v3 false (some (x1, h7)) h7) fun v8 h8 =>
 bnd (gD v3 false (aD .neq v7 v8 h8) h8) fun v9 h9 =>
 bnd (aP v3 (.b true) v9 h9) fun v10 h10 =>
 bnd (gD v10 false (aA x5 h10) h10) fun v11 h11 =>
 bnd (gD v10 false (some (x0, h11)) h11) fun v12 h12 =>
 bnd (gD v10 false (aI 1 v11 v12 h12) h12) fun v13 h13 =>
 bnd (gD v10 false (aA v13 h13) h13) fun v14 h14 =>
 bnd (gD v10 false (aD .geq v14 (aE 0) h14) h14) fun v15 h15 =>
 bnd (gD v10 false (some (v15, h15)) h15) fun v16 h16 =>
 bnd (gD v16 true (aA x5 h16) h16) fun v17 h17 =>
 bnd (gD v16 true (some (x0, h17)) h17) fun v18 h18 =>
 bnd (gD v16 true (aI 1 v17 v18 h18) h18) fun v19 h19 =>
 bnd (gD v16 true (aA v19 h19) h19) fun v20 h20 =>
 bnd (gD v16 true (some (x2, h20)) h20) fun v21 h21 =>
 bnd (gD v16 true (aD .neq v20 v21 h21) h21) fun v22 h22 =>
 bnd (gD v10 false (aP v16 v22 (.b false) h22) h22) fun v23 h23 =>
 bnd (aP v10 (.b true) v23 h23) fun v24 h24 =>
 aR v24 (
 bnd (aG 1 x6 (.b false) h24) fun _ h25 =>
 some (.t [], h25)) (
 bnd (aA x5 h24) fun v26 h26 =>
 bnd (aI 1 v26 x0 h26) fun v27 h27 =>
 bnd (aA v27 h27) fun v28 h28 =>
 bnd (aD .lss v28 (aE 0) h28) fun v29 h29 =>
 aR v29 (
 bnd (aA x5 h29) fun v30 h30 =>
 bnd (aI 1 v30 x0 h30) fun v31 h31 =>
 bnd (aG 1 v31 x2 h31) fun _ h32 =>
 bnd (aA x7 h32) fun v33 h33 =>
 bnd (aL [(aE 0)] 1 [(0, 1, x0)] h33) fun v34 h34 =>
 bnd (bA 1 8 v33 v34 h34) fun v35 h35 =>
 bnd (aG 1 x7 v35 h35) fun _ h36 =>
 some (.t [], h36)) (
 some (.t [], h29)))
noncomputable abbrev c203 : Code := cf Tryz.f203
noncomputable abbrev r203 : K := aU CF Tryz.f203
noncomputable def D203 (r : RT) (n : Nat) (c : Code) (X : Nat → K) (k : K) : K := aM CF r 53 n c X r203 k
theorem dGe : D203 r n c203 x0 r203 = (K8 (s203 r n) 0 1 2 3 4 5 6 7) :=
 (by kernel_rfl)
theorem cSj : aF CF r n 203 args h = s203 r n (aS args 0) (aS args 1) (aS args 2) (aS args 3) (aS args 4) (aS args 5) (aS args 6) (aS args 7) h :=
 (by kernel_rfl : aF CF r n 203 args h = D203 r n c203 x0 r203 (aH args) h).trans ((congrFun (congrFun (dGe r n) (aH args)) h).trans (by kernel_rfl))
end Go.Dd

