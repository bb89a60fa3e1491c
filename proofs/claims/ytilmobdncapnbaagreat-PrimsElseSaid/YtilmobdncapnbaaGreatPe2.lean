/- A part of the proof: Q3 Q4 Q5 Q6 Q7 Q8: each text has a comment of its own. -/
import Derived.Test.YtilmobdncapnbaaGreatPe1
set_option linter.unusedVariables false
set_option linter.unusedSimpArgs false
set_option linter.constructorNameAsVariable false
set_option maxRecDepth 100000
namespace Go.Dd
open Go.Proofs
variable (r : RT) (n : Nat) (args : List DV) (h : Hp)
noncomputable def s95 (r : RT) (n : Nat) (x0 : DV) (h0 : Hp) : aH :=
 aP x0 (
 some (.t [(aE 2), (aE 0)], h0)) (
 some (.t [(aE 4), (aE 0)], h0))
noncomputable abbrev c95 : Code := cf Tryz.f95
noncomputable abbrev r95 : K := aQ CF Tryz.f95
noncomputable def D95 (r : RT) (n : Nat) (c : Code) (X : Nat → K) (k : K) : K := aM CF r 5 n c X r95 k
theorem dPf : D95 r n c95 x0 r95 = (K1 (s95 r n) 0) :=
 (by kernel_rfl)
theorem dHl : aF CF r n 95 args h = s95 r n (aS args 0) h :=
 (by kernel_rfl : aF CF r n 95 args h = D95 r n c95 x0 r95 (aI args) h).trans ((congrFun (congrFun (dPf r n) (aI args)) h).trans (by kernel_rfl))
noncomputable def s96 (r : RT) (n : Nat) (x0 x1 : DV) (h0 : Hp) : aH :=
 bnd (bQ x0 h0) fun v1 h1 =>
 bnd (aA v1 (resv 1 h1)) fun v2 h2 =>
 bnd (aO v2 h2) fun v3 h3 =>
 bnd (aB 0 v3 h3) fun v4 h4 =>
 bnd (aA v4 h4) fun v5 h5 =>
 bnd (aA v1 h5) fun v6 h6 =>
 bnd (aO v6 h6) fun v7 h7 =>
 bnd (aB 2 v7 h7) fun v8 h8 =>
 bnd (aA v8 h8) fun v9 h9 =>
 bnd (r 25 [v5, v9] h9) fun v10 h10 =>
 bnd (jW (bW 0 h1.next) [(.i .i64 (Int.ofNat 0))] h10) fun v11 h11 =>
 bnd (aG 1 v11 v10 h11) fun v12 h12 =>
 bnd (r 52 [x1, (.f 109 [] [v1, v11])] h12) fun v13 h13 =>
 some (v13, h13)
noncomputable abbrev c96 : Code := cf Tryz.f96
noncomputable abbrev r96 : K := aQ CF Tryz.f96
noncomputable def D96 (r : RT) (n : Nat) (c : Code) (X : Nat → K) (k : K) : K := aM CF r 18 n c X r96 k
theorem dQf : D96 r n c96 x0 r96 = (K2 (s96 r n) 0 1) :=
 (by kernel_rfl)
theorem dEn : aF CF r n 96 args h = s96 r n (aS args 0) (aS args 1) h :=
 (by kernel_rfl : aF CF r n 96 args h = D96 r n c96 x0 r96 (aI args) h).trans ((congrFun (congrFun (dQf r n) (aI args)) h).trans (by kernel_rfl))
noncomputable def s97 (r : RT) (n : Nat) (x0 : DV) (h0 : Hp) : aH :=
 bnd (aO x0 h0) fun v1 h1 =>
 bnd (aB 0 v1 h1) fun v2 h2 =>
 bnd (aA v2 h2) fun v3 h3 =>
 bnd (aO x0 h3) fun v4 h4 =>
 bnd (aB 3 v4 h4) fun v5 h5 =>
 bnd (aA v5 h5) fun v6 h6 =>
 bnd (aJ 1 v6 (.i .i64 (Int.ofNat 0)) h6) fun v7 h7 =>
 bnd (aA v7 h7) fun v8 h8 =>
 bnd (r 15 [v3, v8] h8) fun v9 h9 =>
 bnd (aC 0 v9 h9) fun v10 h10 =>
 bnd (aC 1 v9 h10) fun v11 h11 =>
 bnd (aD .sub v10 (.i .i64 (Int.ofNat 1)) h11) fun v12 h12 =>
 bnd (gD v11 true (some (v10, h12)) h12) fun v13 h13 =>
 bnd (gD v11 true (aD .geq v13 (.i .i64 (Int.ofNat 1)) h13) h13) fun v14 h14 =>
 bnd (aR v11 v14 (.b false) h14) fun v15 h15 =>
 bnd (gD v15 true (some (v10, h15)) h15) fun v16 h16 =>
 bnd (gD v15 true (some (x0, h16)) h16) fun v17 h17 =>
 bnd (gD v15 true (aO v17 h17) h17) fun v18 h18 =>
 bnd (gD v15 true (aB 0 v18 h18) h18) fun v19 h19 =>
 bnd (gD v15 true (aA v19 h19) h19) fun v20 h20 =>
 bnd (gD v15 true (r 23 [v20] h20) h20) fun v21 h21 =>
 bnd (gD v15 true (some (x0, h21)) h21) fun v22 h22 =>
 bnd (gD v15 true (aO v22 h22) h22) fun v23 h23 =>
 bnd (gD v15 true (aB 2 v23 h23) h23) fun v24 h24 =>
 bnd (gD v15 true (aA v24 h24) h24) fun v25 h25 =>
 cnd (bH (gD v15 true (aA v24 h11) h11) v25 && true) (
 bnd (gD v15 true (fZ [v21, v25] h25) h25) fun v26 h26 =>
 bnd (gD v15 true (aD .leq v16 v26 h26) h26) fun v27 h27 =>
 bnd (aR v15 v27 (.b false) h27) fun v28 h28 =>
 some (.t [v12, v28], h28))
noncomputable abbrev c97 : Code := cf Tryz.f97
noncomputable abbrev r97 : K := aQ CF Tryz.f97
noncomputable def D97 (r : RT) (n : Nat) (c : Code) (X : Nat → K) (k : K) : K := aM CF r 41 n c X r97 k
theorem dQh : D97 r n c97 x0 r97 = (K1 (s97 r n) 0) :=
 (by kernel_rfl)
theorem dHo : aF CF r n 97 args h = s97 r n (aS args 0) h :=
 (by kernel_rfl : aF CF r n 97 args h = D97 r n c97 x0 r97 (aI args) h).trans ((congrFun (congrFun (dQh r n) (aI args)) h).trans (by kernel_rfl))
noncomputable def s99 (r : RT) (n : Nat) (x0 : DV) (h0 : Hp) : aH :=
 bnd (bL jQ h0) fun v1 h1 =>
 bnd (r 110 [x0, (.f 111 [] [])] h1) fun v2 h2 =>
 bnd (aC 0 v2 h2) fun v3 h3 =>
 bnd (aC 1 v2 h3) fun v4 h4 =>
 bnd (aC 2 v2 h4) fun v5 h5 =>
 bnd (aG 6 v1 v3 h5) fun _ h6 =>
 bnd (aK 6 v1 h6) fun v7 _ =>
 some (.t [v7, v4, v5], h6)
noncomputable abbrev c99 : Code := cf Tryz.f99
noncomputable abbrev r99 : K := aQ CF Tryz.f99
noncomputable def D99 (r : RT) (n : Nat) (c : Code) (X : Nat → K) (k : K) : K := aM CF r 10 n c X r99 k
theorem dNk : D99 r n c99 x0 r99 = (K1 (s99 r n) 0) :=
 (by kernel_rfl)
theorem dHf : aF CF r n 99 args h = s99 r n (aS args 0) h :=
 (by kernel_rfl : aF CF r n 99 args h = D99 r n c99 x0 r99 (aI args) h).trans ((congrFun (congrFun (dNk r n) (aI args)) h).trans (by kernel_rfl))
noncomputable def s100 (r : RT) (n : Nat) (x0 x1 : DV) (h0 : Hp) : aH :=
 bnd (bQ x0 h0) fun v1 h1 =>
 bnd (bL [(.s []), (aE 0), (aE 0), (aE 0), .l0, .l0] h1) fun v2 h2 =>
 bnd (aK 6 v1 h2) fun v3 h3 =>
 bnd (r 112 [v3, x1, (.b false)] h3) fun v4 h4 =>
 bnd (aC 0 v4 h4) fun v5 h5 =>
 bnd (aC 1 v4 h5) fun v6 h6 =>
 bnd (aC 2 v4 h6) fun v7 h7 =>
 bnd (aG 6 v2 v5 h7) fun _ h8 =>
 bnd (aK 6 v2 h8) fun v9 _ =>
 some (.t [v9, v6, v7], h8)
noncomputable abbrev c100 : Code := cf Tryz.f100
noncomputable abbrev r100 : K := aQ CF Tryz.f100
noncomputable def D100 (r : RT) (n : Nat) (c : Code) (X : Nat → K) (k : K) : K := aM CF r 13 n c X r100 k
theorem dHs : D100 r n c100 x0 r100 = (K2 (s100 r n) 0 1) :=
 (by kernel_rfl)
theorem cXa : aF CF r n 100 args h = s100 r n (aS args 0) (aS args 1) h :=
 (by kernel_rfl : aF CF r n 100 args h = D100 r n c100 x0 r100 (aI args) h).trans ((congrFun (congrFun (dHs r n) (aI args)) h).trans (by kernel_rfl))
noncomputable def s101 (r : RT) (n : Nat) (x0 x1 x2 : DV) (h0 : Hp) : aH :=
 bnd (bQ x2 h0) fun v1 h1 =>
 bnd (aK 6 v1 h1) fun v2 h2 =>
 bnd (r 113 [x0, x1, v2] h2) fun v3 h3 =>
 bnd (aC 0 v3 h3) fun v4 h4 =>
 bnd (aC 1 v3 h4) fun v5 h5 =>
 bnd (aD .neq v5 (aE 0) h5) fun v6 h6 =>
 aP v6 (
 some (.t [(aE 0), v5], h6)) (
 bnd (r 51 [x0, v4, (aE 0)] h6) fun v7 h7 =>
 bnd (r 114 [x0, x1, v7, v4] h7) fun v8 h8 =>
 bnd (aD .neq v8 (aE 0) h8) fun v9 h9 =>
 aP v9 (
 some (.t [(aE 0), v8], h9)) (
 some (.t [v4, (aE 0)], h9)))
noncomputable abbrev c101 : Code := cf Tryz.f101
noncomputable abbrev r101 : K := aQ CF Tryz.f101
noncomputable def D101 (r : RT) (n : Nat) (c : Code) (X : Nat → K) (k : K) : K := aM CF r 32 n c X r101 k
theorem dGp : D101 r n c101 x0 r101 = (K3 (s101 r n) 0 1 2) :=
 (by kernel_rfl)
theorem cXu : aF CF r n 101 args h = s101 r n (aS args 0) (aS args 1) (aS args 2) h :=
 (by kernel_rfl : aF CF r n 101 args h = D101 r n c101 x0 r101 (aI args) h).trans ((congrFun (congrFun (dGp r n) (aI args)) h).trans (by kernel_rfl))
noncomputable def s109 (r : RT) (n : Nat) (x0 x1 x2 : DV) (h0 : Hp) : aH :=
 bnd (aA x1 h0) fun v1 h1 =>
 bnd (aO v1 h1) fun v2 h2 =>
 bnd (aB 0 v2 h2) fun v3 h3 =>
 bnd (aA v3 h3) fun v4 h4 =>
 bnd (r 30 [v4, x0] h4) fun v5 h5 =>
 bnd (aA x2 h5) fun v6 h6 =>
 cnd (bH (aA x2 h0) v6 && true) (
 bnd (aD .eql v5 v6 h6) fun v7 h7 =>
 some (v7, h7))
noncomputable abbrev c109 : Code := cf Tryz.f109
noncomputable abbrev r109 : K := aQ CF Tryz.f109
noncomputable def D109 (r : RT) (n : Nat) (c : Code) (X : Nat → K) (k : K) : K := aM CF r 13 n c X r109 k
theorem dJm : D109 r n c109 x0 r109 = (K3 (s109 r n) 0 1 2) :=
 (by kernel_rfl)
theorem cRt : aF CF r n 109 args h = s109 r n (aS args 0) (aS args 1) (aS args 2) h :=
 (by kernel_rfl : aF CF r n 109 args h = D109 r n c109 x0 r109 (aI args) h).trans ((congrFun (congrFun (dJm r n) (aI args)) h).trans (by kernel_rfl))
noncomputable def s110 (r : RT) (n : Nat) (x0 x1 : DV) (h0 : Hp) : aH :=
 bnd (bL jQ h0) fun v1 h1 =>
 bnd (r 117 [x0] h1) fun v2 h2 =>
 bnd (aC 0 v2 h2) fun v3 h3 =>
 bnd (aC 1 v2 h3) fun v4 h4 =>
 bnd (aC 2 v2 h4) fun v5 h5 =>
 bnd (aD .neq v5 (aE 0) h5) fun v6 h6 =>
 aP v6 (
 bnd (bC jQ [] h6) fun v7 h7 =>
 bnd (aG 6 v1 v7 h7) fun _ h8 =>
 bnd (aK 6 v1 h8) fun v9 _ =>
 some (.t [v9, v4, v5], h8)) (
 bnd (bC [.l0, (aE 0), (aE 0), (aE 0)] [(0, 1, v3)] h6) fun v10 h10 =>
 bnd (bQ v10 h10) fun v11 h11 =>
 bnd (cV CF r x1 [v11] h11) fun v12 h12 =>
 bnd (bL jQ h12) fun v13 h13 =>
 bnd (aG 6 v13 v12 h13) fun _ h14 =>
 bnd (r 118 [v11] h14) fun v15 h15 =>
 bnd (aB 4 v13 h15) fun v16 h16 =>
 bnd (aG 1 v16 v15 h16) fun _ h17 =>
 bnd (r 119 [v11] h17) fun v18 h18 =>
 bnd (aB 5 v13 h18) fun v19 h19 =>
 bnd (aG 1 v19 v18 h19) fun _ h20 =>
 bnd (r 120 [v11, (aE 0), (.s [])] h20) fun v21 h21 =>
 bnd (aO v11 h21) fun v22 h22 =>
 bnd (aB 3 v22 h22) fun v23 h23 =>
 bnd (aA v23 h23) fun v24 h24 =>
 bnd (aD .neq v24 (aE 0) h24) fun v25 h25 =>
 aP v25 (
 bnd (bC jQ [] h25) fun v26 h26 =>
 bnd (aO v11 h26) fun v27 h27 =>
 bnd (aB 2 v27 h27) fun v28 h28 =>
 bnd (aA v28 h28) fun v29 h29 =>
 bnd (aO v11 h29) fun v30 h30 =>
 bnd (aB 3 v30 h30) fun v31 h31 =>
 bnd (aA v31 h31) fun v32 h32 =>
 bnd (aG 6 v1 v26 h32) fun v33 h33 =>
 cnd (bH (aA v31 h33) v32 && (bH (aA v28 h33) v29 && true)) (
 bnd (aK 6 v1 h33) fun v34 _ =>
 some (.t [v34, v29, v32], h33))) (
 bnd (aK 6 v13 h25) fun v35 h35 =>
 bnd (aG 6 v1 v35 h35) fun _ h36 =>
 bnd (aK 6 v1 h36) fun v37 _ =>
 some (.t [v37, (aE 0), (aE 0)], h36)))
noncomputable abbrev c110 : Code := cf Tryz.f110
noncomputable abbrev r110 : K := aQ CF Tryz.f110
noncomputable def D110 (r : RT) (n : Nat) (c : Code) (X : Nat → K) (k : K) : K := aM CF r 52 n c X r110 k
theorem dDw : D110 r n c110 x0 r110 = (K2 (s110 r n) 0 1) :=
 (by kernel_rfl)
theorem cTg : aF CF r n 110 args h = s110 r n (aS args 0) (aS args 1) h :=
 (by kernel_rfl : aF CF r n 110 args h = D110 r n c110 x0 r110 (aI args) h).trans ((congrFun (congrFun (dDw r n) (aI args)) h).trans (by kernel_rfl))
noncomputable def s111 (r : RT) (n : Nat) (x0 : DV) (h0 : Hp) : aH :=
 bnd (bL jQ h0) fun v1 h1 =>
 bnd (bC jQ [(0, 1, (aE 11))] h1) fun v2 h2 =>
 bnd (bL jQ h2) fun v3 h3 =>
 bnd (aG 6 v3 v2 h3) fun _ h4 =>
 bnd (r 121 [x0, v3] h4) fun v5 h5 =>
 bnd (r 122 [x0] h5) fun v6 h6 =>
 bnd (aB 2 v3 h6) fun v7 h7 =>
 bnd (aG 1 v7 v6 h7) fun _ h8 =>
 bnd (aK 6 v3 h8) fun v9 h9 =>
 bnd (aG 6 v1 v9 h9) fun _ h10 =>
 bnd (aK 6 v1 h10) fun v11 _ =>
 some (v11, h10)
noncomputable abbrev c111 : Code := cf Tryz.f111
noncomputable abbrev r111 : K := aQ CF Tryz.f111
noncomputable def D111 (r : RT) (n : Nat) (c : Code) (X : Nat → K) (k : K) : K := aM CF r 11 n c X r111 k
theorem dHv : D111 r n c111 x0 r111 = (K1 (s111 r n) 0) :=
 (by kernel_rfl)
theorem cYi : aF CF r n 111 args h = s111 r n (aS args 0) h :=
 (by kernel_rfl : aF CF r n 111 args h = D111 r n c111 x0 r111 (aI args) h).trans ((congrFun (congrFun (dHv r n) (aI args)) h).trans (by kernel_rfl))
noncomputable def dY (r : RT) (n : Nat) (x6 x9 : DV) (h0 : Hp) : aH :=
 bnd (aO x9 h0) fun v1 h1 =>
 bnd (aB 0 v1 h1) fun v2 h2 =>
 bnd (aK 6 v2 h2) fun v3 h3 =>
 bnd (aG 6 x6 v3 h3) fun _ h4 =>
 bnd (aK 6 x6 h4) fun v5 _ =>
 some (.t [v5, (.s []), (aE 0)], h4)
noncomputable def aJf (r : RT) (n : Nat) (kk9 : cD) (x6 x9 x94 x95 x96 : DV) (h0 : Hp) : aH :=
 bnd (aD .lss x96 x95 h0) fun v1 h1 =>
 aP v1 (
 bnd (aJ 3 x94 x96 h1) fun v2 h2 =>
 bnd (aK 3 v2 h2) fun v3 h3 =>
 bnd (bL [(aE 0), (aE 0), (aE 0)] h3) fun v4 h4 =>
 bnd (aG 3 v4 v3 h4) fun _ h5 =>
 bnd (aK 3 v4 h5) fun v6 h6 =>
 bnd (r 124 [v6] h6) fun v7 h7 =>
 bnd (gS .not v7 h7) fun v8 h8 =>
 aP v8 (
 bnd (bC [(.s []), (aE 0), (aE 0), (aE 0), .l0, .l0] [] h8) fun v9 h9 =>
 bnd (aG 6 x6 v9 h9) fun _ h10 =>
 bnd (aK 6 x6 h10) fun v11 _ =>
 some (.t [v11, (.s []), (aE 12)], h10)) (
 bnd (aD .add x96 (aE 1) h8) fun v12 h12 =>
    kk9 x6 x9 x94 x95 v12 h12)) (
      dY r n x6 x9 h1)
noncomputable def tT (r : RT) (n : Nat) (m : Nat) : cD :=
 Nat.rec (motive := fun _ => cD) (fun _ _ _ _ _ _ => none) (fun _ ih => aJf r n ih) m
noncomputable def bWu (r : RT) (n : Nat) : cD := tT r n n
noncomputable def aNp (r : RT) (n : Nat) (x6 x9 x94 x95 x96 : DV) (h0 : Hp) : aH :=
 bWu r n x6 x9 x94 x95 x96 h0
noncomputable def wY (r : RT) (n : Nat) (x6 x9 : DV) (h0 : Hp) : aH :=
 bnd (aO x9 h0) fun v1 h1 =>
 bnd (aB 0 v1 h1) fun v2 h2 =>
 bnd (aB 5 v2 h2) fun v3 h3 =>
 bnd (aA v3 h3) fun v4 h4 =>
 bnd (bV v4 h4) fun v5 h5 =>
  aNp r n x6 x9 v4 v5 (aE 0) h5
noncomputable def aIk (r : RT) (n : Nat) (x6 x9 : DV) (h0 : Hp) : aH :=
 bnd (aO x9 h0) fun v1 h1 =>
 bnd (aB 8 v1 h1) fun v2 h2 =>
 bnd (aA v2 h2) fun v3 h3 =>
 bnd (aD .neq v3 (aE 0) h3) fun v4 h4 =>
 aP v4 (
 bnd (bC [(.s []), (aE 0), (aE 0), (aE 0), .l0, .l0] [] h4) fun v5 h5 =>
 bnd (aO x9 h5) fun v6 h6 =>
 bnd (aB 7 v6 h6) fun v7 h7 =>
 bnd (aA v7 h7) fun v8 h8 =>
 bnd (aO x9 h8) fun v9 h9 =>
 bnd (aB 8 v9 h9) fun v10 h10 =>
 bnd (aA v10 h10) fun v11 h11 =>
 bnd (aG 6 x6 v5 h11) fun v12 h12 =>
 cnd (bH (aA v10 h12) v11 && (bH (aA v7 h12) v8 && true)) (
 bnd (aK 6 x6 h12) fun v13 _ =>
 some (.t [v13, v8, v11], h12))) (
 bnd (aO x9 h4) fun v14 h14 =>
 bnd (aB 0 v14 h14) fun v15 h15 =>
 bnd (aB 4 v15 h15) fun v16 h16 =>
 bnd (aA v16 h16) fun v17 h17 =>
 bnd (bV v17 h17) fun v18 h18 =>
 bnd (aD .gtr v18 (aE 60) h18) fun v19 h19 =>
 aP v19 (
 bnd (bC [(.s []), (aE 0), (aE 0), (aE 0), .l0, .l0] [] h19) fun v20 h20 =>
 bnd (aG 6 x6 v20 h20) fun _ h21 =>
 bnd (aK 6 x6 h21) fun v22 _ =>
 some (.t [v22, (.s []), (aE 18)], h21)) (
 bnd (aO x9 h19) fun v23 h23 =>
 bnd (aB 0 v23 h23) fun v24 h24 =>
 bnd (aB 5 v24 h24) fun v25 h25 =>
 bnd (aA v25 h25) fun v26 h26 =>
 bnd (bV v26 h26) fun v27 h27 =>
 bnd (aD .gtr v27 (aE 400) h27) fun v28 h28 =>
 aP v28 (
 bnd (bC [(.s []), (aE 0), (aE 0), (aE 0), .l0, .l0] [] h28) fun v29 h29 =>
 bnd (aG 6 x6 v29 h29) fun _ h30 =>
 bnd (aK 6 x6 h30) fun v31 _ =>
 some (.t [v31, (.s []), (aE 12)], h30)) (
    wY r n x6 x9 h28)))
noncomputable def eB (r : RT) (n : Nat) (x2 x3 x6 x9 : DV) (h0 : Hp) : aH :=
 bnd (aK 6 x3 h0) fun v1 h1 =>
 bnd (r 123 [x9, v1, x2] h1) fun v2 h2 =>
  aIk r n x6 x9 h2
noncomputable def yE (r : RT) (n : Nat) (kk11 : TT7) (x2 x3 x6 x9 x33 x34 x35 : DV) (h0 : Hp) : aH :=
 bnd (aD .lss x35 x34 h0) fun v1 h1 =>
 aP v1 (
 bnd (aJ 1 x33 x35 h1) fun v2 h2 =>
 bnd (aA v2 h2) fun v3 h3 =>
 bnd (aO x9 h3) fun v4 h4 =>
 bnd (aB 6 v4 h4) fun v5 h5 =>
 bnd (aA v5 h5) fun v6 h6 =>
 bnd (bC [(.s []), (.b false), (.b false), (aE 0)] [(0, 1, v3), (1, 1, (.b true)), (2, 1, (.b false)), (3, 1, x35)] h6) fun v7 h7 =>
 bnd (aL [(.s []), (.b false), (.b false), (aE 0)] 1 [(0, 4, v7)] h7) fun v8 h8 =>
 bnd (aZ 4 32 v6 v8 h8) fun v9 h9 =>
 bnd (aO x9 h9) fun v10 h10 =>
 bnd (aB 6 v10 h10) fun v11 h11 =>
 bnd (aG 1 v11 v9 h11) fun _ h12 =>
 bnd (aD .add x35 (aE 1) h12) fun v13 h13 =>
      kk11 x2 x3 x6 x9 x33 x34 v13 h13) (
      eB r n x2 x3 x6 x9 h1)
noncomputable def pI (r : RT) (n : Nat) (m : Nat) : TT7 :=
 Nat.rec (motive := fun _ => TT7) (fun _ _ _ _ _ _ _ _ => none) (fun _ ih => yE r n ih) m
noncomputable def aZy (r : RT) (n : Nat) : TT7 := pI r n n
noncomputable def aAt (r : RT) (n : Nat) (x2 x3 x6 x9 x33 x34 x35 : DV) (h0 : Hp) : aH :=
 aZy r n x2 x3 x6 x9 x33 x34 x35 h0
noncomputable def vH (r : RT) (n : Nat) (x1 x2 x3 x6 x9 : DV) (h0 : Hp) : aH :=
 bnd (bV x1 h0) fun v1 h1 =>
  aAt r n x2 x3 x6 x9 x1 v1 (aE 0) h1
noncomputable def qU (r : RT) (n : Nat) (x1 x2 x3 x6 : DV) (h0 : Hp) : aH :=
 bnd (aB 1 x3 h0) fun v1 h1 =>
 bnd (aA v1 h1) fun v2 h2 =>
 bnd (aB 3 x3 h2) fun v3 h3 =>
 bnd (aA v3 h3) fun v4 h4 =>
 bnd (bV v4 h4) fun v5 h5 =>
 bnd (aB 2 x3 h5) fun v6 h6 =>
 bnd (aA v6 h6) fun v7 h7 =>
 bnd (bC [(.s []), (aE 0), (aE 0), (aE 0), .l0, .l0] [(0, 1, v2), (1, 1, v5), (3, 1, v7)] h7) fun v8 h8 =>
 bnd (bC [(.s []), (aE 0), (aE 0), (aE 0), .l0, .l0, .l0, (.s []), (aE 0)] [(0, 6, v8)] h8) fun v9 h9 =>
 bnd (bQ v9 h9) fun v10 h10 =>
  vH r n x1 x2 x3 x6 v10 h10
noncomputable def qS (r : RT) (n : Nat) (x1 x2 x3 x6 : DV) (h0 : Hp) : aH :=
 bnd (aB 0 x3 h0) fun v1 h1 =>
 bnd (aA v1 h1) fun v2 h2 =>
 bnd (aD .neq v2 (aE 11) h2) fun v3 h3 =>
 bnd (gD v3 false (some (x1, h3)) h3) fun v4 h4 =>
 bnd (gD v3 false (bV v4 h4) h4) fun v5 h5 =>
 bnd (gD v3 false (aD .gtr v5 (aE 8) h5) h5) fun v6 h6 =>
 bnd (aR v3 (.b true) v6 h6) fun v7 h7 =>
 aP v7 (
 bnd (bC [(.s []), (aE 0), (aE 0), (aE 0), .l0, .l0] [] h7) fun v8 h8 =>
 bnd (aG 6 x6 v8 h8) fun _ h9 =>
 bnd (aK 6 x6 h9) fun v10 _ =>
 some (.t [v10, (.s []), (aE 1)], h9)) (
  qU r n x1 x2 x3 x6 h7)
noncomputable def s112 (r : RT) (n : Nat) (x0 x1 x2 : DV) (h0 : Hp) : aH :=
 bnd (bQ x0 h0) fun v1 h1 =>
 bnd (bL [(.s []), (aE 0), (aE 0), (aE 0), .l0, .l0] h1) fun v2 h2 =>
  qS r n x1 x2 v1 v2 h2
noncomputable abbrev c112 : Code := cf Tryz.f112
noncomputable abbrev aHx : Code := cR c112
noncomputable abbrev aBe : Code := cR aHx
noncomputable abbrev aBp : Code := cR aBe
noncomputable abbrev aEx : Code := cR aBp
noncomputable abbrev aCt : Code := cR aEx
noncomputable abbrev aFl : Code := cR aCt
noncomputable abbrev cXj : Code := cR aFl
noncomputable abbrev uY : Code := cL aFl
noncomputable abbrev aNl : Code := cR uY
noncomputable abbrev sQ : Code := cL aNl
noncomputable abbrev jL : Code := cL sQ
noncomputable abbrev aZp : Code := cL uY
noncomputable abbrev aHs : Code := cL aCt
noncomputable abbrev bBv : Code := cL aEx
noncomputable abbrev pD : Code := cL aBp
noncomputable abbrev aEl : Code := cR pD
noncomputable abbrev sK : Code := cL aEl
noncomputable abbrev jI : Code := cL sK
noncomputable abbrev aZd : Code := cL pD
noncomputable abbrev aHl : Code := cL aBe
noncomputable abbrev aDj : Code := cL aHx
noncomputable abbrev aHz : Code := cL c112
noncomputable abbrev r112 : K := aQ CF Tryz.f112
noncomputable def D112 (r : RT) (n : Nat) (c : Code) (X : Nat → K) (k : K) : K := aM CF r 109 n c X r112 k
theorem cGw : D112 r n cXj x0 r112 = (K2 (dY r n) 6 9) :=
 (by kernel_rfl)
theorem bWp (kk9 : cD) (q0 : oF) : D112 r n jL (xs x0 3 (K2 q0 6 9)) (K5 kk9 6 9 94 95 96) = fun (env : aU) (h : Hp) =>
 bnd (aD .lss (env 96) (env 95) h) fun v1 h1 =>
 aP v1 (
 bnd (aJ 3 (env 94) (env 96) h1) fun v2 h2 =>
 bnd (aK 3 v2 h2) fun v3 h3 =>
 bnd (bL [(aE 0), (aE 0), (aE 0)] h3) fun v4 h4 =>
 bnd (aG 3 v4 v3 h4) fun _ h5 =>
 bnd (aK 3 v4 h5) fun v6 h6 =>
 bnd (r 124 [v6] h6) fun v7 h7 =>
 bnd (gS .not v7 h7) fun v8 h8 =>
 aP v8 (
 bnd (bC [(.s []), (aE 0), (aE 0), (aE 0), .l0, .l0] [] h8) fun v9 h9 =>
 bnd (aG 6 (env 6) v9 h9) fun _ h10 =>
 bnd (aK 6 (env 6) h10) fun v11 _ =>
 some (.t [v11, (.s []), (aE 12)], h10)) (
 bnd (aD .add (env 96) (aE 1) h8) fun v12 h12 =>
    kk9 (env 6) (env 9) (env 94) (env 95) v12 h12)) (
      q0 (env 6) (env 9) h1) := by kernel_rfl
theorem bFd (kk9 : cD) : (fun (env : aU) (h : Hp) =>
 bnd (aD .lss (env 96) (env 95) h) fun v1 h1 =>
 aP v1 (
 bnd (aJ 3 (env 94) (env 96) h1) fun v2 h2 =>
 bnd (aK 3 v2 h2) fun v3 h3 =>
 bnd (bL [(aE 0), (aE 0), (aE 0)] h3) fun v4 h4 =>
 bnd (aG 3 v4 v3 h4) fun _ h5 =>
 bnd (aK 3 v4 h5) fun v6 h6 =>
 bnd (r 124 [v6] h6) fun v7 h7 =>
 bnd (gS .not v7 h7) fun v8 h8 =>
 aP v8 (
 bnd (bC [(.s []), (aE 0), (aE 0), (aE 0), .l0, .l0] [] h8) fun v9 h9 =>
 bnd (aG 6 (env 6) v9 h9) fun _ h10 =>
 bnd (aK 6 (env 6) h10) fun v11 _ =>
 some (.t [v11, (.s []), (aE 12)], h10)) (
 bnd (aD .add (env 96) (aE 1) h8) fun v12 h12 =>
    kk9 (env 6) (env 9) (env 94) (env 95) v12 h12)) (
      dY r n (env 6) (env 9) h1)) = (K5 (aJf r n kk9) 6 9 94 95 96) := by kernel_rfl
theorem bGs (kk9 : cD) : D112 r n jL (xs x0 3 (K2 (dY r n) 6 9)) (K5 kk9 6 9 94 95 96) = (K5 (aJf r n kk9) 6 9 94 95 96) :=
 (bWp r n kk9 (dY r n)).trans (bFd r n kk9)
theorem bKf (m : Nat) : aN (fun kk => D112 r n jL (xs x0 3 (K2 (dY r n) 6 9)) kk) m = (K5 (tT r n m) 6 9 94 95 96) := by
 induction m with
 | zero => exact (by kernel_rfl : aN (fun kk => D112 r n jL (xs x0 3 (K2 (dY r n) 6 9)) kk) 0 = (K5 (tT r n 0) 6 9 94 95 96))
 | succ m ih =>
  refine (by kernel_rfl : aN (fun kk => D112 r n jL (xs x0 3 (K2 (dY r n) 6 9)) kk) (m + 1) = D112 r n jL (xs x0 3 (K2 (dY r n) 6 9)) (aN (fun kk => D112 r n jL (xs x0 3 (K2 (dY r n) 6 9)) kk) m)).trans ?_
  rw [ih]
  exact (bGs r n (tT r n m)).trans (by kernel_rfl)
theorem cBr : D112 r n sQ (xs x0 3 (K2 (dY r n) 6 9)) (K2 (dY r n) 6 9) = (K5 (bWu r n) 6 9 94 95 96) :=
 (by kernel_rfl : D112 r n sQ (xs x0 3 (K2 (dY r n) 6 9)) (K2 (dY r n) 6 9) = aN (fun kk => D112 r n jL (xs x0 3 (K2 (dY r n) 6 9)) kk) n).trans ((bKf r n n).trans (by kernel_rfl))
theorem cOh : D112 r n aNl x0 (K2 (dY r n) 6 9) = (K5 (aNp r n) 6 9 94 95 96) :=
 (by kernel_rfl : D112 r n aNl x0 (K2 (dY r n) 6 9) = D112 r n sQ (xs x0 3 (K2 (dY r n) 6 9)) (K2 (dY r n) 6 9)).trans
 ((cBr r n).trans (by kernel_rfl))
theorem bSk : D112 r n aFl x0 r112 = D112 r n uY x0 (K2 (dY r n) 6 9) :=
 congrArg (fun k => D112 r n uY x0 k) (cGw r n)
theorem bTn : D112 r n uY x0 (K2 (dY r n) 6 9) = D112 r n aZp x0 (K5 (aNp r n) 6 9 94 95 96) :=
 congrArg (fun k => D112 r n aZp x0 k) (cOh r n)
theorem cFu : D112 r n aFl x0 r112 = (K2 (wY r n) 6 9) :=
 (bSk r n).trans
 ((bTn r n).trans
 ((by kernel_rfl)))
theorem bLe : D112 r n aCt x0 r112 = D112 r n aHs x0 (K2 (wY r n) 6 9) :=
 congrArg (fun k => D112 r n aHs x0 k) (cFu r n)
theorem bGn (q0 : oF) : D112 r n aHs x0 (K2 q0 6 9) = fun (env : aU) (h : Hp) =>
 bnd (aO (env 9) h) fun v1 h1 =>
 bnd (aB 8 v1 h1) fun v2 h2 =>
 bnd (aA v2 h2) fun v3 h3 =>
 bnd (aD .neq v3 (aE 0) h3) fun v4 h4 =>
 aP v4 (
 bnd (bC [(.s []), (aE 0), (aE 0), (aE 0), .l0, .l0] [] h4) fun v5 h5 =>
 bnd (aO (env 9) h5) fun v6 h6 =>
 bnd (aB 7 v6 h6) fun v7 h7 =>
 bnd (aA v7 h7) fun v8 h8 =>
 bnd (aO (env 9) h8) fun v9 h9 =>
 bnd (aB 8 v9 h9) fun v10 h10 =>
 bnd (aA v10 h10) fun v11 h11 =>
 bnd (aG 6 (env 6) v5 h11) fun v12 h12 =>
 cnd (bH (aA v10 h12) v11 && (bH (aA v7 h12) v8 && true)) (
 bnd (aK 6 (env 6) h12) fun v13 _ =>
 some (.t [v13, v8, v11], h12))) (
 bnd (aO (env 9) h4) fun v14 h14 =>
 bnd (aB 0 v14 h14) fun v15 h15 =>
 bnd (aB 4 v15 h15) fun v16 h16 =>
 bnd (aA v16 h16) fun v17 h17 =>
 bnd (bV v17 h17) fun v18 h18 =>
 bnd (aD .gtr v18 (aE 60) h18) fun v19 h19 =>
 aP v19 (
 bnd (bC [(.s []), (aE 0), (aE 0), (aE 0), .l0, .l0] [] h19) fun v20 h20 =>
 bnd (aG 6 (env 6) v20 h20) fun _ h21 =>
 bnd (aK 6 (env 6) h21) fun v22 _ =>
 some (.t [v22, (.s []), (aE 18)], h21)) (
 bnd (aO (env 9) h19) fun v23 h23 =>
 bnd (aB 0 v23 h23) fun v24 h24 =>
 bnd (aB 5 v24 h24) fun v25 h25 =>
 bnd (aA v25 h25) fun v26 h26 =>
 bnd (bV v26 h26) fun v27 h27 =>
 bnd (aD .gtr v27 (aE 400) h27) fun v28 h28 =>
 aP v28 (
 bnd (bC [(.s []), (aE 0), (aE 0), (aE 0), .l0, .l0] [] h28) fun v29 h29 =>
 bnd (aG 6 (env 6) v29 h29) fun _ h30 =>
 bnd (aK 6 (env 6) h30) fun v31 _ =>
 some (.t [v31, (.s []), (aE 12)], h30)) (
     q0 (env 6) (env 9) h28))) := by kernel_rfl
theorem bFc : (fun (env : aU) (h : Hp) =>
 bnd (aO (env 9) h) fun v1 h1 =>
 bnd (aB 8 v1 h1) fun v2 h2 =>
 bnd (aA v2 h2) fun v3 h3 =>
 bnd (aD .neq v3 (aE 0) h3) fun v4 h4 =>
 aP v4 (
 bnd (bC [(.s []), (aE 0), (aE 0), (aE 0), .l0, .l0] [] h4) fun v5 h5 =>
 bnd (aO (env 9) h5) fun v6 h6 =>
 bnd (aB 7 v6 h6) fun v7 h7 =>
 bnd (aA v7 h7) fun v8 h8 =>
 bnd (aO (env 9) h8) fun v9 h9 =>
 bnd (aB 8 v9 h9) fun v10 h10 =>
 bnd (aA v10 h10) fun v11 h11 =>
 bnd (aG 6 (env 6) v5 h11) fun v12 h12 =>
 cnd (bH (aA v10 h12) v11 && (bH (aA v7 h12) v8 && true)) (
 bnd (aK 6 (env 6) h12) fun v13 _ =>
 some (.t [v13, v8, v11], h12))) (
 bnd (aO (env 9) h4) fun v14 h14 =>
 bnd (aB 0 v14 h14) fun v15 h15 =>
 bnd (aB 4 v15 h15) fun v16 h16 =>
 bnd (aA v16 h16) fun v17 h17 =>
 bnd (bV v17 h17) fun v18 h18 =>
 bnd (aD .gtr v18 (aE 60) h18) fun v19 h19 =>
 aP v19 (
 bnd (bC [(.s []), (aE 0), (aE 0), (aE 0), .l0, .l0] [] h19) fun v20 h20 =>
 bnd (aG 6 (env 6) v20 h20) fun _ h21 =>
 bnd (aK 6 (env 6) h21) fun v22 _ =>
 some (.t [v22, (.s []), (aE 18)], h21)) (
 bnd (aO (env 9) h19) fun v23 h23 =>
 bnd (aB 0 v23 h23) fun v24 h24 =>
 bnd (aB 5 v24 h24) fun v25 h25 =>
 bnd (aA v25 h25) fun v26 h26 =>
 bnd (bV v26 h26) fun v27 h27 =>
 bnd (aD .gtr v27 (aE 400) h27) fun v28 h28 =>
 aP v28 (
 bnd (bC [(.s []), (aE 0), (aE 0), (aE 0), .l0, .l0] [] h28) fun v29 h29 =>
 bnd (aG 6 (env 6) v29 h29) fun _ h30 =>
 bnd (aK 6 (env 6) h30) fun v31 _ =>
 some (.t [v31, (.s []), (aE 12)], h30)) (
     wY r n (env 6) (env 9) h28)))) = (K2 (aIk r n) 6 9) := by kernel_rfl
theorem cBq : D112 r n aCt x0 r112 = (K2 (aIk r n) 6 9) :=
 (bLe r n).trans
 ((bGn r n (wY r n)).trans (bFc r n))
theorem bIf : D112 r n aEx x0 r112 = D112 r n bBv x0 (K2 (aIk r n) 6 9) :=
 congrArg (fun k => D112 r n bBv x0 k) (cBq r n)
theorem cOe : D112 r n aEx x0 r112 = (K4 (eB r n) 2 3 6 9) :=
 (bIf r n).trans
 ((by kernel_rfl))
theorem bDn (kk11 : TT7) (q0 : dH) : D112 r n jI (xs x0 0 (K4 q0 2 3 6 9)) (K7 kk11 2 3 6 9 33 34 35) = fun (env : aU) (h : Hp) =>
 bnd (aD .lss (env 35) (env 34) h) fun v1 h1 =>
 aP v1 (
 bnd (aJ 1 (env 33) (env 35) h1) fun v2 h2 =>
 bnd (aA v2 h2) fun v3 h3 =>
 bnd (aO (env 9) h3) fun v4 h4 =>
 bnd (aB 6 v4 h4) fun v5 h5 =>
 bnd (aA v5 h5) fun v6 h6 =>
 bnd (bC [(.s []), (.b false), (.b false), (aE 0)] [(0, 1, v3), (1, 1, (.b true)), (2, 1, (.b false)), (3, 1, (env 35))] h6) fun v7 h7 =>
 bnd (aL [(.s []), (.b false), (.b false), (aE 0)] 1 [(0, 4, v7)] h7) fun v8 h8 =>
 bnd (aZ 4 32 v6 v8 h8) fun v9 h9 =>
 bnd (aO (env 9) h9) fun v10 h10 =>
 bnd (aB 6 v10 h10) fun v11 h11 =>
 bnd (aG 1 v11 v9 h11) fun _ h12 =>
 bnd (aD .add (env 35) (aE 1) h12) fun v13 h13 =>
      kk11 (env 2) (env 3) (env 6) (env 9) (env 33) (env 34) v13 h13) (
      q0 (env 2) (env 3) (env 6) (env 9) h1) := by kernel_rfl
theorem aOb (kk11 : TT7) : (fun (env : aU) (h : Hp) =>
 bnd (aD .lss (env 35) (env 34) h) fun v1 h1 =>
 aP v1 (
 bnd (aJ 1 (env 33) (env 35) h1) fun v2 h2 =>
 bnd (aA v2 h2) fun v3 h3 =>
 bnd (aO (env 9) h3) fun v4 h4 =>
 bnd (aB 6 v4 h4) fun v5 h5 =>
 bnd (aA v5 h5) fun v6 h6 =>
 bnd (bC [(.s []), (.b false), (.b false), (aE 0)] [(0, 1, v3), (1, 1, (.b true)), (2, 1, (.b false)), (3, 1, (env 35))] h6) fun v7 h7 =>
 bnd (aL [(.s []), (.b false), (.b false), (aE 0)] 1 [(0, 4, v7)] h7) fun v8 h8 =>
 bnd (aZ 4 32 v6 v8 h8) fun v9 h9 =>
 bnd (aO (env 9) h9) fun v10 h10 =>
 bnd (aB 6 v10 h10) fun v11 h11 =>
 bnd (aG 1 v11 v9 h11) fun _ h12 =>
 bnd (aD .add (env 35) (aE 1) h12) fun v13 h13 =>
      kk11 (env 2) (env 3) (env 6) (env 9) (env 33) (env 34) v13 h13) (
      eB r n (env 2) (env 3) (env 6) (env 9) h1)) = (K7 (yE r n kk11) 2 3 6 9 33 34 35) := by kernel_rfl
theorem bGc (kk11 : TT7) : D112 r n jI (xs x0 0 (K4 (eB r n) 2 3 6 9)) (K7 kk11 2 3 6 9 33 34 35) = (K7 (yE r n kk11) 2 3 6 9 33 34 35) :=
 (bDn r n kk11 (eB r n)).trans (aOb r n kk11)
theorem bDq (m : Nat) : aN (fun kk => D112 r n jI (xs x0 0 (K4 (eB r n) 2 3 6 9)) kk) m = (K7 (pI r n m) 2 3 6 9 33 34 35) := by
 induction m with
 | zero => exact (by kernel_rfl : aN (fun kk => D112 r n jI (xs x0 0 (K4 (eB r n) 2 3 6 9)) kk) 0 = (K7 (pI r n 0) 2 3 6 9 33 34 35))
 | succ m ih =>
  refine (by kernel_rfl : aN (fun kk => D112 r n jI (xs x0 0 (K4 (eB r n) 2 3 6 9)) kk) (m + 1) = D112 r n jI (xs x0 0 (K4 (eB r n) 2 3 6 9)) (aN (fun kk => D112 r n jI (xs x0 0 (K4 (eB r n) 2 3 6 9)) kk) m)).trans ?_
  rw [ih]
  exact (bGc r n (pI r n m)).trans (by kernel_rfl)
theorem bUb : D112 r n sK (xs x0 0 (K4 (eB r n) 2 3 6 9)) (K4 (eB r n) 2 3 6 9) = (K7 (aZy r n) 2 3 6 9 33 34 35) :=
 (by kernel_rfl : D112 r n sK (xs x0 0 (K4 (eB r n) 2 3 6 9)) (K4 (eB r n) 2 3 6 9) = aN (fun kk => D112 r n jI (xs x0 0 (K4 (eB r n) 2 3 6 9)) kk) n).trans ((bDq r n n).trans (by kernel_rfl))
theorem bPs : D112 r n aEl x0 (K4 (eB r n) 2 3 6 9) = (K7 (aAt r n) 2 3 6 9 33 34 35) :=
 (by kernel_rfl : D112 r n aEl x0 (K4 (eB r n) 2 3 6 9) = D112 r n sK (xs x0 0 (K4 (eB r n) 2 3 6 9)) (K4 (eB r n) 2 3 6 9)).trans
 ((bUb r n).trans (by kernel_rfl))
theorem bSr : D112 r n aBp x0 r112 = D112 r n pD x0 (K4 (eB r n) 2 3 6 9) :=
 congrArg (fun k => D112 r n pD x0 k) (cOe r n)
theorem bKb : D112 r n pD x0 (K4 (eB r n) 2 3 6 9) = D112 r n aZd x0 (K7 (aAt r n) 2 3 6 9 33 34 35) :=
 congrArg (fun k => D112 r n aZd x0 k) (bPs r n)
theorem cKj : D112 r n aBp x0 r112 = (K5 (vH r n) 1 2 3 6 9) :=
 (bSr r n).trans
 ((bKb r n).trans
 ((by kernel_rfl)))
theorem bCo : D112 r n aBe x0 r112 = D112 r n aHl x0 (K5 (vH r n) 1 2 3 6 9) :=
 congrArg (fun k => D112 r n aHl x0 k) (cKj r n)
theorem bFz (q0 : cD) : D112 r n aHl x0 (K5 q0 1 2 3 6 9) = fun (env : aU) (h : Hp) =>
 bnd (aB 1 (env 3) h) fun v1 h1 =>
 bnd (aA v1 h1) fun v2 h2 =>
 bnd (aB 3 (env 3) h2) fun v3 h3 =>
 bnd (aA v3 h3) fun v4 h4 =>
 bnd (bV v4 h4) fun v5 h5 =>
 bnd (aB 2 (env 3) h5) fun v6 h6 =>
 bnd (aA v6 h6) fun v7 h7 =>
 bnd (bC [(.s []), (aE 0), (aE 0), (aE 0), .l0, .l0] [(0, 1, v2), (1, 1, v5), (3, 1, v7)] h7) fun v8 h8 =>
 bnd (bC [(.s []), (aE 0), (aE 0), (aE 0), .l0, .l0, .l0, (.s []), (aE 0)] [(0, 6, v8)] h8) fun v9 h9 =>
 bnd (bQ v9 h9) fun v10 h10 =>
  q0 (env 1) (env 2) (env 3) (env 6) v10 h10 := by kernel_rfl
theorem aOd : (fun (env : aU) (h : Hp) =>
 bnd (aB 1 (env 3) h) fun v1 h1 =>
 bnd (aA v1 h1) fun v2 h2 =>
 bnd (aB 3 (env 3) h2) fun v3 h3 =>
 bnd (aA v3 h3) fun v4 h4 =>
 bnd (bV v4 h4) fun v5 h5 =>
 bnd (aB 2 (env 3) h5) fun v6 h6 =>
 bnd (aA v6 h6) fun v7 h7 =>
 bnd (bC [(.s []), (aE 0), (aE 0), (aE 0), .l0, .l0] [(0, 1, v2), (1, 1, v5), (3, 1, v7)] h7) fun v8 h8 =>
 bnd (bC [(.s []), (aE 0), (aE 0), (aE 0), .l0, .l0, .l0, (.s []), (aE 0)] [(0, 6, v8)] h8) fun v9 h9 =>
 bnd (bQ v9 h9) fun v10 h10 =>
  vH r n (env 1) (env 2) (env 3) (env 6) v10 h10) = (K4 (qU r n) 1 2 3 6) := by kernel_rfl
theorem cOf : D112 r n aBe x0 r112 = (K4 (qU r n) 1 2 3 6) :=
 (bCo r n).trans
 ((bFz r n (vH r n)).trans (aOd r n))
theorem bDw : D112 r n aHx x0 r112 = D112 r n aDj x0 (K4 (qU r n) 1 2 3 6) :=
 congrArg (fun k => D112 r n aDj x0 k) (cOf r n)
theorem bCj (q0 : dH) : D112 r n aDj x0 (K4 q0 1 2 3 6) = fun (env : aU) (h : Hp) =>
 bnd (aB 0 (env 3) h) fun v1 h1 =>
 bnd (aA v1 h1) fun v2 h2 =>
 bnd (aD .neq v2 (aE 11) h2) fun v3 h3 =>
 bnd (gD v3 false (some ((env 1), h3)) h3) fun v4 h4 =>
 bnd (gD v3 false (bV v4 h4) h4) fun v5 h5 =>
 bnd (gD v3 false (aD .gtr v5 (aE 8) h5) h5) fun v6 h6 =>
 bnd (aR v3 (.b true) v6 h6) fun v7 h7 =>
 aP v7 (
 bnd (bC [(.s []), (aE 0), (aE 0), (aE 0), .l0, .l0] [] h7) fun v8 h8 =>
 bnd (aG 6 (env 6) v8 h8) fun _ h9 =>
 bnd (aK 6 (env 6) h9) fun v10 _ =>
 some (.t [v10, (.s []), (aE 1)], h9)) (
   q0 (env 1) (env 2) (env 3) (env 6) h7) := by kernel_rfl
theorem aTd : (fun (env : aU) (h : Hp) =>
 bnd (aB 0 (env 3) h) fun v1 h1 =>
 bnd (aA v1 h1) fun v2 h2 =>
 bnd (aD .neq v2 (aE 11) h2) fun v3 h3 =>
 bnd (gD v3 false (some ((env 1), h3)) h3) fun v4 h4 =>
 bnd (gD v3 false (bV v4 h4) h4) fun v5 h5 =>
 bnd (gD v3 false (aD .gtr v5 (aE 8) h5) h5) fun v6 h6 =>
 bnd (aR v3 (.b true) v6 h6) fun v7 h7 =>
 aP v7 (
 bnd (bC [(.s []), (aE 0), (aE 0), (aE 0), .l0, .l0] [] h7) fun v8 h8 =>
 bnd (aG 6 (env 6) v8 h8) fun _ h9 =>
 bnd (aK 6 (env 6) h9) fun v10 _ =>
 some (.t [v10, (.s []), (aE 1)], h9)) (
   qU r n (env 1) (env 2) (env 3) (env 6) h7)) = (K4 (qS r n) 1 2 3 6) := by kernel_rfl
theorem cCs : D112 r n aHx x0 r112 = (K4 (qS r n) 1 2 3 6) :=
 (bDw r n).trans
 ((bCj r n (qU r n)).trans (aTd r n))
theorem cOz : D112 r n c112 x0 r112 = D112 r n aHz x0 (K4 (qS r n) 1 2 3 6) :=
 congrArg (fun k => D112 r n aHz x0 k) (cCs r n)
theorem cCi (q0 : dH) : D112 r n aHz x0 (K4 q0 1 2 3 6) = fun (env : aU) (h : Hp) =>
 bnd (bQ (env 0) h) fun v1 h1 =>
 bnd (bL [(.s []), (aE 0), (aE 0), (aE 0), .l0, .l0] h1) fun v2 h2 =>
  q0 (env 1) (env 2) v1 v2 h2 := by kernel_rfl
theorem bWe : (fun (env : aU) (h : Hp) =>
 bnd (bQ (env 0) h) fun v1 h1 =>
 bnd (bL [(.s []), (aE 0), (aE 0), (aE 0), .l0, .l0] h1) fun v2 h2 =>
  qS r n (env 1) (env 2) v1 v2 h2) = (K3 (s112 r n) 0 1 2) := by kernel_rfl
theorem dJl : D112 r n c112 x0 r112 = (K3 (s112 r n) 0 1 2) :=
 (cOz r n).trans
 ((cCi r n (qS r n)).trans (bWe r n))
theorem cSj : aF CF r n 112 args h = s112 r n (aS args 0) (aS args 1) (aS args 2) h :=
 (by kernel_rfl : aF CF r n 112 args h = D112 r n c112 x0 r112 (aI args) h).trans ((congrFun (congrFun (dJl r n) (aI args)) h).trans (by kernel_rfl))
noncomputable def s113 (r : RT) (n : Nat) (x0 x1 x2 : DV) (h0 : Hp) : aH :=
 bnd (bQ x2 h0) fun v1 h1 =>
 bnd (r 67 [x0, x1] h1) fun v2 h2 =>
 bnd (gS .not v2 h2) fun v3 h3 =>
 aP v3 (
 some (.t [(aE 0), (aE 24)], h3)) (
 bnd (aK 6 v1 h3) fun v4 h4 =>
 bnd (r 37 [x0, x1] h4) fun v5 h5 =>
 cnd (bH (aK 6 v1 h5) v4 && true) (
 bnd (r 125 [v4, v5] h5) fun v6 h6 =>
 bnd (aD .neq v6 (aE 0) h6) fun v7 h7 =>
 aP v7 (
 some (.t [(aE 0), v6], h7)) (
 bnd (aB 0 v1 h7) fun v8 h8 =>
 bnd (aA v8 h8) fun v9 h9 =>
 bnd (r 44 [x0, v9] h9) fun v10 h10 =>
 bnd (aC 0 v10 h10) fun v11 h11 =>
 bnd (aC 1 v10 h11) fun v12 h12 =>
 bnd (aD .neq v12 (aE 0) h12) fun v13 h13 =>
 aP v13 (
 some (.t [(aE 0), v12], h13)) (
 bnd (aB 4 v1 h13) fun v14 h14 =>
 bnd (aA v14 h14) fun v15 h15 =>
 bnd (bC [(aE 0), (.s []), (aE 0), .l0] [(0, 1, (aE 4)), (3, 1, v15)] h15) fun v16 h16 =>
 bnd (r 126 [x0, v16] h16) fun v17 h17 =>
 bnd (aC 0 v17 h17) fun v18 h18 =>
 bnd (aC 1 v17 h18) fun v19 h19 =>
 bnd (aD .neq v19 (aE 0) h19) fun v20 h20 =>
 aP v20 (
 some (.t [(aE 0), v19], h20)) (
 bnd (aB 5 v1 h20) fun v21 h21 =>
 bnd (aA v21 h21) fun v22 h22 =>
 bnd (r 127 [v22] h22) fun v23 h23 =>
 bnd (aC 0 v23 h23) fun v24 h24 =>
 bnd (aC 1 v23 h24) fun v25 h25 =>
 bnd (r 128 [x0, v24] h25) fun v26 h26 =>
 bnd (aC 0 v26 h26) fun v27 h27 =>
 bnd (aC 1 v26 h27) fun v28 h28 =>
 bnd (aD .neq v28 (aE 0) h28) fun v29 h29 =>
 aP v29 (
 some (.t [(aE 0), v28], h29)) (
 bnd (r 30 [x0, (aE 14)] (resv 1 h29)) fun v30 h30 =>
 bnd (aB 1 v1 h30) fun v31 h31 =>
 bnd (aA v31 h31) fun v32 h32 =>
 cnd (bH (aA v31 (resv 1 h29)) v32 && true) (
 bnd (r 71 [v32] h32) fun v33 h33 =>
 bnd (aB 2 v1 h33) fun v34 h34 =>
 bnd (aA v34 h34) fun v35 h35 =>
 cnd (bH (aA v34 h30) v35 && (bH (aA v34 (resv 1 h29)) v35 && true)) (
 bnd (r 71 [v35] h35) fun v36 h36 =>
 bnd (aB 3 v1 h36) fun v37 h37 =>
 bnd (aA v37 h37) fun v38 h38 =>
 cnd (bH (aA v37 h33) v38 && (bH (aA v37 h30) v38 && (bH (aA v37 (resv 1 h29)) v38 && true))) (
 bnd (r 71 [v38] h38) fun v39 h39 =>
 bnd (bK (bW 0 h29.next) [(aE 0), (aE 0), (aE 0), (aE 0), (aE 0), (aE 0), (aE 0)] 7 [(0, 1, v11), (1, 1, v33), (2, 1, v36), (3, 1, v39), (4, 1, v18), (5, 1, v27), (6, 1, x1)] h39) fun v40 h40 =>
 bnd (r 82 [x0, v30, (aE 0), v40] h40) fun v41 h41 =>
 bnd (aC 0 v41 h41) fun v42 h42 =>
 bnd (aC 1 v41 h42) fun v43 h43 =>
 some (.t [v42, v43], h43))))))))))
noncomputable abbrev c113 : Code := cf Tryz.f113
noncomputable abbrev r113 : K := aQ CF Tryz.f113
noncomputable def D113 (r : RT) (n : Nat) (c : Code) (X : Nat → K) (k : K) : K := aM CF r 83 n c X r113 k
theorem dHx : D113 r n c113 x0 r113 = (K3 (s113 r n) 0 1 2) :=
 (by kernel_rfl)
theorem cXe : aF CF r n 113 args h = s113 r n (aS args 0) (aS args 1) (aS args 2) h :=
 (by kernel_rfl : aF CF r n 113 args h = D113 r n c113 x0 r113 (aI args) h).trans ((congrFun (congrFun (dHx r n) (aI args)) h).trans (by kernel_rfl))
noncomputable def eJ (r : RT) (n : Nat) (x0 x1 x3 : DV) (h0 : Hp) : aH :=
 bnd (r 51 [x0, x1, (aE 4)] h0) fun v1 h1 =>
 bnd (r 73 [x0, x3, v1] h1) fun v2 h2 =>
 bnd (aC 0 v2 h2) fun v3 h3 =>
 bnd (aC 1 v2 h3) fun v4 h4 =>
 bnd (aD .neq v4 (aE 0) h4) fun v5 h5 =>
 aP v5 (
 some (v4, h5)) (
 bnd (aO x0 h5) fun v6 h6 =>
 bnd (aB 0 v6 h6) fun v7 h7 =>
 bnd (aA v7 h7) fun v8 h8 =>
 bnd (uT [v8, x1, (aE 4), v3] h8) fun v9 h9 =>
 some (v9, h9))
noncomputable def aYk (r : RT) (n : Nat) (kk5 : fC) (x0 x1 x2 x3 x9 x10 : DV) (h0 : Hp) : aH :=
 bnd (aD .gtr x10 (aE 0) h0) fun v1 h1 =>
 bnd (gD v1 true (some (x0, h1)) h1) fun v2 h2 =>
 bnd (gD v1 true (aO v2 h2) h2) fun v3 h3 =>
 bnd (gD v1 true (aB 0 v3 h3) h3) fun v4 h4 =>
 bnd (gD v1 true (aA v4 h4) h4) fun v5 h5 =>
 bnd (gD v1 true (some (x9, h5)) h5) fun v6 h6 =>
 bnd (gD v1 true (isF [v5, v6] h6) h6) fun v7 h7 =>
 bnd (aR v1 v7 (.b false) h7) fun v8 h8 =>
 aP v8 (
 bnd (r 51 [x0, x9, (aE 0)] h8) fun v9 h9 =>
 bnd (r 51 [x0, v9, (aE 0)] h9) fun v10 h10 =>
 bnd (aD .eql v10 x2 h10) fun v11 h11 =>
 aP v11 (
 bnd (aO x0 h11) fun v12 h12 =>
 bnd (aB 0 v12 h12) fun v13 h13 =>
 bnd (aA v13 h13) fun v14 h14 =>
 bnd (uT [v14, x9, (aE 0), x3] h14) fun v15 h15 =>
 some (v15, h15)) (
 bnd (r 51 [x0, x9, (aE 1)] h11) fun v16 h16 =>
 bnd (aD .sub x10 (aE 1) h16) fun v17 h17 =>
    kk5 x0 x1 x2 x3 v16 v17 h17)) (
      eJ r n x0 x1 x3 h8)
noncomputable def tV (r : RT) (n : Nat) (m : Nat) : fC :=
 Nat.rec (motive := fun _ => fC) (fun _ _ _ _ _ _ _ => none) (fun _ ih => aYk r n ih) m
noncomputable def bNb (r : RT) (n : Nat) : fC := tV r n n
noncomputable def aTt (r : RT) (n : Nat) (x0 x1 x2 x3 x9 x10 : DV) (h0 : Hp) : aH :=
 bNb r n x0 x1 x2 x3 x9 x10 h0
noncomputable def aOx (r : RT) (n : Nat) (x0 x1 x2 x3 x9 : DV) (h0 : Hp) : aH :=
 bnd (aO x0 h0) fun v1 h1 =>
 bnd (aB 0 v1 h1) fun v2 h2 =>
 bnd (aA v2 h2) fun v3 h3 =>
 bnd (zR [v3] h3) fun v4 h4 =>
  aTt r n x0 x1 x2 x3 x9 v4 h4
noncomputable def aNj (r : RT) (n : Nat) (x0 x1 x2 x3 : DV) (h0 : Hp) : aH :=
 bnd (r 51 [x0, x1, (aE 4)] h0) fun v1 h1 =>
  aOx r n x0 x1 x2 x3 v1 h1
noncomputable def s114 (r : RT) (n : Nat) (x0 x1 x2 x3 : DV) (h0 : Hp) : aH :=
 aNj r n x0 x1 x2 x3 h0
noncomputable abbrev c114 : Code := cf Tryz.f114
noncomputable abbrev aJc : Code := cR c114
noncomputable abbrev aDu : Code := cR aJc
noncomputable abbrev cRw : Code := cR aDu
noncomputable abbrev vK : Code := cL aDu
noncomputable abbrev aRg : Code := cR vK
noncomputable abbrev aFu : Code := cL aRg
noncomputable abbrev oD : Code := cL aFu
noncomputable abbrev bQb : Code := cL vK
noncomputable abbrev bVo : Code := cL aJc
noncomputable abbrev aZu : Code := cL c114
noncomputable abbrev r114 : K := aQ CF Tryz.f114
noncomputable def D114 (r : RT) (n : Nat) (c : Code) (X : Nat → K) (k : K) : K := aM CF r 69 n c X r114 k
theorem cOo : D114 r n cRw x0 r114 = (K3 (eJ r n) 0 1 3) :=
 (by kernel_rfl)
theorem bSi (kk5 : fC) : D114 r n oD (xs x0 0 (K3 (eJ r n) 0 1 3)) (K6 kk5 0 1 2 3 9 10) = (K6 (aYk r n kk5) 0 1 2 3 9 10) :=
 (by kernel_rfl)
theorem bLi (m : Nat) : aN (fun kk => D114 r n oD (xs x0 0 (K3 (eJ r n) 0 1 3)) kk) m = (K6 (tV r n m) 0 1 2 3 9 10) := by
 induction m with
 | zero => exact (by kernel_rfl : aN (fun kk => D114 r n oD (xs x0 0 (K3 (eJ r n) 0 1 3)) kk) 0 = (K6 (tV r n 0) 0 1 2 3 9 10))
 | succ m ih =>
  refine (by kernel_rfl : aN (fun kk => D114 r n oD (xs x0 0 (K3 (eJ r n) 0 1 3)) kk) (m + 1) = D114 r n oD (xs x0 0 (K3 (eJ r n) 0 1 3)) (aN (fun kk => D114 r n oD (xs x0 0 (K3 (eJ r n) 0 1 3)) kk) m)).trans ?_
  rw [ih]
  exact (bSi r n (tV r n m)).trans (by kernel_rfl)
theorem cIg : D114 r n aFu (xs x0 0 (K3 (eJ r n) 0 1 3)) (K3 (eJ r n) 0 1 3) = (K6 (bNb r n) 0 1 2 3 9 10) :=
 (by kernel_rfl : D114 r n aFu (xs x0 0 (K3 (eJ r n) 0 1 3)) (K3 (eJ r n) 0 1 3) = aN (fun kk => D114 r n oD (xs x0 0 (K3 (eJ r n) 0 1 3)) kk) n).trans ((bLi r n n).trans (by kernel_rfl))
theorem cBp : D114 r n aRg x0 (K3 (eJ r n) 0 1 3) = (K6 (aTt r n) 0 1 2 3 9 10) :=
 (by kernel_rfl : D114 r n aRg x0 (K3 (eJ r n) 0 1 3) = D114 r n aFu (xs x0 0 (K3 (eJ r n) 0 1 3)) (K3 (eJ r n) 0 1 3)).trans
 ((cIg r n).trans (by kernel_rfl))
theorem cAn : D114 r n aDu x0 r114 = D114 r n vK x0 (K3 (eJ r n) 0 1 3) :=
 congrArg (fun k => D114 r n vK x0 k) (cOo r n)
theorem bQg : D114 r n vK x0 (K3 (eJ r n) 0 1 3) = D114 r n bQb x0 (K6 (aTt r n) 0 1 2 3 9 10) :=
 congrArg (fun k => D114 r n bQb x0 k) (cBp r n)
theorem cMu : D114 r n aDu x0 r114 = (K5 (aOx r n) 0 1 2 3 9) :=
 (cAn r n).trans
 ((bQg r n).trans
 ((by kernel_rfl)))
theorem bNt : D114 r n aJc x0 r114 = D114 r n bVo x0 (K5 (aOx r n) 0 1 2 3 9) :=
 congrArg (fun k => D114 r n bVo x0 k) (cMu r n)
theorem cIe : D114 r n aJc x0 r114 = (K4 (aNj r n) 0 1 2 3) :=
 (bNt r n).trans
 ((by kernel_rfl))
theorem cSu : D114 r n c114 x0 r114 = D114 r n aZu x0 (K4 (aNj r n) 0 1 2 3) :=
 congrArg (fun k => D114 r n aZu x0 k) (cIe r n)
theorem dGt : D114 r n c114 x0 r114 = (K4 (s114 r n) 0 1 2 3) :=
 (cSu r n).trans
 ((by kernel_rfl))
theorem dDc : aF CF r n 114 args h = s114 r n (aS args 0) (aS args 1) (aS args 2) (aS args 3) h :=
 (by kernel_rfl : aF CF r n 114 args h = D114 r n c114 x0 r114 (aI args) h).trans ((congrFun (congrFun (dGt r n) (aI args)) h).trans (by kernel_rfl))
noncomputable def eQ (r : RT) (n : Nat) (x0 x6 : DV) (h0 : Hp) : aH :=
 bnd (dR x0 h0) fun v1 h1 =>
 bnd (bC [(aE 0), (.s []), (aE 0), (aE 0)] [(3, 1, v1)] h1) fun v2 h2 =>
 bnd (aL [(aE 0), (.s []), (aE 0), (aE 0)] 1 [(0, 4, v2)] h2) fun v3 h3 =>
 bnd (aZ 4 40 x6 v3 h3) fun v4 h4 =>
 some (.t [v4, (aE 0), (aE 0)], h4)
noncomputable def aEt (r : RT) (n : Nat) (kk7 : mV) (x0 x5 x6 : DV) (h0 : Hp) : aH :=
 bnd (r 130 [(.s [9, 10, 13, 32])] h0) fun v1 h1 =>
 bnd (dR x0 h1) fun v2 h2 =>
 bnd (r 129 [x5, v1, v2] h2) fun v3 h3 =>
 bnd (aO x5 h3) fun v4 h4 =>
 bnd (aB 1 v4 h4) fun v5 h5 =>
 bnd (aA v5 h5) fun v6 h6 =>
 bnd (dR x0 h6) fun v7 h7 =>
 bnd (aD .geq v6 v7 h7) fun v8 h8 =>
 aP v8 (
   eQ r n x0 x6 h8) (
 bnd (aO x5 h8) fun v9 h9 =>
 bnd (aB 1 v9 h9) fun v10 h10 =>
 bnd (aA v10 h10) fun v11 h11 =>
 bnd (fD x0 v11 h11) fun v12 h12 =>
 bnd (aD .eql v12 (.i .u8 (Int.ofNat 34)) h12) fun v13 h13 =>
 aP v13 (
 bnd (aO x5 h13) fun v14 h14 =>
 bnd (aB 1 v14 h14) fun v15 h15 =>
 bnd (aA v15 h15) fun v16 h16 =>
 bnd (aD .add v16 (aE 1) h16) fun v17 h17 =>
 bnd (fB x0 (some v17) none h17) fun v18 h18 =>
 bnd (r 131 [v18, (.i .u8 (Int.ofNat 34))] h18) fun v19 h19 =>
 bnd (aD .lss v19 (aE 0) h19) fun v20 h20 =>
 aP v20 (
 bnd (aO x5 h20) fun v21 h21 =>
 bnd (aB 1 v21 h21) fun v22 h22 =>
 bnd (aA v22 h22) fun v23 h23 =>
 some (.t [.l0, v23, (aE 11)], h23)) (
 bnd (aO x5 h20) fun v24 h24 =>
 bnd (aB 1 v24 h24) fun v25 h25 =>
 bnd (aA v25 h25) fun v26 h26 =>
 bnd (aD .add v19 (aE 2) h26) fun v27 h27 =>
 bnd (aD .add v26 v27 h27) fun v28 h28 =>
 bnd (aO x5 h28) fun v29 h29 =>
 bnd (aB 1 v29 h29) fun v30 h30 =>
 bnd (aG 1 v30 v28 h30) fun _ h31 =>
     kk7 x0 x5 x6 h31)) (
 bnd (r 132 [x5] h13) fun v32 h32 =>
 bnd (aC 0 v32 h32) fun v33 h33 =>
 bnd (aC 1 v32 h33) fun v34 h34 =>
 bnd (bL [(aE 0), (.s []), (aE 0), (aE 0)] h34) fun v35 h35 =>
 bnd (aG 4 v35 v33 h35) fun _ h36 =>
 bnd (aD .neq v34 (aE 0) h36) fun v37 h37 =>
 aP v37 (
 bnd (aB 3 v35 h37) fun v38 h38 =>
 bnd (aA v38 h38) fun v39 h39 =>
 some (.t [.l0, v39, v34], h39)) (
 bnd (aK 4 v35 h37) fun v40 h40 =>
 bnd (aL [(aE 0), (.s []), (aE 0), (aE 0)] 1 [(0, 4, v40)] h40) fun v41 h41 =>
 bnd (aZ 4 40 x6 v41 h41) fun v42 h42 =>
     kk7 x0 x5 v42 h42)))
noncomputable def sU (r : RT) (n : Nat) (m : Nat) : mV :=
 Nat.rec (motive := fun _ => mV) (fun _ _ _ _ => none) (fun _ ih => aEt r n ih) m
noncomputable def bOc (r : RT) (n : Nat) : mV := sU r n n
noncomputable def aOe (r : RT) (n : Nat) (x0 x5 x6 : DV) (h0 : Hp) : aH :=
 bOc r n x0 x5 x6 h0
noncomputable def aSw (r : RT) (n : Nat) (x0 x5 x6 : DV) (h0 : Hp) : aH :=
 aOe r n x0 x5 x6 h0
noncomputable def vT (r : RT) (n : Nat) (x0 x5 : DV) (h0 : Hp) : aH :=
 aSw r n x0 x5 .l0 h0
noncomputable def aFk (r : RT) (n : Nat) (x0 : DV) (h0 : Hp) : aH :=
 bnd (bC [(.s []), (aE 0)] [(0, 1, x0)] h0) fun v1 h1 =>
 bnd (bQ v1 h1) fun v2 h2 =>
  vT r n x0 v2 h2
noncomputable def aNz (r : RT) (n : Nat) (x0 : DV) (h0 : Hp) : aH :=
 bnd (dR x0 h0) fun v1 h1 =>
 bnd (aD .gtr v1 (aE 2000) h1) fun v2 h2 =>
 aP v2 (
 some (.t [.l0, (aE 0), (aE 12)], h2)) (
  aFk r n x0 h2)
noncomputable def s117 (r : RT) (n : Nat) (x0 : DV) (h0 : Hp) : aH :=
 aNz r n x0 h0
noncomputable abbrev c117 : Code := cf Tryz.f117
noncomputable abbrev aRn : Code := cR c117
noncomputable abbrev aIv : Code := cL aRn
noncomputable abbrev aGb : Code := cR aIv
noncomputable abbrev aCj : Code := cR aGb
noncomputable abbrev aGq : Code := cR aCj
noncomputable abbrev aBf : Code := cR aGq
noncomputable abbrev dBx : Code := cR aBf
noncomputable abbrev aJp : Code := cL aBf
noncomputable abbrev aCl : Code := cL aJp
noncomputable abbrev jK : Code := cL aCl
noncomputable abbrev aXv : Code := cL aGq
noncomputable abbrev bAs : Code := cL aCj
noncomputable abbrev aHm : Code := cL aGb
noncomputable abbrev aYj : Code := cL aIv
noncomputable abbrev bAr : Code := cL c117
noncomputable abbrev r117 : K := aQ CF Tryz.f117
noncomputable def D117 (r : RT) (n : Nat) (c : Code) (X : Nat → K) (k : K) : K := aM CF r 80 n c X r117 k
theorem cIk : D117 r n dBx x0 r117 = (K2 (eQ r n) 0 6) :=
 (by kernel_rfl)
theorem bSc (kk7 : mV) (q0 : oF) : D117 r n jK (xs x0 0 (K2 q0 0 6)) (K3 kk7 0 5 6) = fun (env : aU) (h : Hp) =>
 bnd (r 130 [(.s [9, 10, 13, 32])] h) fun v1 h1 =>
 bnd (dR (env 0) h1) fun v2 h2 =>
 bnd (r 129 [(env 5), v1, v2] h2) fun v3 h3 =>
 bnd (aO (env 5) h3) fun v4 h4 =>
 bnd (aB 1 v4 h4) fun v5 h5 =>
 bnd (aA v5 h5) fun v6 h6 =>
 bnd (dR (env 0) h6) fun v7 h7 =>
 bnd (aD .geq v6 v7 h7) fun v8 h8 =>
 aP v8 (
   q0 (env 0) (env 6) h8) (
 bnd (aO (env 5) h8) fun v9 h9 =>
 bnd (aB 1 v9 h9) fun v10 h10 =>
 bnd (aA v10 h10) fun v11 h11 =>
 bnd (fD (env 0) v11 h11) fun v12 h12 =>
 bnd (aD .eql v12 (.i .u8 (Int.ofNat 34)) h12) fun v13 h13 =>
 aP v13 (
 bnd (aO (env 5) h13) fun v14 h14 =>
 bnd (aB 1 v14 h14) fun v15 h15 =>
 bnd (aA v15 h15) fun v16 h16 =>
 bnd (aD .add v16 (aE 1) h16) fun v17 h17 =>
 bnd (fB (env 0) (some v17) none h17) fun v18 h18 =>
 bnd (r 131 [v18, (.i .u8 (Int.ofNat 34))] h18) fun v19 h19 =>
 bnd (aD .lss v19 (aE 0) h19) fun v20 h20 =>
 aP v20 (
 bnd (aO (env 5) h20) fun v21 h21 =>
 bnd (aB 1 v21 h21) fun v22 h22 =>
 bnd (aA v22 h22) fun v23 h23 =>
 some (.t [.l0, v23, (aE 11)], h23)) (
 bnd (aO (env 5) h20) fun v24 h24 =>
 bnd (aB 1 v24 h24) fun v25 h25 =>
 bnd (aA v25 h25) fun v26 h26 =>
 bnd (aD .add v19 (aE 2) h26) fun v27 h27 =>
 bnd (aD .add v26 v27 h27) fun v28 h28 =>
 bnd (aO (env 5) h28) fun v29 h29 =>
 bnd (aB 1 v29 h29) fun v30 h30 =>
 bnd (aG 1 v30 v28 h30) fun _ h31 =>
     kk7 (env 0) (env 5) (env 6) h31)) (
 bnd (r 132 [(env 5)] h13) fun v32 h32 =>
 bnd (aC 0 v32 h32) fun v33 h33 =>
 bnd (aC 1 v32 h33) fun v34 h34 =>
 bnd (bL [(aE 0), (.s []), (aE 0), (aE 0)] h34) fun v35 h35 =>
 bnd (aG 4 v35 v33 h35) fun _ h36 =>
 bnd (aD .neq v34 (aE 0) h36) fun v37 h37 =>
 aP v37 (
 bnd (aB 3 v35 h37) fun v38 h38 =>
 bnd (aA v38 h38) fun v39 h39 =>
 some (.t [.l0, v39, v34], h39)) (
 bnd (aK 4 v35 h37) fun v40 h40 =>
 bnd (aL [(aE 0), (.s []), (aE 0), (aE 0)] 1 [(0, 4, v40)] h40) fun v41 h41 =>
 bnd (aZ 4 40 (env 6) v41 h41) fun v42 h42 =>
     kk7 (env 0) (env 5) v42 h42))) := by kernel_rfl
theorem bFo (kk7 : mV) : (fun (env : aU) (h : Hp) =>
 bnd (r 130 [(.s [9, 10, 13, 32])] h) fun v1 h1 =>
 bnd (dR (env 0) h1) fun v2 h2 =>
 bnd (r 129 [(env 5), v1, v2] h2) fun v3 h3 =>
 bnd (aO (env 5) h3) fun v4 h4 =>
 bnd (aB 1 v4 h4) fun v5 h5 =>
 bnd (aA v5 h5) fun v6 h6 =>
 bnd (dR (env 0) h6) fun v7 h7 =>
 bnd (aD .geq v6 v7 h7) fun v8 h8 =>
 aP v8 (
   eQ r n (env 0) (env 6) h8) (
 bnd (aO (env 5) h8) fun v9 h9 =>
 bnd (aB 1 v9 h9) fun v10 h10 =>
 bnd (aA v10 h10) fun v11 h11 =>
 bnd (fD (env 0) v11 h11) fun v12 h12 =>
 bnd (aD .eql v12 (.i .u8 (Int.ofNat 34)) h12) fun v13 h13 =>
 aP v13 (
 bnd (aO (env 5) h13) fun v14 h14 =>
 bnd (aB 1 v14 h14) fun v15 h15 =>
 bnd (aA v15 h15) fun v16 h16 =>
 bnd (aD .add v16 (aE 1) h16) fun v17 h17 =>
 bnd (fB (env 0) (some v17) none h17) fun v18 h18 =>
 bnd (r 131 [v18, (.i .u8 (Int.ofNat 34))] h18) fun v19 h19 =>
 bnd (aD .lss v19 (aE 0) h19) fun v20 h20 =>
 aP v20 (
 bnd (aO (env 5) h20) fun v21 h21 =>
 bnd (aB 1 v21 h21) fun v22 h22 =>
 bnd (aA v22 h22) fun v23 h23 =>
 some (.t [.l0, v23, (aE 11)], h23)) (
 bnd (aO (env 5) h20) fun v24 h24 =>
 bnd (aB 1 v24 h24) fun v25 h25 =>
 bnd (aA v25 h25) fun v26 h26 =>
 bnd (aD .add v19 (aE 2) h26) fun v27 h27 =>
 bnd (aD .add v26 v27 h27) fun v28 h28 =>
 bnd (aO (env 5) h28) fun v29 h29 =>
 bnd (aB 1 v29 h29) fun v30 h30 =>
 bnd (aG 1 v30 v28 h30) fun _ h31 =>
     kk7 (env 0) (env 5) (env 6) h31)) (
 bnd (r 132 [(env 5)] h13) fun v32 h32 =>
 bnd (aC 0 v32 h32) fun v33 h33 =>
 bnd (aC 1 v32 h33) fun v34 h34 =>
 bnd (bL [(aE 0), (.s []), (aE 0), (aE 0)] h34) fun v35 h35 =>
 bnd (aG 4 v35 v33 h35) fun _ h36 =>
 bnd (aD .neq v34 (aE 0) h36) fun v37 h37 =>
 aP v37 (
 bnd (aB 3 v35 h37) fun v38 h38 =>
 bnd (aA v38 h38) fun v39 h39 =>
 some (.t [.l0, v39, v34], h39)) (
 bnd (aK 4 v35 h37) fun v40 h40 =>
 bnd (aL [(aE 0), (.s []), (aE 0), (aE 0)] 1 [(0, 4, v40)] h40) fun v41 h41 =>
 bnd (aZ 4 40 (env 6) v41 h41) fun v42 h42 =>
     kk7 (env 0) (env 5) v42 h42)))) = (K3 (aEt r n kk7) 0 5 6) := by kernel_rfl
theorem bNm (kk7 : mV) : D117 r n jK (xs x0 0 (K2 (eQ r n) 0 6)) (K3 kk7 0 5 6) = (K3 (aEt r n kk7) 0 5 6) :=
 (bSc r n kk7 (eQ r n)).trans (bFo r n kk7)
theorem bZs (m : Nat) : aN (fun kk => D117 r n jK (xs x0 0 (K2 (eQ r n) 0 6)) kk) m = (K3 (sU r n m) 0 5 6) := by
 induction m with
 | zero => exact (by kernel_rfl : aN (fun kk => D117 r n jK (xs x0 0 (K2 (eQ r n) 0 6)) kk) 0 = (K3 (sU r n 0) 0 5 6))
 | succ m ih =>
  refine (by kernel_rfl : aN (fun kk => D117 r n jK (xs x0 0 (K2 (eQ r n) 0 6)) kk) (m + 1) = D117 r n jK (xs x0 0 (K2 (eQ r n) 0 6)) (aN (fun kk => D117 r n jK (xs x0 0 (K2 (eQ r n) 0 6)) kk) m)).trans ?_
  rw [ih]
  exact (bNm r n (sU r n m)).trans (by kernel_rfl)
theorem cKd : D117 r n aCl (xs x0 0 (K2 (eQ r n) 0 6)) (K2 (eQ r n) 0 6) = (K3 (bOc r n) 0 5 6) :=
 (by kernel_rfl : D117 r n aCl (xs x0 0 (K2 (eQ r n) 0 6)) (K2 (eQ r n) 0 6) = aN (fun kk => D117 r n jK (xs x0 0 (K2 (eQ r n) 0 6)) kk) n).trans ((bZs r n n).trans (by kernel_rfl))
theorem bLa : D117 r n aBf x0 r117 = D117 r n aJp x0 (K2 (eQ r n) 0 6) :=
 congrArg (fun k => D117 r n aJp x0 k) (cIk r n)
theorem cGe : D117 r n aBf x0 r117 = (K3 (aOe r n) 0 5 6) :=
 (bLa r n).trans
 ((by kernel_rfl : D117 r n aJp x0 (K2 (eQ r n) 0 6) = D117 r n aCl (xs x0 0 (K2 (eQ r n) 0 6)) (K2 (eQ r n) 0 6)).trans
 ((cKd r n).trans (by kernel_rfl)))
theorem bTs : D117 r n aGq x0 r117 = D117 r n aXv x0 (K3 (aOe r n) 0 5 6) :=
 congrArg (fun k => D117 r n aXv x0 k) (cGe r n)
theorem cNt : D117 r n aGq x0 r117 = (K3 (aSw r n) 0 5 6) :=
 (bTs r n).trans
 ((by kernel_rfl))
theorem bRi : D117 r n aCj x0 r117 = D117 r n bAs x0 (K3 (aSw r n) 0 5 6) :=
 congrArg (fun k => D117 r n bAs x0 k) (cNt r n)
theorem cPt : D117 r n aCj x0 r117 = (K2 (vT r n) 0 5) :=
 (bRi r n).trans
 ((by kernel_rfl))
theorem cAi : D117 r n aGb x0 r117 = D117 r n aHm x0 (K2 (vT r n) 0 5) :=
 congrArg (fun k => D117 r n aHm x0 k) (cPt r n)
theorem bWa (q0 : oF) : D117 r n aHm x0 (K2 q0 0 5) = fun (env : aU) (h : Hp) =>
 bnd (bC [(.s []), (aE 0)] [(0, 1, (env 0))] h) fun v1 h1 =>
 bnd (bQ v1 h1) fun v2 h2 =>
  q0 (env 0) v2 h2 := by kernel_rfl
theorem bEh : (fun (env : aU) (h : Hp) =>
 bnd (bC [(.s []), (aE 0)] [(0, 1, (env 0))] h) fun v1 h1 =>
 bnd (bQ v1 h1) fun v2 h2 =>
  vT r n (env 0) v2 h2) = (K1 (aFk r n) 0) := by kernel_rfl
theorem cLt : D117 r n aGb x0 r117 = (K1 (aFk r n) 0) :=
 (cAi r n).trans
 ((bWa r n (vT r n)).trans (bEh r n))
theorem bRh : D117 r n aIv x0 r117 = D117 r n aYj x0 (K1 (aFk r n) 0) :=
 congrArg (fun k => D117 r n aYj x0 k) (cLt r n)
theorem cNx : D117 r n aRn x0 r117 = (K1 (aNz r n) 0) :=
 (by kernel_rfl : D117 r n aRn x0 r117 = D117 r n aIv x0 r117).trans
 ((bRh r n).trans
 ((by kernel_rfl)))
theorem dAo : D117 r n c117 x0 r117 = D117 r n bAr x0 (K1 (aNz r n) 0) :=
 congrArg (fun k => D117 r n bAr x0 k) (cNx r n)
theorem dFy : D117 r n c117 x0 r117 = (K1 (s117 r n) 0) :=
 (dAo r n).trans
 ((by kernel_rfl))
theorem dAk : aF CF r n 117 args h = s117 r n (aS args 0) h :=
 (by kernel_rfl : aF CF r n 117 args h = D117 r n c117 x0 r117 (aI args) h).trans ((congrFun (congrFun (dFy r n) (aI args)) h).trans (by kernel_rfl))
end Go.Dd

namespace Go.Dd
open Go.Proofs
variable (r : RT) (n : Nat) (args : List DV) (h : Hp)
noncomputable def s120 (r : RT) (n : Nat) (x0 x1 x2 : DV) (h0 : Hp) : aH :=
 bnd (bL [(aE 0), (.s []), (aE 0), (aE 0)] h0) fun v1 h1 =>
 bnd (r 133 [x0, x1, x2] h1) fun v2 h2 =>
 bnd (gS .not v2 h2) fun v3 h3 =>
 aP v3 (
 bnd (r 137 [x0, (aE 0)] h3) fun v4 h4 =>
 bnd (r 136 [x0, v4, (aE 13)] h4) fun v5 h5 =>
 bnd (bC [(aE 0), (.s []), (aE 0), (aE 0)] [] h5) fun v6 h6 =>
 bnd (aG 4 v1 v6 h6) fun _ h7 =>
 bnd (aK 4 v1 h7) fun v8 _ =>
 some (v8, h7)) (
 bnd (r 134 [x0] h3) fun v9 h9 =>
 bnd (aG 4 v1 v9 h9) fun _ h10 =>
 bnd (aK 4 v1 h10) fun v11 _ =>
 some (v11, h10))
noncomputable abbrev c120 : Code := cf Tryz.f120
noncomputable abbrev r120 : K := aQ CF Tryz.f120
noncomputable def D120 (r : RT) (n : Nat) (c : Code) (X : Nat → K) (k : K) : K := aM CF r 19 n c X r120 k
theorem dKh : D120 r n c120 x0 r120 = (K3 (s120 r n) 0 1 2) :=
 (by kernel_rfl)
theorem cTl : aF CF r n 120 args h = s120 r n (aS args 0) (aS args 1) (aS args 2) h :=
 (by kernel_rfl : aF CF r n 120 args h = D120 r n c120 x0 r120 (aI args) h).trans ((congrFun (congrFun (dKh r n) (aI args)) h).trans (by kernel_rfl))
noncomputable def aZv (r : RT) (n : Nat) (kk6 : mV) (x0 x1 x4 : DV) (h0 : Hp) : aH :=
 bnd (gD x4 false (some (x0, h0)) h0) fun v1 h1 =>
 bnd (gD x4 false (r 133 [v1, (aE 2), (.s [])] h1) h1) fun v2 h2 =>
 bnd (aR x4 (.b true) v2 h2) fun v3 h3 =>
 aP v3 (
 bnd (aO x1 h3) fun v4 h4 =>
 bnd (aB 1 v4 h4) fun v5 h5 =>
 bnd (aA v5 h5) fun v6 h6 =>
 bnd (r 120 [x0, (aE 2), (.s [])] h6) fun v7 h7 =>
 cnd (bH (aA v5 h7) v6 && true) (
 bnd (fM 1 v7 h7) fun v8 h8 =>
 bnd (fH .add v6 v8 h8) fun v9 h9 =>
 bnd (aO x1 h9) fun v10 h10 =>
 bnd (aB 1 v10 h10) fun v11 h11 =>
 bnd (aG 1 v11 v9 h11) fun v12 h12 =>
 bnd (aO x1 (resv 1 h12)) fun v13 h13 =>
 bnd (aB 3 v13 h13) fun v14 h14 =>
 bnd (aA v14 h14) fun v15 h15 =>
 bnd (aO x1 h15) fun v16 h16 =>
 bnd (aB 3 v16 h16) fun v17 h17 =>
 bnd (aA v17 h17) fun v18 h18 =>
 bnd (r 138 [x0, (aE 1), v18] h18) fun v19 h19 =>
 cnd (bH (aA v14 h19) v15 && true) (
 bnd (bK (bW 0 h12.next) [(.s [])] 1 [(0, 1, v19)] h19) fun v20 h20 =>
 bnd (aZ 1 16 v15 v20 h20) fun v21 h21 =>
 bnd (aO x1 h21) fun v22 h22 =>
 bnd (aB 3 v22 h22) fun v23 h23 =>
 bnd (aG 1 v23 v21 h23) fun v24 h24 =>
      kk6 x0 x1 (.b false) h24))) (
 some (.t [], h3))
noncomputable def tY (r : RT) (n : Nat) (m : Nat) : mV :=
 Nat.rec (motive := fun _ => mV) (fun _ _ _ _ => none) (fun _ ih => aZv r n ih) m
noncomputable def bNg (r : RT) (n : Nat) : mV := tY r n n
noncomputable def aSv (r : RT) (n : Nat) (x0 x1 x4 : DV) (h0 : Hp) : aH :=
 bNg r n x0 x1 x4 h0
noncomputable def bYt (r : RT) (n : Nat) (x0 x1 : DV) (h0 : Hp) : aH :=
 aSv r n x0 x1 (.b true) h0
noncomputable def aQm (r : RT) (n : Nat) (x0 x1 x44 : DV) (h0 : Hp) : aH :=
 aP x44 (
 bnd (r 134 [x0] h0) fun v1 h1 =>
 bnd (fM 1 v1 h1) fun v2 h2 =>
 bnd (aO x1 h2) fun v3 h3 =>
 bnd (aB 1 v3 h3) fun v4 h4 =>
 bnd (aG 1 v4 v2 h4) fun _ h5 =>
 bnd (aO x1 (resv 1 h5)) fun v6 h6 =>
 bnd (aB 3 v6 h6) fun v7 h7 =>
 bnd (aA v7 h7) fun v8 h8 =>
 bnd (aO x1 h8) fun v9 h9 =>
 bnd (aB 3 v9 h9) fun v10 h10 =>
 bnd (aA v10 h10) fun v11 h11 =>
 bnd (r 138 [x0, (aE 1), v11] h11) fun v12 h12 =>
 cnd (bH (aA v7 h12) v8 && true) (
 bnd (bK (bW 0 h5.next) [(.s [])] 1 [(0, 1, v12)] h12) fun v13 h13 =>
 bnd (aZ 1 16 v8 v13 h13) fun v14 h14 =>
 bnd (aO x1 h14) fun v15 h15 =>
 bnd (aB 3 v15 h15) fun v16 h16 =>
 bnd (aG 1 v16 v14 h16) fun v17 h17 =>
 some (.t [], h17))) (
  bYt r n x0 x1 h0)
noncomputable def bYb (r : RT) (n : Nat) (x0 x1 : DV) (h0 : Hp) : aH :=
 bnd (r 133 [x0, (aE 3), (.s [])] h0) fun v1 h1 =>
  aQm r n x0 x1 v1 h1
noncomputable def aQw (r : RT) (n : Nat) (x0 x1 x35 : DV) (h0 : Hp) : aH :=
 aP x35 (
 bnd (r 134 [x0] h0) fun v1 h1 =>
 bnd (fM 1 v1 h1) fun v2 h2 =>
 bnd (aO x1 h2) fun v3 h3 =>
 bnd (aB 1 v3 h3) fun v4 h4 =>
 bnd (aG 1 v4 v2 h4) fun _ h5 =>
 some (.t [], h5)) (
  bYb r n x0 x1 h0)
noncomputable def s121 (r : RT) (n : Nat) (x0 x1 : DV) (h0 : Hp) : aH :=
 bnd (r 133 [x0, (aE 1), (.s [])] h0) fun v1 h1 =>
  aQw r n x0 x1 v1 h1
noncomputable abbrev c121 : Code := cf Tryz.f121
noncomputable abbrev aJa : Code := cL c121
noncomputable abbrev uM : Code := cR aJa
noncomputable abbrev yN : Code := cR uM
noncomputable abbrev yR : Code := cR yN
noncomputable abbrev yP : Code := cR yR
noncomputable abbrev aQs : Code := cR yP
noncomputable abbrev aDd : Code := cL aQs
noncomputable abbrev nX : Code := cL aDd
noncomputable abbrev bQp : Code := cL yP
noncomputable abbrev cJn : Code := cL yR
noncomputable abbrev bBf : Code := cL yN
noncomputable abbrev cFr : Code := cL uM
noncomputable abbrev aZf : Code := cL aJa
noncomputable abbrev r121 : K := aQ CF Tryz.f121
noncomputable def D121 (r : RT) (n : Nat) (c : Code) (X : Nat → K) (k : K) : K := aM CF r 68 n c X r121 k
theorem bWg (kk6 : mV) : D121 r n nX (xs (xs x0 0 r121) 1 r121) (K3 kk6 0 1 4) = (K3 (aZv r n kk6) 0 1 4) :=
 (by kernel_rfl)
theorem bPa (m : Nat) : aN (fun kk => D121 r n nX (xs (xs x0 0 r121) 1 r121) kk) m = (K3 (tY r n m) 0 1 4) := by
 induction m with
 | zero => exact (by kernel_rfl : aN (fun kk => D121 r n nX (xs (xs x0 0 r121) 1 r121) kk) 0 = (K3 (tY r n 0) 0 1 4))
 | succ m ih =>
  refine (by kernel_rfl : aN (fun kk => D121 r n nX (xs (xs x0 0 r121) 1 r121) kk) (m + 1) = D121 r n nX (xs (xs x0 0 r121) 1 r121) (aN (fun kk => D121 r n nX (xs (xs x0 0 r121) 1 r121) kk) m)).trans ?_
  rw [ih]
  exact (bWg r n (tY r n m)).trans (by kernel_rfl)
theorem cGm : D121 r n aDd (xs (xs x0 0 r121) 1 r121) r121 = (K3 (bNg r n) 0 1 4) :=
 (by kernel_rfl : D121 r n aDd (xs (xs x0 0 r121) 1 r121) r121 = aN (fun kk => D121 r n nX (xs (xs x0 0 r121) 1 r121) kk) n).trans ((bPa r n n).trans (by kernel_rfl))
theorem cBg : D121 r n aQs (xs x0 0 r121) r121 = (K3 (aSv r n) 0 1 4) :=
 (by kernel_rfl : D121 r n aQs (xs x0 0 r121) r121 = D121 r n aDd (xs (xs x0 0 r121) 1 r121) r121).trans
 ((cGm r n).trans (by kernel_rfl))
theorem bXr : D121 r n yP (xs x0 0 r121) r121 = D121 r n bQp (xs x0 0 r121) (K3 (aSv r n) 0 1 4) :=
 congrArg (fun k => D121 r n bQp (xs x0 0 r121) k) (cBg r n)
theorem cIy : D121 r n yP (xs x0 0 r121) r121 = (K2 (bYt r n) 0 1) :=
 (bXr r n).trans
 ((by kernel_rfl))
theorem cFg : D121 r n yR (xs x0 0 r121) r121 = (K3 (aQm r n) 0 1 44) :=
 (by kernel_rfl : D121 r n yR (xs x0 0 r121) r121 = (fun (env : aU) (h : Hp) => aP (opr env (cC yR)) (D121 r n cJn (xs x0 0 r121) r121 env h) (D121 r n yP (xs x0 0 r121) r121 env h))).trans (by rw [cIy r n]; kernel_rfl)
theorem bSo : D121 r n yN (xs x0 0 r121) r121 = D121 r n bBf (xs x0 0 r121) (K3 (aQm r n) 0 1 44) :=
 congrArg (fun k => D121 r n bBf (xs x0 0 r121) k) (cFg r n)
theorem cOx : D121 r n yN (xs x0 0 r121) r121 = (K2 (bYb r n) 0 1) :=
 (bSo r n).trans
 ((by kernel_rfl))
theorem cMq : D121 r n uM (xs x0 0 r121) r121 = (K3 (aQw r n) 0 1 35) :=
 (by kernel_rfl : D121 r n uM (xs x0 0 r121) r121 = (fun (env : aU) (h : Hp) => aP (opr env (cC uM)) (D121 r n cFr (xs x0 0 r121) r121 env h) (D121 r n yN (xs x0 0 r121) r121 env h))).trans (by rw [cOx r n]; kernel_rfl)
theorem cXq : D121 r n aJa (xs x0 0 r121) r121 = D121 r n aZf (xs x0 0 r121) (K3 (aQw r n) 0 1 35) :=
 congrArg (fun k => D121 r n aZf (xs x0 0 r121) k) (cMq r n)
theorem dFp : D121 r n c121 x0 r121 = (K2 (s121 r n) 0 1) :=
 (by kernel_rfl : D121 r n c121 x0 r121 = D121 r n aJa (xs x0 0 r121) r121).trans
 ((cXq r n).trans
 ((by kernel_rfl)))
theorem cXg : aF CF r n 121 args h = s121 r n (aS args 0) (aS args 1) h :=
 (by kernel_rfl : aF CF r n 121 args h = D121 r n c121 x0 r121 (aI args) h).trans ((congrFun (congrFun (dFp r n) (aI args)) h).trans (by kernel_rfl))
noncomputable def aHu (r : RT) (n : Nat) (x0 x3 : DV) (h0 : Hp) : aH :=
 bnd (r 120 [x0, (aE 3), (.s [62])] h0) fun v1 h1 =>
 bnd (aB 2 x3 h1) fun v2 h2 =>
 bnd (aA v2 h2) fun v3 h3 =>
 some (v3, h3)
noncomputable def xV (r : RT) (n : Nat) (x0 x3 : DV) (h0 : Hp) : aH :=
 bnd (aB 2 x3 h0) fun v1 h1 =>
 bnd (aA v1 h1) fun v2 h2 =>
 bnd (aD .gtr v2 (aE 255) h2) fun v3 h3 =>
 aP v3 (
 bnd (aK 4 x3 h3) fun v4 h4 =>
 bnd (r 136 [x0, v4, (aE 2)] h4) fun v5 h5 =>
  aHu r n x0 x3 h5) (
  aHu r n x0 x3 h3)
noncomputable def aDo (r : RT) (n : Nat) (x0 : DV) (h0 : Hp) : aH :=
 bnd (r 120 [x0, (aE 4), (.s [])] h0) fun v1 h1 =>
 bnd (bL [(aE 0), (.s []), (aE 0), (aE 0)] h1) fun v2 h2 =>
 bnd (aG 4 v2 v1 h2) fun _ h3 =>
  xV r n x0 v2 h3
noncomputable def aSa (r : RT) (n : Nat) (x0 : DV) (h0 : Hp) : aH :=
 bnd (r 120 [x0, (aE 2), (.s [112, 114, 105, 109, 105, 116, 105, 118, 101, 58])] h0) fun v1 h1 =>
  aDo r n x0 h1
noncomputable def aSo (r : RT) (n : Nat) (x0 : DV) (h0 : Hp) : aH :=
 bnd (r 134 [x0] h0) fun v1 h1 =>
  aSa r n x0 h1
noncomputable def aOv (r : RT) (n : Nat) (x0 : DV) (h0 : Hp) : aH :=
 bnd (r 133 [x0, (aE 3), (.s [60])] h0) fun v1 h1 =>
 bnd (gS .not v1 h1) fun v2 h2 =>
 aP v2 (
 some ((aE 0), h2)) (
  aSo r n x0 h2)
noncomputable def s122 (r : RT) (n : Nat) (x0 : DV) (h0 : Hp) : aH :=
 aOv r n x0 h0
noncomputable abbrev c122 : Code := cf Tryz.f122
noncomputable abbrev aAj : Code := cR c122
noncomputable abbrev aJx : Code := cR aAj
noncomputable abbrev aDb : Code := cR aJx
noncomputable abbrev aBn : Code := cR aDb
noncomputable abbrev aCz : Code := cR aBn
noncomputable abbrev cWz : Code := cR aCz
noncomputable abbrev bWh : Code := cL aCz
noncomputable abbrev aPa : Code := cL aBn
noncomputable abbrev bTq : Code := cL aDb
noncomputable abbrev bBe : Code := cL aJx
noncomputable abbrev aZo : Code := cL aAj
noncomputable abbrev aWn : Code := cL c122
noncomputable abbrev r122 : K := aQ CF Tryz.f122
noncomputable def D122 (r : RT) (n : Nat) (c : Code) (X : Nat → K) (k : K) : K := aM CF r 23 n c X r122 k
theorem cDc : D122 r n cWz x0 r122 = (K2 (aHu r n) 0 3) :=
 (by kernel_rfl)
theorem bPe : D122 r n aCz x0 r122 = D122 r n bWh x0 (K2 (aHu r n) 0 3) :=
 congrArg (fun k => D122 r n bWh x0 k) (cDc r n)
theorem cHm : D122 r n aCz x0 r122 = (K2 (xV r n) 0 3) :=
 (bPe r n).trans
 ((by kernel_rfl))
theorem cAs : D122 r n aBn x0 r122 = D122 r n aPa x0 (K2 (xV r n) 0 3) :=
 congrArg (fun k => D122 r n aPa x0 k) (cHm r n)
theorem bSl (q0 : oF) : D122 r n aPa x0 (K2 q0 0 3) = fun (env : aU) (h : Hp) =>
 bnd (r 120 [(env 0), (aE 4), (.s [])] h) fun v1 h1 =>
 bnd (bL [(aE 0), (.s []), (aE 0), (aE 0)] h1) fun v2 h2 =>
 bnd (aG 4 v2 v1 h2) fun _ h3 =>
  q0 (env 0) v2 h3 := by kernel_rfl
theorem bDd : (fun (env : aU) (h : Hp) =>
 bnd (r 120 [(env 0), (aE 4), (.s [])] h) fun v1 h1 =>
 bnd (bL [(aE 0), (.s []), (aE 0), (aE 0)] h1) fun v2 h2 =>
 bnd (aG 4 v2 v1 h2) fun _ h3 =>
  xV r n (env 0) v2 h3) = (K1 (aDo r n) 0) := by kernel_rfl
theorem cQa : D122 r n aBn x0 r122 = (K1 (aDo r n) 0) :=
 (cAs r n).trans
 ((bSl r n (xV r n)).trans (bDd r n))
theorem bXl : D122 r n aDb x0 r122 = D122 r n bTq x0 (K1 (aDo r n) 0) :=
 congrArg (fun k => D122 r n bTq x0 k) (cQa r n)
theorem cLp : D122 r n aDb x0 r122 = (K1 (aSa r n) 0) :=
 (bXl r n).trans
 ((by kernel_rfl))
theorem bQl : D122 r n aJx x0 r122 = D122 r n bBe x0 (K1 (aSa r n) 0) :=
 congrArg (fun k => D122 r n bBe x0 k) (cLp r n)
theorem cOy : D122 r n aJx x0 r122 = (K1 (aSo r n) 0) :=
 (bQl r n).trans
 ((by kernel_rfl))
theorem bXn : D122 r n aAj x0 r122 = D122 r n aZo x0 (K1 (aSo r n) 0) :=
 congrArg (fun k => D122 r n aZo x0 k) (cOy r n)
theorem cMk : D122 r n aAj x0 r122 = (K1 (aOv r n) 0) :=
 (bXn r n).trans
 ((by kernel_rfl))
theorem cTa : D122 r n c122 x0 r122 = D122 r n aWn x0 (K1 (aOv r n) 0) :=
 congrArg (fun k => D122 r n aWn x0 k) (cMk r n)
theorem dFz : D122 r n c122 x0 r122 = (K1 (s122 r n) 0) :=
 (cTa r n).trans
 ((by kernel_rfl))
theorem cUy : aF CF r n 122 args h = s122 r n (aS args 0) h :=
 (by kernel_rfl : aF CF r n 122 args h = D122 r n c122 x0 r122 (aI args) h).trans ((congrFun (congrFun (dFz r n) (aI args)) h).trans (by kernel_rfl))
noncomputable def aFp (r : RT) (n : Nat) (x0 : DV) (h0 : Hp) : aH :=
 bnd (r 141 [x0, (aE 20), (aE 0), (aE 0)] h0) fun v1 h1 =>
 some (.t [], h1)
noncomputable def cK (r : RT) (n : Nat) (x0 x2 : DV) (h0 : Hp) : aH :=
 aP x2 (
 bnd (r 141 [x0, (aE 2), (aE 0), (aE 0)] h0) fun v1 h1 =>
  aFp r n x0 h1) (
 bnd (r 141 [x0, (aE 1), (aE 0), (aE 0)] h0) fun v2 h2 =>
  aFp r n x0 h2)
noncomputable def kO (r : RT) (n : Nat) (kk8 : fC) (x0 x2 x6 x22 x23 x24 : DV) (h0 : Hp) : aH :=
 bnd (aD .add x24 (aE 1) h0) fun v1 h1 =>
  kk8 x0 x2 x6 x22 x23 v1 h1
noncomputable def uD (r : RT) (n : Nat) (kk8 : fC) (x0 x2 x6 x22 x23 x24 : DV) (h0 : Hp) : aH :=
 bnd (aJ 6 x22 x24 h0) fun v1 h1 =>
 bnd (aK 6 v1 h1) fun v2 h2 =>
 bnd (bL jQ h2) fun v3 h3 =>
 bnd (aG 6 v3 v2 h3) fun _ h4 =>
 bnd (aK 6 v3 h4) fun v5 h5 =>
 bnd (r 140 [x0, v5] h5) fun v6 h6 =>
 bnd (aD .eql x24 x6 h6) fun v7 h7 =>
 bnd (gD v7 true (aB 0 v3 h7) h7) fun v8 h8 =>
 bnd (gD v7 true (aA v8 h8) h8) fun v9 h9 =>
 bnd (gD v7 true (aD .eql v9 (aE 10) h9) h9) fun v10 h10 =>
 bnd (aR v7 v10 (.b false) h10) fun v11 h11 =>
 aP v11 (
 some (.t [], h11)) (
 bnd (aD .eql x24 x6 h11) fun v12 h12 =>
 bnd (gD v12 true (some (x2, h12)) h12) fun v13 h13 =>
 bnd (aR v12 v13 (.b false) h13) fun v14 h14 =>
 aP v14 (
 bnd (r 141 [x0, (aE 20), (aE 0), (aE 0)] h14) fun v15 h15 =>
 some (.t [], h15)) (
 bnd (aB 0 v3 h14) fun v16 h16 =>
 bnd (aA v16 h16) fun v17 h17 =>
 bnd (aD .eql v17 (aE 10) h17) fun v18 h18 =>
 aP v18 (
    kO r n kk8 x0 x2 x6 x22 x23 x24 h18) (
 bnd (r 141 [x0, (aE 12), (aE 0), (aE 0)] h18) fun v19 h19 =>
    kO r n kk8 x0 x2 x6 x22 x23 x24 h19)))
noncomputable def aPz (r : RT) (n : Nat) (kk8 : fC) (x0 x2 x6 x22 x23 x24 x25 : DV) (h0 : Hp) : aH :=
 aP x25 (
  uD r n kk8 x0 x2 x6 x22 x23 x24 h0) (
  cK r n x0 x2 h0)
noncomputable def aUc (r : RT) (n : Nat) (kk8 : fC) (x0 x2 x6 x22 x23 x24 : DV) (h0 : Hp) : aH :=
 bnd (aD .lss x24 x23 h0) fun v1 h1 =>
  aPz r n kk8 x0 x2 x6 x22 x23 x24 v1 h1
noncomputable def sM (r : RT) (n : Nat) (m : Nat) : fC :=
 Nat.rec (motive := fun _ => fC) (fun _ _ _ _ _ _ _ => none) (fun _ ih => aUc r n ih) m
noncomputable def bUr (r : RT) (n : Nat) : fC := sM r n n
noncomputable def aPy (r : RT) (n : Nat) (x0 x2 x6 x22 x23 x24 : DV) (h0 : Hp) : aH :=
 bUr r n x0 x2 x6 x22 x23 x24 h0
noncomputable def aPe (r : RT) (n : Nat) (x0 x2 x4 x6 : DV) (h0 : Hp) : aH :=
 bnd (aB 5 x4 h0) fun v1 h1 =>
 bnd (aA v1 h1) fun v2 h2 =>
 bnd (bV v2 h2) fun v3 h3 =>
  aPy r n x0 x2 x6 v2 v3 (aE 0) h3
noncomputable def aQa (r : RT) (n : Nat) (x0 x2 x4 : DV) (h0 : Hp) : aH :=
 bnd (aB 5 x4 h0) fun v1 h1 =>
 bnd (aA v1 h1) fun v2 h2 =>
 bnd (bV v2 h2) fun v3 h3 =>
 bnd (aD .sub v3 (aE 1) h3) fun v4 h4 =>
  aPe r n x0 x2 x4 v4 h4
noncomputable def aNu (r : RT) (n : Nat) (x0 x2 x4 : DV) (h0 : Hp) : aH :=
 bnd (aB 4 x4 h0) fun v1 h1 =>
 bnd (aA v1 h1) fun v2 h2 =>
 bnd (r 139 [x0, v2, (.b false)] h2) fun v3 h3 =>
  aQa r n x0 x2 x4 h3
noncomputable def yU (r : RT) (n : Nat) (x0 x2 x4 : DV) (h0 : Hp) : aH :=
 bnd (aB 3 x4 h0) fun v1 h1 =>
 bnd (aA v1 h1) fun v2 h2 =>
 bnd (r 139 [x0, v2, (.b true)] h2) fun v3 h3 =>
  aNu r n x0 x2 x4 h3
noncomputable def s123 (r : RT) (n : Nat) (x0 x1 x2 : DV) (h0 : Hp) : aH :=
 bnd (bQ x1 h0) fun v1 h1 =>
  yU r n x0 x2 v1 h1
noncomputable abbrev c123 : Code := cf Tryz.f123
noncomputable abbrev aHd : Code := cR c123
noncomputable abbrev aIi : Code := cR aHd
noncomputable abbrev aHq : Code := cR aIi
noncomputable abbrev aEj : Code := cR aHq
noncomputable abbrev aAm : Code := cR aEj
noncomputable abbrev cYm : Code := cR aAm
noncomputable abbrev bZe : Code := cL aAm
noncomputable abbrev uP : Code := cL aEj
noncomputable abbrev aTn : Code := cR uP
noncomputable abbrev tM : Code := cL aTn
noncomputable abbrev hC : Code := cL tM
noncomputable abbrev sO : Code := cR hC
noncomputable abbrev tB : Code := cR sO
noncomputable abbrev cJr : Code := cR tB
noncomputable abbrev aJr : Code := cL tB
noncomputable abbrev aZc : Code := cL sO
noncomputable abbrev aVh : Code := cL hC
noncomputable abbrev bAi : Code := cL uP
noncomputable abbrev aUb : Code := cL aHq
noncomputable abbrev aXn : Code := cL aIi
noncomputable abbrev bBa : Code := cL aHd
noncomputable abbrev aJq : Code := cL c123
noncomputable abbrev r123 : K := aQ CF Tryz.f123
noncomputable def D123 (r : RT) (n : Nat) (c : Code) (X : Nat → K) (k : K) : K := aM CF r 64 n c X r123 k
theorem cGr : D123 r n cYm x0 r123 = (K1 (aFp r n) 0) :=
 (by kernel_rfl)
theorem bXm : D123 r n aAm x0 r123 = D123 r n bZe x0 (K1 (aFp r n) 0) :=
 congrArg (fun k => D123 r n bZe x0 k) (cGr r n)
theorem cHz : D123 r n aAm x0 r123 = (K2 (cK r n) 0 2) :=
 (bXm r n).trans
 ((by kernel_rfl))
theorem bYu (kk8 : fC) : D123 r n cJr (xs x0 0 (K2 (cK r n) 0 2)) (K6 kk8 0 2 6 22 23 24) = (K6 (kO r n kk8) 0 2 6 22 23 24) :=
 (by kernel_rfl)
theorem bDi (kk8 : fC) : D123 r n tB (xs x0 0 (K2 (cK r n) 0 2)) (K6 kk8 0 2 6 22 23 24) = D123 r n aJr (xs x0 0 (K2 (cK r n) 0 2)) (K6 (kO r n kk8) 0 2 6 22 23 24) :=
 congrArg (fun k => D123 r n aJr (xs x0 0 (K2 (cK r n) 0 2)) k) (bYu r n kk8)
theorem bBz (kk8 : fC) (q0 : fC) (q1 : oF) : D123 r n aJr (xs x0 0 (K2 q1 0 2)) (K6 q0 0 2 6 22 23 24) = fun (env : aU) (h : Hp) =>
 bnd (aJ 6 (env 22) (env 24) h) fun v1 h1 =>
 bnd (aK 6 v1 h1) fun v2 h2 =>
 bnd (bL jQ h2) fun v3 h3 =>
 bnd (aG 6 v3 v2 h3) fun _ h4 =>
 bnd (aK 6 v3 h4) fun v5 h5 =>
 bnd (r 140 [(env 0), v5] h5) fun v6 h6 =>
 bnd (aD .eql (env 24) (env 6) h6) fun v7 h7 =>
 bnd (gD v7 true (aB 0 v3 h7) h7) fun v8 h8 =>
 bnd (gD v7 true (aA v8 h8) h8) fun v9 h9 =>
 bnd (gD v7 true (aD .eql v9 (aE 10) h9) h9) fun v10 h10 =>
 bnd (aR v7 v10 (.b false) h10) fun v11 h11 =>
 aP v11 (
 some (.t [], h11)) (
 bnd (aD .eql (env 24) (env 6) h11) fun v12 h12 =>
 bnd (gD v12 true (some ((env 2), h12)) h12) fun v13 h13 =>
 bnd (aR v12 v13 (.b false) h13) fun v14 h14 =>
 aP v14 (
 bnd (r 141 [(env 0), (aE 20), (aE 0), (aE 0)] h14) fun v15 h15 =>
 some (.t [], h15)) (
 bnd (aB 0 v3 h14) fun v16 h16 =>
 bnd (aA v16 h16) fun v17 h17 =>
 bnd (aD .eql v17 (aE 10) h17) fun v18 h18 =>
 aP v18 (
     q0 (env 0) (env 2) (env 6) (env 22) (env 23) (env 24) h18) (
 bnd (r 141 [(env 0), (aE 12), (aE 0), (aE 0)] h18) fun v19 h19 =>
     q0 (env 0) (env 2) (env 6) (env 22) (env 23) (env 24) h19))) := by kernel_rfl
theorem aRx (kk8 : fC) : (fun (env : aU) (h : Hp) =>
 bnd (aJ 6 (env 22) (env 24) h) fun v1 h1 =>
 bnd (aK 6 v1 h1) fun v2 h2 =>
 bnd (bL jQ h2) fun v3 h3 =>
 bnd (aG 6 v3 v2 h3) fun _ h4 =>
 bnd (aK 6 v3 h4) fun v5 h5 =>
 bnd (r 140 [(env 0), v5] h5) fun v6 h6 =>
 bnd (aD .eql (env 24) (env 6) h6) fun v7 h7 =>
 bnd (gD v7 true (aB 0 v3 h7) h7) fun v8 h8 =>
 bnd (gD v7 true (aA v8 h8) h8) fun v9 h9 =>
 bnd (gD v7 true (aD .eql v9 (aE 10) h9) h9) fun v10 h10 =>
 bnd (aR v7 v10 (.b false) h10) fun v11 h11 =>
 aP v11 (
 some (.t [], h11)) (
 bnd (aD .eql (env 24) (env 6) h11) fun v12 h12 =>
 bnd (gD v12 true (some ((env 2), h12)) h12) fun v13 h13 =>
 bnd (aR v12 v13 (.b false) h13) fun v14 h14 =>
 aP v14 (
 bnd (r 141 [(env 0), (aE 20), (aE 0), (aE 0)] h14) fun v15 h15 =>
 some (.t [], h15)) (
 bnd (aB 0 v3 h14) fun v16 h16 =>
 bnd (aA v16 h16) fun v17 h17 =>
 bnd (aD .eql v17 (aE 10) h17) fun v18 h18 =>
 aP v18 (
     kO r n kk8 (env 0) (env 2) (env 6) (env 22) (env 23) (env 24) h18) (
 bnd (r 141 [(env 0), (aE 12), (aE 0), (aE 0)] h18) fun v19 h19 =>
     kO r n kk8 (env 0) (env 2) (env 6) (env 22) (env 23) (env 24) h19)))) = (K6 (uD r n kk8) 0 2 6 22 23 24) := by kernel_rfl
theorem bSt (kk8 : fC) : D123 r n tB (xs x0 0 (K2 (cK r n) 0 2)) (K6 kk8 0 2 6 22 23 24) = (K6 (uD r n kk8) 0 2 6 22 23 24) :=
 (bDi r n kk8).trans
 ((bBz r n kk8 (kO r n kk8) (cK r n)).trans (aRx r n kk8))
theorem bYx (kk8 : fC) : D123 r n sO (xs x0 0 (K2 (cK r n) 0 2)) (K6 kk8 0 2 6 22 23 24) = D123 r n aZc (xs x0 0 (K2 (cK r n) 0 2)) (K6 (uD r n kk8) 0 2 6 22 23 24) :=
 congrArg (fun k => D123 r n aZc (xs x0 0 (K2 (cK r n) 0 2)) k) (bSt r n kk8)
theorem cGh (kk8 : fC) : D123 r n sO (xs x0 0 (K2 (cK r n) 0 2)) (K6 kk8 0 2 6 22 23 24) = (K7 (aPz r n kk8) 0 2 6 22 23 24 25) :=
 (bYx r n kk8).trans
 ((by kernel_rfl))
theorem bGh (kk8 : fC) : D123 r n hC (xs x0 0 (K2 (cK r n) 0 2)) (K6 kk8 0 2 6 22 23 24) = D123 r n aVh (xs x0 0 (K2 (cK r n) 0 2)) (K7 (aPz r n kk8) 0 2 6 22 23 24 25) :=
 congrArg (fun k => D123 r n aVh (xs x0 0 (K2 (cK r n) 0 2)) k) (cGh r n kk8)
theorem bNa (kk8 : fC) : D123 r n hC (xs x0 0 (K2 (cK r n) 0 2)) (K6 kk8 0 2 6 22 23 24) = (K6 (aUc r n kk8) 0 2 6 22 23 24) :=
 (bGh r n kk8).trans
 ((by kernel_rfl))
theorem bTz (m : Nat) : aN (fun kk => D123 r n hC (xs x0 0 (K2 (cK r n) 0 2)) kk) m = (K6 (sM r n m) 0 2 6 22 23 24) := by
 induction m with
 | zero => exact (by kernel_rfl : aN (fun kk => D123 r n hC (xs x0 0 (K2 (cK r n) 0 2)) kk) 0 = (K6 (sM r n 0) 0 2 6 22 23 24))
 | succ m ih =>
  refine (by kernel_rfl : aN (fun kk => D123 r n hC (xs x0 0 (K2 (cK r n) 0 2)) kk) (m + 1) = D123 r n hC (xs x0 0 (K2 (cK r n) 0 2)) (aN (fun kk => D123 r n hC (xs x0 0 (K2 (cK r n) 0 2)) kk) m)).trans ?_
  rw [ih]
  exact (bNa r n (sM r n m)).trans (by kernel_rfl)
theorem cPv : D123 r n tM (xs x0 0 (K2 (cK r n) 0 2)) (K2 (cK r n) 0 2) = (K6 (bUr r n) 0 2 6 22 23 24) :=
 (by kernel_rfl : D123 r n tM (xs x0 0 (K2 (cK r n) 0 2)) (K2 (cK r n) 0 2) = aN (fun kk => D123 r n hC (xs x0 0 (K2 (cK r n) 0 2)) kk) n).trans ((bTz r n n).trans (by kernel_rfl))
theorem cEb : D123 r n aTn x0 (K2 (cK r n) 0 2) = (K6 (aPy r n) 0 2 6 22 23 24) :=
 (by kernel_rfl : D123 r n aTn x0 (K2 (cK r n) 0 2) = D123 r n tM (xs x0 0 (K2 (cK r n) 0 2)) (K2 (cK r n) 0 2)).trans
 ((cPv r n).trans (by kernel_rfl))
theorem bVm : D123 r n aEj x0 r123 = D123 r n uP x0 (K2 (cK r n) 0 2) :=
 congrArg (fun k => D123 r n uP x0 k) (cHz r n)
theorem bVd : D123 r n uP x0 (K2 (cK r n) 0 2) = D123 r n bAi x0 (K6 (aPy r n) 0 2 6 22 23 24) :=
 congrArg (fun k => D123 r n bAi x0 k) (cEb r n)
theorem cLw : D123 r n aEj x0 r123 = (K4 (aPe r n) 0 2 4 6) :=
 (bVm r n).trans
 ((bVd r n).trans
 ((by kernel_rfl)))
theorem bJk : D123 r n aHq x0 r123 = D123 r n aUb x0 (K4 (aPe r n) 0 2 4 6) :=
 congrArg (fun k => D123 r n aUb x0 k) (cLw r n)
theorem cKk : D123 r n aHq x0 r123 = (K3 (aQa r n) 0 2 4) :=
 (bJk r n).trans
 ((by kernel_rfl))
theorem bJj : D123 r n aIi x0 r123 = D123 r n aXn x0 (K3 (aQa r n) 0 2 4) :=
 congrArg (fun k => D123 r n aXn x0 k) (cKk r n)
theorem cKf : D123 r n aIi x0 r123 = (K3 (aNu r n) 0 2 4) :=
 (bJj r n).trans
 ((by kernel_rfl))
theorem bCl : D123 r n aHd x0 r123 = D123 r n bBa x0 (K3 (aNu r n) 0 2 4) :=
 congrArg (fun k => D123 r n bBa x0 k) (cKf r n)
theorem cOk : D123 r n aHd x0 r123 = (K3 (yU r n) 0 2 4) :=
 (bCl r n).trans
 ((by kernel_rfl))
theorem cKu : D123 r n c123 x0 r123 = D123 r n aJq x0 (K3 (yU r n) 0 2 4) :=
 congrArg (fun k => D123 r n aJq x0 k) (cOk r n)
theorem cFz (q0 : mV) : D123 r n aJq x0 (K3 q0 0 2 4) = fun (env : aU) (h : Hp) =>
 bnd (bQ (env 1) h) fun v1 h1 =>
  q0 (env 0) (env 2) v1 h1 := by kernel_rfl
theorem bId : (fun (env : aU) (h : Hp) =>
 bnd (bQ (env 1) h) fun v1 h1 =>
  yU r n (env 0) (env 2) v1 h1) = (K3 (s123 r n) 0 1 2) := by kernel_rfl
theorem dEd : D123 r n c123 x0 r123 = (K3 (s123 r n) 0 1 2) :=
 (cKu r n).trans
 ((cFz r n (yU r n)).trans (bId r n))
theorem cYq : aF CF r n 123 args h = s123 r n (aS args 0) (aS args 1) (aS args 2) h :=
 (by kernel_rfl : aF CF r n 123 args h = D123 r n c123 x0 r123 (aI args) h).trans ((congrFun (congrFun (dEd r n) (aI args)) h).trans (by kernel_rfl))
noncomputable def s124 (r : RT) (n : Nat) (x0 : DV) (h0 : Hp) : aH :=
 bnd (bQ x0 h0) fun v1 h1 =>
 bnd (aB 0 v1 h1) fun v2 h2 =>
 bnd (aA v2 h2) fun v3 h3 =>
 bnd (r 142 [v3] h3) fun v4 h4 =>
 bnd (aC 0 v4 h4) fun v5 h5 =>
 bnd (aC 1 v4 h5) fun v6 h6 =>
 bnd (aB 0 v1 h6) fun v7 h7 =>
 bnd (aA v7 h7) fun v8 h8 =>
 bnd (aD .geq v8 (aE 1) h8) fun v9 h9 =>
 bnd (gD v9 true (aB 0 v1 h9) h9) fun v10 h10 =>
 bnd (gD v9 true (aA v10 h10) h10) fun v11 h11 =>
 bnd (gD v9 true (aD .leq v11 (aE 20) h11) h11) fun v12 h12 =>
 bnd (aR v9 v12 (.b false) h12) fun v13 h13 =>
 bnd (gD v13 true (aB 1 v1 h13) h13) fun v14 h14 =>
 bnd (gD v13 true (aA v14 h14) h14) fun v15 h15 =>
 bnd (gD v13 true (some (v5, h15)) h15) fun v16 h16 =>
 bnd (gD v13 true (r 143 [v15, v16] h16) h16) fun v17 h17 =>
 bnd (aR v13 v17 (.b false) h17) fun v18 h18 =>
 bnd (gD v18 true (aB 2 v1 h18) h18) fun v19 h19 =>
 bnd (gD v18 true (aA v19 h19) h19) fun v20 h20 =>
 bnd (gD v18 true (some (v6, h20)) h20) fun v21 h21 =>
 bnd (gD v18 true (r 143 [v20, v21] h21) h21) fun v22 h22 =>
 bnd (aR v18 v22 (.b false) h22) fun v23 h23 =>
 some (v23, h23)
noncomputable abbrev c124 : Code := cf Tryz.f124
noncomputable abbrev r124 : K := aQ CF Tryz.f124
noncomputable def D124 (r : RT) (n : Nat) (c : Code) (X : Nat → K) (k : K) : K := aM CF r 31 n c X r124 k
theorem dEk : D124 r n c124 x0 r124 = (K1 (s124 r n) 0) :=
 (by kernel_rfl)
theorem cVa : aF CF r n 124 args h = s124 r n (aS args 0) h :=
 (by kernel_rfl : aF CF r n 124 args h = D124 r n c124 x0 r124 (aI args) h).trans ((congrFun (congrFun (dEk r n) (aI args)) h).trans (by kernel_rfl))
noncomputable def s125 (r : RT) (n : Nat) (x0 x1 : DV) (h0 : Hp) : aH :=
 bnd (bQ x0 h0) fun v1 h1 =>
 bnd (aK 6 v1 h1) fun v2 h2 =>
 bnd (r 144 [v2, x1] h2) fun v3 h3 =>
 bnd (aC 0 v3 h3) fun v4 h4 =>
 bnd (aC 1 v3 h4) fun v5 h5 =>
 some (v5, h5)
noncomputable abbrev c125 : Code := cf Tryz.f125
noncomputable abbrev r125 : K := aQ CF Tryz.f125
noncomputable def D125 (r : RT) (n : Nat) (c : Code) (X : Nat → K) (k : K) : K := aM CF r 14 n c X r125 k
theorem dIg : D125 r n c125 x0 r125 = (K2 (s125 r n) 0 1) :=
 (by kernel_rfl)
theorem cWu : aF CF r n 125 args h = s125 r n (aS args 0) (aS args 1) h :=
 (by kernel_rfl : aF CF r n 125 args h = D125 r n c125 x0 r125 (aI args) h).trans ((congrFun (congrFun (dIg r n) (aI args)) h).trans (by kernel_rfl))
noncomputable def dX (r : RT) (n : Nat) (x0 x6 : DV) (h0 : Hp) : aH :=
 bnd (r 46 [x0, x6] h0) fun v1 h1 =>
 bnd (aC 0 v1 h1) fun v2 h2 =>
 bnd (aC 1 v1 h2) fun v3 h3 =>
 some (.t [v2, v3], h3)
noncomputable def aBt (r : RT) (n : Nat) (kk6 : cD) (x0 x6 x38 x39 x40 : DV) (h0 : Hp) : aH :=
 bnd (aD .lss x40 x39 h0) fun v1 h1 =>
 aP v1 (
 bnd (aJ 4 x38 x40 h1) fun v2 h2 =>
 bnd (aK 4 v2 h2) fun v3 h3 =>
 bnd (bL [(aE 0), (.s []), (aE 0), .l0] h3) fun v4 h4 =>
 bnd (aG 4 v4 v3 h4) fun _ h5 =>
 bnd (aK 4 v4 h5) fun v6 h6 =>
 bnd (r 126 [x0, v6] h6) fun v7 h7 =>
 bnd (aC 0 v7 h7) fun v8 h8 =>
 bnd (aC 1 v7 h8) fun v9 h9 =>
 bnd (aD .neq v9 (aE 0) h9) fun v10 h10 =>
 aP v10 (
 some (.t [(aE 0), v9], h10)) (
 bnd (aL [(aE 0)] 1 [(0, 1, v8)] h10) fun v11 h11 =>
 bnd (aZ 1 8 x6 v11 h11) fun v12 h12 =>
 bnd (aD .add x40 (aE 1) h12) fun v13 h13 =>
    kk6 x0 v12 x38 x39 v13 h13)) (
      dX r n x0 x6 h1)
noncomputable def sG (r : RT) (n : Nat) (m : Nat) : cD :=
 Nat.rec (motive := fun _ => cD) (fun _ _ _ _ _ _ => none) (fun _ ih => aBt r n ih) m
noncomputable def bUp (r : RT) (n : Nat) : cD := sG r n n
noncomputable def aOw (r : RT) (n : Nat) (x0 x6 x38 x39 x40 : DV) (h0 : Hp) : aH :=
 bUp r n x0 x6 x38 x39 x40 h0
noncomputable def aTg (r : RT) (n : Nat) (x0 x3 x6 : DV) (h0 : Hp) : aH :=
 bnd (aB 3 x3 h0) fun v1 h1 =>
 bnd (aA v1 h1) fun v2 h2 =>
 bnd (bV v2 h2) fun v3 h3 =>
  aOw r n x0 x6 v2 v3 (aE 0) h3
noncomputable def aQg (r : RT) (n : Nat) (x0 x3 : DV) (h0 : Hp) : aH :=
 aTg r n x0 x3 .l0 h0
noncomputable def wO (r : RT) (n : Nat) (x0 x3 : DV) (h0 : Hp) : aH :=
 bnd (aB 0 x3 h0) fun v1 h1 =>
 bnd (aA v1 h1) fun v2 h2 =>
 bnd (aD .eql v2 (aE 1) h2) fun v3 h3 =>
 aP v3 (
 bnd (aB 2 x3 h3) fun v4 h4 =>
 bnd (aA v4 h4) fun v5 h5 =>
 bnd (r 42 [x0, v5] h5) fun v6 h6 =>
 bnd (aC 0 v6 h6) fun v7 h7 =>
 bnd (aC 1 v6 h7) fun v8 h8 =>
 some (.t [v7, v8], h8)) (
 bnd (aD .eql v2 (aE 2) h3) fun v9 h9 =>
 aP v9 (
 bnd (aB 1 x3 h9) fun v10 h10 =>
 bnd (aA v10 h10) fun v11 h11 =>
 bnd (r 43 [x0, v11] h11) fun v12 h12 =>
 bnd (aC 0 v12 h12) fun v13 h13 =>
 bnd (aC 1 v12 h13) fun v14 h14 =>
 some (.t [v13, v14], h14)) (
 bnd (aD .eql v2 (aE 3) h9) fun v15 h15 =>
 aP v15 (
 bnd (aB 1 x3 h15) fun v16 h16 =>
 bnd (aA v16 h16) fun v17 h17 =>
 bnd (r 44 [x0, v17] h17) fun v18 h18 =>
 bnd (aC 0 v18 h18) fun v19 h19 =>
 bnd (aC 1 v18 h19) fun v20 h20 =>
 some (.t [v19, v20], h20)) (
    aQg r n x0 x3 h15)))
noncomputable def s126 (r : RT) (n : Nat) (x0 x1 : DV) (h0 : Hp) : aH :=
 bnd (bQ x1 h0) fun v1 h1 =>
  wO r n x0 v1 h1
noncomputable abbrev c126 : Code := cf Tryz.f126
noncomputable abbrev aFj : Code := cR c126
noncomputable abbrev aIl : Code := cR aFj
noncomputable abbrev aIc : Code := cR aIl
noncomputable abbrev cZg : Code := cR aIc
noncomputable abbrev wF : Code := cL aIc
noncomputable abbrev aRq : Code := cR wF
noncomputable abbrev aBh : Code := cL aRq
noncomputable abbrev lR : Code := cL aBh
noncomputable abbrev bVb : Code := cL wF
noncomputable abbrev aXa : Code := cL aIl
noncomputable abbrev aYi : Code := cL aFj
noncomputable abbrev aHf : Code := cL c126
noncomputable abbrev r126 : K := aQ CF Tryz.f126
noncomputable def D126 (r : RT) (n : Nat) (c : Code) (X : Nat → K) (k : K) : K := aM CF r 63 n c X r126 k
theorem cFd : D126 r n cZg x0 r126 = (K2 (dX r n) 0 6) :=
 (by kernel_rfl)
theorem bPr (kk6 : cD) (q0 : oF) : D126 r n lR (xs x0 1 (K2 q0 0 6)) (K5 kk6 0 6 38 39 40) = fun (env : aU) (h : Hp) =>
 bnd (aD .lss (env 40) (env 39) h) fun v1 h1 =>
 aP v1 (
 bnd (aJ 4 (env 38) (env 40) h1) fun v2 h2 =>
 bnd (aK 4 v2 h2) fun v3 h3 =>
 bnd (bL [(aE 0), (.s []), (aE 0), .l0] h3) fun v4 h4 =>
 bnd (aG 4 v4 v3 h4) fun _ h5 =>
 bnd (aK 4 v4 h5) fun v6 h6 =>
 bnd (r 126 [(env 0), v6] h6) fun v7 h7 =>
 bnd (aC 0 v7 h7) fun v8 h8 =>
 bnd (aC 1 v7 h8) fun v9 h9 =>
 bnd (aD .neq v9 (aE 0) h9) fun v10 h10 =>
 aP v10 (
 some (.t [(aE 0), v9], h10)) (
 bnd (aL [(aE 0)] 1 [(0, 1, v8)] h10) fun v11 h11 =>
 bnd (aZ 1 8 (env 6) v11 h11) fun v12 h12 =>
 bnd (aD .add (env 40) (aE 1) h12) fun v13 h13 =>
    kk6 (env 0) v12 (env 38) (env 39) v13 h13)) (
      q0 (env 0) (env 6) h1) := by kernel_rfl
theorem bDo (kk6 : cD) : (fun (env : aU) (h : Hp) =>
 bnd (aD .lss (env 40) (env 39) h) fun v1 h1 =>
 aP v1 (
 bnd (aJ 4 (env 38) (env 40) h1) fun v2 h2 =>
 bnd (aK 4 v2 h2) fun v3 h3 =>
 bnd (bL [(aE 0), (.s []), (aE 0), .l0] h3) fun v4 h4 =>
 bnd (aG 4 v4 v3 h4) fun _ h5 =>
 bnd (aK 4 v4 h5) fun v6 h6 =>
 bnd (r 126 [(env 0), v6] h6) fun v7 h7 =>
 bnd (aC 0 v7 h7) fun v8 h8 =>
 bnd (aC 1 v7 h8) fun v9 h9 =>
 bnd (aD .neq v9 (aE 0) h9) fun v10 h10 =>
 aP v10 (
 some (.t [(aE 0), v9], h10)) (
 bnd (aL [(aE 0)] 1 [(0, 1, v8)] h10) fun v11 h11 =>
 bnd (aZ 1 8 (env 6) v11 h11) fun v12 h12 =>
 bnd (aD .add (env 40) (aE 1) h12) fun v13 h13 =>
    kk6 (env 0) v12 (env 38) (env 39) v13 h13)) (
      dX r n (env 0) (env 6) h1)) = (K5 (aBt r n kk6) 0 6 38 39 40) := by kernel_rfl
theorem bGz (kk6 : cD) : D126 r n lR (xs x0 1 (K2 (dX r n) 0 6)) (K5 kk6 0 6 38 39 40) = (K5 (aBt r n kk6) 0 6 38 39 40) :=
 (bPr r n kk6 (dX r n)).trans (bDo r n kk6)
theorem bPq (m : Nat) : aN (fun kk => D126 r n lR (xs x0 1 (K2 (dX r n) 0 6)) kk) m = (K5 (sG r n m) 0 6 38 39 40) := by
 induction m with
 | zero => exact (by kernel_rfl : aN (fun kk => D126 r n lR (xs x0 1 (K2 (dX r n) 0 6)) kk) 0 = (K5 (sG r n 0) 0 6 38 39 40))
 | succ m ih =>
  refine (by kernel_rfl : aN (fun kk => D126 r n lR (xs x0 1 (K2 (dX r n) 0 6)) kk) (m + 1) = D126 r n lR (xs x0 1 (K2 (dX r n) 0 6)) (aN (fun kk => D126 r n lR (xs x0 1 (K2 (dX r n) 0 6)) kk) m)).trans ?_
  rw [ih]
  exact (bGz r n (sG r n m)).trans (by kernel_rfl)
theorem cJx : D126 r n aBh (xs x0 1 (K2 (dX r n) 0 6)) (K2 (dX r n) 0 6) = (K5 (bUp r n) 0 6 38 39 40) :=
 (by kernel_rfl : D126 r n aBh (xs x0 1 (K2 (dX r n) 0 6)) (K2 (dX r n) 0 6) = aN (fun kk => D126 r n lR (xs x0 1 (K2 (dX r n) 0 6)) kk) n).trans ((bPq r n n).trans (by kernel_rfl))
theorem cPj : D126 r n aRq x0 (K2 (dX r n) 0 6) = (K5 (aOw r n) 0 6 38 39 40) :=
 (by kernel_rfl : D126 r n aRq x0 (K2 (dX r n) 0 6) = D126 r n aBh (xs x0 1 (K2 (dX r n) 0 6)) (K2 (dX r n) 0 6)).trans
 ((cJx r n).trans (by kernel_rfl))
theorem bPf : D126 r n aIc x0 r126 = D126 r n wF x0 (K2 (dX r n) 0 6) :=
 congrArg (fun k => D126 r n wF x0 k) (cFd r n)
theorem bMy : D126 r n wF x0 (K2 (dX r n) 0 6) = D126 r n bVb x0 (K5 (aOw r n) 0 6 38 39 40) :=
 congrArg (fun k => D126 r n bVb x0 k) (cPj r n)
theorem cGf : D126 r n aIc x0 r126 = (K3 (aTg r n) 0 3 6) :=
 (bPf r n).trans
 ((bMy r n).trans
 ((by kernel_rfl)))
theorem bNj : D126 r n aIl x0 r126 = D126 r n aXa x0 (K3 (aTg r n) 0 3 6) :=
 congrArg (fun k => D126 r n aXa x0 k) (cGf r n)
theorem cJt : D126 r n aIl x0 r126 = (K2 (aQg r n) 0 3) :=
 (bNj r n).trans
 ((by kernel_rfl))
theorem bSg : D126 r n aFj x0 r126 = D126 r n aYi x0 (K2 (aQg r n) 0 3) :=
 congrArg (fun k => D126 r n aYi x0 k) (cJt r n)
theorem cIn : D126 r n aFj x0 r126 = (K2 (wO r n) 0 3) :=
 (bSg r n).trans
 ((by kernel_rfl))
theorem dBo : D126 r n c126 x0 r126 = D126 r n aHf x0 (K2 (wO r n) 0 3) :=
 congrArg (fun k => D126 r n aHf x0 k) (cIn r n)
theorem cVe (q0 : oF) : D126 r n aHf x0 (K2 q0 0 3) = fun (env : aU) (h : Hp) =>
 bnd (bQ (env 1) h) fun v1 h1 =>
  q0 (env 0) v1 h1 := by kernel_rfl
theorem cCk : (fun (env : aU) (h : Hp) =>
 bnd (bQ (env 1) h) fun v1 h1 =>
  wO r n (env 0) v1 h1) = (K2 (s126 r n) 0 1) := by kernel_rfl
theorem dEs : D126 r n c126 x0 r126 = (K2 (s126 r n) 0 1) :=
 (dBo r n).trans
 ((cVe r n (wO r n)).trans (cCk r n))
theorem cWo : aF CF r n 126 args h = s126 r n (aS args 0) (aS args 1) h :=
 (by kernel_rfl : aF CF r n 126 args h = D126 r n c126 x0 r126 (aI args) h).trans ((congrFun (congrFun (dEs r n) (aI args)) h).trans (by kernel_rfl))
noncomputable def eA (r : RT) (n : Nat) (x4 : DV) (h0 : Hp) : aH :=
 some (.t [x4, (aE 0)], h0)
noncomputable def aGt (r : RT) (n : Nat) (kk6 : dH) (x4 x10 x11 x12 : DV) (h0 : Hp) : aH :=
 bnd (aD .lss x12 x11 h0) fun v1 h1 =>
 aP v1 (
 bnd (aJ 3 x10 x12 h1) fun v2 h2 =>
 bnd (aK 3 v2 h2) fun v3 h3 =>
 bnd (bL [(aE 0), (aE 0), (aE 0)] h3) fun v4 h4 =>
 bnd (aG 3 v4 v3 h4) fun _ h5 =>
 bnd (aK 3 v4 h5) fun v6 h6 =>
 bnd (r 124 [v6] h6) fun v7 h7 =>
 bnd (gS .not v7 h7) fun v8 h8 =>
 aP v8 (
 some (.t [.l0, (aE 19)], h8)) (
 bnd (aB 0 v4 h8) fun v9 h9 =>
 bnd (aA v9 h9) fun v10 h10 =>
 bnd (dW .u8 v10 h10) fun v11 h11 =>
 bnd (aB 1 v4 h11) fun v12 h12 =>
 bnd (aA v12 h12) fun v13 h13 =>
 bnd (dW .u8 v13 h13) fun v14 h14 =>
 bnd (aB 2 v4 h14) fun v15 h15 =>
 bnd (aA v15 h15) fun v16 h16 =>
 bnd (dW .u8 v16 h16) fun v17 h17 =>
 bnd (aL [(.i .u8 (Int.ofNat 0)), (.i .u8 (Int.ofNat 0)), (.i .u8 (Int.ofNat 0))] 3 [(0, 1, v11), (1, 1, v14), (2, 1, v17)] h17) fun v18 h18 =>
 bnd (aZ 1 1 x4 v18 h18) fun v19 h19 =>
 bnd (aD .add x12 (aE 1) h19) fun v20 h20 =>
    kk6 v19 x10 x11 v20 h20)) (
      eA r n x4 h1)
noncomputable def tR (r : RT) (n : Nat) (m : Nat) : dH :=
 Nat.rec (motive := fun _ => dH) (fun _ _ _ _ _ => none) (fun _ ih => aGt r n ih) m
noncomputable def bGr (r : RT) (n : Nat) : dH := tR r n n
noncomputable def aQb (r : RT) (n : Nat) (x4 x10 x11 x12 : DV) (h0 : Hp) : aH :=
 bGr r n x4 x10 x11 x12 h0
noncomputable def aNb (r : RT) (n : Nat) (x0 x4 : DV) (h0 : Hp) : aH :=
 bnd (bV x0 h0) fun v1 h1 =>
  aQb r n x4 x0 v1 (aE 0) h1
noncomputable def aPs (r : RT) (n : Nat) (x0 : DV) (h0 : Hp) : aH :=
 aNb r n x0 .l0 h0
noncomputable def aPx (r : RT) (n : Nat) (x0 : DV) (h0 : Hp) : aH :=
 bnd (bV x0 h0) fun v1 h1 =>
 bnd (aD .gtr v1 (aE 400) h1) fun v2 h2 =>
 aP v2 (
 some (.t [.l0, (aE 19)], h2)) (
  aPs r n x0 h2)
noncomputable def s127 (r : RT) (n : Nat) (x0 : DV) (h0 : Hp) : aH :=
 aPx r n x0 h0
noncomputable abbrev c127 : Code := cf Tryz.f127
noncomputable abbrev aAu : Code := cR c127
noncomputable abbrev aDf : Code := cR aAu
noncomputable abbrev aHj : Code := cR aDf
noncomputable abbrev cRr : Code := cR aHj
noncomputable abbrev yG : Code := cL aHj
noncomputable abbrev aSh : Code := cR yG
noncomputable abbrev aCc : Code := cL aSh
noncomputable abbrev lS : Code := cL aCc
noncomputable abbrev bXb : Code := cL yG
noncomputable abbrev aYa : Code := cL aDf
noncomputable abbrev bBp : Code := cL aAu
noncomputable abbrev aZl : Code := cL c127
noncomputable abbrev r127 : K := aQ CF Tryz.f127
noncomputable def D127 (r : RT) (n : Nat) (c : Code) (X : Nat → K) (k : K) : K := aM CF r 33 n c X r127 k
theorem cGc : D127 r n cRr x0 r127 = (K1 (eA r n) 4) :=
 (by kernel_rfl)
theorem bHd (kk6 : dH) (q0 : TT1) : D127 r n lS (xs x0 0 (K1 q0 4)) (K4 kk6 4 10 11 12) = fun (env : aU) (h : Hp) =>
 bnd (aD .lss (env 12) (env 11) h) fun v1 h1 =>
 aP v1 (
 bnd (aJ 3 (env 10) (env 12) h1) fun v2 h2 =>
 bnd (aK 3 v2 h2) fun v3 h3 =>
 bnd (bL [(aE 0), (aE 0), (aE 0)] h3) fun v4 h4 =>
 bnd (aG 3 v4 v3 h4) fun _ h5 =>
 bnd (aK 3 v4 h5) fun v6 h6 =>
 bnd (r 124 [v6] h6) fun v7 h7 =>
 bnd (gS .not v7 h7) fun v8 h8 =>
 aP v8 (
 some (.t [.l0, (aE 19)], h8)) (
 bnd (aB 0 v4 h8) fun v9 h9 =>
 bnd (aA v9 h9) fun v10 h10 =>
 bnd (dW .u8 v10 h10) fun v11 h11 =>
 bnd (aB 1 v4 h11) fun v12 h12 =>
 bnd (aA v12 h12) fun v13 h13 =>
 bnd (dW .u8 v13 h13) fun v14 h14 =>
 bnd (aB 2 v4 h14) fun v15 h15 =>
 bnd (aA v15 h15) fun v16 h16 =>
 bnd (dW .u8 v16 h16) fun v17 h17 =>
 bnd (aL [(.i .u8 (Int.ofNat 0)), (.i .u8 (Int.ofNat 0)), (.i .u8 (Int.ofNat 0))] 3 [(0, 1, v11), (1, 1, v14), (2, 1, v17)] h17) fun v18 h18 =>
 bnd (aZ 1 1 (env 4) v18 h18) fun v19 h19 =>
 bnd (aD .add (env 12) (aE 1) h19) fun v20 h20 =>
    kk6 v19 (env 10) (env 11) v20 h20)) (
      q0 (env 4) h1) := by kernel_rfl
theorem bDu (kk6 : dH) : (fun (env : aU) (h : Hp) =>
 bnd (aD .lss (env 12) (env 11) h) fun v1 h1 =>
 aP v1 (
 bnd (aJ 3 (env 10) (env 12) h1) fun v2 h2 =>
 bnd (aK 3 v2 h2) fun v3 h3 =>
 bnd (bL [(aE 0), (aE 0), (aE 0)] h3) fun v4 h4 =>
 bnd (aG 3 v4 v3 h4) fun _ h5 =>
 bnd (aK 3 v4 h5) fun v6 h6 =>
 bnd (r 124 [v6] h6) fun v7 h7 =>
 bnd (gS .not v7 h7) fun v8 h8 =>
 aP v8 (
 some (.t [.l0, (aE 19)], h8)) (
 bnd (aB 0 v4 h8) fun v9 h9 =>
 bnd (aA v9 h9) fun v10 h10 =>
 bnd (dW .u8 v10 h10) fun v11 h11 =>
 bnd (aB 1 v4 h11) fun v12 h12 =>
 bnd (aA v12 h12) fun v13 h13 =>
 bnd (dW .u8 v13 h13) fun v14 h14 =>
 bnd (aB 2 v4 h14) fun v15 h15 =>
 bnd (aA v15 h15) fun v16 h16 =>
 bnd (dW .u8 v16 h16) fun v17 h17 =>
 bnd (aL [(.i .u8 (Int.ofNat 0)), (.i .u8 (Int.ofNat 0)), (.i .u8 (Int.ofNat 0))] 3 [(0, 1, v11), (1, 1, v14), (2, 1, v17)] h17) fun v18 h18 =>
 bnd (aZ 1 1 (env 4) v18 h18) fun v19 h19 =>
 bnd (aD .add (env 12) (aE 1) h19) fun v20 h20 =>
    kk6 v19 (env 10) (env 11) v20 h20)) (
      eA r n (env 4) h1)) = (K4 (aGt r n kk6) 4 10 11 12) := by kernel_rfl
theorem bKm (kk6 : dH) : D127 r n lS (xs x0 0 (K1 (eA r n) 4)) (K4 kk6 4 10 11 12) = (K4 (aGt r n kk6) 4 10 11 12) :=
 (bHd r n kk6 (eA r n)).trans (bDu r n kk6)
theorem bIg (m : Nat) : aN (fun kk => D127 r n lS (xs x0 0 (K1 (eA r n) 4)) kk) m = (K4 (tR r n m) 4 10 11 12) := by
 induction m with
 | zero => exact (by kernel_rfl : aN (fun kk => D127 r n lS (xs x0 0 (K1 (eA r n) 4)) kk) 0 = (K4 (tR r n 0) 4 10 11 12))
 | succ m ih =>
  refine (by kernel_rfl : aN (fun kk => D127 r n lS (xs x0 0 (K1 (eA r n) 4)) kk) (m + 1) = D127 r n lS (xs x0 0 (K1 (eA r n) 4)) (aN (fun kk => D127 r n lS (xs x0 0 (K1 (eA r n) 4)) kk) m)).trans ?_
  rw [ih]
  exact (bKm r n (tR r n m)).trans (by kernel_rfl)
theorem cGg : D127 r n aCc (xs x0 0 (K1 (eA r n) 4)) (K1 (eA r n) 4) = (K4 (bGr r n) 4 10 11 12) :=
 (by kernel_rfl : D127 r n aCc (xs x0 0 (K1 (eA r n) 4)) (K1 (eA r n) 4) = aN (fun kk => D127 r n lS (xs x0 0 (K1 (eA r n) 4)) kk) n).trans ((bIg r n n).trans (by kernel_rfl))
theorem cMp : D127 r n aSh x0 (K1 (eA r n) 4) = (K4 (aQb r n) 4 10 11 12) :=
 (by kernel_rfl : D127 r n aSh x0 (K1 (eA r n) 4) = D127 r n aCc (xs x0 0 (K1 (eA r n) 4)) (K1 (eA r n) 4)).trans
 ((cGg r n).trans (by kernel_rfl))
theorem bIi : D127 r n aHj x0 r127 = D127 r n yG x0 (K1 (eA r n) 4) :=
 congrArg (fun k => D127 r n yG x0 k) (cGc r n)
theorem bSa : D127 r n yG x0 (K1 (eA r n) 4) = D127 r n bXb x0 (K4 (aQb r n) 4 10 11 12) :=
 congrArg (fun k => D127 r n bXb x0 k) (cMp r n)
theorem cNb : D127 r n aHj x0 r127 = (K2 (aNb r n) 0 4) :=
 (bIi r n).trans
 ((bSa r n).trans
 ((by kernel_rfl)))
theorem bKp : D127 r n aDf x0 r127 = D127 r n aYa x0 (K2 (aNb r n) 0 4) :=
 congrArg (fun k => D127 r n aYa x0 k) (cNb r n)
theorem cDd : D127 r n aDf x0 r127 = (K1 (aPs r n) 0) :=
 (bKp r n).trans
 ((by kernel_rfl))
theorem bNn : D127 r n aAu x0 r127 = D127 r n bBp x0 (K1 (aPs r n) 0) :=
 congrArg (fun k => D127 r n bBp x0 k) (cDd r n)
theorem cGo : D127 r n aAu x0 r127 = (K1 (aPx r n) 0) :=
 (bNn r n).trans
 ((by kernel_rfl))
theorem cSg : D127 r n c127 x0 r127 = D127 r n aZl x0 (K1 (aPx r n) 0) :=
 congrArg (fun k => D127 r n aZl x0 k) (cGo r n)
theorem dEh : D127 r n c127 x0 r127 = (K1 (s127 r n) 0) :=
 (cSg r n).trans
 ((by kernel_rfl))
theorem cWq : aF CF r n 127 args h = s127 r n (aS args 0) h :=
 (by kernel_rfl : aF CF r n 127 args h = D127 r n c127 x0 r127 (aI args) h).trans ((congrFun (congrFun (dEh r n) (aI args)) h).trans (by kernel_rfl))
noncomputable def eT (r : RT) (n : Nat) (x0 x6 : DV) (h0 : Hp) : aH :=
 bnd (r 46 [x0, x6] h0) fun v1 h1 =>
 bnd (aC 0 v1 h1) fun v2 h2 =>
 bnd (aC 1 v1 h2) fun v3 h3 =>
 some (.t [v2, v3], h3)
noncomputable def aFa (r : RT) (n : Nat) (kk4 : mV) (x0 x1 x6 : DV) (h0 : Hp) : aH :=
 bnd (bV x1 h0) fun v1 h1 =>
 bnd (aD .gtr v1 (aE 0) h1) fun v2 h2 =>
 aP v2 (
 bnd (bV x1 h2) fun v3 h3 =>
 bnd (aTp v3 (aE 240) h3) fun v4 h4 =>
 bnd (r 30 [x0, (aE 10)] h4) fun v5 h5 =>
 bnd (cQ 1 x1 none (some v4) h5) fun v6 h6 =>
 cnd (bH (cQ 1 x1 none (some v4) h4) v6 && true) (
 bnd (gK v6 h6) fun v7 h7 =>
 cnd (bH (gK v6 h4) v7 && true) (
 bnd (r 83 [x0, v5, v7] h7) fun v8 h8 =>
 bnd (aC 0 v8 h8) fun v9 h9 =>
 bnd (aC 1 v8 h9) fun v10 h10 =>
 bnd (aD .neq v10 (aE 0) h10) fun v11 h11 =>
 aP v11 (
 some (.t [(aE 0), v10], h11)) (
 bnd (bK (bW 0 h11.next) [(aE 0)] 1 [(0, 1, v9)] (resv 1 h11)) fun v12 h12 =>
 bnd (aZ 1 8 x6 v12 h12) fun v13 h13 =>
 bnd (cQ 1 x1 (some v4) none h13) fun v14 h14 =>
 cnd (bH (cQ 1 x1 (some v4) none (resv 1 h11)) v14 && true) (
    kk4 x0 v14 v13 h14))))) (
      eT r n x0 x6 h2)
noncomputable def sS (r : RT) (n : Nat) (m : Nat) : mV :=
 Nat.rec (motive := fun _ => mV) (fun _ _ _ _ => none) (fun _ ih => aFa r n ih) m
noncomputable def bLu (r : RT) (n : Nat) : mV := sS r n n
noncomputable def aRc (r : RT) (n : Nat) (x0 x1 x6 : DV) (h0 : Hp) : aH :=
 bLu r n x0 x1 x6 h0
noncomputable def aNf (r : RT) (n : Nat) (x0 x1 : DV) (h0 : Hp) : aH :=
 aRc r n x0 x1 .l0 h0
noncomputable def s128 (r : RT) (n : Nat) (x0 x1 : DV) (h0 : Hp) : aH :=
 aNf r n x0 x1 h0
noncomputable abbrev c128 : Code := cf Tryz.f128
noncomputable abbrev aGr : Code := cR c128
noncomputable abbrev aGa : Code := cR aGr
noncomputable abbrev cWg : Code := cR aGa
noncomputable abbrev aFm : Code := cL aGa
noncomputable abbrev aHi : Code := cL aFm
noncomputable abbrev mM : Code := cL aHi
noncomputable abbrev bWx : Code := cL aGr
noncomputable abbrev bZt : Code := cL c128
noncomputable abbrev r128 : K := aQ CF Tryz.f128
noncomputable def D128 (r : RT) (n : Nat) (c : Code) (X : Nat → K) (k : K) : K := aM CF r 42 n c X r128 k
theorem cNa : D128 r n cWg x0 r128 = (K2 (eT r n) 0 6) :=
 (by kernel_rfl)
theorem bGv (kk4 : mV) (q0 : oF) : D128 r n mM (xs x0 0 (K2 q0 0 6)) (K3 kk4 0 1 6) = fun (env : aU) (h : Hp) =>
 bnd (bV (env 1) h) fun v1 h1 =>
 bnd (aD .gtr v1 (aE 0) h1) fun v2 h2 =>
 aP v2 (
 bnd (bV (env 1) h2) fun v3 h3 =>
 bnd (aTp v3 (aE 240) h3) fun v4 h4 =>
 bnd (r 30 [(env 0), (aE 10)] h4) fun v5 h5 =>
 bnd (cQ 1 (env 1) none (some v4) h5) fun v6 h6 =>
 cnd (bH (cQ 1 (env 1) none (some v4) h4) v6 && true) (
 bnd (gK v6 h6) fun v7 h7 =>
 cnd (bH (gK v6 h4) v7 && true) (
 bnd (r 83 [(env 0), v5, v7] h7) fun v8 h8 =>
 bnd (aC 0 v8 h8) fun v9 h9 =>
 bnd (aC 1 v8 h9) fun v10 h10 =>
 bnd (aD .neq v10 (aE 0) h10) fun v11 h11 =>
 aP v11 (
 some (.t [(aE 0), v10], h11)) (
 bnd (bK (bW 0 h11.next) [(aE 0)] 1 [(0, 1, v9)] (resv 1 h11)) fun v12 h12 =>
 bnd (aZ 1 8 (env 6) v12 h12) fun v13 h13 =>
 bnd (cQ 1 (env 1) (some v4) none h13) fun v14 h14 =>
 cnd (bH (cQ 1 (env 1) (some v4) none (resv 1 h11)) v14 && true) (
    kk4 (env 0) v14 v13 h14))))) (
      q0 (env 0) (env 6) h2) := by kernel_rfl
theorem bEr (kk4 : mV) : (fun (env : aU) (h : Hp) =>
 bnd (bV (env 1) h) fun v1 h1 =>
 bnd (aD .gtr v1 (aE 0) h1) fun v2 h2 =>
 aP v2 (
 bnd (bV (env 1) h2) fun v3 h3 =>
 bnd (aTp v3 (aE 240) h3) fun v4 h4 =>
 bnd (r 30 [(env 0), (aE 10)] h4) fun v5 h5 =>
 bnd (cQ 1 (env 1) none (some v4) h5) fun v6 h6 =>
 cnd (bH (cQ 1 (env 1) none (some v4) h4) v6 && true) (
 bnd (gK v6 h6) fun v7 h7 =>
 cnd (bH (gK v6 h4) v7 && true) (
 bnd (r 83 [(env 0), v5, v7] h7) fun v8 h8 =>
 bnd (aC 0 v8 h8) fun v9 h9 =>
 bnd (aC 1 v8 h9) fun v10 h10 =>
 bnd (aD .neq v10 (aE 0) h10) fun v11 h11 =>
 aP v11 (
 some (.t [(aE 0), v10], h11)) (
 bnd (bK (bW 0 h11.next) [(aE 0)] 1 [(0, 1, v9)] (resv 1 h11)) fun v12 h12 =>
 bnd (aZ 1 8 (env 6) v12 h12) fun v13 h13 =>
 bnd (cQ 1 (env 1) (some v4) none h13) fun v14 h14 =>
 cnd (bH (cQ 1 (env 1) (some v4) none (resv 1 h11)) v14 && true) (
    kk4 (env 0) v14 v13 h14))))) (
      eT r n (env 0) (env 6) h2)) = (K3 (aFa r n kk4) 0 1 6) := by kernel_rfl
theorem bHe (kk4 : mV) : D128 r n mM (xs x0 0 (K2 (eT r n) 0 6)) (K3 kk4 0 1 6) = (K3 (aFa r n kk4) 0 1 6) :=
 (bGv r n kk4 (eT r n)).trans (bEr r n kk4)
theorem bOj (m : Nat) : aN (fun kk => D128 r n mM (xs x0 0 (K2 (eT r n) 0 6)) kk) m = (K3 (sS r n m) 0 1 6) := by
 induction m with
 | zero => exact (by kernel_rfl : aN (fun kk => D128 r n mM (xs x0 0 (K2 (eT r n) 0 6)) kk) 0 = (K3 (sS r n 0) 0 1 6))
 | succ m ih =>
  refine (by kernel_rfl : aN (fun kk => D128 r n mM (xs x0 0 (K2 (eT r n) 0 6)) kk) (m + 1) = D128 r n mM (xs x0 0 (K2 (eT r n) 0 6)) (aN (fun kk => D128 r n mM (xs x0 0 (K2 (eT r n) 0 6)) kk) m)).trans ?_
  rw [ih]
  exact (bHe r n (sS r n m)).trans (by kernel_rfl)
theorem cLc : D128 r n aHi (xs x0 0 (K2 (eT r n) 0 6)) (K2 (eT r n) 0 6) = (K3 (bLu r n) 0 1 6) :=
 (by kernel_rfl : D128 r n aHi (xs x0 0 (K2 (eT r n) 0 6)) (K2 (eT r n) 0 6) = aN (fun kk => D128 r n mM (xs x0 0 (K2 (eT r n) 0 6)) kk) n).trans ((bOj r n n).trans (by kernel_rfl))
theorem bGu : D128 r n aGa x0 r128 = D128 r n aFm x0 (K2 (eT r n) 0 6) :=
 congrArg (fun k => D128 r n aFm x0 k) (cNa r n)
theorem cLv : D128 r n aGa x0 r128 = (K3 (aRc r n) 0 1 6) :=
 (bGu r n).trans
 ((by kernel_rfl : D128 r n aFm x0 (K2 (eT r n) 0 6) = D128 r n aHi (xs x0 0 (K2 (eT r n) 0 6)) (K2 (eT r n) 0 6)).trans
 ((cLc r n).trans (by kernel_rfl)))
theorem bZy : D128 r n aGr x0 r128 = D128 r n bWx x0 (K3 (aRc r n) 0 1 6) :=
 congrArg (fun k => D128 r n bWx x0 k) (cLv r n)
theorem cJv : D128 r n aGr x0 r128 = (K2 (aNf r n) 0 1) :=
 (bZy r n).trans
 ((by kernel_rfl))
theorem cYy : D128 r n c128 x0 r128 = D128 r n bZt x0 (K2 (aNf r n) 0 1) :=
 congrArg (fun k => D128 r n bZt x0 k) (cJv r n)
theorem dDt : D128 r n c128 x0 r128 = (K2 (s128 r n) 0 1) :=
 (cYy r n).trans
 ((by kernel_rfl))
theorem dAe : aF CF r n 128 args h = s128 r n (aS args 0) (aS args 1) h :=
 (by kernel_rfl : aF CF r n 128 args h = D128 r n c128 x0 r128 (aI args) h).trans ((congrFun (congrFun (dDt r n) (aI args)) h).trans (by kernel_rfl))
noncomputable def fI (r : RT) (n : Nat) (x0 x7 : DV) (h0 : Hp) : aH :=
 bnd (aO x0 h0) fun v1 h1 =>
 bnd (aB 0 v1 h1) fun v2 h2 =>
 bnd (aA v2 h2) fun v3 h3 =>
 bnd (aO x0 h3) fun v4 h4 =>
 bnd (aB 1 v4 h4) fun v5 h5 =>
 bnd (aA v5 h5) fun v6 h6 =>
 bnd (fB v3 (some x7) (some v6) h6) fun v7 h7 =>
 some (v7, h7)
noncomputable def bBg (r : RT) (n : Nat) (kk4 : dH) (x0 x1 x2 x7 : DV) (h0 : Hp) : aH :=
 bnd (aO x0 h0) fun v1 h1 =>
 bnd (aB 1 v1 h1) fun v2 h2 =>
 bnd (aA v2 h2) fun v3 h3 =>
 bnd (aO x0 h3) fun v4 h4 =>
 bnd (aB 0 v4 h4) fun v5 h5 =>
 bnd (aA v5 h5) fun v6 h6 =>
 bnd (dR v6 h6) fun v7 h7 =>
 bnd (aD .lss v3 v7 h7) fun v8 h8 =>
 bnd (gD v8 true (some (x0, h8)) h8) fun v9 h9 =>
 bnd (gD v8 true (aO v9 h9) h9) fun v10 h10 =>
 bnd (gD v8 true (aB 1 v10 h10) h10) fun v11 h11 =>
 bnd (gD v8 true (aA v11 h11) h11) fun v12 h12 =>
 bnd (gD v8 true (some (x7, h12)) h12) fun v13 h13 =>
 bnd (gD v8 true (aD .sub v12 v13 h13) h13) fun v14 h14 =>
 bnd (gD v8 true (some (x2, h14)) h14) fun v15 h15 =>
 bnd (gD v8 true (aD .lss v14 v15 h15) h15) fun v16 h16 =>
 bnd (aR v8 v16 (.b false) h16) fun v17 h17 =>
 bnd (gD v17 true (some (x1, h17)) h17) fun v18 h18 =>
 bnd (gD v17 true (some (x0, h18)) h18) fun v19 h19 =>
 bnd (gD v17 true (aO v19 h19) h19) fun v20 h20 =>
 bnd (gD v17 true (aB 0 v20 h20) h20) fun v21 h21 =>
 bnd (gD v17 true (aA v21 h21) h21) fun v22 h22 =>
 bnd (gD v17 true (some (x0, h22)) h22) fun v23 h23 =>
 bnd (gD v17 true (aO v23 h23) h23) fun v24 h24 =>
 bnd (gD v17 true (aB 1 v24 h24) h24) fun v25 h25 =>
 bnd (gD v17 true (aA v25 h25) h25) fun v26 h26 =>
 bnd (gD v17 true (fD v22 v26 h26) h26) fun v27 h27 =>
 bnd (gD v17 true (cV CF r v18 [v27] h27) h27) fun v28 h28 =>
 bnd (aR v17 v28 (.b false) h28) fun v29 h29 =>
 aP v29 (
 bnd (aO x0 h29) fun v30 h30 =>
 bnd (aB 1 v30 h30) fun v31 h31 =>
 bnd (aA v31 h31) fun v32 h32 =>
 bnd (aD .add v32 (aE 1) h32) fun v33 h33 =>
 bnd (aO x0 h33) fun v34 h34 =>
 bnd (aB 1 v34 h34) fun v35 h35 =>
 bnd (aG 1 v35 v33 h35) fun _ h36 =>
      kk4 x0 x1 x2 x7 h36) (
      fI r n x0 x7 h29)
noncomputable def rY (r : RT) (n : Nat) (m : Nat) : dH :=
 Nat.rec (motive := fun _ => dH) (fun _ _ _ _ _ => none) (fun _ ih => bBg r n ih) m
noncomputable def cBa (r : RT) (n : Nat) : dH := rY r n n
noncomputable def aQk (r : RT) (n : Nat) (x0 x1 x2 x7 : DV) (h0 : Hp) : aH :=
 cBa r n x0 x1 x2 x7 h0
noncomputable def aNk (r : RT) (n : Nat) (x0 x1 x2 : DV) (h0 : Hp) : aH :=
 bnd (aO x0 h0) fun v1 h1 =>
 bnd (aB 1 v1 h1) fun v2 h2 =>
 bnd (aA v2 h2) fun v3 h3 =>
  aQk r n x0 x1 x2 v3 h3
noncomputable def s129 (r : RT) (n : Nat) (x0 x1 x2 : DV) (h0 : Hp) : aH :=
 aNk r n x0 x1 x2 h0
noncomputable abbrev c129 : Code := cf Tryz.f129
noncomputable abbrev aGk : Code := cR c129
noncomputable abbrev aDs : Code := cR aGk
noncomputable abbrev cZi : Code := cR aDs
noncomputable abbrev aAh : Code := cL aDs
noncomputable abbrev aEq : Code := cL aAh
noncomputable abbrev nS : Code := cL aEq
noncomputable abbrev cAh : Code := cL aGk
noncomputable abbrev bIw : Code := cL c129
noncomputable abbrev r129 : K := aQ CF Tryz.f129
noncomputable def D129 (r : RT) (n : Nat) (c : Code) (X : Nat → K) (k : K) : K := aM CF r 62 n c X r129 k
theorem cCg : D129 r n cZi x0 r129 = (K2 (fI r n) 0 7) :=
 (by kernel_rfl)
theorem bMi (kk4 : dH) : D129 r n nS (xs x0 0 (K2 (fI r n) 0 7)) (K4 kk4 0 1 2 7) = (K4 (bBg r n kk4) 0 1 2 7) :=
 (by kernel_rfl)
theorem bOs (m : Nat) : aN (fun kk => D129 r n nS (xs x0 0 (K2 (fI r n) 0 7)) kk) m = (K4 (rY r n m) 0 1 2 7) := by
 induction m with
 | zero => exact (by kernel_rfl : aN (fun kk => D129 r n nS (xs x0 0 (K2 (fI r n) 0 7)) kk) 0 = (K4 (rY r n 0) 0 1 2 7))
 | succ m ih =>
  refine (by kernel_rfl : aN (fun kk => D129 r n nS (xs x0 0 (K2 (fI r n) 0 7)) kk) (m + 1) = D129 r n nS (xs x0 0 (K2 (fI r n) 0 7)) (aN (fun kk => D129 r n nS (xs x0 0 (K2 (fI r n) 0 7)) kk) m)).trans ?_
  rw [ih]
  exact (bMi r n (rY r n m)).trans (by kernel_rfl)
theorem cFs : D129 r n aEq (xs x0 0 (K2 (fI r n) 0 7)) (K2 (fI r n) 0 7) = (K4 (cBa r n) 0 1 2 7) :=
 (by kernel_rfl : D129 r n aEq (xs x0 0 (K2 (fI r n) 0 7)) (K2 (fI r n) 0 7) = aN (fun kk => D129 r n nS (xs x0 0 (K2 (fI r n) 0 7)) kk) n).trans ((bOs r n n).trans (by kernel_rfl))
theorem cAc : D129 r n aDs x0 r129 = D129 r n aAh x0 (K2 (fI r n) 0 7) :=
 congrArg (fun k => D129 r n aAh x0 k) (cCg r n)
theorem cEm : D129 r n aDs x0 r129 = (K4 (aQk r n) 0 1 2 7) :=
 (cAc r n).trans
 ((by kernel_rfl : D129 r n aAh x0 (K2 (fI r n) 0 7) = D129 r n aEq (xs x0 0 (K2 (fI r n) 0 7)) (K2 (fI r n) 0 7)).trans
 ((cFs r n).trans (by kernel_rfl)))
theorem bHq : D129 r n aGk x0 r129 = D129 r n cAh x0 (K4 (aQk r n) 0 1 2 7) :=
 congrArg (fun k => D129 r n cAh x0 k) (cEm r n)
theorem cLu : D129 r n aGk x0 r129 = (K3 (aNk r n) 0 1 2) :=
 (bHq r n).trans
 ((by kernel_rfl))
theorem cZc : D129 r n c129 x0 r129 = D129 r n bIw x0 (K3 (aNk r n) 0 1 2) :=
 congrArg (fun k => D129 r n bIw x0 k) (cLu r n)
theorem dDz : D129 r n c129 x0 r129 = (K3 (s129 r n) 0 1 2) :=
 (cZc r n).trans
 ((by kernel_rfl))
theorem cZx : aF CF r n 129 args h = s129 r n (aS args 0) (aS args 1) (aS args 2) h :=
 (by kernel_rfl : aF CF r n 129 args h = D129 r n c129 x0 r129 (aI args) h).trans ((congrFun (congrFun (dDz r n) (aI args)) h).trans (by kernel_rfl))
noncomputable def s130 (r : RT) (n : Nat) (x0 : DV) (h0 : Hp) : aH :=
 bnd (bQ x0 h0) fun v1 h1 =>
 some ((.f 145 [] [v1]), h1)
noncomputable abbrev c130 : Code := cf Tryz.f130
noncomputable abbrev r130 : K := aQ CF Tryz.f130
noncomputable def D130 (r : RT) (n : Nat) (c : Code) (X : Nat → K) (k : K) : K := aM CF r 4 n c X r130 k
theorem dEo : D130 r n c130 x0 r130 = (K1 (s130 r n) 0) :=
 (by kernel_rfl)
theorem dAc : aF CF r n 130 args h = s130 r n (aS args 0) h :=
 (by kernel_rfl : aF CF r n 130 args h = D130 r n c130 x0 r130 (aI args) h).trans ((congrFun (congrFun (dEo r n) (aI args)) h).trans (by kernel_rfl))
noncomputable def s131 (r : RT) (n : Nat) (x0 x1 : DV) (h0 : Hp) : aH :=
 bnd (r 146 [x0, x1] h0) fun v1 h1 =>
 some (v1, h1)
noncomputable abbrev c131 : Code := cf Tryz.f131
noncomputable abbrev r131 : K := aQ CF Tryz.f131
noncomputable def D131 (r : RT) (n : Nat) (c : Code) (X : Nat → K) (k : K) : K := aM CF r 8 n c X r131 k
theorem dDs : D131 r n c131 x0 r131 = (K2 (s131 r n) 0 1) :=
 (by kernel_rfl)
theorem cWh : aF CF r n 131 args h = s131 r n (aS args 0) (aS args 1) h :=
 (by kernel_rfl : aF CF r n 131 args h = D131 r n c131 x0 r131 (aI args) h).trans ((congrFun (congrFun (dDs r n) (aI args)) h).trans (by kernel_rfl))
end Go.Dd

namespace Go.Dd
open Go.Proofs
variable (r : RT) (n : Nat) (args : List DV) (h : Hp)
noncomputable def gZ (r : RT) (n : Nat) (x2 x4 x5 : DV) (h0 : Hp) : aH :=
 bnd (aK 4 x4 h0) fun v1 h1 =>
 bnd (aG 4 x2 v1 h1) fun _ h2 =>
 bnd (aK 4 x2 h2) fun v3 _ =>
 some (.t [v3, x5], h2)
noncomputable def aSj (r : RT) (n : Nat) (x0 x2 x4 x5 x6 : DV) (h0 : Hp) : aH :=
 bnd (r 148 [x6] h0) fun v1 h1 =>
 aP v1 (
 bnd (aB 0 x4 h1) fun v2 h2 =>
 bnd (aG 1 v2 (aE 1) h2) fun _ h3 =>
 bnd (r 149 [x0] h3) fun v4 h4 =>
 bnd (aC 0 v4 h4) fun v5 h5 =>
 bnd (aC 1 v4 h5) fun v6 h6 =>
 bnd (aB 1 x4 h6) fun v7 h7 =>
 bnd (aG 1 v7 v5 h7) fun _ h8 =>
 bnd (aD .eql v6 (aE 0) h8) fun v9 h9 =>
 bnd (gD v9 true (some (x0, h9)) h9) fun v10 h10 =>
 bnd (gD v9 true (r 150 [v10] h10) h10) fun v11 h11 =>
 bnd (aR v9 v11 (.b false) h11) fun v12 h12 =>
 aP v12 (
 bnd (aB 1 x4 h12) fun v13 h13 =>
 bnd (aA v13 h13) fun v14 h14 =>
 bnd (fH .add v14 (.s [58]) h14) fun v15 h15 =>
 bnd (aB 0 x4 h15) fun v16 h16 =>
 bnd (aG 1 v16 (aE 2) h16) fun _ h17 =>
 bnd (aB 1 x4 h17) fun v18 h18 =>
 bnd (aG 1 v18 v15 h18) fun _ h19 =>
      gZ r n x2 x4 v6 h19) (
      gZ r n x2 x4 v6 h12)) (
 bnd (r 151 [x6] h1) fun v20 h20 =>
 aP v20 (
 bnd (aB 0 x4 h20) fun v21 h21 =>
 bnd (aG 1 v21 (aE 4) h21) fun _ h22 =>
 bnd (r 152 [x0] h22) fun v23 h23 =>
 bnd (aC 0 v23 h23) fun v24 h24 =>
 bnd (aC 1 v23 h24) fun v25 h25 =>
 bnd (aB 2 x4 h25) fun v26 h26 =>
 bnd (aG 1 v26 v24 h26) fun _ h27 =>
      gZ r n x2 x4 v25 h27) (
 bnd (aD .eql x6 (.i .u8 (Int.ofNat 39)) h20) fun v28 h28 =>
 aP v28 (
 bnd (aO x0 h28) fun v29 h29 =>
 bnd (aB 1 v29 h29) fun v30 h30 =>
 bnd (aA v30 h30) fun v31 h31 =>
 bnd (aD .add v31 (aE 1) h31) fun v32 h32 =>
 bnd (aO x0 h32) fun v33 h33 =>
 bnd (aB 1 v33 h33) fun v34 h34 =>
 bnd (aG 1 v34 v32 h34) fun _ h35 =>
 bnd (aB 0 x4 h35) fun v36 h36 =>
 bnd (aG 1 v36 (aE 5) h36) fun _ h37 =>
 bnd (r 153 [x0] h37) fun v38 h38 =>
 bnd (aC 0 v38 h38) fun v39 h39 =>
 bnd (aC 1 v38 h39) fun v40 h40 =>
 bnd (aB 1 x4 h40) fun v41 h41 =>
 bnd (aG 1 v41 v39 h41) fun _ h42 =>
    gZ r n x2 x4 v40 h42) (
 bnd (aD .eql x6 (.i .u8 (Int.ofNat 35)) h28) fun v43 h43 =>
 bnd (gD v43 true (some (x0, h43)) h43) fun v44 h44 =>
 bnd (gD v43 true (r 147 [v44, (aE 1)] h44) h44) fun v45 h45 =>
 bnd (gD v43 true (aD .eql v45 (.i .u8 (Int.ofNat 40)) h45) h45) fun v46 h46 =>
 bnd (aR v43 v46 (.b false) h46) fun v47 h47 =>
 aP v47 (
 bnd (aO x0 h47) fun v48 h48 =>
 bnd (aB 1 v48 h48) fun v49 h49 =>
 bnd (aA v49 h49) fun v50 h50 =>
 bnd (aD .add v50 (aE 2) h50) fun v51 h51 =>
 bnd (aO x0 h51) fun v52 h52 =>
 bnd (aB 1 v52 h52) fun v53 h53 =>
 bnd (aG 1 v53 v51 h53) fun _ h54 =>
 bnd (aB 0 x4 h54) fun v55 h55 =>
 bnd (aG 1 v55 (aE 7) h55) fun _ h56 =>
     gZ r n x2 x4 x5 h56) (
 bnd (aD .eql x6 (.i .u8 (Int.ofNat 35)) h47) fun v57 h57 =>
 aP v57 (
 bnd (aO x0 h57) fun v58 h58 =>
 bnd (aB 1 v58 h58) fun v59 h59 =>
 bnd (aA v59 h59) fun v60 h60 =>
 bnd (aD .add v60 (aE 1) h60) fun v61 h61 =>
 bnd (aO x0 h61) fun v62 h62 =>
 bnd (aB 1 v62 h62) fun v63 h63 =>
 bnd (aG 1 v63 v61 h63) fun _ h64 =>
 bnd (aB 0 x4 h64) fun v65 h65 =>
 bnd (aG 1 v65 (aE 6) h65) fun _ h66 =>
 bnd (r 154 [x0] h66) fun v67 h67 =>
 bnd (aC 0 v67 h67) fun v68 h68 =>
 bnd (aC 1 v67 h68) fun v69 h69 =>
 bnd (aB 1 x4 h69) fun v70 h70 =>
 bnd (aG 1 v70 v68 h70) fun _ h71 =>
      gZ r n x2 x4 v69 h71) (
 bnd (aD .eql x6 (.i .u8 (Int.ofNat 58)) h57) fun v72 h72 =>
 bnd (gD v72 true (some (x0, h72)) h72) fun v73 h73 =>
 bnd (gD v72 true (r 147 [v73, (aE 1)] h73) h73) fun v74 h74 =>
 bnd (gD v72 true (aD .eql v74 (.i .u8 (Int.ofNat 61)) h74) h74) fun v75 h75 =>
 bnd (aR v72 v75 (.b false) h75) fun v76 h76 =>
 aP v76 (
 bnd (aO x0 h76) fun v77 h77 =>
 bnd (aB 1 v77 h77) fun v78 h78 =>
 bnd (aA v78 h78) fun v79 h79 =>
 bnd (aD .add v79 (aE 2) h79) fun v80 h80 =>
 bnd (aO x0 h80) fun v81 h81 =>
 bnd (aB 1 v81 h81) fun v82 h82 =>
 bnd (aG 1 v82 v80 h82) fun _ h83 =>
 bnd (aB 0 x4 h83) fun v84 h84 =>
 bnd (aG 1 v84 (aE 9) h84) fun _ h85 =>
       gZ r n x2 x4 x5 h85) (
 bnd (aD .eql x6 (.i .u8 (Int.ofNat 58)) h76) fun v86 h86 =>
 bnd (gD v86 true (some (x0, h86)) h86) fun v87 h87 =>
 bnd (gD v86 true (r 147 [v87, (aE 1)] h87) h87) fun v88 h88 =>
 bnd (gD v86 true (r 148 [v88] h88) h88) fun v89 h89 =>
 bnd (aR v86 v89 (.b false) h89) fun v90 h90 =>
 aP v90 (
 bnd (aO x0 h90) fun v91 h91 =>
 bnd (aB 1 v91 h91) fun v92 h92 =>
 bnd (aA v92 h92) fun v93 h93 =>
 bnd (aD .add v93 (aE 1) h93) fun v94 h94 =>
 bnd (aO x0 h94) fun v95 h95 =>
 bnd (aB 1 v95 h95) fun v96 h96 =>
 bnd (aG 1 v96 v94 h96) fun _ h97 =>
 bnd (aB 0 x4 h97) fun v98 h98 =>
 bnd (aG 1 v98 (aE 8) h98) fun _ h99 =>
 bnd (r 149 [x0] h99) fun v100 h100 =>
 bnd (aC 0 v100 h100) fun v101 h101 =>
 bnd (aC 1 v100 h101) fun v102 h102 =>
 bnd (aB 1 x4 h102) fun v103 h103 =>
 bnd (aG 1 v103 v101 h103) fun _ h104 =>
        gZ r n x2 x4 v102 h104) (
 bnd (r 130 [(.s [43, 45, 42, 47, 60, 62, 61, 126, 44, 64, 38, 37])] h90) fun v105 h105 =>
 bnd (cV CF r v105 [x6] h105) fun v106 h106 =>
 aP v106 (
 bnd (r 130 [(.s [43, 45, 42, 47, 60, 62, 61, 126, 44, 64, 38, 37])] h106) fun v107 h107 =>
 bnd (r 129 [x0, v107, (aE 2)] h107) fun v108 h108 =>
 bnd (aB 0 x4 h108) fun v109 h109 =>
 bnd (aG 1 v109 (aE 3) h109) fun _ h110 =>
 bnd (aB 1 x4 h110) fun v111 h111 =>
 bnd (aG 1 v111 v108 h111) fun _ h112 =>
         gZ r n x2 x4 x5 h112) (
 bnd (r 130 [(.s [94, 46, 59, 40, 41, 91, 93, 124])] h106) fun v113 h113 =>
 bnd (cV CF r v113 [x6] h113) fun v114 h114 =>
 aP v114 (
 bnd (r 130 [(.s [94, 46, 59, 40, 41, 91, 93, 124])] h114) fun v115 h115 =>
 bnd (r 129 [x0, v115, (aE 1)] h115) fun v116 h116 =>
 bnd (aB 0 x4 h116) fun v117 h117 =>
 bnd (aG 1 v117 (aE 10) h117) fun _ h118 =>
 bnd (aB 1 x4 h118) fun v119 h119 =>
 bnd (aG 1 v119 v116 h119) fun _ h120 =>
          gZ r n x2 x4 x5 h120) (
          gZ r n x2 x4 (aE 10) h114)))))))))
noncomputable def aTm (r : RT) (n : Nat) (x0 x2 x4 x5 : DV) (h0 : Hp) : aH :=
 bnd (r 147 [x0, (aE 0)] h0) fun v1 h1 =>
  aSj r n x0 x2 x4 x5 v1 h1
noncomputable def yJ (r : RT) (n : Nat) (x0 x2 x4 : DV) (h0 : Hp) : aH :=
 aTm r n x0 x2 x4 (aE 0) h0
noncomputable def pM (r : RT) (n : Nat) (x0 x2 : DV) (h0 : Hp) : aH :=
 bnd (aO x0 h0) fun v1 h1 =>
 bnd (aB 1 v1 h1) fun v2 h2 =>
 bnd (aA v2 h2) fun v3 h3 =>
 bnd (bC [(aE 0), (.s []), (aE 0), (aE 0)] [(3, 1, v3)] h3) fun v4 h4 =>
 bnd (bL [(aE 0), (.s []), (aE 0), (aE 0)] h4) fun v5 h5 =>
 bnd (aG 4 v5 v4 h5) fun _ h6 =>
  yJ r n x0 x2 v5 h6
noncomputable def s132 (r : RT) (n : Nat) (x0 : DV) (h0 : Hp) : aH :=
 bnd (bL [(aE 0), (.s []), (aE 0), (aE 0)] h0) fun v1 h1 =>
  pM r n x0 v1 h1
noncomputable abbrev c132 : Code := cf Tryz.f132
noncomputable abbrev aFi : Code := cR c132
noncomputable abbrev aBb : Code := cR aFi
noncomputable abbrev aIo : Code := cR aBb
noncomputable abbrev aDn : Code := cR aIo
noncomputable abbrev dAx : Code := cR aDn
noncomputable abbrev bZa : Code := cL aDn
noncomputable abbrev bXq : Code := cL aIo
noncomputable abbrev bHg : Code := cL aBb
noncomputable abbrev aPj : Code := cL aFi
noncomputable abbrev aCy : Code := cL c132
noncomputable abbrev r132 : K := aQ CF Tryz.f132
noncomputable def D132 (r : RT) (n : Nat) (c : Code) (X : Nat → K) (k : K) : K := aM CF r 153 n c X r132 k
theorem cFx : D132 r n dAx x0 r132 = (K3 (gZ r n) 2 4 5) :=
 (by kernel_rfl)
theorem bJi : D132 r n aDn x0 r132 = D132 r n bZa x0 (K3 (gZ r n) 2 4 5) :=
 congrArg (fun k => D132 r n bZa x0 k) (cFx r n)
theorem cGv : D132 r n aDn x0 r132 = (K5 (aSj r n) 0 2 4 5 6) :=
 (bJi r n).trans
 ((by kernel_rfl))
theorem bMo : D132 r n aIo x0 r132 = D132 r n bXq x0 (K5 (aSj r n) 0 2 4 5 6) :=
 congrArg (fun k => D132 r n bXq x0 k) (cGv r n)
theorem cCm : D132 r n aIo x0 r132 = (K4 (aTm r n) 0 2 4 5) :=
 (bMo r n).trans
 ((by kernel_rfl))
theorem bUe : D132 r n aBb x0 r132 = D132 r n bHg x0 (K4 (aTm r n) 0 2 4 5) :=
 congrArg (fun k => D132 r n bHg x0 k) (cCm r n)
theorem cKv : D132 r n aBb x0 r132 = (K3 (yJ r n) 0 2 4) :=
 (bUe r n).trans
 ((by kernel_rfl))
theorem bNq : D132 r n aFi x0 r132 = D132 r n aPj x0 (K3 (yJ r n) 0 2 4) :=
 congrArg (fun k => D132 r n aPj x0 k) (cKv r n)
theorem bTr (q0 : mV) : D132 r n aPj x0 (K3 q0 0 2 4) = fun (env : aU) (h : Hp) =>
 bnd (aO (env 0) h) fun v1 h1 =>
 bnd (aB 1 v1 h1) fun v2 h2 =>
 bnd (aA v2 h2) fun v3 h3 =>
 bnd (bC [(aE 0), (.s []), (aE 0), (aE 0)] [(3, 1, v3)] h3) fun v4 h4 =>
 bnd (bL [(aE 0), (.s []), (aE 0), (aE 0)] h4) fun v5 h5 =>
 bnd (aG 4 v5 v4 h5) fun _ h6 =>
  q0 (env 0) (env 2) v5 h6 := by kernel_rfl
theorem bFi : (fun (env : aU) (h : Hp) =>
 bnd (aO (env 0) h) fun v1 h1 =>
 bnd (aB 1 v1 h1) fun v2 h2 =>
 bnd (aA v2 h2) fun v3 h3 =>
 bnd (bC [(aE 0), (.s []), (aE 0), (aE 0)] [(3, 1, v3)] h3) fun v4 h4 =>
 bnd (bL [(aE 0), (.s []), (aE 0), (aE 0)] h4) fun v5 h5 =>
 bnd (aG 4 v5 v4 h5) fun _ h6 =>
  yJ r n (env 0) (env 2) v5 h6) = (K2 (pM r n) 0 2) := by kernel_rfl
theorem cJf : D132 r n aFi x0 r132 = (K2 (pM r n) 0 2) :=
 (bNq r n).trans
 ((bTr r n (yJ r n)).trans (bFi r n))
theorem cSq : D132 r n c132 x0 r132 = D132 r n aCy x0 (K2 (pM r n) 0 2) :=
 congrArg (fun k => D132 r n aCy x0 k) (cJf r n)
theorem dCg (q0 : oF) : D132 r n aCy x0 (K2 q0 0 2) = fun (env : aU) (h : Hp) =>
 bnd (bL [(aE 0), (.s []), (aE 0), (aE 0)] h) fun v1 h1 =>
  q0 (env 0) v1 h1 := by kernel_rfl
theorem cLz : (fun (env : aU) (h : Hp) =>
 bnd (bL [(aE 0), (.s []), (aE 0), (aE 0)] h) fun v1 h1 =>
  pM r n (env 0) v1 h1) = (K1 (s132 r n) 0) := by kernel_rfl
theorem dGk : D132 r n c132 x0 r132 = (K1 (s132 r n) 0) :=
 (cSq r n).trans
 ((dCg r n (pM r n)).trans (cLz r n))
theorem cYc : aF CF r n 132 args h = s132 r n (aS args 0) h :=
 (by kernel_rfl : aF CF r n 132 args h = D132 r n c132 x0 r132 (aI args) h).trans ((congrFun (congrFun (dGk r n) (aI args)) h).trans (by kernel_rfl))
noncomputable def s133 (r : RT) (n : Nat) (x0 x1 x2 : DV) (h0 : Hp) : aH :=
 bnd (r 137 [x0, (aE 0)] h0) fun v1 h1 =>
 bnd (bL [(aE 0), (.s []), (aE 0), (aE 0)] h1) fun v2 h2 =>
 bnd (aG 4 v2 v1 h2) fun _ h3 =>
 bnd (aO x0 h3) fun v4 h4 =>
 bnd (aB 3 v4 h4) fun v5 h5 =>
 bnd (aA v5 h5) fun v6 h6 =>
 bnd (aD .eql v6 (aE 0) h6) fun v7 h7 =>
 bnd (gD v7 true (aB 0 v2 h7) h7) fun v8 h8 =>
 bnd (gD v7 true (aA v8 h8) h8) fun v9 h9 =>
 bnd (gD v7 true (some (x1, h9)) h9) fun v10 h10 =>
 bnd (gD v7 true (aD .eql v9 v10 h10) h10) fun v11 h11 =>
 bnd (aR v7 v11 (.b false) h11) fun v12 h12 =>
 bnd (gD v12 true (some (x2, h12)) h12) fun v13 h13 =>
 bnd (gD v12 true (fH .eql v13 (.s []) h13) h13) fun v14 h14 =>
 bnd (gD v12 true (some (v14, h14)) h14) fun v15 h15 =>
 bnd (gD v15 false (aB 1 v2 h15) h15) fun v16 h16 =>
 bnd (gD v15 false (aA v16 h16) h16) fun v17 h17 =>
 bnd (gD v15 false (some (x2, h17)) h17) fun v18 h18 =>
 bnd (gD v15 false (fH .eql v17 v18 h18) h18) fun v19 h19 =>
 bnd (gD v12 true (aR v15 (.b true) v19 h19) h19) fun v20 h20 =>
 bnd (aR v12 v20 (.b false) h20) fun v21 h21 =>
 some (v21, h21)
noncomputable abbrev c133 : Code := cf Tryz.f133
noncomputable abbrev r133 : K := aQ CF Tryz.f133
noncomputable def D133 (r : RT) (n : Nat) (c : Code) (X : Nat → K) (k : K) : K := aM CF r 31 n c X r133 k
theorem dGc : D133 r n c133 x0 r133 = (K3 (s133 r n) 0 1 2) :=
 (by kernel_rfl)
theorem dBz : aF CF r n 133 args h = s133 r n (aS args 0) (aS args 1) (aS args 2) h :=
 (by kernel_rfl : aF CF r n 133 args h = D133 r n c133 x0 r133 (aI args) h).trans ((congrFun (congrFun (dGc r n) (aI args)) h).trans (by kernel_rfl))
noncomputable def aCg (r : RT) (n : Nat) (x2 x3 : DV) (h0 : Hp) : aH :=
 bnd (aK 4 x3 h0) fun v1 h1 =>
 bnd (aG 4 x2 v1 h1) fun _ h2 =>
 bnd (aK 4 x2 h2) fun v3 _ =>
 some (v3, h2)
noncomputable def yB (r : RT) (n : Nat) (x0 x2 x3 : DV) (h0 : Hp) : aH :=
 bnd (aB 0 x3 h0) fun v1 h1 =>
 bnd (aA v1 h1) fun v2 h2 =>
 bnd (aD .neq v2 (aE 0) h2) fun v3 h3 =>
 aP v3 (
 bnd (aO x0 h3) fun v4 h4 =>
 bnd (aB 0 v4 h4) fun v5 h5 =>
 bnd (aA v5 h5) fun v6 h6 =>
 bnd (cQ 4 v6 (some (aE 1)) none h6) fun v7 h7 =>
 bnd (aO x0 h7) fun v8 h8 =>
 bnd (aB 0 v8 h8) fun v9 h9 =>
 bnd (aG 1 v9 v7 h9) fun _ h10 =>
  aCg r n x2 x3 h10) (
  aCg r n x2 x3 h3)
noncomputable def pU (r : RT) (n : Nat) (x0 x2 : DV) (h0 : Hp) : aH :=
 bnd (r 137 [x0, (aE 0)] h0) fun v1 h1 =>
 bnd (bL [(aE 0), (.s []), (aE 0), (aE 0)] h1) fun v2 h2 =>
 bnd (aG 4 v2 v1 h2) fun _ h3 =>
  yB r n x0 x2 v2 h3
noncomputable def s134 (r : RT) (n : Nat) (x0 : DV) (h0 : Hp) : aH :=
 bnd (bL [(aE 0), (.s []), (aE 0), (aE 0)] h0) fun v1 h1 =>
  pU r n x0 v1 h1
noncomputable abbrev c134 : Code := cf Tryz.f134
noncomputable abbrev aGf : Code := cR c134
noncomputable abbrev aFq : Code := cR aGf
noncomputable abbrev dBg : Code := cR aFq
noncomputable abbrev bSv : Code := cL aFq
noncomputable abbrev aRp : Code := cL aGf
noncomputable abbrev aQd : Code := cL c134
noncomputable abbrev r134 : K := aQ CF Tryz.f134
noncomputable def D134 (r : RT) (n : Nat) (c : Code) (X : Nat → K) (k : K) : K := aM CF r 18 n c X r134 k
theorem cEl : D134 r n dBg x0 r134 = (K2 (aCg r n) 2 3) :=
 (by kernel_rfl)
theorem bWi : D134 r n aFq x0 r134 = D134 r n bSv x0 (K2 (aCg r n) 2 3) :=
 congrArg (fun k => D134 r n bSv x0 k) (cEl r n)
theorem cNo : D134 r n aFq x0 r134 = (K3 (yB r n) 0 2 3) :=
 (bWi r n).trans
 ((by kernel_rfl))
theorem bYl : D134 r n aGf x0 r134 = D134 r n aRp x0 (K3 (yB r n) 0 2 3) :=
 congrArg (fun k => D134 r n aRp x0 k) (cNo r n)
theorem bLp (q0 : mV) : D134 r n aRp x0 (K3 q0 0 2 3) = fun (env : aU) (h : Hp) =>
 bnd (r 137 [(env 0), (aE 0)] h) fun v1 h1 =>
 bnd (bL [(aE 0), (.s []), (aE 0), (aE 0)] h1) fun v2 h2 =>
 bnd (aG 4 v2 v1 h2) fun _ h3 =>
  q0 (env 0) (env 2) v2 h3 := by kernel_rfl
theorem bCe : (fun (env : aU) (h : Hp) =>
 bnd (r 137 [(env 0), (aE 0)] h) fun v1 h1 =>
 bnd (bL [(aE 0), (.s []), (aE 0), (aE 0)] h1) fun v2 h2 =>
 bnd (aG 4 v2 v1 h2) fun _ h3 =>
  yB r n (env 0) (env 2) v2 h3) = (K2 (pU r n) 0 2) := by kernel_rfl
theorem cBu : D134 r n aGf x0 r134 = (K2 (pU r n) 0 2) :=
 (bYl r n).trans
 ((bLp r n (yB r n)).trans (bCe r n))
theorem cVx : D134 r n c134 x0 r134 = D134 r n aQd x0 (K2 (pU r n) 0 2) :=
 congrArg (fun k => D134 r n aQd x0 k) (cBu r n)
theorem cYj (q0 : oF) : D134 r n aQd x0 (K2 q0 0 2) = fun (env : aU) (h : Hp) =>
 bnd (bL [(aE 0), (.s []), (aE 0), (aE 0)] h) fun v1 h1 =>
  q0 (env 0) v1 h1 := by kernel_rfl
theorem cPs : (fun (env : aU) (h : Hp) =>
 bnd (bL [(aE 0), (.s []), (aE 0), (aE 0)] h) fun v1 h1 =>
  pU r n (env 0) v1 h1) = (K1 (s134 r n) 0) := by kernel_rfl
theorem dGs : D134 r n c134 x0 r134 = (K1 (s134 r n) 0) :=
 (cVx r n).trans
 ((cYj r n (pU r n)).trans (cPs r n))
theorem cZj : aF CF r n 134 args h = s134 r n (aS args 0) h :=
 (by kernel_rfl : aF CF r n 134 args h = D134 r n c134 x0 r134 (aI args) h).trans ((congrFun (congrFun (dGs r n) (aI args)) h).trans (by kernel_rfl))
noncomputable def s135 (r : RT) (n : Nat) (x0 : DV) (h0 : Hp) : aH :=
 bnd (bL jQ h0) fun v1 h1 =>
 bnd (r 133 [x0, (aE 1), (.s [])] h1) fun v2 h2 =>
 bnd (gD v2 true (some (x0, h2)) h2) fun v3 h3 =>
 bnd (gD v2 true (r 137 [v3, (aE 1)] h3) h3) fun v4 h4 =>
 bnd (gD v2 true (fM 0 v4 h4) h4) fun v5 h5 =>
 bnd (gD v2 true (aD .eql v5 (aE 9) h5) h5) fun v6 h6 =>
 bnd (aR v2 v6 (.b false) h6) fun v7 h7 =>
 aP v7 (
 bnd (r 134 [x0] h7) fun v8 h8 =>
 bnd (fM 1 v8 h8) fun v9 h9 =>
 bnd (bC jQ [(0, 1, (aE 6)), (1, 1, v9)] h9) fun v10 h10 =>
 bnd (bL jQ h10) fun v11 h11 =>
 bnd (aG 6 v11 v10 h11) fun _ h12 =>
 bnd (r 134 [x0] h12) fun v13 h13 =>
 bnd (r 135 [x0] h13) fun v14 h14 =>
 bnd (aL jQ 1 [(0, 6, v14)] h14) fun v15 h15 =>
 bnd (aB 5 v11 h15) fun v16 h16 =>
 bnd (aG 1 v16 v15 h16) fun _ h17 =>
 bnd (aK 6 v11 h17) fun v18 h18 =>
 bnd (aG 6 v1 v18 h18) fun _ h19 =>
 bnd (aK 6 v1 h19) fun v20 _ =>
 some (v20, h19)) (
 bnd (r 155 [x0] h7) fun v21 h21 =>
 bnd (aG 6 v1 v21 h21) fun _ h22 =>
 bnd (aK 6 v1 h22) fun v23 _ =>
 some (v23, h22))
noncomputable abbrev c135 : Code := cf Tryz.f135
noncomputable abbrev r135 : K := aQ CF Tryz.f135
noncomputable def D135 (r : RT) (n : Nat) (c : Code) (X : Nat → K) (k : K) : K := aM CF r 25 n c X r135 k
theorem dEv : D135 r n c135 x0 r135 = (K1 (s135 r n) 0) :=
 (by kernel_rfl)
theorem cWc : aF CF r n 135 args h = s135 r n (aS args 0) h :=
 (by kernel_rfl : aF CF r n 135 args h = D135 r n c135 x0 r135 (aI args) h).trans ((congrFun (congrFun (dEv r n) (aI args)) h).trans (by kernel_rfl))
noncomputable def s137 (r : RT) (n : Nat) (x0 x1 : DV) (h0 : Hp) : aH :=
 bnd (bL [(aE 0), (.s []), (aE 0), (aE 0)] h0) fun v1 h1 =>
 bnd (aO x0 h1) fun v2 h2 =>
 bnd (aB 0 v2 h2) fun v3 h3 =>
 bnd (aA v3 h3) fun v4 h4 =>
 bnd (aO x0 h4) fun v5 h5 =>
 bnd (aB 0 v5 h5) fun v6 h6 =>
 bnd (aA v6 h6) fun v7 h7 =>
 bnd (bV v7 h7) fun v8 h8 =>
 bnd (aD .sub v8 (aE 1) h8) fun v9 h9 =>
 bnd (aTp x1 v9 h9) fun v10 h10 =>
 bnd (aJ 4 v4 v10 h10) fun v11 h11 =>
 bnd (aK 4 v11 h11) fun v12 h12 =>
 bnd (aG 4 v1 v12 h12) fun v13 h13 =>
 bnd (aK 4 v1 h13) fun v14 _ =>
 some (v14, h13)
noncomputable abbrev c137 : Code := cf Tryz.f137
noncomputable abbrev r137 : K := aQ CF Tryz.f137
noncomputable def D137 (r : RT) (n : Nat) (c : Code) (X : Nat → K) (k : K) : K := aM CF r 19 n c X r137 k
theorem dEq : D137 r n c137 x0 r137 = (K2 (s137 r n) 0 1) :=
 (by kernel_rfl)
theorem cVf : aF CF r n 137 args h = s137 r n (aS args 0) (aS args 1) h :=
 (by kernel_rfl : aF CF r n 137 args h = D137 r n c137 x0 r137 (aI args) h).trans ((congrFun (congrFun (dEq r n) (aI args)) h).trans (by kernel_rfl))
noncomputable def aEa (r : RT) (n : Nat) (x7 : DV) (h0 : Hp) : aH :=
 bnd (aB 1 x7 h0) fun v1 h1 =>
 bnd (aA v1 h1) fun v2 h2 =>
 some (v2, h2)
noncomputable def xH (r : RT) (n : Nat) (x0 x2 x7 : DV) (h0 : Hp) : aH :=
 bnd (bV x2 h0) fun v1 h1 =>
 bnd (aD .eql v1 (aE 4) h1) fun v2 h2 =>
 aP v2 (
 bnd (aK 4 x7 h2) fun v3 h3 =>
 bnd (r 136 [x0, v3, (aE 18)] h3) fun v4 h4 =>
  aEa r n x7 h4) (
  aEa r n x7 h2)
noncomputable def aBj (r : RT) (n : Nat) (x0 x1 x2 : DV) (h0 : Hp) : aH :=
 bnd (r 120 [x0, x1, (.s [])] h0) fun v1 h1 =>
 bnd (bL [(aE 0), (.s []), (aE 0), (aE 0)] h1) fun v2 h2 =>
 bnd (aG 4 v2 v1 h2) fun _ h3 =>
  xH r n x0 x2 v2 h3
noncomputable def s138 (r : RT) (n : Nat) (x0 x1 x2 : DV) (h0 : Hp) : aH :=
 aBj r n x0 x1 x2 h0
noncomputable abbrev c138 : Code := cf Tryz.f138
noncomputable abbrev aIx : Code := cR c138
noncomputable abbrev aCr : Code := cR aIx
noncomputable abbrev dBj : Code := cR aCr
noncomputable abbrev bSy : Code := cL aCr
noncomputable abbrev aMz : Code := cL aIx
noncomputable abbrev bVy : Code := cL c138
noncomputable abbrev r138 : K := aQ CF Tryz.f138
noncomputable def D138 (r : RT) (n : Nat) (c : Code) (X : Nat → K) (k : K) : K := aM CF r 19 n c X r138 k
theorem cBh : D138 r n dBj x0 r138 = (K1 (aEa r n) 7) :=
 (by kernel_rfl)
theorem bMg : D138 r n aCr x0 r138 = D138 r n bSy x0 (K1 (aEa r n) 7) :=
 congrArg (fun k => D138 r n bSy x0 k) (cBh r n)
theorem cDi : D138 r n aCr x0 r138 = (K3 (xH r n) 0 2 7) :=
 (bMg r n).trans
 ((by kernel_rfl))
theorem bVr : D138 r n aIx x0 r138 = D138 r n aMz x0 (K3 (xH r n) 0 2 7) :=
 congrArg (fun k => D138 r n aMz x0 k) (cDi r n)
theorem bSx (q0 : mV) : D138 r n aMz x0 (K3 q0 0 2 7) = fun (env : aU) (h : Hp) =>
 bnd (r 120 [(env 0), (env 1), (.s [])] h) fun v1 h1 =>
 bnd (bL [(aE 0), (.s []), (aE 0), (aE 0)] h1) fun v2 h2 =>
 bnd (aG 4 v2 v1 h2) fun _ h3 =>
  q0 (env 0) (env 2) v2 h3 := by kernel_rfl
theorem bCy : (fun (env : aU) (h : Hp) =>
 bnd (r 120 [(env 0), (env 1), (.s [])] h) fun v1 h1 =>
 bnd (bL [(aE 0), (.s []), (aE 0), (aE 0)] h1) fun v2 h2 =>
 bnd (aG 4 v2 v1 h2) fun _ h3 =>
  xH r n (env 0) (env 2) v2 h3) = (K3 (aBj r n) 0 1 2) := by kernel_rfl
theorem cLi : D138 r n aIx x0 r138 = (K3 (aBj r n) 0 1 2) :=
 (bVr r n).trans
 ((bSx r n (xH r n)).trans (bCy r n))
theorem dCc : D138 r n c138 x0 r138 = D138 r n bVy x0 (K3 (aBj r n) 0 1 2) :=
 congrArg (fun k => D138 r n bVy x0 k) (cLi r n)
theorem dGw : D138 r n c138 x0 r138 = (K3 (s138 r n) 0 1 2) :=
 (dCc r n).trans
 ((by kernel_rfl))
theorem cUr : aF CF r n 138 args h = s138 r n (aS args 0) (aS args 1) (aS args 2) h :=
 (by kernel_rfl : aF CF r n 138 args h = D138 r n c138 x0 r138 (aI args) h).trans ((congrFun (congrFun (dGw r n) (aI args)) h).trans (by kernel_rfl))
noncomputable def dC (r : RT) (n : Nat) (kk2 : cD) (x0 x2 x10 x11 x12 : DV) (h0 : Hp) : aH :=
 bnd (aD .add x12 (aE 1) h0) fun v1 h1 =>
  kk2 x0 x2 x10 x11 v1 h1
noncomputable def wR (r : RT) (n : Nat) (kk2 : cD) (x0 x2 x7 x10 x11 x12 : DV) (h0 : Hp) : aH :=
 bnd (aO x0 h0) fun v1 h1 =>
 bnd (aB 8 v1 h1) fun v2 h2 =>
 bnd (aA v2 h2) fun v3 h3 =>
 bnd (aD .neq v3 (aE 0) h3) fun v4 h4 =>
 aP v4 (
 some (.t [], h4)) (
 bnd (aO x0 (resv 1 h4)) fun v5 h5 =>
 bnd (aB 6 v5 h5) fun v6 h6 =>
 bnd (aA v6 h6) fun v7 h7 =>
 bnd (aO x0 h7) fun v8 h8 =>
 bnd (aB 0 v8 h8) fun v9 h9 =>
 bnd (aB 2 v9 h9) fun v10 h10 =>
 bnd (aA v10 h10) fun v11 h11 =>
 bnd (bC [(.s []), (.b false), (.b false), (aE 0)] [(0, 1, x7), (1, 1, (.b false)), (2, 1, x2), (3, 1, v11)] h11) fun v12 h12 =>
 bnd (bK (bW 0 h4.next) [(.s []), (.b false), (.b false), (aE 0)] 1 [(0, 4, v12)] h12) fun v13 h13 =>
 bnd (aZ 4 32 v7 v13 h13) fun v14 h14 =>
 bnd (aO x0 h14) fun v15 h15 =>
 bnd (aB 6 v15 h15) fun v16 h16 =>
 bnd (aG 1 v16 v14 h16) fun v17 h17 =>
 bnd (aO x0 h17) fun v18 h18 =>
 bnd (aB 0 v18 h18) fun v19 h19 =>
 bnd (aB 2 v19 h19) fun v20 h20 =>
 bnd (aA v20 h20) fun v21 h21 =>
 bnd (aD .add v21 (aE 1) h21) fun v22 h22 =>
 bnd (aO x0 h22) fun v23 h23 =>
 bnd (aB 0 v23 h23) fun v24 h24 =>
 bnd (aB 2 v24 h24) fun v25 h25 =>
 bnd (aG 1 v25 v22 h25) fun _ h26 =>
  dC r n kk2 x0 x2 x10 x11 x12 h26)
noncomputable def oE (r : RT) (n : Nat) (kk2 : cD) (x0 x2 x7 x10 x11 x12 : DV) (h0 : Hp) : aH :=
 bnd (aO x0 h0) fun v1 h1 =>
 bnd (aB 0 v1 h1) fun v2 h2 =>
 bnd (aB 2 v2 h2) fun v3 h3 =>
 bnd (aA v3 h3) fun v4 h4 =>
 bnd (aD .eql v4 (aE 24) h4) fun v5 h5 =>
 aP v5 (
 bnd (r 158 [x0, x7, (aE 18)] h5) fun v6 h6 =>
  wR r n kk2 x0 x2 x7 x10 x11 x12 h6) (
  wR r n kk2 x0 x2 x7 x10 x11 x12 h5)
noncomputable def aJi (r : RT) (n : Nat) (kk2 : cD) (x0 x2 x7 x10 x11 x12 : DV) (h0 : Hp) : aH :=
 bnd (r 156 [x0, x7] h0) fun v1 h1 =>
 bnd (aC 0 v1 h1) fun v2 h2 =>
 bnd (aC 1 v1 h2) fun v3 h3 =>
 bnd (bL [(.s []), (.b false), (.b false), (aE 0)] h3) fun v4 h4 =>
 bnd (aG 4 v4 v2 h4) fun _ h5 =>
 bnd (gD v3 false (some (x7, h5)) h5) fun v6 h6 =>
 bnd (gD v3 false (r 157 [v6] h6) h6) fun v7 h7 =>
 bnd (aR v3 (.b true) v7 h7) fun v8 h8 =>
 aP v8 (
 bnd (r 158 [x0, x7, (aE 16)] h8) fun v9 h9 =>
  oE r n kk2 x0 x2 x7 x10 x11 x12 h9) (
  oE r n kk2 x0 x2 x7 x10 x11 x12 h8)
noncomputable def aQc (r : RT) (n : Nat) (kk2 : cD) (x0 x2 x10 x11 x12 : DV) (h0 : Hp) : aH :=
 bnd (aJ 1 x10 x12 h0) fun v1 h1 =>
 bnd (aA v1 h1) fun v2 h2 =>
  aJi r n kk2 x0 x2 v2 x10 x11 x12 h2
noncomputable def aQh (r : RT) (n : Nat) (kk2 : cD) (x0 x2 x10 x11 x12 x13 : DV) (h0 : Hp) : aH :=
 aP x13 (
  aQc r n kk2 x0 x2 x10 x11 x12 h0) (
 some (.t [], h0))
noncomputable def aZe (r : RT) (n : Nat) (kk2 : cD) (x0 x2 x10 x11 x12 : DV) (h0 : Hp) : aH :=
 bnd (aD .lss x12 x11 h0) fun v1 h1 =>
  aQh r n kk2 x0 x2 x10 x11 x12 v1 h1
noncomputable def sB (r : RT) (n : Nat) (m : Nat) : cD :=
 Nat.rec (motive := fun _ => cD) (fun _ _ _ _ _ _ => none) (fun _ ih => aZe r n ih) m
noncomputable def bLg (r : RT) (n : Nat) : cD := sB r n n
noncomputable def aNy (r : RT) (n : Nat) (x0 x2 x10 x11 x12 : DV) (h0 : Hp) : aH :=
 bLg r n x0 x2 x10 x11 x12 h0
noncomputable def s139 (r : RT) (n : Nat) (x0 x1 x2 : DV) (h0 : Hp) : aH :=
 bnd (bV x1 h0) fun v1 h1 =>
  aNy r n x0 x2 x1 v1 (aE 0) h1
noncomputable abbrev c139 : Code := cf Tryz.f139
noncomputable abbrev aNq : Code := cR c139
noncomputable abbrev aDh : Code := cL aNq
noncomputable abbrev jS : Code := cL aDh
noncomputable abbrev aEi : Code := cR jS
noncomputable abbrev aDt : Code := cR aEi
noncomputable abbrev cYs : Code := cR aDt
noncomputable abbrev aEg : Code := cL aDt
noncomputable abbrev aGx : Code := cL aEg
noncomputable abbrev aHp : Code := cR aGx
noncomputable abbrev uE : Code := cR aHp
noncomputable abbrev aXb : Code := cR uE
noncomputable abbrev aXj : Code := cL uE
noncomputable abbrev aHv : Code := cL aHp
noncomputable abbrev aWg : Code := cL aGx
noncomputable abbrev bAt : Code := cL aEi
noncomputable abbrev aUo : Code := cL jS
noncomputable abbrev aWa : Code := cL c139
noncomputable abbrev r139 : K := aQ CF Tryz.f139
noncomputable def D139 (r : RT) (n : Nat) (c : Code) (X : Nat → K) (k : K) : K := aM CF r 71 n c X r139 k
theorem cJz (kk2 : cD) : D139 r n cYs (xs x0 0 r139) (K5 kk2 0 2 10 11 12) = (K5 (dC r n kk2) 0 2 10 11 12) :=
 (by kernel_rfl)
theorem bRx (kk2 : cD) (q0 : cD) : D139 r n aXb (xs (xs x0 0 r139) 1 (K5 q0 0 2 10 11 12)) (K5 q0 0 2 10 11 12) = fun (env : aU) (h : Hp) =>
 bnd (aO (env 0) h) fun v1 h1 =>
 bnd (aB 8 v1 h1) fun v2 h2 =>
 bnd (aA v2 h2) fun v3 h3 =>
 bnd (aD .neq v3 (aE 0) h3) fun v4 h4 =>
 aP v4 (
 some (.t [], h4)) (
 bnd (aO (env 0) (resv 1 h4)) fun v5 h5 =>
 bnd (aB 6 v5 h5) fun v6 h6 =>
 bnd (aA v6 h6) fun v7 h7 =>
 bnd (aO (env 0) h7) fun v8 h8 =>
 bnd (aB 0 v8 h8) fun v9 h9 =>
 bnd (aB 2 v9 h9) fun v10 h10 =>
 bnd (aA v10 h10) fun v11 h11 =>
 bnd (bC [(.s []), (.b false), (.b false), (aE 0)] [(0, 1, (env 7)), (1, 1, (.b false)), (2, 1, (env 2)), (3, 1, v11)] h11) fun v12 h12 =>
 bnd (bK (bW 0 h4.next) [(.s []), (.b false), (.b false), (aE 0)] 1 [(0, 4, v12)] h12) fun v13 h13 =>
 bnd (aZ 4 32 v7 v13 h13) fun v14 h14 =>
 bnd (aO (env 0) h14) fun v15 h15 =>
 bnd (aB 6 v15 h15) fun v16 h16 =>
 bnd (aG 1 v16 v14 h16) fun v17 h17 =>
 bnd (aO (env 0) h17) fun v18 h18 =>
 bnd (aB 0 v18 h18) fun v19 h19 =>
 bnd (aB 2 v19 h19) fun v20 h20 =>
 bnd (aA v20 h20) fun v21 h21 =>
 bnd (aD .add v21 (aE 1) h21) fun v22 h22 =>
 bnd (aO (env 0) h22) fun v23 h23 =>
 bnd (aB 0 v23 h23) fun v24 h24 =>
 bnd (aB 2 v24 h24) fun v25 h25 =>
 bnd (aG 1 v25 v22 h25) fun _ h26 =>
      q0 (env 0) (env 2) (env 10) (env 11) (env 12) h26) := by kernel_rfl
theorem bEi (kk2 : cD) : (fun (env : aU) (h : Hp) =>
 bnd (aO (env 0) h) fun v1 h1 =>
 bnd (aB 8 v1 h1) fun v2 h2 =>
 bnd (aA v2 h2) fun v3 h3 =>
 bnd (aD .neq v3 (aE 0) h3) fun v4 h4 =>
 aP v4 (
 some (.t [], h4)) (
 bnd (aO (env 0) (resv 1 h4)) fun v5 h5 =>
 bnd (aB 6 v5 h5) fun v6 h6 =>
 bnd (aA v6 h6) fun v7 h7 =>
 bnd (aO (env 0) h7) fun v8 h8 =>
 bnd (aB 0 v8 h8) fun v9 h9 =>
 bnd (aB 2 v9 h9) fun v10 h10 =>
 bnd (aA v10 h10) fun v11 h11 =>
 bnd (bC [(.s []), (.b false), (.b false), (aE 0)] [(0, 1, (env 7)), (1, 1, (.b false)), (2, 1, (env 2)), (3, 1, v11)] h11) fun v12 h12 =>
 bnd (bK (bW 0 h4.next) [(.s []), (.b false), (.b false), (aE 0)] 1 [(0, 4, v12)] h12) fun v13 h13 =>
 bnd (aZ 4 32 v7 v13 h13) fun v14 h14 =>
 bnd (aO (env 0) h14) fun v15 h15 =>
 bnd (aB 6 v15 h15) fun v16 h16 =>
 bnd (aG 1 v16 v14 h16) fun v17 h17 =>
 bnd (aO (env 0) h17) fun v18 h18 =>
 bnd (aB 0 v18 h18) fun v19 h19 =>
 bnd (aB 2 v19 h19) fun v20 h20 =>
 bnd (aA v20 h20) fun v21 h21 =>
 bnd (aD .add v21 (aE 1) h21) fun v22 h22 =>
 bnd (aO (env 0) h22) fun v23 h23 =>
 bnd (aB 0 v23 h23) fun v24 h24 =>
 bnd (aB 2 v24 h24) fun v25 h25 =>
 bnd (aG 1 v25 v22 h25) fun _ h26 =>
      dC r n kk2 (env 0) (env 2) (env 10) (env 11) (env 12) h26)) = (K6 (wR r n kk2) 0 2 7 10 11 12) := by kernel_rfl
theorem cOi (kk2 : cD) : D139 r n aXb (xs (xs x0 0 r139) 1 (K5 (dC r n kk2) 0 2 10 11 12)) (K5 (dC r n kk2) 0 2 10 11 12) = (K6 (wR r n kk2) 0 2 7 10 11 12) :=
 (bRx r n kk2 (dC r n kk2)).trans (bEi r n kk2)
theorem bTv (kk2 : cD) : D139 r n uE (xs (xs x0 0 r139) 1 (K5 (dC r n kk2) 0 2 10 11 12)) (K5 (dC r n kk2) 0 2 10 11 12) = D139 r n aXj (xs (xs x0 0 r139) 1 (K5 (dC r n kk2) 0 2 10 11 12)) (K6 (wR r n kk2) 0 2 7 10 11 12) :=
 congrArg (fun k => D139 r n aXj (xs (xs x0 0 r139) 1 (K5 (dC r n kk2) 0 2 10 11 12)) k) (cOi r n kk2)
theorem cBy (kk2 : cD) : D139 r n uE (xs (xs x0 0 r139) 1 (K5 (dC r n kk2) 0 2 10 11 12)) (K5 (dC r n kk2) 0 2 10 11 12) = (K6 (oE r n kk2) 0 2 7 10 11 12) :=
 (bTv r n kk2).trans
 ((by kernel_rfl))
theorem bIm (kk2 : cD) : D139 r n aHp (xs (xs x0 0 r139) 1 (K5 (dC r n kk2) 0 2 10 11 12)) (K5 (dC r n kk2) 0 2 10 11 12) = D139 r n aHv (xs (xs x0 0 r139) 1 (K5 (dC r n kk2) 0 2 10 11 12)) (K6 (oE r n kk2) 0 2 7 10 11 12) :=
 congrArg (fun k => D139 r n aHv (xs (xs x0 0 r139) 1 (K5 (dC r n kk2) 0 2 10 11 12)) k) (cBy r n kk2)
theorem bKk (kk2 : cD) (q0 : fC) (q1 : cD) : D139 r n aHv (xs (xs x0 0 r139) 1 (K5 q1 0 2 10 11 12)) (K6 q0 0 2 7 10 11 12) = fun (env : aU) (h : Hp) =>
 bnd (r 156 [(env 0), (env 7)] h) fun v1 h1 =>
 bnd (aC 0 v1 h1) fun v2 h2 =>
 bnd (aC 1 v1 h2) fun v3 h3 =>
 bnd (bL [(.s []), (.b false), (.b false), (aE 0)] h3) fun v4 h4 =>
 bnd (aG 4 v4 v2 h4) fun _ h5 =>
 bnd (gD v3 false (some ((env 7), h5)) h5) fun v6 h6 =>
 bnd (gD v3 false (r 157 [v6] h6) h6) fun v7 h7 =>
 bnd (aR v3 (.b true) v7 h7) fun v8 h8 =>
 aP v8 (
 bnd (r 158 [(env 0), (env 7), (aE 16)] h8) fun v9 h9 =>
      q0 (env 0) (env 2) (env 7) (env 10) (env 11) (env 12) h9) (
      q0 (env 0) (env 2) (env 7) (env 10) (env 11) (env 12) h8) := by kernel_rfl
theorem bDv (kk2 : cD) : (fun (env : aU) (h : Hp) =>
 bnd (r 156 [(env 0), (env 7)] h) fun v1 h1 =>
 bnd (aC 0 v1 h1) fun v2 h2 =>
 bnd (aC 1 v1 h2) fun v3 h3 =>
 bnd (bL [(.s []), (.b false), (.b false), (aE 0)] h3) fun v4 h4 =>
 bnd (aG 4 v4 v2 h4) fun _ h5 =>
 bnd (gD v3 false (some ((env 7), h5)) h5) fun v6 h6 =>
 bnd (gD v3 false (r 157 [v6] h6) h6) fun v7 h7 =>
 bnd (aR v3 (.b true) v7 h7) fun v8 h8 =>
 aP v8 (
 bnd (r 158 [(env 0), (env 7), (aE 16)] h8) fun v9 h9 =>
      oE r n kk2 (env 0) (env 2) (env 7) (env 10) (env 11) (env 12) h9) (
      oE r n kk2 (env 0) (env 2) (env 7) (env 10) (env 11) (env 12) h8)) = (K6 (aJi r n kk2) 0 2 7 10 11 12) := by kernel_rfl
theorem cIu (kk2 : cD) : D139 r n aHp (xs (xs x0 0 r139) 1 (K5 (dC r n kk2) 0 2 10 11 12)) (K5 (dC r n kk2) 0 2 10 11 12) = (K6 (aJi r n kk2) 0 2 7 10 11 12) :=
 (bIm r n kk2).trans
 ((bKk r n kk2 (oE r n kk2) (dC r n kk2)).trans (bDv r n kk2))
theorem bOo (kk2 : cD) : D139 r n aDt (xs x0 0 r139) (K5 kk2 0 2 10 11 12) = D139 r n aEg (xs x0 0 r139) (K5 (dC r n kk2) 0 2 10 11 12) :=
 congrArg (fun k => D139 r n aEg (xs x0 0 r139) k) (cJz r n kk2)
theorem bHr (kk2 : cD) : D139 r n aGx (xs (xs x0 0 r139) 1 (K5 (dC r n kk2) 0 2 10 11 12)) (K5 (dC r n kk2) 0 2 10 11 12) = D139 r n aWg (xs (xs x0 0 r139) 1 (K5 (dC r n kk2) 0 2 10 11 12)) (K6 (aJi r n kk2) 0 2 7 10 11 12) :=
 congrArg (fun k => D139 r n aWg (xs (xs x0 0 r139) 1 (K5 (dC r n kk2) 0 2 10 11 12)) k) (cIu r n kk2)
theorem cIx (kk2 : cD) : D139 r n aDt (xs x0 0 r139) (K5 kk2 0 2 10 11 12) = (K5 (aQc r n kk2) 0 2 10 11 12) :=
 (bOo r n kk2).trans
 ((by kernel_rfl : D139 r n aEg (xs x0 0 r139) (K5 (dC r n kk2) 0 2 10 11 12) = D139 r n aGx (xs (xs x0 0 r139) 1 (K5 (dC r n kk2) 0 2 10 11 12)) (K5 (dC r n kk2) 0 2 10 11 12)).trans
 ((bHr r n kk2).trans
 ((by kernel_rfl))))
theorem bRa (kk2 : cD) : D139 r n aEi (xs x0 0 r139) (K5 kk2 0 2 10 11 12) = D139 r n bAt (xs x0 0 r139) (K5 (aQc r n kk2) 0 2 10 11 12) :=
 congrArg (fun k => D139 r n bAt (xs x0 0 r139) k) (cIx r n kk2)
theorem cIb (kk2 : cD) : D139 r n aEi (xs x0 0 r139) (K5 kk2 0 2 10 11 12) = (K6 (aQh r n kk2) 0 2 10 11 12 13) :=
 (bRa r n kk2).trans
 ((by kernel_rfl))
theorem bHs (kk2 : cD) : D139 r n jS (xs x0 0 r139) (K5 kk2 0 2 10 11 12) = D139 r n aUo (xs x0 0 r139) (K6 (aQh r n kk2) 0 2 10 11 12 13) :=
 congrArg (fun k => D139 r n aUo (xs x0 0 r139) k) (cIb r n kk2)
theorem bNp (kk2 : cD) : D139 r n jS (xs x0 0 r139) (K5 kk2 0 2 10 11 12) = (K5 (aZe r n kk2) 0 2 10 11 12) :=
 (bHs r n kk2).trans
 ((by kernel_rfl))
theorem bRo (m : Nat) : aN (fun kk => D139 r n jS (xs x0 0 r139) kk) m = (K5 (sB r n m) 0 2 10 11 12) := by
 induction m with
 | zero => exact (by kernel_rfl : aN (fun kk => D139 r n jS (xs x0 0 r139) kk) 0 = (K5 (sB r n 0) 0 2 10 11 12))
 | succ m ih =>
  refine (by kernel_rfl : aN (fun kk => D139 r n jS (xs x0 0 r139) kk) (m + 1) = D139 r n jS (xs x0 0 r139) (aN (fun kk => D139 r n jS (xs x0 0 r139) kk) m)).trans ?_
  rw [ih]
  exact (bNp r n (sB r n m)).trans (by kernel_rfl)
theorem cHd : D139 r n aDh (xs x0 0 r139) r139 = (K5 (bLg r n) 0 2 10 11 12) :=
 (by kernel_rfl : D139 r n aDh (xs x0 0 r139) r139 = aN (fun kk => D139 r n jS (xs x0 0 r139) kk) n).trans ((bRo r n n).trans (by kernel_rfl))
theorem cId : D139 r n aNq x0 r139 = (K5 (aNy r n) 0 2 10 11 12) :=
 (by kernel_rfl : D139 r n aNq x0 r139 = D139 r n aDh (xs x0 0 r139) r139).trans
 ((cHd r n).trans (by kernel_rfl))
theorem cVv : D139 r n c139 x0 r139 = D139 r n aWa x0 (K5 (aNy r n) 0 2 10 11 12) :=
 congrArg (fun k => D139 r n aWa x0 k) (cId r n)
theorem dKm : D139 r n c139 x0 r139 = (K3 (s139 r n) 0 1 2) :=
 (cVv r n).trans
 ((by kernel_rfl))
theorem cYl : aF CF r n 139 args h = s139 r n (aS args 0) (aS args 1) (aS args 2) h :=
 (by kernel_rfl : aF CF r n 139 args h = D139 r n c139 x0 r139 (aI args) h).trans ((congrFun (congrFun (dKm r n) (aI args)) h).trans (by kernel_rfl))
noncomputable def qG (r : RT) (n : Nat) (x0 x3 x11 x14 : DV) (h0 : Hp) : aH :=
 aP x14 (
 bnd (aK 6 x3 h0) fun v1 h1 =>
 bnd (r 160 [x0, v1] h1) fun v2 h2 =>
 bnd (lD [x0, v2] h2) fun v3 h3 =>
 bnd (r 141 [x0, (aE 6), v3, (aE 0)] h3) fun v4 h4 =>
 some (.t [], h4)) (
 bnd (aD .eql x11 (aE 5) h0) fun v5 h5 =>
 aP v5 (
 bnd (aB 1 x3 h5) fun v6 h6 =>
 bnd (aA v6 h6) fun v7 h7 =>
 bnd (r 161 [x0, v7] h7) fun v8 h8 =>
 some (.t [], h8)) (
 bnd (aD .eql x11 (aE 6) h5) fun v9 h9 =>
 aP v9 (
 bnd (aK 6 x3 h9) fun v10 h10 =>
 bnd (r 162 [x0, v10] h10) fun v11 h11 =>
 some (.t [], h11)) (
 bnd (aD .eql x11 (aE 7) h9) fun v12 h12 =>
 aP v12 (
 bnd (aK 6 x3 h12) fun v13 h13 =>
 bnd (r 163 [x0, v13] h13) fun v14 h14 =>
 some (.t [], h14)) (
 bnd (aD .eql x11 (aE 8) h12) fun v15 h15 =>
 aP v15 (
 bnd (aK 6 x3 h15) fun v16 h16 =>
 bnd (r 164 [x0, v16] h16) fun v17 h17 =>
 some (.t [], h17)) (
 bnd (aD .eql x11 (aE 9) h15) fun v18 h18 =>
 aP v18 (
 bnd (aO x0 h18) fun v19 h19 =>
 bnd (aB 0 v19 h19) fun v20 h20 =>
 bnd (aB 2 v20 h20) fun v21 h21 =>
 bnd (aA v21 h21) fun v22 h22 =>
 bnd (aB 3 x3 h22) fun v23 h23 =>
 bnd (aA v23 h23) fun v24 h24 =>
 bnd (bV v24 h24) fun v25 h25 =>
 bnd (r 141 [x0, (aE 18), v22, v25] h25) fun v26 h26 =>
 bnd (r 165 [x0, (aE 16)] h26) fun v27 h27 =>
 bnd (aK 6 x3 h27) fun v28 h28 =>
 bnd (r 166 [x0, v28] h28) fun v29 h29 =>
 bnd (r 141 [x0, (aE 19), (aE 0), (aE 0)] h29) fun v30 h30 =>
 bnd (cV CF r v27 [] h30) fun v31 h31 =>
 some (.t [], h31)) (
 bnd (aD .eql x11 (aE 10) h18) fun v32 h32 =>
 aP v32 (
 bnd (aK 6 x3 h32) fun v33 h33 =>
 bnd (r 167 [x0, v33] h33) fun v34 h34 =>
 aP v34 (
 bnd (aB 5 x3 h34) fun v35 h35 =>
 bnd (aA v35 h35) fun v36 h36 =>
 bnd (aJ 6 v36 (aE 0) h36) fun v37 h37 =>
 bnd (aK 6 v37 h37) fun v38 h38 =>
 bnd (r 140 [x0, v38] h38) fun v39 h39 =>
 bnd (r 141 [x0, (aE 20), (aE 0), (aE 0)] h39) fun v40 h40 =>
 some (.t [], h40)) (
 some (.t [], h34))) (
 bnd (r 158 [x0, (.s []), (aE 1)] h32) fun v41 h41 =>
 some (.t [], h41))))))))
noncomputable def aNc (r : RT) (n : Nat) (x0 x3 x11 : DV) (h0 : Hp) : aH :=
 bnd (aD .eql x11 (aE 1) h0) fun v1 h1 =>
 aP v1 (
  qG r n x0 x3 x11 v1 h1) (
 bnd (aD .eql x11 (aE 2) h1) fun v2 h2 =>
 aP v2 (
   qG r n x0 x3 x11 v2 h2) (
 bnd (aD .eql x11 (aE 3) h2) fun v3 h3 =>
 aP v3 (
    qG r n x0 x3 x11 v3 h3) (
 bnd (aD .eql x11 (aE 4) h3) fun v4 h4 =>
    qG r n x0 x3 x11 v4 h4)))
noncomputable def aQr (r : RT) (n : Nat) (x0 x3 : DV) (h0 : Hp) : aH :=
 bnd (aB 0 x3 h0) fun v1 h1 =>
 bnd (aA v1 h1) fun v2 h2 =>
  aNc r n x0 x3 v2 h2
noncomputable def xC (r : RT) (n : Nat) (x0 x3 : DV) (h0 : Hp) : aH :=
 bnd (aO x0 h0) fun v1 h1 =>
 bnd (aB 8 v1 h1) fun v2 h2 =>
 bnd (aA v2 h2) fun v3 h3 =>
 bnd (aD .neq v3 (aE 0) h3) fun v4 h4 =>
 aP v4 (
 some (.t [], h4)) (
  aQr r n x0 x3 h4)
noncomputable def s140 (r : RT) (n : Nat) (x0 x1 : DV) (h0 : Hp) : aH :=
 bnd (bQ x1 h0) fun v1 h1 =>
  xC r n x0 v1 h1
noncomputable abbrev c140 : Code := cf Tryz.f140
noncomputable abbrev aIb : Code := cR c140
noncomputable abbrev aGy : Code := cR aIb
noncomputable abbrev aTc : Code := cR aGy
noncomputable abbrev aIq : Code := cL aTc
noncomputable abbrev dAu : Code := cR aIq
noncomputable abbrev bQj : Code := cL aIq
noncomputable abbrev bWy : Code := cL aGy
noncomputable abbrev bIr : Code := cL aIb
noncomputable abbrev aRt : Code := cL c140
noncomputable abbrev r140 : K := aQ CF Tryz.f140
noncomputable def D140 (r : RT) (n : Nat) (c : Code) (X : Nat → K) (k : K) : K := aM CF r 81 n c X r140 k
theorem cGq : D140 r n dAu (xs x0 0 r140) r140 = (K4 (qG r n) 0 3 11 14) :=
 (by kernel_rfl)
theorem bKt : D140 r n aIq (xs x0 0 r140) r140 = D140 r n bQj (xs x0 0 r140) (K4 (qG r n) 0 3 11 14) :=
 congrArg (fun k => D140 r n bQj (xs x0 0 r140) k) (cGq r n)
theorem cHa : D140 r n aTc x0 r140 = (K3 (aNc r n) 0 3 11) :=
 (by kernel_rfl : D140 r n aTc x0 r140 = D140 r n aIq (xs x0 0 r140) r140).trans
 ((bKt r n).trans
 ((by kernel_rfl)))
theorem bYg : D140 r n aGy x0 r140 = D140 r n bWy x0 (K3 (aNc r n) 0 3 11) :=
 congrArg (fun k => D140 r n bWy x0 k) (cHa r n)
theorem cFh : D140 r n aGy x0 r140 = (K2 (aQr r n) 0 3) :=
 (bYg r n).trans
 ((by kernel_rfl))
theorem bZk : D140 r n aIb x0 r140 = D140 r n bIr x0 (K2 (aQr r n) 0 3) :=
 congrArg (fun k => D140 r n bIr x0 k) (cFh r n)
theorem cCe : D140 r n aIb x0 r140 = (K2 (xC r n) 0 3) :=
 (bZk r n).trans
 ((by kernel_rfl))
theorem cXx : D140 r n c140 x0 r140 = D140 r n aRt x0 (K2 (xC r n) 0 3) :=
 congrArg (fun k => D140 r n aRt x0 k) (cCe r n)
theorem cUg (q0 : oF) : D140 r n aRt x0 (K2 q0 0 3) = fun (env : aU) (h : Hp) =>
 bnd (bQ (env 1) h) fun v1 h1 =>
  q0 (env 0) v1 h1 := by kernel_rfl
theorem cDl : (fun (env : aU) (h : Hp) =>
 bnd (bQ (env 1) h) fun v1 h1 =>
  xC r n (env 0) v1 h1) = (K2 (s140 r n) 0 1) := by kernel_rfl
theorem dFk : D140 r n c140 x0 r140 = (K2 (s140 r n) 0 1) :=
 (cXx r n).trans
 ((cUg r n (xC r n)).trans (cDl r n))
theorem cSn : aF CF r n 140 args h = s140 r n (aS args 0) (aS args 1) h :=
 (by kernel_rfl : aF CF r n 140 args h = D140 r n c140 x0 r140 (aI args) h).trans ((congrFun (congrFun (dFk r n) (aI args)) h).trans (by kernel_rfl))
noncomputable def s141 (r : RT) (n : Nat) (x0 x1 x2 x3 : DV) (h0 : Hp) : aH :=
 bnd (aO x0 h0) fun v1 h1 =>
 bnd (aB 0 v1 h1) fun v2 h2 =>
 bnd (aB 5 v2 h2) fun v3 h3 =>
 bnd (aA v3 h3) fun v4 h4 =>
 bnd (bC [(aE 0), (aE 0), (aE 0)] [(0, 1, x1), (1, 1, x2), (2, 1, x3)] h4) fun v5 h5 =>
 bnd (aL [(aE 0), (aE 0), (aE 0)] 1 [(0, 3, v5)] h5) fun v6 h6 =>
 bnd (aZ 3 24 v4 v6 h6) fun v7 h7 =>
 bnd (aO x0 h7) fun v8 h8 =>
 bnd (aB 0 v8 h8) fun v9 h9 =>
 bnd (aB 5 v9 h9) fun v10 h10 =>
 bnd (aG 1 v10 v7 h10) fun _ h11 =>
 some (.t [], h11)
noncomputable abbrev c141 : Code := cf Tryz.f141
noncomputable abbrev r141 : K := aQ CF Tryz.f141
noncomputable def D141 (r : RT) (n : Nat) (c : Code) (X : Nat → K) (k : K) : K := aM CF r 23 n c X r141 k
theorem dIo : D141 r n c141 x0 r141 = (K4 (s141 r n) 0 1 2 3) :=
 (by kernel_rfl)
theorem dCq : aF CF r n 141 args h = s141 r n (aS args 0) (aS args 1) (aS args 2) (aS args 3) h :=
 (by kernel_rfl : aF CF r n 141 args h = D141 r n c141 x0 r141 (aI args) h).trans ((congrFun (congrFun (dIo r n) (aI args)) h).trans (by kernel_rfl))
noncomputable def cE (r : RT) (n : Nat) (x2 x3 : DV) (h0 : Hp) : aH :=
 some (.t [x2, x3], h0)
noncomputable def cN (r : RT) (n : Nat) (x3 : DV) (h0 : Hp) : aH :=
 cE r n (.b true) x3 h0
noncomputable def dJ (r : RT) (n : Nat) (h0 : Hp) : aH :=
 cN r n (.b true) h0
noncomputable def nO (r : RT) (n : Nat) (x2 x3 : DV) (h0 : Hp) : aH :=
 cE r n x2 x3 h0
noncomputable def mC (r : RT) (n : Nat) (x2 x3 x11 : DV) (h0 : Hp) : aH :=
 aP x11 (
  cN r n x3 h0) (
  nO r n x2 x3 h0)
noncomputable def yS (r : RT) (n : Nat) (x2 x3 x4 : DV) (h0 : Hp) : aH :=
 bnd (aD .eql x4 (aE 6) h0) fun v1 h1 =>
 aP v1 (
  mC r n x2 x3 v1 h1) (
 bnd (aD .eql x4 (aE 7) h1) fun v2 h2 =>
 aP v2 (
   mC r n x2 x3 v2 h2) (
 bnd (aD .eql x4 (aE 8) h2) fun v3 h3 =>
 aP v3 (
    mC r n x2 x3 v3 h3) (
 bnd (aD .eql x4 (aE 9) h3) fun v4 h4 =>
 aP v4 (
     mC r n x2 x3 v4 h4) (
 bnd (aD .eql x4 (aE 10) h4) fun v5 h5 =>
 aP v5 (
      mC r n x2 x3 v5 h5) (
 bnd (aD .eql x4 (aE 11) h5) fun v6 h6 =>
      mC r n x2 x3 v6 h6)))))
noncomputable def nY (r : RT) (n : Nat) (x2 x3 x4 x5 : DV) (h0 : Hp) : aH :=
 aP x5 (
  dJ r n h0) (
  yS r n x2 x3 x4 h0)
noncomputable def aTk (r : RT) (n : Nat) (x2 x3 x4 : DV) (h0 : Hp) : aH :=
 bnd (aD .eql x4 (aE 14) h0) fun v1 h1 =>
 aP v1 (
  nY r n x2 x3 x4 v1 h1) (
 bnd (aD .eql x4 (aE 15) h1) fun v2 h2 =>
 aP v2 (
   nY r n x2 x3 x4 v2 h2) (
 bnd (aD .eql x4 (aE 16) h2) fun v3 h3 =>
 aP v3 (
    nY r n x2 x3 x4 v3 h3) (
 bnd (aD .eql x4 (aE 17) h3) fun v4 h4 =>
 aP v4 (
     nY r n x2 x3 x4 v4 h4) (
 bnd (aD .eql x4 (aE 18) h4) fun v5 h5 =>
     nY r n x2 x3 x4 v5 h5))))
noncomputable def aTb (r : RT) (n : Nat) (x0 x2 x3 : DV) (h0 : Hp) : aH :=
 aTk r n x2 x3 x0 h0
noncomputable def s142 (r : RT) (n : Nat) (x0 : DV) (h0 : Hp) : aH :=
 aTb r n x0 (.b false) (.b false) h0
noncomputable abbrev c142 : Code := cf Tryz.f142
noncomputable abbrev aDg : Code := cR c142
noncomputable abbrev dDh : Code := cR aDg
noncomputable abbrev xL : Code := cL aDg
noncomputable abbrev aSy : Code := cR xL
noncomputable abbrev aJg : Code := cL aSy
noncomputable abbrev cTr : Code := cR aJg
noncomputable abbrev aDz : Code := cL aJg
noncomputable abbrev aBv : Code := cL aDz
noncomputable abbrev cYh : Code := cR aBv
noncomputable abbrev tW : Code := cL aBv
noncomputable abbrev sY : Code := cL tW
noncomputable abbrev cQd : Code := cR sY
noncomputable abbrev pE : Code := cL sY
noncomputable abbrev sD : Code := cR pE
noncomputable abbrev cLq : Code := cR sD
noncomputable abbrev bAx : Code := cL sD
noncomputable abbrev oN : Code := cL pE
noncomputable abbrev cGp : Code := cR oN
noncomputable abbrev aYf : Code := cL oN
noncomputable abbrev aXr : Code := cL xL
noncomputable abbrev bAj : Code := cL c142
noncomputable abbrev r142 : K := aQ CF Tryz.f142
noncomputable def D142 (r : RT) (n : Nat) (c : Code) (X : Nat → K) (k : K) : K := aM CF r 20 n c X r142 k
theorem cHr : D142 r n dDh x0 r142 = (K2 (cE r n) 2 3) :=
 (by kernel_rfl)
theorem cGk : D142 r n cTr (xs x0 0 (K2 (cE r n) 2 3)) (K2 (cE r n) 2 3) = (K1 (cN r n) 3) :=
 (by kernel_rfl)
theorem cLf : D142 r n cYh (xs (xs x0 0 (K2 (cE r n) 2 3)) 2 (K1 (cN r n) 3)) (K1 (cN r n) 3) = (K0 (dJ r n)) :=
 (by kernel_rfl)
theorem cDa : D142 r n cQd (xs (xs (xs x0 0 (K2 (cE r n) 2 3)) 2 (K1 (cN r n) 3)) 1 (K0 (dJ r n))) (K0 (dJ r n)) = (K2 (nO r n) 2 3) :=
 (by kernel_rfl)
theorem cEc : D142 r n cLq (xs (xs (xs x0 0 (K2 (cE r n) 2 3)) 2 (K1 (cN r n) 3)) 1 (K0 (dJ r n))) (K2 (nO r n) 2 3) = (K3 (mC r n) 2 3 11) :=
 (by kernel_rfl)
theorem bSp : D142 r n sD (xs (xs (xs x0 0 (K2 (cE r n) 2 3)) 2 (K1 (cN r n) 3)) 1 (K0 (dJ r n))) (K2 (nO r n) 2 3) = D142 r n bAx (xs (xs (xs x0 0 (K2 (cE r n) 2 3)) 2 (K1 (cN r n) 3)) 1 (K0 (dJ r n))) (K3 (mC r n) 2 3 11) :=
 congrArg (fun k => D142 r n bAx (xs (xs (xs x0 0 (K2 (cE r n) 2 3)) 2 (K1 (cN r n) 3)) 1 (K0 (dJ r n))) k) (cEc r n)
theorem cNg : D142 r n sD (xs (xs (xs x0 0 (K2 (cE r n) 2 3)) 2 (K1 (cN r n) 3)) 1 (K0 (dJ r n))) (K2 (nO r n) 2 3) = (K3 (yS r n) 2 3 4) :=
 (bSp r n).trans
 ((by kernel_rfl))
theorem cOq : D142 r n cGp (xs (xs (xs x0 0 (K2 (cE r n) 2 3)) 2 (K1 (cN r n) 3)) 1 (K0 (dJ r n))) (K3 (yS r n) 2 3 4) = (K4 (nY r n) 2 3 4 5) :=
 (by kernel_rfl)
theorem bWr : D142 r n aJg (xs x0 0 (K2 (cE r n) 2 3)) (K2 (cE r n) 2 3) = D142 r n aDz (xs x0 0 (K2 (cE r n) 2 3)) (K1 (cN r n) 3) :=
 congrArg (fun k => D142 r n aDz (xs x0 0 (K2 (cE r n) 2 3)) k) (cGk r n)
theorem bPn : D142 r n aBv (xs (xs x0 0 (K2 (cE r n) 2 3)) 2 (K1 (cN r n) 3)) (K1 (cN r n) 3) = D142 r n tW (xs (xs x0 0 (K2 (cE r n) 2 3)) 2 (K1 (cN r n) 3)) (K0 (dJ r n)) :=
 congrArg (fun k => D142 r n tW (xs (xs x0 0 (K2 (cE r n) 2 3)) 2 (K1 (cN r n) 3)) k) (cLf r n)
theorem bYi : D142 r n sY (xs (xs (xs x0 0 (K2 (cE r n) 2 3)) 2 (K1 (cN r n) 3)) 1 (K0 (dJ r n))) (K0 (dJ r n)) = D142 r n pE (xs (xs (xs x0 0 (K2 (cE r n) 2 3)) 2 (K1 (cN r n) 3)) 1 (K0 (dJ r n))) (K2 (nO r n) 2 3) :=
 congrArg (fun k => D142 r n pE (xs (xs (xs x0 0 (K2 (cE r n) 2 3)) 2 (K1 (cN r n) 3)) 1 (K0 (dJ r n))) k) (cDa r n)
theorem bLf : D142 r n pE (xs (xs (xs x0 0 (K2 (cE r n) 2 3)) 2 (K1 (cN r n) 3)) 1 (K0 (dJ r n))) (K2 (nO r n) 2 3) = D142 r n oN (xs (xs (xs x0 0 (K2 (cE r n) 2 3)) 2 (K1 (cN r n) 3)) 1 (K0 (dJ r n))) (K3 (yS r n) 2 3 4) :=
 congrArg (fun k => D142 r n oN (xs (xs (xs x0 0 (K2 (cE r n) 2 3)) 2 (K1 (cN r n) 3)) 1 (K0 (dJ r n))) k) (cNg r n)
theorem bPp : D142 r n oN (xs (xs (xs x0 0 (K2 (cE r n) 2 3)) 2 (K1 (cN r n) 3)) 1 (K0 (dJ r n))) (K3 (yS r n) 2 3 4) = D142 r n aYf (xs (xs (xs x0 0 (K2 (cE r n) 2 3)) 2 (K1 (cN r n) 3)) 1 (K0 (dJ r n))) (K4 (nY r n) 2 3 4 5) :=
 congrArg (fun k => D142 r n aYf (xs (xs (xs x0 0 (K2 (cE r n) 2 3)) 2 (K1 (cN r n) 3)) 1 (K0 (dJ r n))) k) (cOq r n)
theorem cLa : D142 r n aSy x0 (K2 (cE r n) 2 3) = (K3 (aTk r n) 2 3 4) :=
 (by kernel_rfl : D142 r n aSy x0 (K2 (cE r n) 2 3) = D142 r n aJg (xs x0 0 (K2 (cE r n) 2 3)) (K2 (cE r n) 2 3)).trans
 ((bWr r n).trans
 ((by kernel_rfl : D142 r n aDz (xs x0 0 (K2 (cE r n) 2 3)) (K1 (cN r n) 3) = D142 r n aBv (xs (xs x0 0 (K2 (cE r n) 2 3)) 2 (K1 (cN r n) 3)) (K1 (cN r n) 3)).trans
 ((bPn r n).trans
 ((by kernel_rfl : D142 r n tW (xs (xs x0 0 (K2 (cE r n) 2 3)) 2 (K1 (cN r n) 3)) (K0 (dJ r n)) = D142 r n sY (xs (xs (xs x0 0 (K2 (cE r n) 2 3)) 2 (K1 (cN r n) 3)) 1 (K0 (dJ r n))) (K0 (dJ r n))).trans
 ((bYi r n).trans
 ((bLf r n).trans
 ((bPp r n).trans
 ((by kernel_rfl)))))))))
theorem bTp : D142 r n aDg x0 r142 = D142 r n xL x0 (K2 (cE r n) 2 3) :=
 congrArg (fun k => D142 r n xL x0 k) (cHr r n)
theorem bQx : D142 r n xL x0 (K2 (cE r n) 2 3) = D142 r n aXr x0 (K3 (aTk r n) 2 3 4) :=
 congrArg (fun k => D142 r n aXr x0 k) (cLa r n)
theorem cMb : D142 r n aDg x0 r142 = (K3 (aTb r n) 0 2 3) :=
 (bTp r n).trans
 ((bQx r n).trans
 ((by kernel_rfl)))
theorem cWi : D142 r n c142 x0 r142 = D142 r n bAj x0 (K3 (aTb r n) 0 2 3) :=
 congrArg (fun k => D142 r n bAj x0 k) (cMb r n)
theorem dGe : D142 r n c142 x0 r142 = (K1 (s142 r n) 0) :=
 (cWi r n).trans
 ((by kernel_rfl))
theorem dBb : aF CF r n 142 args h = s142 r n (aS args 0) h :=
 (by kernel_rfl : aF CF r n 142 args h = D142 r n c142 x0 r142 (aI args) h).trans ((congrFun (congrFun (dGe r n) (aI args)) h).trans (by kernel_rfl))
noncomputable def s143 (r : RT) (n : Nat) (x0 x1 : DV) (h0 : Hp) : aH :=
 bnd (aD .eql x0 (aE 0) h0) fun v1 h1 =>
 bnd (gD v1 false (some (x1, h1)) h1) fun v2 h2 =>
 bnd (gD v1 false (some (v2, h2)) h2) fun v3 h3 =>
 bnd (gD v3 true (some (x0, h3)) h3) fun v4 h4 =>
 bnd (gD v3 true (aD .gtr v4 (aE 0) h4) h4) fun v5 h5 =>
 bnd (gD v1 false (aR v3 v5 (.b false) h5) h5) fun v6 h6 =>
 bnd (gD v1 false (some (v6, h6)) h6) fun v7 h7 =>
 bnd (gD v7 true (some (x0, h7)) h7) fun v8 h8 =>
 bnd (gD v7 true (aD .leq v8 (aE 255) h8) h8) fun v9 h9 =>
 bnd (gD v1 false (aR v7 v9 (.b false) h9) h9) fun v10 h10 =>
 bnd (aR v1 (.b true) v10 h10) fun v11 h11 =>
 some (v11, h11)
noncomputable abbrev c143 : Code := cf Tryz.f143
noncomputable abbrev r143 : K := aQ CF Tryz.f143
noncomputable def D143 (r : RT) (n : Nat) (c : Code) (X : Nat → K) (k : K) : K := aM CF r 18 n c X r143 k
theorem dDv : D143 r n c143 x0 r143 = (K2 (s143 r n) 0 1) :=
 (by kernel_rfl)
theorem dCw : aF CF r n 143 args h = s143 r n (aS args 0) (aS args 1) h :=
 (by kernel_rfl : aF CF r n 143 args h = D143 r n c143 x0 r143 (aI args) h).trans ((congrFun (congrFun (dDv r n) (aI args)) h).trans (by kernel_rfl))
noncomputable def eC (r : RT) (n : Nat) (x2 : DV) (h0 : Hp) : aH :=
 bnd (aB 5 x2 h0) fun v1 h1 =>
 bnd (aA v1 h1) fun v2 h2 =>
 bnd (r 173 [v2] h2) fun v3 h3 =>
 bnd (aB 5 x2 h3) fun v4 h4 =>
 bnd (aA v4 h4) fun v5 h5 =>
 bnd (r 174 [v5, v3] h5) fun v6 h6 =>
 bnd (gS .not v6 h6) fun v7 h7 =>
 aP v7 (
 some (.t [.l0, (aE 19)], h7)) (
 bnd (aB 5 x2 h7) fun v8 h8 =>
 bnd (aA v8 h8) fun v9 h9 =>
 bnd (r 175 [v9, v3] h9) fun v10 h10 =>
 bnd (aC 0 v10 h10) fun v11 h11 =>
 bnd (aC 1 v10 h11) fun v12 h12 =>
 bnd (gS .not v12 h12) fun v13 h13 =>
 aP v13 (
 some (.t [.l0, (aE 19)], h13)) (
 some (.t [v11, (aE 0)], h13)))
noncomputable def aDw (r : RT) (n : Nat) (kk7 : cD) (x1 x2 x60 x61 x62 : DV) (h0 : Hp) : aH :=
 bnd (aD .lss x62 x61 h0) fun v1 h1 =>
 aP v1 (
 bnd (aJ 3 x60 x62 h1) fun v2 h2 =>
 bnd (aK 3 v2 h2) fun v3 h3 =>
 bnd (bL [(aE 0), (aE 0), (aE 0)] h3) fun v4 h4 =>
 bnd (aG 3 v4 v3 h4) fun _ h5 =>
 bnd (aK 3 v4 h5) fun v6 h6 =>
 bnd (r 124 [v6] h6) fun v7 h7 =>
 bnd (gS .not v7 h7) fun v8 h8 =>
 bnd (gD v8 false (aK 6 x2 h8) h8) fun v9 h9 =>
 bnd (gD v8 false (aK 3 v4 h9) h9) fun v10 h10 =>
 bnd (gD v8 false (some (x1, h10)) h10) fun v11 h11 =>
 bnd (gD v8 false (r 172 [v9, v10, v11] h11) h11) fun v12 h12 =>
 bnd (gD v8 false (gS .not v12 h12) h12) fun v13 h13 =>
 bnd (aR v8 (.b true) v13 h13) fun v14 h14 =>
 aP v14 (
 some (.t [.l0, (aE 19)], h14)) (
 bnd (aD .add x62 (aE 1) h14) fun v15 h15 =>
    kk7 x1 x2 x60 x61 v15 h15)) (
      eC r n x2 h1)
noncomputable def tA (r : RT) (n : Nat) (m : Nat) : cD :=
 Nat.rec (motive := fun _ => cD) (fun _ _ _ _ _ _ => none) (fun _ ih => aDw r n ih) m
noncomputable def cAr (r : RT) (n : Nat) : cD := tA r n n
noncomputable def aPw (r : RT) (n : Nat) (x1 x2 x60 x61 x62 : DV) (h0 : Hp) : aH :=
 cAr r n x1 x2 x60 x61 x62 h0
noncomputable def aOs (r : RT) (n : Nat) (x1 x2 : DV) (h0 : Hp) : aH :=
 bnd (aB 5 x2 h0) fun v1 h1 =>
 bnd (aA v1 h1) fun v2 h2 =>
 bnd (bV v2 h2) fun v3 h3 =>
  aPw r n x1 x2 v2 v3 (aE 0) h3
noncomputable def aSp (r : RT) (n : Nat) (x1 x2 x6 x7 : DV) (h0 : Hp) : aH :=
 bnd (gS .not x6 h0) fun v1 h1 =>
 bnd (gD v1 false (some (x7, h1)) h1) fun v2 h2 =>
 bnd (aR v1 (.b true) v2 h2) fun v3 h3 =>
 bnd (gD v3 false (aB 4 x2 h3) h3) fun v4 h4 =>
 bnd (gD v3 false (aA v4 h4) h4) fun v5 h5 =>
 bnd (gD v3 false (bV v5 h5) h5) fun v6 h6 =>
 bnd (gD v3 false (aD .gtr v6 (aE 60) h6) h6) fun v7 h7 =>
 bnd (aR v3 (.b true) v7 h7) fun v8 h8 =>
 bnd (gD v8 false (aB 5 x2 h8) h8) fun v9 h9 =>
 bnd (gD v8 false (aA v9 h9) h9) fun v10 h10 =>
 bnd (gD v8 false (bV v10 h10) h10) fun v11 h11 =>
 bnd (gD v8 false (r 168 [v11, (aE 1), (aE 400)] h11) h11) fun v12 h12 =>
 bnd (gD v8 false (gS .not v12 h12) h12) fun v13 h13 =>
 bnd (aR v8 (.b true) v13 h13) fun v14 h14 =>
 aP v14 (
 some (.t [.l0, (aE 19)], h14)) (
  aOs r n x1 x2 h14)
noncomputable def aTy (r : RT) (n : Nat) (x1 x2 x6 : DV) (h0 : Hp) : aH :=
 bnd (aB 4 x2 h0) fun v1 h1 =>
 bnd (aA v1 h1) fun v2 h2 =>
 bnd (r 169 [v2, (.f 170 [] [])] h2) fun v3 h3 =>
  aSp r n x1 x2 x6 v3 h3
noncomputable def wQ (r : RT) (n : Nat) (x1 x2 : DV) (h0 : Hp) : aH :=
 bnd (r 168 [x1, (aE 0), (aE 8)] h0) fun v1 h1 =>
 bnd (gD v1 true (aB 0 x2 h1) h1) fun v2 h2 =>
 bnd (gD v1 true (aA v2 h2) h2) fun v3 h3 =>
 bnd (gD v1 true (dR v3 h3) h3) fun v4 h4 =>
 bnd (gD v1 true (r 168 [v4, (aE 1), (aE 60)] h4) h4) fun v5 h5 =>
 bnd (aR v1 v5 (.b false) h5) fun v6 h6 =>
 bnd (gD v6 true (aB 1 x2 h6) h6) fun v7 h7 =>
 bnd (gD v6 true (aA v7 h7) h7) fun v8 h8 =>
 bnd (gD v6 true (r 168 [v8, (aE 0), (aE 4)] h8) h8) fun v9 h9 =>
 bnd (aR v6 v9 (.b false) h9) fun v10 h10 =>
 bnd (gD v10 true (aB 2 x2 h10) h10) fun v11 h11 =>
 bnd (gD v10 true (aA v11 h11) h11) fun v12 h12 =>
 bnd (gD v10 true (aB 1 x2 h12) h12) fun v13 h13 =>
 bnd (gD v10 true (aA v13 h13) h13) fun v14 h14 =>
 bnd (gD v10 true (r 168 [v12, v14, (aE 24)] h14) h14) fun v15 h15 =>
 bnd (aR v10 v15 (.b false) h15) fun v16 h16 =>
 bnd (gD v16 true (aB 3 x2 h16) h16) fun v17 h17 =>
 bnd (gD v16 true (aA v17 h17) h17) fun v18 h18 =>
 bnd (gD v16 true (r 168 [v18, (aE 0), (aE 255)] h18) h18) fun v19 h19 =>
 bnd (aR v16 v19 (.b false) h19) fun v20 h20 =>
  aTy r n x1 x2 v20 h20
noncomputable def s144 (r : RT) (n : Nat) (x0 x1 : DV) (h0 : Hp) : aH :=
 bnd (bQ x0 h0) fun v1 h1 =>
  wQ r n x1 v1 h1
noncomputable abbrev c144 : Code := cf Tryz.f144
noncomputable abbrev aGh : Code := cR c144
noncomputable abbrev aIp : Code := cR aGh
noncomputable abbrev aFy : Code := cR aIp
noncomputable abbrev aDx : Code := cR aFy
noncomputable abbrev cUv : Code := cR aDx
noncomputable abbrev yW : Code := cL aDx
noncomputable abbrev aOi : Code := cR yW
noncomputable abbrev aBy : Code := cL aOi
noncomputable abbrev lY : Code := cL aBy
noncomputable abbrev aVo : Code := cL yW
noncomputable abbrev aWl : Code := cL aFy
noncomputable abbrev bAh : Code := cL aIp
noncomputable abbrev aWz : Code := cL aGh
noncomputable abbrev aBo : Code := cL c144
noncomputable abbrev r144 : K := aQ CF Tryz.f144
noncomputable def D144 (r : RT) (n : Nat) (c : Code) (X : Nat → K) (k : K) : K := aM CF r 95 n c X r144 k
theorem cHl : D144 r n cUv x0 r144 = (K1 (eC r n) 2) :=
 (by kernel_rfl)
theorem bZr (kk7 : cD) (q0 : TT1) : D144 r n lY (xs x0 0 (K1 q0 2)) (K5 kk7 1 2 60 61 62) = fun (env : aU) (h : Hp) =>
 bnd (aD .lss (env 62) (env 61) h) fun v1 h1 =>
 aP v1 (
 bnd (aJ 3 (env 60) (env 62) h1) fun v2 h2 =>
 bnd (aK 3 v2 h2) fun v3 h3 =>
 bnd (bL [(aE 0), (aE 0), (aE 0)] h3) fun v4 h4 =>
 bnd (aG 3 v4 v3 h4) fun _ h5 =>
 bnd (aK 3 v4 h5) fun v6 h6 =>
 bnd (r 124 [v6] h6) fun v7 h7 =>
 bnd (gS .not v7 h7) fun v8 h8 =>
 bnd (gD v8 false (aK 6 (env 2) h8) h8) fun v9 h9 =>
 bnd (gD v8 false (aK 3 v4 h9) h9) fun v10 h10 =>
 bnd (gD v8 false (some ((env 1), h10)) h10) fun v11 h11 =>
 bnd (gD v8 false (r 172 [v9, v10, v11] h11) h11) fun v12 h12 =>
 bnd (gD v8 false (gS .not v12 h12) h12) fun v13 h13 =>
 bnd (aR v8 (.b true) v13 h13) fun v14 h14 =>
 aP v14 (
 some (.t [.l0, (aE 19)], h14)) (
 bnd (aD .add (env 62) (aE 1) h14) fun v15 h15 =>
    kk7 (env 1) (env 2) (env 60) (env 61) v15 h15)) (
      q0 (env 2) h1) := by kernel_rfl
theorem bGe (kk7 : cD) : (fun (env : aU) (h : Hp) =>
 bnd (aD .lss (env 62) (env 61) h) fun v1 h1 =>
 aP v1 (
 bnd (aJ 3 (env 60) (env 62) h1) fun v2 h2 =>
 bnd (aK 3 v2 h2) fun v3 h3 =>
 bnd (bL [(aE 0), (aE 0), (aE 0)] h3) fun v4 h4 =>
 bnd (aG 3 v4 v3 h4) fun _ h5 =>
 bnd (aK 3 v4 h5) fun v6 h6 =>
 bnd (r 124 [v6] h6) fun v7 h7 =>
 bnd (gS .not v7 h7) fun v8 h8 =>
 bnd (gD v8 false (aK 6 (env 2) h8) h8) fun v9 h9 =>
 bnd (gD v8 false (aK 3 v4 h9) h9) fun v10 h10 =>
 bnd (gD v8 false (some ((env 1), h10)) h10) fun v11 h11 =>
 bnd (gD v8 false (r 172 [v9, v10, v11] h11) h11) fun v12 h12 =>
 bnd (gD v8 false (gS .not v12 h12) h12) fun v13 h13 =>
 bnd (aR v8 (.b true) v13 h13) fun v14 h14 =>
 aP v14 (
 some (.t [.l0, (aE 19)], h14)) (
 bnd (aD .add (env 62) (aE 1) h14) fun v15 h15 =>
    kk7 (env 1) (env 2) (env 60) (env 61) v15 h15)) (
      eC r n (env 2) h1)) = (K5 (aDw r n kk7) 1 2 60 61 62) := by kernel_rfl
theorem bKn (kk7 : cD) : D144 r n lY (xs x0 0 (K1 (eC r n) 2)) (K5 kk7 1 2 60 61 62) = (K5 (aDw r n kk7) 1 2 60 61 62) :=
 (bZr r n kk7 (eC r n)).trans (bGe r n kk7)
theorem bRk (m : Nat) : aN (fun kk => D144 r n lY (xs x0 0 (K1 (eC r n) 2)) kk) m = (K5 (tA r n m) 1 2 60 61 62) := by
 induction m with
 | zero => exact (by kernel_rfl : aN (fun kk => D144 r n lY (xs x0 0 (K1 (eC r n) 2)) kk) 0 = (K5 (tA r n 0) 1 2 60 61 62))
 | succ m ih =>
  refine (by kernel_rfl : aN (fun kk => D144 r n lY (xs x0 0 (K1 (eC r n) 2)) kk) (m + 1) = D144 r n lY (xs x0 0 (K1 (eC r n) 2)) (aN (fun kk => D144 r n lY (xs x0 0 (K1 (eC r n) 2)) kk) m)).trans ?_
  rw [ih]
  exact (bKn r n (tA r n m)).trans (by kernel_rfl)
theorem cEz : D144 r n aBy (xs x0 0 (K1 (eC r n) 2)) (K1 (eC r n) 2) = (K5 (cAr r n) 1 2 60 61 62) :=
 (by kernel_rfl : D144 r n aBy (xs x0 0 (K1 (eC r n) 2)) (K1 (eC r n) 2) = aN (fun kk => D144 r n lY (xs x0 0 (K1 (eC r n) 2)) kk) n).trans ((bRk r n n).trans (by kernel_rfl))
theorem cPl : D144 r n aOi x0 (K1 (eC r n) 2) = (K5 (aPw r n) 1 2 60 61 62) :=
 (by kernel_rfl : D144 r n aOi x0 (K1 (eC r n) 2) = D144 r n aBy (xs x0 0 (K1 (eC r n) 2)) (K1 (eC r n) 2)).trans
 ((cEz r n).trans (by kernel_rfl))
theorem bMc : D144 r n aDx x0 r144 = D144 r n yW x0 (K1 (eC r n) 2) :=
 congrArg (fun k => D144 r n yW x0 k) (cHl r n)
theorem bSe : D144 r n yW x0 (K1 (eC r n) 2) = D144 r n aVo x0 (K5 (aPw r n) 1 2 60 61 62) :=
 congrArg (fun k => D144 r n aVo x0 k) (cPl r n)
theorem cKx : D144 r n aDx x0 r144 = (K2 (aOs r n) 1 2) :=
 (bMc r n).trans
 ((bSe r n).trans
 ((by kernel_rfl)))
theorem bYr : D144 r n aFy x0 r144 = D144 r n aWl x0 (K2 (aOs r n) 1 2) :=
 congrArg (fun k => D144 r n aWl x0 k) (cKx r n)
theorem cMd : D144 r n aFy x0 r144 = (K4 (aSp r n) 1 2 6 7) :=
 (bYr r n).trans
 ((by kernel_rfl))
theorem bHj : D144 r n aIp x0 r144 = D144 r n bAh x0 (K4 (aSp r n) 1 2 6 7) :=
 congrArg (fun k => D144 r n bAh x0 k) (cMd r n)
theorem cEr : D144 r n aIp x0 r144 = (K3 (aTy r n) 1 2 6) :=
 (bHj r n).trans
 ((by kernel_rfl))
theorem bGf : D144 r n aGh x0 r144 = D144 r n aWz x0 (K3 (aTy r n) 1 2 6) :=
 congrArg (fun k => D144 r n aWz x0 k) (cEr r n)
theorem cJy : D144 r n aGh x0 r144 = (K2 (wQ r n) 1 2) :=
 (bGf r n).trans
 ((by kernel_rfl))
theorem cUj : D144 r n c144 x0 r144 = D144 r n aBo x0 (K2 (wQ r n) 1 2) :=
 congrArg (fun k => D144 r n aBo x0 k) (cJy r n)
theorem cZb (q0 : oF) : D144 r n aBo x0 (K2 q0 1 2) = fun (env : aU) (h : Hp) =>
 bnd (bQ (env 0) h) fun v1 h1 =>
  q0 (env 1) v1 h1 := by kernel_rfl
theorem cLh : (fun (env : aU) (h : Hp) =>
 bnd (bQ (env 0) h) fun v1 h1 =>
  wQ r n (env 1) v1 h1) = (K2 (s144 r n) 0 1) := by kernel_rfl
theorem dGq : D144 r n c144 x0 r144 = (K2 (s144 r n) 0 1) :=
 (cUj r n).trans
 ((cZb r n (wQ r n)).trans (cLh r n))
theorem cZm : aF CF r n 144 args h = s144 r n (aS args 0) (aS args 1) h :=
 (by kernel_rfl : aF CF r n 144 args h = D144 r n c144 x0 r144 (aI args) h).trans ((congrFun (congrFun (dGq r n) (aI args)) h).trans (by kernel_rfl))
noncomputable def s145 (r : RT) (n : Nat) (x0 x1 : DV) (h0 : Hp) : aH :=
 bnd (aA x1 h0) fun v1 h1 =>
 bnd (r 131 [v1, x0] h1) fun v2 h2 =>
 bnd (aD .geq v2 (aE 0) h2) fun v3 h3 =>
 some (v3, h3)
noncomputable abbrev c145 : Code := cf Tryz.f145
noncomputable abbrev r145 : K := aQ CF Tryz.f145
noncomputable def D145 (r : RT) (n : Nat) (c : Code) (X : Nat → K) (k : K) : K := aM CF r 8 n c X r145 k
theorem dGi : D145 r n c145 x0 r145 = (K2 (s145 r n) 0 1) :=
 (by kernel_rfl)
theorem cZk : aF CF r n 145 args h = s145 r n (aS args 0) (aS args 1) h :=
 (by kernel_rfl : aF CF r n 145 args h = D145 r n c145 x0 r145 (aI args) h).trans ((congrFun (congrFun (dGi r n) (aI args)) h).trans (by kernel_rfl))
noncomputable def s146 (r : RT) (n : Nat) (x0 x1 : DV) (h0 : Hp) : aH :=
 bnd (lN [x0, x1] h0) fun v1 h1 =>
 some (v1, h1)
noncomputable abbrev c146 : Code := cf Tryz.f146
noncomputable abbrev r146 : K := aQ CF Tryz.f146
noncomputable def D146 (r : RT) (n : Nat) (c : Code) (X : Nat → K) (k : K) : K := aM CF r 8 n c X r146 k
theorem dEm : D146 r n c146 x0 r146 = (K2 (s146 r n) 0 1) :=
 (by kernel_rfl)
theorem cUb : aF CF r n 146 args h = s146 r n (aS args 0) (aS args 1) h :=
 (by kernel_rfl : aF CF r n 146 args h = D146 r n c146 x0 r146 (aI args) h).trans ((congrFun (congrFun (dEm r n) (aI args)) h).trans (by kernel_rfl))
noncomputable def s147 (r : RT) (n : Nat) (x0 x1 : DV) (h0 : Hp) : aH :=
 bnd (aO x0 h0) fun v1 h1 =>
 bnd (aB 1 v1 h1) fun v2 h2 =>
 bnd (aA v2 h2) fun v3 h3 =>
 bnd (aD .add v3 x1 h3) fun v4 h4 =>
 bnd (aO x0 h4) fun v5 h5 =>
 bnd (aB 0 v5 h5) fun v6 h6 =>
 bnd (aA v6 h6) fun v7 h7 =>
 bnd (dR v7 h7) fun v8 h8 =>
 bnd (aD .geq v4 v8 h8) fun v9 h9 =>
 aP v9 (
 some ((.i .u8 (Int.ofNat 0)), h9)) (
 bnd (aO x0 h9) fun v10 h10 =>
 bnd (aB 0 v10 h10) fun v11 h11 =>
 bnd (aA v11 h11) fun v12 h12 =>
 bnd (aO x0 h12) fun v13 h13 =>
 bnd (aB 1 v13 h13) fun v14 h14 =>
 bnd (aA v14 h14) fun v15 h15 =>
 bnd (aD .add v15 x1 h15) fun v16 h16 =>
 bnd (fD v12 v16 h16) fun v17 h17 =>
 some (v17, h17))
noncomputable abbrev c147 : Code := cf Tryz.f147
noncomputable abbrev r147 : K := aQ CF Tryz.f147
noncomputable def D147 (r : RT) (n : Nat) (c : Code) (X : Nat → K) (k : K) : K := aM CF r 28 n c X r147 k
theorem dJj : D147 r n c147 x0 r147 = (K2 (s147 r n) 0 1) :=
 (by kernel_rfl)
theorem cWp : aF CF r n 147 args h = s147 r n (aS args 0) (aS args 1) h :=
 (by kernel_rfl : aF CF r n 147 args h = D147 r n c147 x0 r147 (aI args) h).trans ((congrFun (congrFun (dJj r n) (aI args)) h).trans (by kernel_rfl))
noncomputable def s148 (r : RT) (n : Nat) (x0 : DV) (h0 : Hp) : aH :=
 bnd (aD .geq x0 (.i .u8 (Int.ofNat 97)) h0) fun v1 h1 =>
 bnd (gD v1 true (some (x0, h1)) h1) fun v2 h2 =>
 bnd (gD v1 true (aD .leq v2 (.i .u8 (Int.ofNat 122)) h2) h2) fun v3 h3 =>
 bnd (aR v1 v3 (.b false) h3) fun v4 h4 =>
 bnd (gD v4 false (some (x0, h4)) h4) fun v5 h5 =>
 bnd (gD v4 false (aD .geq v5 (.i .u8 (Int.ofNat 65)) h5) h5) fun v6 h6 =>
 bnd (gD v4 false (some (v6, h6)) h6) fun v7 h7 =>
 bnd (gD v7 true (some (x0, h7)) h7) fun v8 h8 =>
 bnd (gD v7 true (aD .leq v8 (.i .u8 (Int.ofNat 90)) h8) h8) fun v9 h9 =>
 bnd (gD v4 false (aR v7 v9 (.b false) h9) h9) fun v10 h10 =>
 bnd (aR v4 (.b true) v10 h10) fun v11 h11 =>
 some (v11, h11)
noncomputable abbrev c148 : Code := cf Tryz.f148
noncomputable abbrev r148 : K := aQ CF Tryz.f148
noncomputable def D148 (r : RT) (n : Nat) (c : Code) (X : Nat → K) (k : K) : K := aM CF r 17 n c X r148 k
theorem dJp : D148 r n c148 x0 r148 = (K1 (s148 r n) 0) :=
 (by kernel_rfl)
theorem dCj : aF CF r n 148 args h = s148 r n (aS args 0) h :=
 (by kernel_rfl : aF CF r n 148 args h = D148 r n c148 x0 r148 (aI args) h).trans ((congrFun (congrFun (dJp r n) (aI args)) h).trans (by kernel_rfl))
noncomputable def s149 (r : RT) (n : Nat) (x0 : DV) (h0 : Hp) : aH :=
 bnd (aO x0 h0) fun v1 h1 =>
 bnd (aB 0 v1 h1) fun v2 h2 =>
 bnd (aA v2 h2) fun v3 h3 =>
 bnd (dR v3 h3) fun v4 h4 =>
 bnd (r 129 [x0, (.f 177 [] []), v4] h4) fun v5 h5 =>
 bnd (dR v5 h5) fun v6 h6 =>
 bnd (aD .gtr v6 (aE 24) h6) fun v7 h7 =>
 aP v7 (
 some (.t [(.s []), (aE 12)], h7)) (
 some (.t [v5, (aE 0)], h7))
noncomputable abbrev c149 : Code := cf Tryz.f149
noncomputable abbrev r149 : K := aQ CF Tryz.f149
noncomputable def D149 (r : RT) (n : Nat) (c : Code) (X : Nat → K) (k : K) : K := aM CF r 16 n c X r149 k
theorem dKn : D149 r n c149 x0 r149 = (K1 (s149 r n) 0) :=
 (by kernel_rfl)
theorem cYg : aF CF r n 149 args h = s149 r n (aS args 0) h :=
 (by kernel_rfl : aF CF r n 149 args h = D149 r n c149 x0 r149 (aI args) h).trans ((congrFun (congrFun (dKn r n) (aI args)) h).trans (by kernel_rfl))
noncomputable def s150 (r : RT) (n : Nat) (x0 : DV) (h0 : Hp) : aH :=
 bnd (r 147 [x0, (aE 0)] h0) fun v1 h1 =>
 bnd (aD .neq v1 (.i .u8 (Int.ofNat 58)) h1) fun v2 h2 =>
 bnd (gD v2 false (some (x0, h2)) h2) fun v3 h3 =>
 bnd (gD v2 false (r 147 [v3, (aE 1)] h3) h3) fun v4 h4 =>
 bnd (gD v2 false (aD .eql v4 (.i .u8 (Int.ofNat 61)) h4) h4) fun v5 h5 =>
 bnd (aR v2 (.b true) v5 h5) fun v6 h6 =>
 aP v6 (
 some ((.b false), h6)) (
 bnd (aO x0 h6) fun v7 h7 =>
 bnd (aB 1 v7 h7) fun v8 h8 =>
 bnd (aA v8 h8) fun v9 h9 =>
 bnd (aD .add v9 (aE 1) h9) fun v10 h10 =>
 bnd (aO x0 h10) fun v11 h11 =>
 bnd (aB 1 v11 h11) fun v12 h12 =>
 bnd (aG 1 v12 v10 h12) fun _ h13 =>
 some ((.b true), h13))
noncomputable abbrev c150 : Code := cf Tryz.f150
noncomputable abbrev r150 : K := aQ CF Tryz.f150
noncomputable def D150 (r : RT) (n : Nat) (c : Code) (X : Nat → K) (k : K) : K := aM CF r 18 n c X r150 k
theorem dKp : D150 r n c150 x0 r150 = (K1 (s150 r n) 0) :=
 (by kernel_rfl)
theorem cTk : aF CF r n 150 args h = s150 r n (aS args 0) h :=
 (by kernel_rfl : aF CF r n 150 args h = D150 r n c150 x0 r150 (aI args) h).trans ((congrFun (congrFun (dKp r n) (aI args)) h).trans (by kernel_rfl))
noncomputable def s151 (r : RT) (n : Nat) (x0 : DV) (h0 : Hp) : aH :=
 bnd (aD .geq x0 (.i .u8 (Int.ofNat 48)) h0) fun v1 h1 =>
 bnd (gD v1 true (some (x0, h1)) h1) fun v2 h2 =>
 bnd (gD v1 true (aD .leq v2 (.i .u8 (Int.ofNat 57)) h2) h2) fun v3 h3 =>
 bnd (aR v1 v3 (.b false) h3) fun v4 h4 =>
 some (v4, h4)
noncomputable abbrev c151 : Code := cf Tryz.f151
noncomputable abbrev r151 : K := aQ CF Tryz.f151
noncomputable def D151 (r : RT) (n : Nat) (c : Code) (X : Nat → K) (k : K) : K := aM CF r 9 n c X r151 k
theorem dHk : D151 r n c151 x0 r151 = (K1 (s151 r n) 0) :=
 (by kernel_rfl)
theorem cSd : aF CF r n 151 args h = s151 r n (aS args 0) h :=
 (by kernel_rfl : aF CF r n 151 args h = D151 r n c151 x0 r151 (aI args) h).trans ((congrFun (congrFun (dHk r n) (aI args)) h).trans (by kernel_rfl))
noncomputable def eK (r : RT) (n : Nat) (x4 : DV) (h0 : Hp) : aH :=
 some (.t [x4, (aE 0)], h0)
noncomputable def aXx (r : RT) (n : Nat) (kk5 : oF) (x4 x14 : DV) (h0 : Hp) : aH :=
 bnd (xD x14 h0) fun v1 h1 =>
 bnd (aC 0 v1 h1) fun v2 h2 =>
 aP v2 (
 bnd (aC 2 v1 h2) fun v3 h3 =>
 bnd (aD .gtr x4 (aE 115292150460684697) h3) fun v4 h4 =>
 aP v4 (
 some (.t [(aE 0), (aE 2)], h4)) (
 bnd (aD .mul x4 (aE 10) h4) fun v5 h5 =>
 bnd (aD .sub v3 (.i .i32 (Int.ofNat 48)) h5) fun v6 h6 =>
 bnd (dW .i64 v6 h6) fun v7 h7 =>
 bnd (aD .add v5 v7 h7) fun v8 h8 =>
 bnd (aD .gtr v8 (aE 1152921504606846976) h8) fun v9 h9 =>
 aP v9 (
 some (.t [(aE 0), (aE 2)], h9)) (
     kk5 v8 x14 h9))) (
   eK r n x4 h2)
noncomputable def rV (r : RT) (n : Nat) (m : Nat) : oF :=
 Nat.rec (motive := fun _ => oF) (fun _ _ _ => none) (fun _ ih => aXx r n ih) m
noncomputable def bOr (r : RT) (n : Nat) : oF := rV r n n
noncomputable def aOj (r : RT) (n : Nat) (x4 x14 : DV) (h0 : Hp) : aH :=
 bOr r n x4 x14 h0
noncomputable def aPv (r : RT) (n : Nat) (x0 x4 : DV) (h0 : Hp) : aH :=
 bnd (aO x0 h0) fun v1 h1 =>
 bnd (aB 0 v1 h1) fun v2 h2 =>
 bnd (aA v2 h2) fun v3 h3 =>
 bnd (dR v3 h3) fun v4 h4 =>
 bnd (r 129 [x0, (.f 151 [] []), v4] h4) fun v5 h5 =>
 bnd (nI v5 h5) fun v6 h6 =>
  aOj r n x4 v6 h6
noncomputable def aTi (r : RT) (n : Nat) (x0 : DV) (h0 : Hp) : aH :=
 aPv r n x0 (aE 0) h0
noncomputable def s152 (r : RT) (n : Nat) (x0 : DV) (h0 : Hp) : aH :=
 aTi r n x0 h0
noncomputable abbrev c152 : Code := cf Tryz.f152
noncomputable abbrev aHt : Code := cR c152
noncomputable abbrev aGm : Code := cR aHt
noncomputable abbrev cXm : Code := cR aGm
noncomputable abbrev wH : Code := cL aGm
noncomputable abbrev aQp : Code := cR wH
noncomputable abbrev aIt : Code := cL aQp
noncomputable abbrev nQ : Code := cL aIt
noncomputable abbrev bZg : Code := cL wH
noncomputable abbrev bKz : Code := cL aHt
noncomputable abbrev aZb : Code := cL c152
noncomputable abbrev r152 : K := aQ CF Tryz.f152
noncomputable def D152 (r : RT) (n : Nat) (c : Code) (X : Nat → K) (k : K) : K := aM CF r 29 n c X r152 k
theorem cFp : D152 r n cXm x0 r152 = (K1 (eK r n) 4) :=
 (by kernel_rfl)
theorem bRv (kk5 : oF) : D152 r n nQ (xs x0 0 (K1 (eK r n) 4)) (K2 kk5 4 14) = (K2 (aXx r n kk5) 4 14) :=
 (by kernel_rfl)
theorem bSu (m : Nat) : aN (fun kk => D152 r n nQ (xs x0 0 (K1 (eK r n) 4)) kk) m = (K2 (rV r n m) 4 14) := by
 induction m with
 | zero => exact (by kernel_rfl : aN (fun kk => D152 r n nQ (xs x0 0 (K1 (eK r n) 4)) kk) 0 = (K2 (rV r n 0) 4 14))
 | succ m ih =>
  refine (by kernel_rfl : aN (fun kk => D152 r n nQ (xs x0 0 (K1 (eK r n) 4)) kk) (m + 1) = D152 r n nQ (xs x0 0 (K1 (eK r n) 4)) (aN (fun kk => D152 r n nQ (xs x0 0 (K1 (eK r n) 4)) kk) m)).trans ?_
  rw [ih]
  exact (bRv r n (rV r n m)).trans (by kernel_rfl)
theorem cGy : D152 r n aIt (xs x0 0 (K1 (eK r n) 4)) (K1 (eK r n) 4) = (K2 (bOr r n) 4 14) :=
 (by kernel_rfl : D152 r n aIt (xs x0 0 (K1 (eK r n) 4)) (K1 (eK r n) 4) = aN (fun kk => D152 r n nQ (xs x0 0 (K1 (eK r n) 4)) kk) n).trans ((bSu r n n).trans (by kernel_rfl))
theorem cJd : D152 r n aQp x0 (K1 (eK r n) 4) = (K2 (aOj r n) 4 14) :=
 (by kernel_rfl : D152 r n aQp x0 (K1 (eK r n) 4) = D152 r n aIt (xs x0 0 (K1 (eK r n) 4)) (K1 (eK r n) 4)).trans
 ((cGy r n).trans (by kernel_rfl))
theorem bWz : D152 r n aGm x0 r152 = D152 r n wH x0 (K1 (eK r n) 4) :=
 congrArg (fun k => D152 r n wH x0 k) (cFp r n)
theorem bKa : D152 r n wH x0 (K1 (eK r n) 4) = D152 r n bZg x0 (K2 (aOj r n) 4 14) :=
 congrArg (fun k => D152 r n bZg x0 k) (cJd r n)
theorem cEw : D152 r n aGm x0 r152 = (K2 (aPv r n) 0 4) :=
 (bWz r n).trans
 ((bKa r n).trans
 ((by kernel_rfl)))
theorem bXs : D152 r n aHt x0 r152 = D152 r n bKz x0 (K2 (aPv r n) 0 4) :=
 congrArg (fun k => D152 r n bKz x0 k) (cEw r n)
theorem cEj : D152 r n aHt x0 r152 = (K1 (aTi r n) 0) :=
 (bXs r n).trans
 ((by kernel_rfl))
theorem cRy : D152 r n c152 x0 r152 = D152 r n aZb x0 (K1 (aTi r n) 0) :=
 congrArg (fun k => D152 r n aZb x0 k) (cEj r n)
theorem dIp : D152 r n c152 x0 r152 = (K1 (s152 r n) 0) :=
 (cRy r n).trans
 ((by kernel_rfl))
theorem cXy : aF CF r n 152 args h = s152 r n (aS args 0) h :=
 (by kernel_rfl : aF CF r n 152 args h = D152 r n c152 x0 r152 (aI args) h).trans ((congrFun (congrFun (dIp r n) (aI args)) h).trans (by kernel_rfl))
end Go.Dd

namespace Go.Dd
open Go.Proofs
variable (r : RT) (n : Nat) (args : List DV) (h : Hp)
noncomputable def s156 (r : RT) (n : Nat) (x0 x1 : DV) (h0 : Hp) : aH :=
 bnd (bQ x1 h0) fun v1 h1 =>
 bnd (bL [(.s []), (.b false), (.b false), (aE 0)] h1) fun v2 h2 =>
 bnd (aO x0 h2) fun v3 h3 =>
 bnd (aB 6 v3 h3) fun v4 h4 =>
 bnd (aA v4 h4) fun v5 h5 =>
 bnd (r 185 [v5, (.f 186 [] [v1])] h5) fun v6 h6 =>
 bnd (aD .lss v6 (aE 0) h6) fun v7 h7 =>
 aP v7 (
 bnd (bC [(.s []), (.b false), (.b false), (aE 0)] [] h7) fun v8 h8 =>
 bnd (aG 4 v2 v8 h8) fun _ h9 =>
 bnd (aK 4 v2 h9) fun v10 _ =>
 some (.t [v10, (.b false)], h9)) (
 bnd (aO x0 h7) fun v11 h11 =>
 bnd (aB 6 v11 h11) fun v12 h12 =>
 bnd (aA v12 h12) fun v13 h13 =>
 bnd (aJ 4 v13 v6 h13) fun v14 h14 =>
 bnd (aK 4 v14 h14) fun v15 h15 =>
 bnd (aG 4 v2 v15 h15) fun _ h16 =>
 bnd (aK 4 v2 h16) fun v17 _ =>
 some (.t [v17, (.b true)], h16))
noncomputable abbrev c156 : Code := cf Tryz.f156
noncomputable abbrev r156 : K := aQ CF Tryz.f156
noncomputable def D156 (r : RT) (n : Nat) (c : Code) (X : Nat → K) (k : K) : K := aM CF r 23 n c X r156 k
theorem dKq : D156 r n c156 x0 r156 = (K2 (s156 r n) 0 1) :=
 (by kernel_rfl)
theorem dBa : aF CF r n 156 args h = s156 r n (aS args 0) (aS args 1) h :=
 (by kernel_rfl : aF CF r n 156 args h = D156 r n c156 x0 r156 (aI args) h).trans ((congrFun (congrFun (dKq r n) (aI args)) h).trans (by kernel_rfl))
noncomputable def gH (r : RT) (n : Nat) (h0 : Hp) : aH :=
 some ((.b false), h0)
noncomputable def lQ (r : RT) (n : Nat) (x4 : DV) (h0 : Hp) : aH :=
 aP x4 (
 some ((.b true), h0)) (
  gH r n h0)
noncomputable def aOu (r : RT) (n : Nat) (x3 : DV) (h0 : Hp) : aH :=
 bnd (fH .eql x3 (.s [115, 101, 108, 102]) h0) fun v1 h1 =>
 aP v1 (
  lQ r n v1 h1) (
 bnd (fH .eql x3 (.s [115, 117, 112, 101, 114]) h1) fun v2 h2 =>
 aP v2 (
   lQ r n v2 h2) (
 bnd (fH .eql x3 (.s [110, 105, 108]) h2) fun v3 h3 =>
 aP v3 (
    lQ r n v3 h3) (
 bnd (fH .eql x3 (.s [116, 114, 117, 101]) h3) fun v4 h4 =>
 aP v4 (
     lQ r n v4 h4) (
 bnd (fH .eql x3 (.s [102, 97, 108, 115, 101]) h4) fun v5 h5 =>
 aP v5 (
      lQ r n v5 h5) (
 bnd (fH .eql x3 (.s [116, 104, 105, 115, 67, 111, 110, 116, 101, 120, 116]) h5) fun v6 h6 =>
      lQ r n v6 h6)))))
noncomputable def aNe (r : RT) (n : Nat) (x0 : DV) (h0 : Hp) : aH :=
 aOu r n x0 h0
noncomputable def s157 (r : RT) (n : Nat) (x0 : DV) (h0 : Hp) : aH :=
 aNe r n x0 h0
noncomputable abbrev c157 : Code := cf Tryz.f157
noncomputable abbrev aIz : Code := cR c157
noncomputable abbrev cZv : Code := cR aIz
noncomputable abbrev xW : Code := cL aIz
noncomputable abbrev aOc : Code := cR xW
noncomputable abbrev aJb : Code := cL aOc
noncomputable abbrev cRx : Code := cR aJb
noncomputable abbrev bHz : Code := cL aJb
noncomputable abbrev bQq : Code := cL xW
noncomputable abbrev bLv : Code := cL c157
noncomputable abbrev r157 : K := aQ CF Tryz.f157
noncomputable def D157 (r : RT) (n : Nat) (c : Code) (X : Nat → K) (k : K) : K := aM CF r 11 n c X r157 k
theorem cCz : D157 r n cZv x0 r157 = (K0 (gH r n)) :=
 (by kernel_rfl)
theorem cIf : D157 r n cRx (xs x0 0 (K0 (gH r n))) (K0 (gH r n)) = (K1 (lQ r n) 4) :=
 (by kernel_rfl)
theorem bJy : D157 r n aJb (xs x0 0 (K0 (gH r n))) (K0 (gH r n)) = D157 r n bHz (xs x0 0 (K0 (gH r n))) (K1 (lQ r n) 4) :=
 congrArg (fun k => D157 r n bHz (xs x0 0 (K0 (gH r n))) k) (cIf r n)
theorem cMi : D157 r n aOc x0 (K0 (gH r n)) = (K1 (aOu r n) 3) :=
 (by kernel_rfl : D157 r n aOc x0 (K0 (gH r n)) = D157 r n aJb (xs x0 0 (K0 (gH r n))) (K0 (gH r n))).trans
 ((bJy r n).trans
 ((by kernel_rfl)))
theorem bYc : D157 r n aIz x0 r157 = D157 r n xW x0 (K0 (gH r n)) :=
 congrArg (fun k => D157 r n xW x0 k) (cCz r n)
theorem bWb : D157 r n xW x0 (K0 (gH r n)) = D157 r n bQq x0 (K1 (aOu r n) 3) :=
 congrArg (fun k => D157 r n bQq x0 k) (cMi r n)
theorem cHj : D157 r n aIz x0 r157 = (K1 (aNe r n) 0) :=
 (bYc r n).trans
 ((bWb r n).trans
 ((by kernel_rfl)))
theorem cSi : D157 r n c157 x0 r157 = D157 r n bLv x0 (K1 (aNe r n) 0) :=
 congrArg (fun k => D157 r n bLv x0 k) (cHj r n)
theorem dEb : D157 r n c157 x0 r157 = (K1 (s157 r n) 0) :=
 (cSi r n).trans
 ((by kernel_rfl))
theorem dDf : aF CF r n 157 args h = s157 r n (aS args 0) h :=
 (by kernel_rfl : aF CF r n 157 args h = D157 r n c157 x0 r157 (aI args) h).trans ((congrFun (congrFun (dEb r n) (aI args)) h).trans (by kernel_rfl))
noncomputable def aCu (r : RT) (n : Nat) (x0 x1 : DV) (h0 : Hp) : aH :=
 bnd (r 156 [x0, x1] h0) fun v1 h1 =>
 bnd (aC 0 v1 h1) fun v2 h2 =>
 bnd (aC 1 v1 h2) fun v3 h3 =>
 bnd (bL [(.s []), (.b false), (.b false), (aE 0)] h3) fun v4 h4 =>
 bnd (aG 4 v4 v2 h4) fun _ h5 =>
 bnd (gD v3 true (aB 1 v4 h5) h5) fun v6 h6 =>
 bnd (gD v3 true (aA v6 h6) h6) fun v7 h7 =>
 bnd (aR v3 v7 (.b false) h7) fun v8 h8 =>
 aP v8 (
 bnd (aB 3 v4 h8) fun v9 h9 =>
 bnd (aA v9 h9) fun v10 h10 =>
 bnd (r 141 [x0, (aE 8), v10, (aE 0)] h10) fun v11 h11 =>
 some (.t [], h11)) (
 aP v3 (
 bnd (aB 3 v4 h8) fun v12 h12 =>
 bnd (aA v12 h12) fun v13 h13 =>
 bnd (r 141 [x0, (aE 7), v13, (aE 0)] h13) fun v14 h14 =>
 some (.t [], h14)) (
 bnd (r 190 [x1] h8) fun v15 h15 =>
 aP v15 (
 bnd (r 191 [x0, x1] h15) fun v16 h16 =>
 bnd (r 141 [x0, (aE 9), v16, (aE 0)] h16) fun v17 h17 =>
 some (.t [], h17)) (
 bnd (r 158 [x0, x1, (aE 15)] h15) fun v18 h18 =>
 some (.t [], h18))))
noncomputable def s161 (r : RT) (n : Nat) (x0 x1 : DV) (h0 : Hp) : aH :=
 bnd (fH .eql x1 (.s [115, 101, 108, 102]) h0) fun v1 h1 =>
 aP v1 (
 bnd (r 141 [x0, (aE 1), (aE 0), (aE 0)] h1) fun v2 h2 =>
 some (.t [], h2)) (
 bnd (fH .eql x1 (.s [110, 105, 108]) h1) fun v3 h3 =>
 aP v3 (
 bnd (r 141 [x0, (aE 2), (aE 0), (aE 0)] h3) fun v4 h4 =>
 some (.t [], h4)) (
 bnd (fH .eql x1 (.s [116, 114, 117, 101]) h3) fun v5 h5 =>
 aP v5 (
 bnd (r 141 [x0, (aE 3), (aE 0), (aE 0)] h5) fun v6 h6 =>
 some (.t [], h6)) (
 bnd (fH .eql x1 (.s [102, 97, 108, 115, 101]) h5) fun v7 h7 =>
 aP v7 (
 bnd (r 141 [x0, (aE 4), (aE 0), (aE 0)] h7) fun v8 h8 =>
 some (.t [], h8)) (
 bnd (fH .eql x1 (.s [116, 104, 105, 115, 67, 111, 110, 116, 101, 120, 116]) h7) fun v9 h9 =>
 aP v9 (
 bnd (r 141 [x0, (aE 5), (aE 0), (aE 0)] h9) fun v10 h10 =>
 some (.t [], h10)) (
 bnd (fH .eql x1 (.s [115, 117, 112, 101, 114]) h9) fun v11 h11 =>
 aP v11 (
 bnd (r 158 [x0, x1, (aE 15)] h11) fun v12 h12 =>
       aCu r n x0 x1 h12) (
       aCu r n x0 x1 h11))))))
noncomputable abbrev c161 : Code := cf Tryz.f161
noncomputable abbrev cTd : Code := cR c161
noncomputable abbrev bTw : Code := cL c161
noncomputable abbrev r161 : K := aQ CF Tryz.f161
noncomputable def D161 (r : RT) (n : Nat) (c : Code) (X : Nat → K) (k : K) : K := aM CF r 65 n c X r161 k
theorem cJm : D161 r n cTd x0 r161 = (K2 (aCu r n) 0 1) :=
 (by kernel_rfl)
theorem dCf : D161 r n c161 x0 r161 = D161 r n bTw x0 (K2 (aCu r n) 0 1) :=
 congrArg (fun k => D161 r n bTw x0 k) (cJm r n)
theorem dJz : D161 r n c161 x0 r161 = (K2 (s161 r n) 0 1) :=
 (dCf r n).trans
 ((by kernel_rfl))
theorem cYz : aF CF r n 161 args h = s161 r n (aS args 0) (aS args 1) h :=
 (by kernel_rfl : aF CF r n 161 args h = D161 r n c161 x0 r161 (aI args) h).trans ((congrFun (congrFun (dJz r n) (aI args)) h).trans (by kernel_rfl))
noncomputable def s163 (r : RT) (n : Nat) (x0 x1 : DV) (h0 : Hp) : aH :=
 bnd (bQ x1 h0) fun v1 h1 =>
 bnd (aB 5 v1 h1) fun v2 h2 =>
 bnd (aA v2 h2) fun v3 h3 =>
 bnd (bV v3 h3) fun v4 h4 =>
 bnd (aD .eql v4 (aE 0) h4) fun v5 h5 =>
 aP v5 (
 bnd (r 158 [x0, (.s []), (aE 1)] h5) fun v6 h6 =>
 some (.t [], h6)) (
 bnd (aK 6 v1 h5) fun v7 h7 =>
 bnd (r 192 [x0, v7] h7) fun v8 h8 =>
 bnd (gD v8 false (some (x0, h8)) h8) fun v9 h9 =>
 bnd (gD v8 false (aK 6 v1 h9) h9) fun v10 h10 =>
 bnd (gD v8 false (r 193 [v9, v10] h10) h10) fun v11 h11 =>
 bnd (aR v8 (.b true) v11 h11) fun v12 h12 =>
 aP v12 (
 some (.t [], h12)) (
 bnd (aB 5 v1 h12) fun v13 h13 =>
 bnd (aA v13 h13) fun v14 h14 =>
 bnd (aJ 6 v14 (aE 0) h14) fun v15 h15 =>
 bnd (aK 6 v15 h15) fun v16 h16 =>
 bnd (r 195 [x0, v16] h16) fun v17 h17 =>
 bnd (aB 1 v1 h17) fun v18 h18 =>
 bnd (aA v18 h18) fun v19 h19 =>
 cnd (bH (aA v18 h12) v19 && true) (
 bnd (aB 5 v1 h19) fun v20 h20 =>
 bnd (aA v20 h20) fun v21 h21 =>
 cnd (bH (aA v20 h12) v21 && true) (
 bnd (cQ 6 v21 (some (aE 1)) none h21) fun v22 h22 =>
 cnd (bH (cQ 6 v21 (some (aE 1)) none h12) v22 && true) (
 bnd (r 194 [x0, v17, v19, v22] h22) fun v23 h23 =>
 some (.t [], h23))))))
noncomputable abbrev c163 : Code := cf Tryz.f163
noncomputable abbrev r163 : K := aQ CF Tryz.f163
noncomputable def D163 (r : RT) (n : Nat) (c : Code) (X : Nat → K) (k : K) : K := aM CF r 31 n c X r163 k
theorem dHy : D163 r n c163 x0 r163 = (K2 (s163 r n) 0 1) :=
 (by kernel_rfl)
theorem dCn : aF CF r n 163 args h = s163 r n (aS args 0) (aS args 1) h :=
 (by kernel_rfl : aF CF r n 163 args h = D163 r n c163 x0 r163 (aI args) h).trans ((congrFun (congrFun (dHy r n) (aI args)) h).trans (by kernel_rfl))
noncomputable def aDr (r : RT) (n : Nat) (x3 : DV) (h0 : Hp) : aH :=
 bnd (aB 5 x3 h0) fun v1 h1 =>
 bnd (aA v1 h1) fun v2 h2 =>
 bnd (bV v2 h2) fun v3 h3 =>
 bnd (aD .eql v3 (aE 1) h3) fun v4 h4 =>
 some (v4, h4)
noncomputable def wD (r : RT) (n : Nat) (x0 x3 : DV) (h0 : Hp) : aH :=
 bnd (aB 5 x3 h0) fun v1 h1 =>
 bnd (aA v1 h1) fun v2 h2 =>
 bnd (bV v2 h2) fun v3 h3 =>
 bnd (aD .neq v3 (aE 1) h3) fun v4 h4 =>
 aP v4 (
 bnd (r 158 [x0, (.s []), (aE 1)] h4) fun v5 h5 =>
  aDr r n x3 h5) (
  aDr r n x3 h4)
noncomputable def s167 (r : RT) (n : Nat) (x0 x1 : DV) (h0 : Hp) : aH :=
 bnd (bQ x1 h0) fun v1 h1 =>
  wD r n x0 v1 h1
noncomputable abbrev c167 : Code := cf Tryz.f167
noncomputable abbrev aJm : Code := cR c167
noncomputable abbrev cUc : Code := cR aJm
noncomputable abbrev bVn : Code := cL aJm
noncomputable abbrev aNn : Code := cL c167
noncomputable abbrev r167 : K := aQ CF Tryz.f167
noncomputable def D167 (r : RT) (n : Nat) (c : Code) (X : Nat → K) (k : K) : K := aM CF r 15 n c X r167 k
theorem cEt : D167 r n cUc x0 r167 = (K1 (aDr r n) 3) :=
 (by kernel_rfl)
theorem bVe : D167 r n aJm x0 r167 = D167 r n bVn x0 (K1 (aDr r n) 3) :=
 congrArg (fun k => D167 r n bVn x0 k) (cEt r n)
theorem cIq : D167 r n aJm x0 r167 = (K2 (wD r n) 0 3) :=
 (bVe r n).trans
 ((by kernel_rfl))
theorem cVu : D167 r n c167 x0 r167 = D167 r n aNn x0 (K2 (wD r n) 0 3) :=
 congrArg (fun k => D167 r n aNn x0 k) (cIq r n)
theorem cZq (q0 : oF) : D167 r n aNn x0 (K2 q0 0 3) = fun (env : aU) (h : Hp) =>
 bnd (bQ (env 1) h) fun v1 h1 =>
  q0 (env 0) v1 h1 := by kernel_rfl
theorem cKy : (fun (env : aU) (h : Hp) =>
 bnd (bQ (env 1) h) fun v1 h1 =>
  wD r n (env 0) v1 h1) = (K2 (s167 r n) 0 1) := by kernel_rfl
theorem dIu : D167 r n c167 x0 r167 = (K2 (s167 r n) 0 1) :=
 (cVu r n).trans
 ((cZq r n (wD r n)).trans (cKy r n))
theorem cZa : aF CF r n 167 args h = s167 r n (aS args 0) (aS args 1) h :=
 (by kernel_rfl : aF CF r n 167 args h = D167 r n c167 x0 r167 (aI args) h).trans ((congrFun (congrFun (dIu r n) (aI args)) h).trans (by kernel_rfl))
noncomputable def s168 (r : RT) (n : Nat) (x0 x1 x2 : DV) (h0 : Hp) : aH :=
 bnd (aD .geq x0 x1 h0) fun v1 h1 =>
 bnd (gD v1 true (some (x0, h1)) h1) fun v2 h2 =>
 bnd (gD v1 true (some (x2, h2)) h2) fun v3 h3 =>
 bnd (gD v1 true (aD .leq v2 v3 h3) h3) fun v4 h4 =>
 bnd (aR v1 v4 (.b false) h4) fun v5 h5 =>
 some (v5, h5)
noncomputable abbrev c168 : Code := cf Tryz.f168
noncomputable abbrev r168 : K := aQ CF Tryz.f168
noncomputable def D168 (r : RT) (n : Nat) (c : Code) (X : Nat → K) (k : K) : K := aM CF r 15 n c X r168 k
theorem dEx : D168 r n c168 x0 r168 = (K3 (s168 r n) 0 1 2) :=
 (by kernel_rfl)
theorem dCo : aF CF r n 168 args h = s168 r n (aS args 0) (aS args 1) (aS args 2) h :=
 (by kernel_rfl : aF CF r n 168 args h = D168 r n c168 x0 r168 (aI args) h).trans ((congrFun (congrFun (dEx r n) (aI args)) h).trans (by kernel_rfl))
noncomputable def s169 (r : RT) (n : Nat) (x0 x1 : DV) (h0 : Hp) : aH :=
 bnd (r 187 [x0, x1] h0) fun v1 h1 =>
 bnd (aD .geq v1 (aE 0) h1) fun v2 h2 =>
 some (v2, h2)
noncomputable abbrev c169 : Code := cf Tryz.f169
noncomputable abbrev r169 : K := aQ CF Tryz.f169
noncomputable def D169 (r : RT) (n : Nat) (c : Code) (X : Nat → K) (k : K) : K := aM CF r 9 n c X r169 k
theorem dGf : D169 r n c169 x0 r169 = (K2 (s169 r n) 0 1) :=
 (by kernel_rfl)
theorem cXs : aF CF r n 169 args h = s169 r n (aS args 0) (aS args 1) h :=
 (by kernel_rfl : aF CF r n 169 args h = D169 r n c169 x0 r169 (aI args) h).trans ((congrFun (congrFun (dGf r n) (aI args)) h).trans (by kernel_rfl))
noncomputable def s170 (r : RT) (n : Nat) (x0 : DV) (h0 : Hp) : aH :=
 bnd (bQ x0 h0) fun v1 h1 =>
 bnd (aK 4 v1 h1) fun v2 h2 =>
 bnd (r 171 [v2, (aE 20)] h2) fun v3 h3 =>
 bnd (gS .not v3 h3) fun v4 h4 =>
 some (v4, h4)
noncomputable abbrev c170 : Code := cf Tryz.f170
noncomputable abbrev r170 : K := aQ CF Tryz.f170
noncomputable def D170 (r : RT) (n : Nat) (c : Code) (X : Nat → K) (k : K) : K := aM CF r 6 n c X r170 k
theorem dEe : D170 r n c170 x0 r170 = (K1 (s170 r n) 0) :=
 (by kernel_rfl)
theorem cTy : aF CF r n 170 args h = s170 r n (aS args 0) h :=
 (by kernel_rfl : aF CF r n 170 args h = D170 r n c170 x0 r170 (aI args) h).trans ((congrFun (congrFun (dEe r n) (aI args)) h).trans (by kernel_rfl))
noncomputable def s171 (r : RT) (n : Nat) (x0 x1 : DV) (h0 : Hp) : aH :=
 bnd (bQ x0 h0) fun v1 h1 =>
 bnd (bQ x1 h1) fun v2 h2 =>
 bnd (aB 0 v1 h2) fun v3 h3 =>
 bnd (aA v3 h3) fun v4 h4 =>
 bnd (aD .eql v4 (aE 1) h4) fun v5 h5 =>
 aP v5 (
 bnd (aB 1 v1 h5) fun v6 h6 =>
 bnd (aA v6 h6) fun v7 h7 =>
 bnd (fH .eql v7 (.s []) h7) fun v8 h8 =>
 bnd (gD v8 true (aB 3 v1 h8) h8) fun v9 h9 =>
 bnd (gD v8 true (aA v9 h9) h9) fun v10 h10 =>
 bnd (gD v8 true (bV v10 h10) h10) fun v11 h11 =>
 bnd (gD v8 true (aD .eql v11 (aE 0) h11) h11) fun v12 h12 =>
 bnd (aR v8 v12 (.b false) h12) fun v13 h13 =>
 bnd (gD v13 true (aB 2 v1 h13) h13) fun v14 h14 =>
 bnd (gD v13 true (aA v14 h14) h14) fun v15 h15 =>
 bnd (gD v13 true (r 168 [v15, (.i .i64 (Int.negSucc 1152921504606846975)), (aE 1152921504606846976)] h15) h15) fun v16 h16 =>
 bnd (aR v13 v16 (.b false) h16) fun v17 h17 =>
 some (v17, h17)) (
 bnd (aD .eql v4 (aE 2) h5) fun v18 h18 =>
 aP v18 (
 bnd (aB 2 v1 h18) fun v19 h19 =>
 bnd (aA v19 h19) fun v20 h20 =>
 bnd (aD .eql v20 (aE 0) h20) fun v21 h21 =>
 bnd (gD v21 true (aB 3 v1 h21) h21) fun v22 h22 =>
 bnd (gD v21 true (aA v22 h22) h22) fun v23 h23 =>
 bnd (gD v21 true (bV v23 h23) h23) fun v24 h24 =>
 bnd (gD v21 true (aD .eql v24 (aE 0) h24) h24) fun v25 h25 =>
 bnd (aR v21 v25 (.b false) h25) fun v26 h26 =>
 bnd (gD v26 true (aB 1 v1 h26) h26) fun v27 h27 =>
 bnd (gD v26 true (aA v27 h27) h27) fun v28 h28 =>
 bnd (gD v26 true (dR v28 h28) h28) fun v29 h29 =>
 bnd (gD v26 true (aD .leq v29 (aE 250) h29) h29) fun v30 h30 =>
 bnd (aR v26 v30 (.b false) h30) fun v31 h31 =>
 some (v31, h31)) (
 bnd (aD .eql v4 (aE 3) h18) fun v32 h32 =>
 aP v32 (
 bnd (aB 2 v1 h32) fun v33 h33 =>
 bnd (aA v33 h33) fun v34 h34 =>
 bnd (aD .eql v34 (aE 0) h34) fun v35 h35 =>
 bnd (gD v35 true (aB 3 v1 h35) h35) fun v36 h36 =>
 bnd (gD v35 true (aA v36 h36) h36) fun v37 h37 =>
 bnd (gD v35 true (bV v37 h37) h37) fun v38 h38 =>
 bnd (gD v35 true (aD .eql v38 (aE 0) h38) h38) fun v39 h39 =>
 bnd (aR v35 v39 (.b false) h39) fun v40 h40 =>
 bnd (gD v40 true (aB 1 v1 h40) h40) fun v41 h41 =>
 bnd (gD v40 true (aA v41 h41) h41) fun v42 h42 =>
 bnd (gD v40 true (dR v42 h42) h42) fun v43 h43 =>
 bnd (gD v40 true (r 168 [v43, (aE 1), (aE 60)] h43) h43) fun v44 h44 =>
 bnd (aR v40 v44 (.b false) h44) fun v45 h45 =>
 some (v45, h45)) (
 bnd (aD .eql v4 (aE 4) h32) fun v46 h46 =>
 aP v46 (
 bnd (aB 3 v1 h46) fun v47 h47 =>
 bnd (aA v47 h47) fun v48 h48 =>
 bnd (r 169 [v48, (.f 199 [] [v2])] h48) fun v49 h49 =>
 bnd (aB 2 v1 h49) fun v50 h50 =>
 bnd (aA v50 h50) fun v51 h51 =>
 bnd (aD .eql v51 (aE 0) h51) fun v52 h52 =>
 bnd (gD v52 true (aB 1 v1 h52) h52) fun v53 h53 =>
 bnd (gD v52 true (aA v53 h53) h53) fun v54 h54 =>
 bnd (gD v52 true (fH .eql v54 (.s []) h54) h54) fun v55 h55 =>
 bnd (aR v52 v55 (.b false) h55) fun v56 h56 =>
 bnd (gD v56 true (aA v2 h56) h56) fun v57 h57 =>
 bnd (gD v56 true (aD .gtr v57 (aE 0) h57) h57) fun v58 h58 =>
 bnd (aR v56 v58 (.b false) h58) fun v59 h59 =>
 bnd (gD v59 true (aB 3 v1 h59) h59) fun v60 h60 =>
 bnd (gD v59 true (aA v60 h60) h60) fun v61 h61 =>
 bnd (gD v59 true (bV v61 h61) h61) fun v62 h62 =>
 bnd (gD v59 true (aD .leq v62 (aE 250) h62) h62) fun v63 h63 =>
 bnd (aR v59 v63 (.b false) h63) fun v64 h64 =>
 bnd (gD v64 true (some (v49, h64)) h64) fun v65 h65 =>
 bnd (gD v64 true (gS .not v65 h65) h65) fun v66 h66 =>
 bnd (aR v64 v66 (.b false) h66) fun v67 h67 =>
 some (v67, h67)) (
 some ((.b false), h46)))))
noncomputable abbrev c171 : Code := cf Tryz.f171
noncomputable abbrev r171 : K := aQ CF Tryz.f171
noncomputable def D171 (r : RT) (n : Nat) (c : Code) (X : Nat → K) (k : K) : K := aM CF r 86 n c X r171 k
theorem dEl : D171 r n c171 x0 r171 = (K2 (s171 r n) 0 1) :=
 (by kernel_rfl)
theorem cYp : aF CF r n 171 args h = s171 r n (aS args 0) (aS args 1) h :=
 (by kernel_rfl : aF CF r n 171 args h = D171 r n c171 x0 r171 (aI args) h).trans ((congrFun (congrFun (dEl r n) (aI args)) h).trans (by kernel_rfl))
end Go.Dd

namespace Go.Dd
open Go.Proofs
variable (r : RT) (n : Nat) (args : List DV) (h : Hp)
noncomputable def bB (r : RT) (n : Nat) (h0 : Hp) : aH :=
 some ((.b true), h0)
noncomputable def tF (r : RT) (n : Nat) (x2 x3 x4 x27 x51 : DV) (h0 : Hp) : aH :=
 aP x51 (
 bnd (aB 1 x4 h0) fun v1 h1 =>
 bnd (aA v1 h1) fun v2 h2 =>
 bnd (aD .lss v2 x2 h2) fun v3 h3 =>
 some (v3, h3)) (
 bnd (aD .eql x27 (aE 18) h0) fun v4 h4 =>
 aP v4 (
 bnd (aB 2 x4 h4) fun v5 h5 =>
 bnd (aA v5 h5) fun v6 h6 =>
 bnd (aD .leq v6 (aE 4) h6) fun v7 h7 =>
 bnd (gD v7 true (aB 1 x4 h7) h7) fun v8 h8 =>
 bnd (gD v7 true (aA v8 h8) h8) fun v9 h9 =>
 bnd (gD v7 true (aB 2 x4 h9) h9) fun v10 h10 =>
 bnd (gD v7 true (aA v10 h10) h10) fun v11 h11 =>
 bnd (gD v7 true (aD .add v9 v11 h11) h11) fun v12 h12 =>
 bnd (gD v7 true (aB 2 x3 h12) h12) fun v13 h13 =>
 bnd (gD v7 true (aA v13 h13) h13) fun v14 h14 =>
 bnd (gD v7 true (aD .leq v12 v14 h14) h14) fun v15 h15 =>
 bnd (aR v7 v15 (.b false) h15) fun v16 h16 =>
 some (v16, h16)) (
   bB r n h4))
noncomputable def aUf (r : RT) (n : Nat) (x2 x3 x4 x27 : DV) (h0 : Hp) : aH :=
 bnd (aD .eql x27 (aE 8) h0) fun v1 h1 =>
 aP v1 (
  tF r n x2 x3 x4 x27 v1 h1) (
 bnd (aD .eql x27 (aE 11) h1) fun v2 h2 =>
  tF r n x2 x3 x4 x27 v2 h2)
noncomputable def tJ (r : RT) (n : Nat) (x2 x3 x4 x27 x43 : DV) (h0 : Hp) : aH :=
 aP x43 (
 bnd (aB 1 x4 h0) fun v1 h1 =>
 bnd (aA v1 h1) fun v2 h2 =>
 bnd (aB 2 x3 h2) fun v3 h3 =>
 bnd (aA v3 h3) fun v4 h4 =>
 bnd (aD .lss v2 v4 h4) fun v5 h5 =>
 some (v5, h5)) (
  aUf r n x2 x3 x4 x27 h0)
noncomputable def aUz (r : RT) (n : Nat) (x2 x3 x4 x27 : DV) (h0 : Hp) : aH :=
 bnd (aD .eql x27 (aE 7) h0) fun v1 h1 =>
 aP v1 (
  tJ r n x2 x3 x4 x27 v1 h1) (
 bnd (aD .eql x27 (aE 10) h1) fun v2 h2 =>
  tJ r n x2 x3 x4 x27 v2 h2)
noncomputable def tI (r : RT) (n : Nat) (x2 x3 x4 x8 x27 x34 : DV) (h0 : Hp) : aH :=
 aP x34 (
 bnd (gD x8 true (aB 2 x4 h0) h0) fun v1 h1 =>
 bnd (gD x8 true (aA v1 h1) h1) fun v2 h2 =>
 bnd (gD x8 true (aD .leq v2 (aE 4) h2) h2) fun v3 h3 =>
 bnd (aR x8 v3 (.b false) h3) fun v4 h4 =>
 some (v4, h4)) (
  aUz r n x2 x3 x4 x27 h0)
noncomputable def bMn (r : RT) (n : Nat) (x2 x3 x4 x8 x27 : DV) (h0 : Hp) : aH :=
 bnd (aD .eql x27 (aE 14) h0) fun v1 h1 =>
 aP v1 (
  tI r n x2 x3 x4 x8 x27 v1 h1) (
 bnd (aD .eql x27 (aE 15) h1) fun v2 h2 =>
  tI r n x2 x3 x4 x8 x27 v2 h2)
noncomputable def aRh (r : RT) (n : Nat) (x2 x3 x4 x8 x27 x31 : DV) (h0 : Hp) : aH :=
 aP x31 (
 some (x8, h0)) (
  bMn r n x2 x3 x4 x8 x27 h0)
noncomputable def bPk (r : RT) (n : Nat) (x2 x3 x4 x8 x27 : DV) (h0 : Hp) : aH :=
 bnd (aD .eql x27 (aE 9) h0) fun v1 h1 =>
  aRh r n x2 x3 x4 x8 x27 v1 h1
noncomputable def aSs (r : RT) (n : Nat) (x2 x3 x4 x7 x8 x27 x28 : DV) (h0 : Hp) : aH :=
 aP x28 (
 some (x7, h0)) (
  bPk r n x2 x3 x4 x8 x27 h0)
noncomputable def aRk (r : RT) (n : Nat) (x2 x3 x4 x7 x8 x27 : DV) (h0 : Hp) : aH :=
 bnd (aD .eql x27 (aE 6) h0) fun v1 h1 =>
  aSs r n x2 x3 x4 x7 x8 x27 v1 h1
noncomputable def aTx (r : RT) (n : Nat) (x2 x3 x4 x7 x8 : DV) (h0 : Hp) : aH :=
 bnd (aB 0 x4 h0) fun v1 h1 =>
 bnd (aA v1 h1) fun v2 h2 =>
  aRk r n x2 x3 x4 x7 x8 v2 h2
noncomputable def aSd (r : RT) (n : Nat) (x2 x3 x4 x7 : DV) (h0 : Hp) : aH :=
 bnd (gD x7 true (aB 4 x3 h0) h0) fun v1 h1 =>
 bnd (gD x7 true (aA v1 h1) h1) fun v2 h2 =>
 bnd (gD x7 true (aB 1 x4 h2) h2) fun v3 h3 =>
 bnd (gD x7 true (aA v3 h3) h3) fun v4 h4 =>
 bnd (gD x7 true (aJ 4 v2 v4 h4) h4) fun v5 h5 =>
 bnd (gD x7 true (aB 0 v5 h5) h5) fun v6 h6 =>
 bnd (gD x7 true (aA v6 h6) h6) fun v7 h7 =>
 bnd (gD x7 true (aD .eql v7 (aE 3) h7) h7) fun v8 h8 =>
 bnd (aR x7 v8 (.b false) h8) fun v9 h9 =>
  aTx r n x2 x3 x4 x7 v9 h9
noncomputable def wU (r : RT) (n : Nat) (x2 x3 x4 : DV) (h0 : Hp) : aH :=
 bnd (aB 1 x4 h0) fun v1 h1 =>
 bnd (aA v1 h1) fun v2 h2 =>
 bnd (aB 4 x3 h2) fun v3 h3 =>
 bnd (aA v3 h3) fun v4 h4 =>
 bnd (bV v4 h4) fun v5 h5 =>
 bnd (aD .lss v2 v5 h5) fun v6 h6 =>
  aSd r n x2 x3 x4 v6 h6
noncomputable def s172 (r : RT) (n : Nat) (x0 x1 x2 : DV) (h0 : Hp) : aH :=
 bnd (bQ x0 h0) fun v1 h1 =>
 bnd (bQ x1 h1) fun v2 h2 =>
  wU r n x2 v1 v2 h2
noncomputable abbrev c172 : Code := cf Tryz.f172
noncomputable abbrev aBk : Code := cR c172
noncomputable abbrev aHy : Code := cR aBk
noncomputable abbrev aDv : Code := cR aHy
noncomputable abbrev cVb : Code := cR aDv
noncomputable abbrev yI : Code := cL aDv
noncomputable abbrev aSt : Code := cR yI
noncomputable abbrev aDa : Code := cL aSt
noncomputable abbrev yL : Code := cR aDa
noncomputable abbrev yD : Code := cR yL
noncomputable abbrev pH : Code := cR yD
noncomputable abbrev oZ : Code := cR pH
noncomputable abbrev oJ : Code := cR oZ
noncomputable abbrev oT : Code := cR oJ
noncomputable abbrev oM : Code := cR oT
noncomputable abbrev pF : Code := cR oM
noncomputable abbrev cCb : Code := cR pF
noncomputable abbrev aXh : Code := cL pF
noncomputable abbrev cJi : Code := cL oM
noncomputable abbrev bBc : Code := cL oT
noncomputable abbrev cBt : Code := cL oJ
noncomputable abbrev bAf : Code := cL oZ
noncomputable abbrev cOr : Code := cL pH
noncomputable abbrev bAv : Code := cL yD
noncomputable abbrev cIa : Code := cL yL
noncomputable abbrev aYe : Code := cL aDa
noncomputable abbrev aVk : Code := cL yI
noncomputable abbrev aUr : Code := cL aHy
noncomputable abbrev aXm : Code := cL aBk
noncomputable abbrev aFt : Code := cL c172
noncomputable abbrev r172 : K := aQ CF Tryz.f172
noncomputable def D172 (r : RT) (n : Nat) (c : Code) (X : Nat → K) (k : K) : K := aM CF r 73 n c X r172 k
theorem cJp : D172 r n cVb x0 r172 = (K0 (bB r n)) :=
 (by kernel_rfl)
theorem bKg : D172 r n cCb (xs x0 0 (K0 (bB r n))) (K0 (bB r n)) = (K5 (tF r n) 2 3 4 27 51) :=
 (by kernel_rfl)
theorem bFa : D172 r n pF (xs x0 0 (K0 (bB r n))) (K0 (bB r n)) = D172 r n aXh (xs x0 0 (K0 (bB r n))) (K5 (tF r n) 2 3 4 27 51) :=
 congrArg (fun k => D172 r n aXh (xs x0 0 (K0 (bB r n))) k) (bKg r n)
theorem bNu : D172 r n pF (xs x0 0 (K0 (bB r n))) (K0 (bB r n)) = (K4 (aUf r n) 2 3 4 27) :=
 (bFa r n).trans
 ((by kernel_rfl))
theorem bXe : D172 r n oM (xs x0 0 (K0 (bB r n))) (K0 (bB r n)) = (K5 (tJ r n) 2 3 4 27 43) :=
 (by kernel_rfl : D172 r n oM (xs x0 0 (K0 (bB r n))) (K0 (bB r n)) = (fun (env : aU) (h : Hp) => aP (opr env (cC oM)) (D172 r n cJi (xs x0 0 (K0 (bB r n))) (K0 (bB r n)) env h) (D172 r n pF (xs x0 0 (K0 (bB r n))) (K0 (bB r n)) env h))).trans (by rw [bNu r n]; kernel_rfl)
theorem bEa : D172 r n oT (xs x0 0 (K0 (bB r n))) (K0 (bB r n)) = D172 r n bBc (xs x0 0 (K0 (bB r n))) (K5 (tJ r n) 2 3 4 27 43) :=
 congrArg (fun k => D172 r n bBc (xs x0 0 (K0 (bB r n))) k) (bXe r n)
theorem bPh : D172 r n oT (xs x0 0 (K0 (bB r n))) (K0 (bB r n)) = (K4 (aUz r n) 2 3 4 27) :=
 (bEa r n).trans
 ((by kernel_rfl))
theorem bVc : D172 r n oJ (xs x0 0 (K0 (bB r n))) (K0 (bB r n)) = (K6 (tI r n) 2 3 4 8 27 34) :=
 (by kernel_rfl : D172 r n oJ (xs x0 0 (K0 (bB r n))) (K0 (bB r n)) = (fun (env : aU) (h : Hp) => aP (opr env (cC oJ)) (D172 r n cBt (xs x0 0 (K0 (bB r n))) (K0 (bB r n)) env h) (D172 r n oT (xs x0 0 (K0 (bB r n))) (K0 (bB r n)) env h))).trans (by rw [bPh r n]; kernel_rfl)
theorem bMz : D172 r n oZ (xs x0 0 (K0 (bB r n))) (K0 (bB r n)) = D172 r n bAf (xs x0 0 (K0 (bB r n))) (K6 (tI r n) 2 3 4 8 27 34) :=
 congrArg (fun k => D172 r n bAf (xs x0 0 (K0 (bB r n))) k) (bVc r n)
theorem cMs : D172 r n oZ (xs x0 0 (K0 (bB r n))) (K0 (bB r n)) = (K5 (bMn r n) 2 3 4 8 27) :=
 (bMz r n).trans
 ((by kernel_rfl))
theorem cKq : D172 r n pH (xs x0 0 (K0 (bB r n))) (K0 (bB r n)) = (K6 (aRh r n) 2 3 4 8 27 31) :=
 (by kernel_rfl : D172 r n pH (xs x0 0 (K0 (bB r n))) (K0 (bB r n)) = (fun (env : aU) (h : Hp) => aP (opr env (cC pH)) (D172 r n cOr (xs x0 0 (K0 (bB r n))) (K0 (bB r n)) env h) (D172 r n oZ (xs x0 0 (K0 (bB r n))) (K0 (bB r n)) env h))).trans (by rw [cMs r n]; kernel_rfl)
theorem bXy : D172 r n yD (xs x0 0 (K0 (bB r n))) (K0 (bB r n)) = D172 r n bAv (xs x0 0 (K0 (bB r n))) (K6 (aRh r n) 2 3 4 8 27 31) :=
 congrArg (fun k => D172 r n bAv (xs x0 0 (K0 (bB r n))) k) (cKq r n)
theorem cFe : D172 r n yD (xs x0 0 (K0 (bB r n))) (K0 (bB r n)) = (K5 (bPk r n) 2 3 4 8 27) :=
 (bXy r n).trans
 ((by kernel_rfl))
theorem cHx : D172 r n yL (xs x0 0 (K0 (bB r n))) (K0 (bB r n)) = (K7 (aSs r n) 2 3 4 7 8 27 28) :=
 (by kernel_rfl : D172 r n yL (xs x0 0 (K0 (bB r n))) (K0 (bB r n)) = (fun (env : aU) (h : Hp) => aP (opr env (cC yL)) (D172 r n cIa (xs x0 0 (K0 (bB r n))) (K0 (bB r n)) env h) (D172 r n yD (xs x0 0 (K0 (bB r n))) (K0 (bB r n)) env h))).trans (by rw [cFe r n]; kernel_rfl)
theorem bLn : D172 r n aDa (xs x0 0 (K0 (bB r n))) (K0 (bB r n)) = D172 r n aYe (xs x0 0 (K0 (bB r n))) (K7 (aSs r n) 2 3 4 7 8 27 28) :=
 congrArg (fun k => D172 r n aYe (xs x0 0 (K0 (bB r n))) k) (cHx r n)
theorem cNh : D172 r n aSt x0 (K0 (bB r n)) = (K6 (aRk r n) 2 3 4 7 8 27) :=
 (by kernel_rfl : D172 r n aSt x0 (K0 (bB r n)) = D172 r n aDa (xs x0 0 (K0 (bB r n))) (K0 (bB r n))).trans
 ((bLn r n).trans
 ((by kernel_rfl)))
theorem bOe : D172 r n aDv x0 r172 = D172 r n yI x0 (K0 (bB r n)) :=
 congrArg (fun k => D172 r n yI x0 k) (cJp r n)
theorem bOa : D172 r n yI x0 (K0 (bB r n)) = D172 r n aVk x0 (K6 (aRk r n) 2 3 4 7 8 27) :=
 congrArg (fun k => D172 r n aVk x0 k) (cNh r n)
theorem cDp : D172 r n aDv x0 r172 = (K5 (aTx r n) 2 3 4 7 8) :=
 (bOe r n).trans
 ((bOa r n).trans
 ((by kernel_rfl)))
theorem bQu : D172 r n aHy x0 r172 = D172 r n aUr x0 (K5 (aTx r n) 2 3 4 7 8) :=
 congrArg (fun k => D172 r n aUr x0 k) (cDp r n)
theorem cHk : D172 r n aHy x0 r172 = (K4 (aSd r n) 2 3 4 7) :=
 (bQu r n).trans
 ((by kernel_rfl))
theorem bUu : D172 r n aBk x0 r172 = D172 r n aXm x0 (K4 (aSd r n) 2 3 4 7) :=
 congrArg (fun k => D172 r n aXm x0 k) (cHk r n)
theorem cOs : D172 r n aBk x0 r172 = (K3 (wU r n) 2 3 4) :=
 (bUu r n).trans
 ((by kernel_rfl))
theorem cMa : D172 r n c172 x0 r172 = D172 r n aFt x0 (K3 (wU r n) 2 3 4) :=
 congrArg (fun k => D172 r n aFt x0 k) (cOs r n)
theorem cNd (q0 : mV) : D172 r n aFt x0 (K3 q0 2 3 4) = fun (env : aU) (h : Hp) =>
 bnd (bQ (env 0) h) fun v1 h1 =>
 bnd (bQ (env 1) h1) fun v2 h2 =>
  q0 (env 2) v1 v2 h2 := by kernel_rfl
theorem bYv : (fun (env : aU) (h : Hp) =>
 bnd (bQ (env 0) h) fun v1 h1 =>
 bnd (bQ (env 1) h1) fun v2 h2 =>
  wU r n (env 2) v1 v2 h2) = (K3 (s172 r n) 0 1 2) := by kernel_rfl
theorem dKk : D172 r n c172 x0 r172 = (K3 (s172 r n) 0 1 2) :=
 (cMa r n).trans
 ((cNd r n (wU r n)).trans (bYv r n))
theorem dBc : aF CF r n 172 args h = s172 r n (aS args 0) (aS args 1) (aS args 2) h :=
 (by kernel_rfl : aF CF r n 172 args h = D172 r n c172 x0 r172 (aI args) h).trans ((congrFun (congrFun (dKk r n) (aI args)) h).trans (by kernel_rfl))
noncomputable def eM (r : RT) (n : Nat) (x3 : DV) (h0 : Hp) : aH :=
 some (x3, h0)
noncomputable def aXe (r : RT) (n : Nat) (kk6 : dH) (x3 x4 x11 x12 : DV) (h0 : Hp) : aH :=
 bnd (aD .lss x12 x11 h0) fun v1 h1 =>
 aP v1 (
 bnd (cV CF r x4 [x12] h1) fun v2 h2 =>
 bnd (aJ 1 x3 x12 h2) fun v3 h3 =>
 bnd (aG 1 v3 v2 h3) fun _ h4 =>
 bnd (aD .add x12 (aE 1) h4) fun v5 h5 =>
      kk6 x3 x4 x11 v5 h5) (
      eM r n x3 h1)
noncomputable def uC (r : RT) (n : Nat) (m : Nat) : dH :=
 Nat.rec (motive := fun _ => dH) (fun _ _ _ _ _ => none) (fun _ ih => aXe r n ih) m
noncomputable def bKw (r : RT) (n : Nat) : dH := uC r n n
noncomputable def aNv (r : RT) (n : Nat) (x3 x4 x11 x12 : DV) (h0 : Hp) : aH :=
 bKw r n x3 x4 x11 x12 h0
noncomputable def aPb (r : RT) (n : Nat) (x1 x3 x4 : DV) (h0 : Hp) : aH :=
 bnd (aA x1 h0) fun v1 h1 =>
 bnd (bV v1 h1) fun v2 h2 =>
  aNv r n x3 x4 v2 (aE 0) h2
noncomputable def vR (r : RT) (n : Nat) (x1 x3 : DV) (h0 : Hp) : aH :=
 aPb r n x1 x3 (.f 200 [] [x1]) h0
noncomputable def qI (r : RT) (n : Nat) (x1 : DV) (h0 : Hp) : aH :=
 bnd (aA x1 h0) fun v1 h1 =>
 bnd (bV v1 h1) fun v2 h2 =>
 bnd (cG 1 8 [(aE 0)] v2 v2 h2) fun v3 h3 =>
  vR r n x1 v3 h3
noncomputable def s173 (r : RT) (n : Nat) (x0 : DV) (h0 : Hp) : aH :=
 bnd (bQ x0 h0) fun v1 h1 =>
  qI r n v1 h1
noncomputable abbrev c173 : Code := cf Tryz.f173
noncomputable abbrev aFn : Code := cR c173
noncomputable abbrev aBl : Code := cR aFn
noncomputable abbrev aFd : Code := cR aBl
noncomputable abbrev cYt : Code := cR aFd
noncomputable abbrev xP : Code := cL aFd
noncomputable abbrev aOr : Code := cR xP
noncomputable abbrev aEk : Code := cL aOr
noncomputable abbrev nL : Code := cL aEk
noncomputable abbrev bUy : Code := cL xP
noncomputable abbrev aUw : Code := cL aBl
noncomputable abbrev aEw : Code := cL aFn
noncomputable abbrev aJj : Code := cL c173
noncomputable abbrev r173 : K := aQ CF Tryz.f173
noncomputable def D173 (r : RT) (n : Nat) (c : Code) (X : Nat → K) (k : K) : K := aM CF r 23 n c X r173 k
theorem cIo : D173 r n cYt x0 r173 = (K1 (eM r n) 3) :=
 (by kernel_rfl)
theorem bXx (kk6 : dH) : D173 r n nL (xs x0 0 (K1 (eM r n) 3)) (K4 kk6 3 4 11 12) = (K4 (aXe r n kk6) 3 4 11 12) :=
 (by kernel_rfl)
theorem bQm (m : Nat) : aN (fun kk => D173 r n nL (xs x0 0 (K1 (eM r n) 3)) kk) m = (K4 (uC r n m) 3 4 11 12) := by
 induction m with
 | zero => exact (by kernel_rfl : aN (fun kk => D173 r n nL (xs x0 0 (K1 (eM r n) 3)) kk) 0 = (K4 (uC r n 0) 3 4 11 12))
 | succ m ih =>
  refine (by kernel_rfl : aN (fun kk => D173 r n nL (xs x0 0 (K1 (eM r n) 3)) kk) (m + 1) = D173 r n nL (xs x0 0 (K1 (eM r n) 3)) (aN (fun kk => D173 r n nL (xs x0 0 (K1 (eM r n) 3)) kk) m)).trans ?_
  rw [ih]
  exact (bXx r n (uC r n m)).trans (by kernel_rfl)
theorem cBd : D173 r n aEk (xs x0 0 (K1 (eM r n) 3)) (K1 (eM r n) 3) = (K4 (bKw r n) 3 4 11 12) :=
 (by kernel_rfl : D173 r n aEk (xs x0 0 (K1 (eM r n) 3)) (K1 (eM r n) 3) = aN (fun kk => D173 r n nL (xs x0 0 (K1 (eM r n) 3)) kk) n).trans ((bQm r n n).trans (by kernel_rfl))
theorem cDx : D173 r n aOr x0 (K1 (eM r n) 3) = (K4 (aNv r n) 3 4 11 12) :=
 (by kernel_rfl : D173 r n aOr x0 (K1 (eM r n) 3) = D173 r n aEk (xs x0 0 (K1 (eM r n) 3)) (K1 (eM r n) 3)).trans
 ((cBd r n).trans (by kernel_rfl))
theorem cAp : D173 r n aFd x0 r173 = D173 r n xP x0 (K1 (eM r n) 3) :=
 congrArg (fun k => D173 r n xP x0 k) (cIo r n)
theorem bJh : D173 r n xP x0 (K1 (eM r n) 3) = D173 r n bUy x0 (K4 (aNv r n) 3 4 11 12) :=
 congrArg (fun k => D173 r n bUy x0 k) (cDx r n)
theorem cCa : D173 r n aFd x0 r173 = (K3 (aPb r n) 1 3 4) :=
 (cAp r n).trans
 ((bJh r n).trans
 ((by kernel_rfl)))
theorem bHk : D173 r n aBl x0 r173 = D173 r n aUw x0 (K3 (aPb r n) 1 3 4) :=
 congrArg (fun k => D173 r n aUw x0 k) (cCa r n)
theorem cDf : D173 r n aBl x0 r173 = (K2 (vR r n) 1 3) :=
 (bHk r n).trans
 ((by kernel_rfl))
theorem bOh : D173 r n aFn x0 r173 = D173 r n aEw x0 (K2 (vR r n) 1 3) :=
 congrArg (fun k => D173 r n aEw x0 k) (cDf r n)
theorem bOd (q0 : oF) : D173 r n aEw x0 (K2 q0 1 3) = fun (env : aU) (h : Hp) =>
 bnd (aA (env 1) h) fun v1 h1 =>
 bnd (bV v1 h1) fun v2 h2 =>
 bnd (cG 1 8 [(aE 0)] v2 v2 h2) fun v3 h3 =>
  q0 (env 1) v3 h3 := by kernel_rfl
theorem bCd : (fun (env : aU) (h : Hp) =>
 bnd (aA (env 1) h) fun v1 h1 =>
 bnd (bV v1 h1) fun v2 h2 =>
 bnd (cG 1 8 [(aE 0)] v2 v2 h2) fun v3 h3 =>
  vR r n (env 1) v3 h3) = (K1 (qI r n) 1) := by kernel_rfl
theorem cOm : D173 r n aFn x0 r173 = (K1 (qI r n) 1) :=
 (bOh r n).trans
 ((bOd r n (vR r n)).trans (bCd r n))
theorem dCv : D173 r n c173 x0 r173 = D173 r n aJj x0 (K1 (qI r n) 1) :=
 congrArg (fun k => D173 r n aJj x0 k) (cOm r n)
theorem cSf (q0 : TT1) : D173 r n aJj x0 (K1 q0 1) = fun (env : aU) (h : Hp) =>
 bnd (bQ (env 0) h) fun v1 h1 =>
  q0 v1 h1 := by kernel_rfl
theorem cCo : (fun (env : aU) (h : Hp) =>
 bnd (bQ (env 0) h) fun v1 h1 =>
  qI r n v1 h1) = (K1 (s173 r n) 0) := by kernel_rfl
theorem dLi : D173 r n c173 x0 r173 = (K1 (s173 r n) 0) :=
 (dCv r n).trans
 ((cSf r n (qI r n)).trans (cCo r n))
theorem dAz : aF CF r n 173 args h = s173 r n (aS args 0) h :=
 (by kernel_rfl : aF CF r n 173 args h = D173 r n c173 x0 r173 (aI args) h).trans ((congrFun (congrFun (dLi r n) (aI args)) h).trans (by kernel_rfl))
noncomputable def bI (r : RT) (n : Nat) (h0 : Hp) : aH :=
 some ((.b true), h0)
noncomputable def cF (r : RT) (n : Nat) (kk4 : cD) (x0 x1 x11 x12 x13 : DV) (h0 : Hp) : aH :=
 bnd (aD .add x13 (aE 1) h0) fun v1 h1 =>
  kk4 x0 x1 x11 x12 v1 h1
noncomputable def fT (r : RT) (n : Nat) (kk4 : cD) (x0 x1 x5 x6 x11 x12 x13 : DV) (h0 : Hp) : aH :=
 bnd (aK 3 x6 h0) fun v1 h1 =>
 bnd (r 202 [v1] h1) fun v2 h2 =>
 bnd (aD .geq v2 (aE 0) h2) fun v3 h3 =>
 bnd (gD v3 true (some (v2, h3)) h3) fun v4 h4 =>
 bnd (gD v3 true (some (x0, h4)) h4) fun v5 h5 =>
 bnd (gD v3 true (bV v5 h5) h5) fun v6 h6 =>
 bnd (gD v3 true (aD .geq v4 v6 h6) h6) fun v7 h7 =>
 bnd (gD v3 true (some (v7, h7)) h7) fun v8 h8 =>
 bnd (gD v8 false (some (x1, h8)) h8) fun v9 h9 =>
 bnd (gD v8 false (some (v2, h9)) h9) fun v10 h10 =>
 bnd (gD v8 false (aJ 1 v9 v10 h10) h10) fun v11 h11 =>
 bnd (gD v8 false (aA v11 h11) h11) fun v12 h12 =>
 bnd (gD v8 false (some (x1, h12)) h12) fun v13 h13 =>
 bnd (gD v8 false (some (x5, h13)) h13) fun v14 h14 =>
 bnd (gD v8 false (aJ 1 v13 v14 h14) h14) fun v15 h15 =>
 bnd (gD v8 false (aA v15 h15) h15) fun v16 h16 =>
 bnd (gD v8 false (aD .neq v12 v16 h16) h16) fun v17 h17 =>
 bnd (gD v3 true (aR v8 (.b true) v17 h17) h17) fun v18 h18 =>
 bnd (aR v3 v18 (.b false) h18) fun v19 h19 =>
 aP v19 (
 some ((.b false), h19)) (
  cF r n kk4 x0 x1 x11 x12 x13 h19)
noncomputable def sX (r : RT) (n : Nat) (kk4 : cD) (x0 x1 x5 x6 x7 x8 x9 x11 x12 x13 : DV) (h0 : Hp) : aH :=
 bnd (gS .not x8 h0) fun v1 h1 =>
 bnd (gD v1 false (some (x7, h1)) h1) fun v2 h2 =>
 bnd (gD v1 false (some (x9, h2)) h2) fun v3 h3 =>
 bnd (gD v1 false (aD .gtr v2 v3 h3) h3) fun v4 h4 =>
 bnd (aR v1 (.b true) v4 h4) fun v5 h5 =>
 aP v5 (
 some ((.b false), h5)) (
  fT r n kk4 x0 x1 x5 x6 x11 x12 x13 h5)
noncomputable def aJw (r : RT) (n : Nat) (kk4 : cD) (x0 x1 x5 x6 x7 x8 x9 x11 x12 x13 : DV) (h0 : Hp) : aH :=
 bnd (aJ 1 x1 x5 h0) fun v1 h1 =>
 bnd (aA v1 h1) fun v2 h2 =>
 bnd (aD .geq v2 (aE 0) h2) fun v3 h3 =>
 aP v3 (
 bnd (aJ 1 x1 x5 h3) fun v4 h4 =>
 bnd (aA v4 h4) fun v5 h5 =>
 bnd (r 201 [x0, v5] h5) fun v6 h6 =>
 bnd (aC 0 v6 h6) fun v7 h7 =>
 bnd (aC 1 v6 h7) fun v8 h8 =>
  sX r n kk4 x0 x1 x5 x6 x7 x8 v7 x11 x12 x13 h8) (
  sX r n kk4 x0 x1 x5 x6 x7 x8 x9 x11 x12 x13 h3)
noncomputable def aIf (r : RT) (n : Nat) (kk4 : cD) (x0 x1 x5 x6 x7 x8 x11 x12 x13 : DV) (h0 : Hp) : aH :=
 bnd (bV x0 h0) fun v1 h1 =>
  aJw r n kk4 x0 x1 x5 x6 x7 x8 v1 x11 x12 x13 h1
noncomputable def aXz (r : RT) (n : Nat) (kk4 : cD) (x0 x1 x5 x6 x11 x12 x13 : DV) (h0 : Hp) : aH :=
 bnd (r 201 [x0, x5] h0) fun v1 h1 =>
 bnd (aC 0 v1 h1) fun v2 h2 =>
 bnd (aC 1 v1 h2) fun v3 h3 =>
  aIf r n kk4 x0 x1 x5 x6 v2 v3 x11 x12 x13 h3
noncomputable def aHw (r : RT) (n : Nat) (kk4 : cD) (x0 x1 x5 x6 x11 x12 x13 x20 : DV) (h0 : Hp) : aH :=
 aP x20 (
  aXz r n kk4 x0 x1 x5 x6 x11 x12 x13 h0) (
  fT r n kk4 x0 x1 x5 x6 x11 x12 x13 h0)
noncomputable def xI (r : RT) (n : Nat) (kk4 : cD) (x0 x1 x5 x6 x11 x12 x13 : DV) (h0 : Hp) : aH :=
 bnd (aB 0 x6 h0) fun v1 h1 =>
 bnd (aA v1 h1) fun v2 h2 =>
 bnd (aD .eql v2 (aE 18) h2) fun v3 h3 =>
  aHw r n kk4 x0 x1 x5 x6 x11 x12 x13 v3 h3
noncomputable def aHr (r : RT) (n : Nat) (kk4 : cD) (x0 x1 x11 x12 x13 : DV) (h0 : Hp) : aH :=
 bnd (aJ 3 x11 x13 h0) fun v1 h1 =>
 bnd (aK 3 v1 h1) fun v2 h2 =>
 bnd (bL [(aE 0), (aE 0), (aE 0)] h2) fun v3 h3 =>
 bnd (aG 3 v3 v2 h3) fun _ h4 =>
  xI r n kk4 x0 x1 x13 v3 x11 x12 x13 h4
noncomputable def aSf (r : RT) (n : Nat) (kk4 : cD) (x0 x1 x11 x12 x13 x14 : DV) (h0 : Hp) : aH :=
 aP x14 (
  aHr r n kk4 x0 x1 x11 x12 x13 h0) (
  bI r n h0)
noncomputable def aYw (r : RT) (n : Nat) (kk4 : cD) (x0 x1 x11 x12 x13 : DV) (h0 : Hp) : aH :=
 bnd (aD .lss x13 x12 h0) fun v1 h1 =>
  aSf r n kk4 x0 x1 x11 x12 x13 v1 h1
noncomputable def tE (r : RT) (n : Nat) (m : Nat) : cD :=
 Nat.rec (motive := fun _ => cD) (fun _ _ _ _ _ _ => none) (fun _ ih => aYw r n ih) m
noncomputable def bTk (r : RT) (n : Nat) : cD := tE r n n
noncomputable def aNx (r : RT) (n : Nat) (x0 x1 x11 x12 x13 : DV) (h0 : Hp) : aH :=
 bTk r n x0 x1 x11 x12 x13 h0
noncomputable def aQo (r : RT) (n : Nat) (x0 x1 : DV) (h0 : Hp) : aH :=
 bnd (bV x0 h0) fun v1 h1 =>
  aNx r n x0 x1 x0 v1 (aE 0) h1
noncomputable def s174 (r : RT) (n : Nat) (x0 x1 : DV) (h0 : Hp) : aH :=
 aQo r n x0 x1 h0
noncomputable abbrev c174 : Code := cf Tryz.f174
noncomputable abbrev aIg : Code := cR c174
noncomputable abbrev cYo : Code := cR aIg
noncomputable abbrev uX : Code := cL aIg
noncomputable abbrev aQz : Code := cR uX
noncomputable abbrev aCp : Code := cL aQz
noncomputable abbrev jV : Code := cL aCp
noncomputable abbrev aAl : Code := cR jV
noncomputable abbrev aDq : Code := cR aAl
noncomputable abbrev dDk : Code := cR aDq
noncomputable abbrev sC : Code := cL aDq
noncomputable abbrev sW : Code := cL sC
noncomputable abbrev sN : Code := cR sW
noncomputable abbrev cNj : Code := cR sN
noncomputable abbrev oG : Code := cL sN
noncomputable abbrev pG : Code := cR oG
noncomputable abbrev oU : Code := cL pG
noncomputable abbrev rW : Code := cR oU
noncomputable abbrev tG : Code := cR rW
noncomputable abbrev cIt : Code := cR tG
noncomputable abbrev aVd : Code := cL tG
noncomputable abbrev aVz : Code := cL rW
noncomputable abbrev aVs : Code := cL oU
noncomputable abbrev cPz : Code := cR pG
noncomputable abbrev aUu : Code := cL oG
noncomputable abbrev aGp : Code := cL sW
noncomputable abbrev aUv : Code := cL aAl
noncomputable abbrev aYg : Code := cL jV
noncomputable abbrev aXg : Code := cL uX
noncomputable abbrev aXt : Code := cL c174
noncomputable abbrev r174 : K := aQ CF Tryz.f174
noncomputable def D174 (r : RT) (n : Nat) (c : Code) (X : Nat → K) (k : K) : K := aM CF r 72 n c X r174 k
theorem cDo : D174 r n cYo x0 r174 = (K0 (bI r n)) :=
 (by kernel_rfl)
theorem cKa (kk4 : cD) : D174 r n dDk (xs x0 0 (K0 (bI r n))) (K5 kk4 0 1 11 12 13) = (K5 (cF r n kk4) 0 1 11 12 13) :=
 (by kernel_rfl)
theorem cHw (kk4 : cD) : D174 r n cNj (xs (xs x0 0 (K0 (bI r n))) 1 (K5 (cF r n kk4) 0 1 11 12 13)) (K5 (cF r n kk4) 0 1 11 12 13) = (K7 (fT r n kk4) 0 1 5 6 11 12 13) :=
 (by kernel_rfl)
theorem bLh (kk4 : cD) : D174 r n cIt (xs (xs x0 0 (K0 (bI r n))) 1 (K5 (cF r n kk4) 0 1 11 12 13)) (K7 (fT r n kk4) 0 1 5 6 11 12 13) = (K10 (sX r n kk4) 0 1 5 6 7 8 9 11 12 13) :=
 (by kernel_rfl)
theorem bFg (kk4 : cD) : D174 r n tG (xs (xs x0 0 (K0 (bI r n))) 1 (K5 (cF r n kk4) 0 1 11 12 13)) (K7 (fT r n kk4) 0 1 5 6 11 12 13) = D174 r n aVd (xs (xs x0 0 (K0 (bI r n))) 1 (K5 (cF r n kk4) 0 1 11 12 13)) (K10 (sX r n kk4) 0 1 5 6 7 8 9 11 12 13) :=
 congrArg (fun k => D174 r n aVd (xs (xs x0 0 (K0 (bI r n))) 1 (K5 (cF r n kk4) 0 1 11 12 13)) k) (bLh r n kk4)
theorem bWq (kk4 : cD) : D174 r n tG (xs (xs x0 0 (K0 (bI r n))) 1 (K5 (cF r n kk4) 0 1 11 12 13)) (K7 (fT r n kk4) 0 1 5 6 11 12 13) = (K10 (aJw r n kk4) 0 1 5 6 7 8 9 11 12 13) :=
 (bFg r n kk4).trans
 ((by kernel_rfl))
theorem bEy (kk4 : cD) : D174 r n rW (xs (xs x0 0 (K0 (bI r n))) 1 (K5 (cF r n kk4) 0 1 11 12 13)) (K7 (fT r n kk4) 0 1 5 6 11 12 13) = D174 r n aVz (xs (xs x0 0 (K0 (bI r n))) 1 (K5 (cF r n kk4) 0 1 11 12 13)) (K10 (aJw r n kk4) 0 1 5 6 7 8 9 11 12 13) :=
 congrArg (fun k => D174 r n aVz (xs (xs x0 0 (K0 (bI r n))) 1 (K5 (cF r n kk4) 0 1 11 12 13)) k) (bWq r n kk4)
theorem bYy (kk4 : cD) : D174 r n rW (xs (xs x0 0 (K0 (bI r n))) 1 (K5 (cF r n kk4) 0 1 11 12 13)) (K7 (fT r n kk4) 0 1 5 6 11 12 13) = (K9 (aIf r n kk4) 0 1 5 6 7 8 11 12 13) :=
 (bEy r n kk4).trans
 ((by kernel_rfl))
theorem bDc (kk4 : cD) : D174 r n oU (xs (xs x0 0 (K0 (bI r n))) 1 (K5 (cF r n kk4) 0 1 11 12 13)) (K7 (fT r n kk4) 0 1 5 6 11 12 13) = D174 r n aVs (xs (xs x0 0 (K0 (bI r n))) 1 (K5 (cF r n kk4) 0 1 11 12 13)) (K9 (aIf r n kk4) 0 1 5 6 7 8 11 12 13) :=
 congrArg (fun k => D174 r n aVs (xs (xs x0 0 (K0 (bI r n))) 1 (K5 (cF r n kk4) 0 1 11 12 13)) k) (bYy r n kk4)
theorem bRe (kk4 : cD) : D174 r n oU (xs (xs x0 0 (K0 (bI r n))) 1 (K5 (cF r n kk4) 0 1 11 12 13)) (K7 (fT r n kk4) 0 1 5 6 11 12 13) = (K7 (aXz r n kk4) 0 1 5 6 11 12 13) :=
 (bDc r n kk4).trans
 ((by kernel_rfl))
theorem bPt (kk4 : cD) : D174 r n pG (xs (xs x0 0 (K0 (bI r n))) 1 (K5 (cF r n kk4) 0 1 11 12 13)) (K7 (fT r n kk4) 0 1 5 6 11 12 13) = (K8 (aHw r n kk4) 0 1 5 6 11 12 13 20) :=
 (by kernel_rfl : D174 r n pG (xs (xs x0 0 (K0 (bI r n))) 1 (K5 (cF r n kk4) 0 1 11 12 13)) (K7 (fT r n kk4) 0 1 5 6 11 12 13) = (fun (env : aU) (h : Hp) => aP (opr env (cC pG)) (D174 r n oU (xs (xs x0 0 (K0 (bI r n))) 1 (K5 (cF r n kk4) 0 1 11 12 13)) (K7 (fT r n kk4) 0 1 5 6 11 12 13) env h) (D174 r n cPz (xs (xs x0 0 (K0 (bI r n))) 1 (K5 (cF r n kk4) 0 1 11 12 13)) (K7 (fT r n kk4) 0 1 5 6 11 12 13) env h))).trans (by rw [bRe r n kk4]; kernel_rfl)
theorem bKc (kk4 : cD) : D174 r n sN (xs (xs x0 0 (K0 (bI r n))) 1 (K5 (cF r n kk4) 0 1 11 12 13)) (K5 (cF r n kk4) 0 1 11 12 13) = D174 r n oG (xs (xs x0 0 (K0 (bI r n))) 1 (K5 (cF r n kk4) 0 1 11 12 13)) (K7 (fT r n kk4) 0 1 5 6 11 12 13) :=
 congrArg (fun k => D174 r n oG (xs (xs x0 0 (K0 (bI r n))) 1 (K5 (cF r n kk4) 0 1 11 12 13)) k) (cHw r n kk4)
theorem bZx (kk4 : cD) : D174 r n oG (xs (xs x0 0 (K0 (bI r n))) 1 (K5 (cF r n kk4) 0 1 11 12 13)) (K7 (fT r n kk4) 0 1 5 6 11 12 13) = D174 r n aUu (xs (xs x0 0 (K0 (bI r n))) 1 (K5 (cF r n kk4) 0 1 11 12 13)) (K8 (aHw r n kk4) 0 1 5 6 11 12 13 20) :=
 congrArg (fun k => D174 r n aUu (xs (xs x0 0 (K0 (bI r n))) 1 (K5 (cF r n kk4) 0 1 11 12 13)) k) (bPt r n kk4)
theorem cOg (kk4 : cD) : D174 r n sN (xs (xs x0 0 (K0 (bI r n))) 1 (K5 (cF r n kk4) 0 1 11 12 13)) (K5 (cF r n kk4) 0 1 11 12 13) = (K7 (xI r n kk4) 0 1 5 6 11 12 13) :=
 (bKc r n kk4).trans
 ((bZx r n kk4).trans
 ((by kernel_rfl)))
theorem bKq (kk4 : cD) : D174 r n aDq (xs x0 0 (K0 (bI r n))) (K5 kk4 0 1 11 12 13) = D174 r n sC (xs x0 0 (K0 (bI r n))) (K5 (cF r n kk4) 0 1 11 12 13) :=
 congrArg (fun k => D174 r n sC (xs x0 0 (K0 (bI r n))) k) (cKa r n kk4)
theorem bUj (kk4 : cD) : D174 r n sW (xs (xs x0 0 (K0 (bI r n))) 1 (K5 (cF r n kk4) 0 1 11 12 13)) (K5 (cF r n kk4) 0 1 11 12 13) = D174 r n aGp (xs (xs x0 0 (K0 (bI r n))) 1 (K5 (cF r n kk4) 0 1 11 12 13)) (K7 (xI r n kk4) 0 1 5 6 11 12 13) :=
 congrArg (fun k => D174 r n aGp (xs (xs x0 0 (K0 (bI r n))) 1 (K5 (cF r n kk4) 0 1 11 12 13)) k) (cOg r n kk4)
theorem cAt (kk4 : cD) (q0 : TT7) (q1 : Hp → aH) (q2 : cD) : D174 r n aGp (xs (xs x0 0 (K0 q1)) 1 (K5 q2 0 1 11 12 13)) (K7 q0 0 1 5 6 11 12 13) = fun (env : aU) (h : Hp) =>
 bnd (aJ 3 (env 11) (env 13) h) fun v1 h1 =>
 bnd (aK 3 v1 h1) fun v2 h2 =>
 bnd (bL [(aE 0), (aE 0), (aE 0)] h2) fun v3 h3 =>
 bnd (aG 3 v3 v2 h3) fun _ h4 =>
  q0 (env 0) (env 1) (env 13) v3 (env 11) (env 12) (env 13) h4 := by kernel_rfl
theorem bEv (kk4 : cD) : (fun (env : aU) (h : Hp) =>
 bnd (aJ 3 (env 11) (env 13) h) fun v1 h1 =>
 bnd (aK 3 v1 h1) fun v2 h2 =>
 bnd (bL [(aE 0), (aE 0), (aE 0)] h2) fun v3 h3 =>
 bnd (aG 3 v3 v2 h3) fun _ h4 =>
  xI r n kk4 (env 0) (env 1) (env 13) v3 (env 11) (env 12) (env 13) h4) = (K5 (aHr r n kk4) 0 1 11 12 13) := by kernel_rfl
theorem cPr (kk4 : cD) : D174 r n aDq (xs x0 0 (K0 (bI r n))) (K5 kk4 0 1 11 12 13) = (K5 (aHr r n kk4) 0 1 11 12 13) :=
 (bKq r n kk4).trans
 ((by kernel_rfl : D174 r n sC (xs x0 0 (K0 (bI r n))) (K5 (cF r n kk4) 0 1 11 12 13) = D174 r n sW (xs (xs x0 0 (K0 (bI r n))) 1 (K5 (cF r n kk4) 0 1 11 12 13)) (K5 (cF r n kk4) 0 1 11 12 13)).trans
 ((bUj r n kk4).trans
 ((cAt r n kk4 (xI r n kk4) (bI r n) (cF r n kk4)).trans (bEv r n kk4))))
theorem bIo (kk4 : cD) : D174 r n aAl (xs x0 0 (K0 (bI r n))) (K5 kk4 0 1 11 12 13) = D174 r n aUv (xs x0 0 (K0 (bI r n))) (K5 (aHr r n kk4) 0 1 11 12 13) :=
 congrArg (fun k => D174 r n aUv (xs x0 0 (K0 (bI r n))) k) (cPr r n kk4)
theorem cNm (kk4 : cD) : D174 r n aAl (xs x0 0 (K0 (bI r n))) (K5 kk4 0 1 11 12 13) = (K6 (aSf r n kk4) 0 1 11 12 13 14) :=
 (bIo r n kk4).trans
 ((by kernel_rfl))
theorem bBw (kk4 : cD) : D174 r n jV (xs x0 0 (K0 (bI r n))) (K5 kk4 0 1 11 12 13) = D174 r n aYg (xs x0 0 (K0 (bI r n))) (K6 (aSf r n kk4) 0 1 11 12 13 14) :=
 congrArg (fun k => D174 r n aYg (xs x0 0 (K0 (bI r n))) k) (cNm r n kk4)
theorem bOz (kk4 : cD) : D174 r n jV (xs x0 0 (K0 (bI r n))) (K5 kk4 0 1 11 12 13) = (K5 (aYw r n kk4) 0 1 11 12 13) :=
 (bBw r n kk4).trans
 ((by kernel_rfl))
theorem bJo (m : Nat) : aN (fun kk => D174 r n jV (xs x0 0 (K0 (bI r n))) kk) m = (K5 (tE r n m) 0 1 11 12 13) := by
 induction m with
 | zero => exact (by kernel_rfl : aN (fun kk => D174 r n jV (xs x0 0 (K0 (bI r n))) kk) 0 = (K5 (tE r n 0) 0 1 11 12 13))
 | succ m ih =>
  refine (by kernel_rfl : aN (fun kk => D174 r n jV (xs x0 0 (K0 (bI r n))) kk) (m + 1) = D174 r n jV (xs x0 0 (K0 (bI r n))) (aN (fun kk => D174 r n jV (xs x0 0 (K0 (bI r n))) kk) m)).trans ?_
  rw [ih]
  exact (bOz r n (tE r n m)).trans (by kernel_rfl)
theorem cGt : D174 r n aCp (xs x0 0 (K0 (bI r n))) (K0 (bI r n)) = (K5 (bTk r n) 0 1 11 12 13) :=
 (by kernel_rfl : D174 r n aCp (xs x0 0 (K0 (bI r n))) (K0 (bI r n)) = aN (fun kk => D174 r n jV (xs x0 0 (K0 (bI r n))) kk) n).trans ((bJo r n n).trans (by kernel_rfl))
theorem cKb : D174 r n aQz x0 (K0 (bI r n)) = (K5 (aNx r n) 0 1 11 12 13) :=
 (by kernel_rfl : D174 r n aQz x0 (K0 (bI r n)) = D174 r n aCp (xs x0 0 (K0 (bI r n))) (K0 (bI r n))).trans
 ((cGt r n).trans (by kernel_rfl))
theorem bCn : D174 r n aIg x0 r174 = D174 r n uX x0 (K0 (bI r n)) :=
 congrArg (fun k => D174 r n uX x0 k) (cDo r n)
theorem bCs : D174 r n uX x0 (K0 (bI r n)) = D174 r n aXg x0 (K5 (aNx r n) 0 1 11 12 13) :=
 congrArg (fun k => D174 r n aXg x0 k) (cKb r n)
theorem cHb : D174 r n aIg x0 r174 = (K2 (aQo r n) 0 1) :=
 (bCn r n).trans
 ((bCs r n).trans
 ((by kernel_rfl)))
theorem cLk : D174 r n c174 x0 r174 = D174 r n aXt x0 (K2 (aQo r n) 0 1) :=
 congrArg (fun k => D174 r n aXt x0 k) (cHb r n)
theorem dDq : D174 r n c174 x0 r174 = (K2 (s174 r n) 0 1) :=
 (cLk r n).trans
 ((by kernel_rfl))
theorem cUz : aF CF r n 174 args h = s174 r n (aS args 0) (aS args 1) h :=
 (by kernel_rfl : aF CF r n 174 args h = D174 r n c174 x0 r174 (aI args) h).trans ((congrFun (congrFun (dDq r n) (aI args)) h).trans (by kernel_rfl))
noncomputable def bS (r : RT) (n : Nat) (x6 x9 : DV) (h0 : Hp) : aH :=
 bnd (aA x6 h0) fun v1 h1 =>
 bnd (aA x9 h1) fun v2 h2 =>
 some (.t [v1, v2], h2)
noncomputable def sE (r : RT) (n : Nat) (kk9 : fC) (x2 x3 x6 x7 x9 x10 x11 x14 : DV) (h0 : Hp) : aH :=
 bnd (aD .add x11 (aE 1) h0) fun v1 h1 =>
 bnd (aA x3 h1) fun v2 h2 =>
 bnd (aJ 1 v2 x11 h2) fun v3 h3 =>
 bnd (aA v3 h3) fun v4 h4 =>
 bnd (cV CF r x10 [v1, v4, x14] h4) fun v5 h5 =>
  kk9 x2 x3 x6 x7 x9 x10 h5
noncomputable def aIw (r : RT) (n : Nat) (kk9 : fC) (x2 x3 x6 x7 x9 x10 x11 x12 x13 x14 : DV) (h0 : Hp) : aH :=
 bnd (aB 0 x12 h0) fun v1 h1 =>
 bnd (aA v1 h1) fun v2 h2 =>
 bnd (aD .eql v2 (aE 19) h2) fun v3 h3 =>
 aP v3 (
 bnd (aD .neq x13 (aE 1) h3) fun v4 h4 =>
 bnd (gD v4 false (aA x3 h4) h4) fun v5 h5 =>
 bnd (gD v4 false (some (x11, h5)) h5) fun v6 h6 =>
 bnd (gD v4 false (aJ 1 v5 v6 h6) h6) fun v7 h7 =>
 bnd (gD v4 false (aA v7 h7) h7) fun v8 h8 =>
 bnd (gD v4 false (aD .lss v8 (aE 0) h8) h8) fun v9 h9 =>
 bnd (aR v4 (.b true) v9 h9) fun v10 h10 =>
 aP v10 (
 some (.t [.l0, (.b false)], h10)) (
   kk9 x2 x3 x6 x7 x9 x10 h10)) (
 bnd (aD .eql v2 (aE 20) h3) fun v11 h11 =>
 aP v11 (
   kk9 x2 x3 x6 x7 x9 x10 h11) (
 bnd (aD .eql v2 (aE 16) h11) fun v12 h12 =>
 aP v12 (
 bnd (aK 3 x12 h12) fun v13 h13 =>
 bnd (r 202 [v13] h13) fun v14 h14 =>
 bnd (aA x3 h14) fun v15 h15 =>
 cnd (bH (aA x3 h12) v15 && true) (
 bnd (aJ 1 v15 x11 h15) fun v16 h16 =>
 bnd (aA v16 h16) fun v17 h17 =>
 cnd (bH (aA v16 h12) v17 && true) (
 bnd (cV CF r x10 [v14, v17, x14] h17) fun v18 h18 =>
    kk9 x2 x3 x6 x7 x9 x10 h18))) (
 bnd (aD .eql v2 (aE 17) h12) fun v19 h19 =>
 aP v19 (
 bnd (aK 3 x12 h19) fun v20 h20 =>
 bnd (r 202 [v20] h20) fun v21 h21 =>
 bnd (aA x3 h21) fun v22 h22 =>
 cnd (bH (aA x3 h19) v22 && true) (
 bnd (aJ 1 v22 x11 h22) fun v23 h23 =>
 bnd (aA v23 h23) fun v24 h24 =>
 cnd (bH (aA v23 h19) v24 && true) (
 bnd (cV CF r x10 [v21, v24, x14] h24) fun v25 h25 =>
     sE r n kk9 x2 x3 x6 x7 x9 x10 x11 x14 h25))) (
     sE r n kk9 x2 x3 x6 x7 x9 x10 x11 x14 h19))))
noncomputable def aGv (r : RT) (n : Nat) (kk9 : fC) (x2 x3 x6 x7 x9 x10 x11 x12 x13 x14 : DV) (h0 : Hp) : aH :=
 bnd (aK 3 x12 h0) fun v1 h1 =>
 bnd (r 205 [v1] h1) fun v2 h2 =>
 bnd (aD .lss x13 v2 h2) fun v3 h3 =>
 bnd (gD v3 false (some (x14, h3)) h3) fun v4 h4 =>
 bnd (gD v3 false (aD .gtr v4 (aE 24) h4) h4) fun v5 h5 =>
 bnd (aR v3 (.b true) v5 h5) fun v6 h6 =>
 aP v6 (
 some (.t [.l0, (.b false)], h6)) (
  aIw r n kk9 x2 x3 x6 x7 x9 x10 x11 x12 x13 x14 h6)
noncomputable def aHg (r : RT) (n : Nat) (kk9 : fC) (x2 x3 x6 x7 x9 x10 x11 x12 x13 : DV) (h0 : Hp) : aH :=
 bnd (aK 3 x12 h0) fun v1 h1 =>
 bnd (r 204 [v1] h1) fun v2 h2 =>
 bnd (aD .add x13 v2 h2) fun v3 h3 =>
  aGv r n kk9 x2 x3 x6 x7 x9 x10 x11 x12 x13 v3 h3
noncomputable def aIa (r : RT) (n : Nat) (kk9 : fC) (x2 x3 x6 x7 x9 x10 x11 : DV) (h0 : Hp) : aH :=
 bnd (aA x2 (resv 1 h0)) fun v1 h1 =>
 bnd (aJ 3 v1 x11 h1) fun v2 h2 =>
 bnd (aK 3 v2 h2) fun v3 h3 =>
 bnd (aA x6 h3) fun v4 h4 =>
 bnd (aJ 1 v4 x11 h4) fun v5 h5 =>
 bnd (aA v5 h5) fun v6 h6 =>
 bnd (jW (bW 0 h0.next) [(aE 0), (aE 0), (aE 0)] h6) fun v7 h7 =>
 bnd (aG 3 v7 v3 h7) fun v8 h8 =>
 cnd (bH (aA v5 h8) v6 && (bH (aA x6 h8) v4 && true)) (
  aHg r n kk9 x2 x3 x6 x7 x9 x10 x11 v7 v6 h8)
noncomputable def aCx (r : RT) (n : Nat) (kk9 : fC) (x2 x3 x6 x7 x9 x10 x11 : DV) (h0 : Hp) : aH :=
 bnd (aA x7 h0) fun v1 h1 =>
 bnd (aA x7 h1) fun v2 h2 =>
 bnd (bV v2 h2) fun v3 h3 =>
 bnd (aD .sub v3 (aE 1) h3) fun v4 h4 =>
 bnd (cQ 1 v1 none (some v4) h4) fun v5 h5 =>
 bnd (aG 1 x7 v5 h5) fun _ h6 =>
  aIa r n kk9 x2 x3 x6 x7 x9 x10 x11 h6
noncomputable def aEc (r : RT) (n : Nat) (kk9 : fC) (x2 x3 x6 x7 x9 x10 : DV) (h0 : Hp) : aH :=
 bnd (aA x7 h0) fun v1 h1 =>
 bnd (aA x7 h1) fun v2 h2 =>
 bnd (bV v2 h2) fun v3 h3 =>
 bnd (aD .sub v3 (aE 1) h3) fun v4 h4 =>
 bnd (aJ 1 v1 v4 h4) fun v5 h5 =>
 bnd (aA v5 h5) fun v6 h6 =>
  aCx r n kk9 x2 x3 x6 x7 x9 x10 v6 h6
noncomputable def aUd (r : RT) (n : Nat) (kk9 : fC) (x2 x3 x6 x7 x9 x10 : DV) (h0 : Hp) : aH :=
 bnd (aA x7 h0) fun v1 h1 =>
 bnd (bV v1 h1) fun v2 h2 =>
 bnd (aD .gtr v2 (aE 0) h2) fun v3 h3 =>
 bnd (gD v3 true (aA x9 h3) h3) fun v4 h4 =>
 bnd (aR v3 v4 (.b false) h4) fun v5 h5 =>
 aP v5 (
   aEc r n kk9 x2 x3 x6 x7 x9 x10 h5) (
   bS r n x6 x9 h5)
noncomputable def tN (r : RT) (n : Nat) (m : Nat) : fC :=
 Nat.rec (motive := fun _ => fC) (fun _ _ _ _ _ _ _ => none) (fun _ ih => aUd r n ih) m
noncomputable def bIh (r : RT) (n : Nat) : fC := tN r n n
noncomputable def aOp (r : RT) (n : Nat) (x2 x3 x6 x7 x9 x10 : DV) (h0 : Hp) : aH :=
 bIh r n x2 x3 x6 x7 x9 x10 h0
noncomputable def aSr (r : RT) (n : Nat) (x2 x3 x6 x7 x9 x10 : DV) (h0 : Hp) : aH :=
 aOp r n x2 x3 x6 x7 x9 x10 h0
noncomputable def uI (r : RT) (n : Nat) (x2 x3 x6 x7 x9 : DV) (h0 : Hp) : aH :=
 aSr r n x2 x3 x6 x7 x9 (.f 203 [] [x2, x3, x6, x9, x7]) h0
noncomputable def cJ (r : RT) (n : Nat) (x2 x3 x6 x7 : DV) (h0 : Hp) : aH :=
 bnd (bL [(.b false)] h0) fun v1 h1 =>
 bnd (aG 1 v1 (.b true) h1) fun _ h2 =>
  uI r n x2 x3 x6 x7 v1 h2
noncomputable def lI (r : RT) (n : Nat) (kk18 : fC) (x2 x3 x6 x7 x19 x20 : DV) (h0 : Hp) : aH :=
 bnd (aD .add x20 (aE 1) h0) fun v1 h1 =>
  kk18 x2 x3 x6 x7 x19 v1 h1
noncomputable def rX (r : RT) (n : Nat) (kk18 : fC) (x2 x3 x6 x7 x19 x20 : DV) (h0 : Hp) : aH :=
 bnd (aA x6 h0) fun v1 h1 =>
 bnd (aJ 1 v1 x20 h1) fun v2 h2 =>
 bnd (aG 1 v2 (.i .i64 (Int.negSucc 0)) h2) fun _ h3 =>
 bnd (aD .eql x20 (aE 0) h3) fun v4 h4 =>
 bnd (gD v4 false (some (x20, h4)) h4) fun v5 h5 =>
 bnd (gD v4 false (aD .gtr v5 (aE 1) h5) h5) fun v6 h6 =>
 bnd (gD v4 false (some (v6, h6)) h6) fun v7 h7 =>
 bnd (gD v7 true (aA x2 h7) h7) fun v8 h8 =>
 bnd (gD v7 true (some (x20, h8)) h8) fun v9 h9 =>
 bnd (gD v7 true (aD .sub v9 (aE 2) h9) h9) fun v10 h10 =>
 bnd (gD v7 true (aJ 3 v8 v10 h10) h10) fun v11 h11 =>
 bnd (gD v7 true (aB 0 v11 h11) h11) fun v12 h12 =>
 bnd (gD v7 true (aA v12 h12) h12) fun v13 h13 =>
 bnd (gD v7 true (aD .eql v13 (aE 18) h13) h13) fun v14 h14 =>
 bnd (gD v4 false (aR v7 v14 (.b false) h14) h14) fun v15 h15 =>
 bnd (gD v4 false (some (v15, h15)) h15) fun v16 h16 =>
 bnd (gD v16 true (aA x3 h16) h16) fun v17 h17 =>
 bnd (gD v16 true (some (x20, h17)) h17) fun v18 h18 =>
 bnd (gD v16 true (aJ 1 v17 v18 h18) h18) fun v19 h19 =>
 bnd (gD v16 true (aA v19 h19) h19) fun v20 h20 =>
 bnd (gD v16 true (some (x20, h20)) h20) fun v21 h21 =>
 bnd (gD v16 true (aD .sub v21 (aE 2) h21) h21) fun v22 h22 =>
 bnd (gD v16 true (aD .eql v20 v22 h22) h22) fun v23 h23 =>
 bnd (gD v4 false (aR v16 v23 (.b false) h23) h23) fun v24 h24 =>
 bnd (aR v4 (.b true) v24 h24) fun v25 h25 =>
 aP v25 (
 bnd (aA x6 h25) fun v26 h26 =>
 bnd (aJ 1 v26 x20 h26) fun v27 h27 =>
 bnd (aG 1 v27 (aE 0) h27) fun _ h28 =>
 bnd (aA x7 h28) fun v29 h29 =>
 bnd (aL [(aE 0)] 1 [(0, 1, x20)] h29) fun v30 h30 =>
 bnd (aZ 1 8 v29 v30 h30) fun v31 h31 =>
 bnd (aG 1 x7 v31 h31) fun _ h32 =>
  lI r n kk18 x2 x3 x6 x7 x19 x20 h32) (
  lI r n kk18 x2 x3 x6 x7 x19 x20 h25)
noncomputable def aCf (r : RT) (n : Nat) (kk18 : fC) (x2 x3 x6 x7 x19 x20 x21 : DV) (h0 : Hp) : aH :=
 aP x21 (
  rX r n kk18 x2 x3 x6 x7 x19 x20 h0) (
  cJ r n x2 x3 x6 x7 h0)
noncomputable def aLv (r : RT) (n : Nat) (kk18 : fC) (x2 x3 x6 x7 x19 x20 : DV) (h0 : Hp) : aH :=
 bnd (aD .lss x20 x19 h0) fun v1 h1 =>
  aCf r n kk18 x2 x3 x6 x7 x19 x20 v1 h1
noncomputable def oH (r : RT) (n : Nat) (m : Nat) : fC :=
 Nat.rec (motive := fun _ => fC) (fun _ _ _ _ _ _ _ => none) (fun _ ih => aLv r n ih) m
noncomputable def aUm (r : RT) (n : Nat) : fC := oH r n n
noncomputable def aBi (r : RT) (n : Nat) (x2 x3 x6 x7 x19 x20 : DV) (h0 : Hp) : aH :=
 aUm r n x2 x3 x6 x7 x19 x20 h0
noncomputable def uS (r : RT) (n : Nat) (x2 x3 x6 x7 : DV) (h0 : Hp) : aH :=
 bnd (aA x6 h0) fun v1 h1 =>
 bnd (bV v1 h1) fun v2 h2 =>
  aBi r n x2 x3 x6 x7 v2 (aE 0) h2
noncomputable def qC (r : RT) (n : Nat) (x2 x3 x6 : DV) (h0 : Hp) : aH :=
 bnd (bL [.l0] h0) fun v1 h1 =>
  uS r n x2 x3 x6 v1 h1
noncomputable def qJ (r : RT) (n : Nat) (x2 x3 : DV) (h0 : Hp) : aH :=
 bnd (aA x2 h0) fun v1 h1 =>
 bnd (bV v1 h1) fun v2 h2 =>
 bnd (cG 1 8 [(aE 0)] v2 v2 h2) fun v3 h3 =>
 bnd (bL [.l0] h3) fun v4 h4 =>
 bnd (aG 1 v4 v3 h4) fun _ h5 =>
  qC r n x2 x3 v4 h5
noncomputable def s175 (r : RT) (n : Nat) (x0 x1 : DV) (h0 : Hp) : aH :=
 bnd (bQ x0 h0) fun v1 h1 =>
 bnd (bQ x1 h1) fun v2 h2 =>
  qJ r n v1 v2 h2
noncomputable abbrev c175 : Code := cf Tryz.f175
noncomputable abbrev aQi : Code := cR c175
noncomputable abbrev aGn : Code := cL aQi
noncomputable abbrev aEo : Code := cR aGn
noncomputable abbrev aFv : Code := cR aEo
noncomputable abbrev aAi : Code := cR aFv
noncomputable abbrev aBa : Code := cR aAi
noncomputable abbrev aEm : Code := cR aBa
noncomputable abbrev aAp : Code := cR aEm
noncomputable abbrev dCd : Code := cR aAp
noncomputable abbrev sV : Code := cL aAp
noncomputable abbrev rT : Code := cL sV
noncomputable abbrev hU : Code := cL rT
noncomputable abbrev aJv : Code := cR hU
noncomputable abbrev tK : Code := cL aJv
noncomputable abbrev tS : Code := cR tK
noncomputable abbrev sF : Code := cR tS
noncomputable abbrev uB : Code := cR sF
noncomputable abbrev sA : Code := cR uB
noncomputable abbrev sL : Code := cR sA
noncomputable abbrev cJb : Code := cR sL
noncomputable abbrev aWj : Code := cL sL
noncomputable abbrev aVm : Code := cL sA
noncomputable abbrev bAa : Code := cL uB
noncomputable abbrev aYq : Code := cL sF
noncomputable abbrev bAq : Code := cL tS
noncomputable abbrev aUt : Code := cL tK
noncomputable abbrev aYr : Code := cL hU
noncomputable abbrev aUe : Code := cL aEm
noncomputable abbrev aVt : Code := cL aBa
noncomputable abbrev aGe : Code := cL aAi
noncomputable abbrev pB : Code := cL aFv
noncomputable abbrev aBm : Code := cR pB
noncomputable abbrev tZ : Code := cL aBm
noncomputable abbrev hD : Code := cL tZ
noncomputable abbrev uF : Code := cR hD
noncomputable abbrev sH : Code := cR uF
noncomputable abbrev cLe : Code := cR sH
noncomputable abbrev aAr : Code := cL sH
noncomputable abbrev aVu : Code := cL uF
noncomputable abbrev bAn : Code := cL hD
noncomputable abbrev aXi : Code := cL pB
noncomputable abbrev aBw : Code := cL aEo
noncomputable abbrev aHh : Code := cL aGn
noncomputable abbrev aBx : Code := cL c175
noncomputable abbrev r175 : K := aQ CF Tryz.f175
noncomputable def D175 (r : RT) (n : Nat) (c : Code) (X : Nat → K) (k : K) : K := aM CF r 144 n c X r175 k
theorem cKr : D175 r n dCd x0 r175 = (K2 (bS r n) 6 9) :=
 (by kernel_rfl)
theorem bNi (kk9 : fC) : D175 r n cJb (xs (xs x0 2 (K2 (bS r n) 6 9)) 3 (K6 kk9 2 3 6 7 9 10)) (K6 kk9 2 3 6 7 9 10) = (K8 (sE r n kk9) 2 3 6 7 9 10 11 14) :=
 (by kernel_rfl)
theorem bDx (kk9 : fC) : D175 r n sL (xs (xs x0 2 (K2 (bS r n) 6 9)) 3 (K6 kk9 2 3 6 7 9 10)) (K6 kk9 2 3 6 7 9 10) = D175 r n aWj (xs (xs x0 2 (K2 (bS r n) 6 9)) 3 (K6 kk9 2 3 6 7 9 10)) (K8 (sE r n kk9) 2 3 6 7 9 10 11 14) :=
 congrArg (fun k => D175 r n aWj (xs (xs x0 2 (K2 (bS r n) 6 9)) 3 (K6 kk9 2 3 6 7 9 10)) k) (bNi r n kk9)
theorem bTc (kk9 : fC) : D175 r n sL (xs (xs x0 2 (K2 (bS r n) 6 9)) 3 (K6 kk9 2 3 6 7 9 10)) (K6 kk9 2 3 6 7 9 10) = (K10 (aIw r n kk9) 2 3 6 7 9 10 11 12 13 14) :=
 (bDx r n kk9).trans
 ((by kernel_rfl))
theorem bFl (kk9 : fC) : D175 r n sA (xs (xs x0 2 (K2 (bS r n) 6 9)) 3 (K6 kk9 2 3 6 7 9 10)) (K6 kk9 2 3 6 7 9 10) = D175 r n aVm (xs (xs x0 2 (K2 (bS r n) 6 9)) 3 (K6 kk9 2 3 6 7 9 10)) (K10 (aIw r n kk9) 2 3 6 7 9 10 11 12 13 14) :=
 congrArg (fun k => D175 r n aVm (xs (xs x0 2 (K2 (bS r n) 6 9)) 3 (K6 kk9 2 3 6 7 9 10)) k) (bTc r n kk9)
theorem bWm (kk9 : fC) : D175 r n sA (xs (xs x0 2 (K2 (bS r n) 6 9)) 3 (K6 kk9 2 3 6 7 9 10)) (K6 kk9 2 3 6 7 9 10) = (K10 (aGv r n kk9) 2 3 6 7 9 10 11 12 13 14) :=
 (bFl r n kk9).trans
 ((by kernel_rfl))
theorem bEo (kk9 : fC) : D175 r n uB (xs (xs x0 2 (K2 (bS r n) 6 9)) 3 (K6 kk9 2 3 6 7 9 10)) (K6 kk9 2 3 6 7 9 10) = D175 r n bAa (xs (xs x0 2 (K2 (bS r n) 6 9)) 3 (K6 kk9 2 3 6 7 9 10)) (K10 (aGv r n kk9) 2 3 6 7 9 10 11 12 13 14) :=
 congrArg (fun k => D175 r n bAa (xs (xs x0 2 (K2 (bS r n) 6 9)) 3 (K6 kk9 2 3 6 7 9 10)) k) (bWm r n kk9)
theorem bNr (kk9 : fC) : D175 r n uB (xs (xs x0 2 (K2 (bS r n) 6 9)) 3 (K6 kk9 2 3 6 7 9 10)) (K6 kk9 2 3 6 7 9 10) = (K9 (aHg r n kk9) 2 3 6 7 9 10 11 12 13) :=
 (bEo r n kk9).trans
 ((by kernel_rfl))
theorem bDm (kk9 : fC) : D175 r n sF (xs (xs x0 2 (K2 (bS r n) 6 9)) 3 (K6 kk9 2 3 6 7 9 10)) (K6 kk9 2 3 6 7 9 10) = D175 r n aYq (xs (xs x0 2 (K2 (bS r n) 6 9)) 3 (K6 kk9 2 3 6 7 9 10)) (K9 (aHg r n kk9) 2 3 6 7 9 10 11 12 13) :=
 congrArg (fun k => D175 r n aYq (xs (xs x0 2 (K2 (bS r n) 6 9)) 3 (K6 kk9 2 3 6 7 9 10)) k) (bNr r n kk9)
theorem bTa (kk9 : fC) : D175 r n sF (xs (xs x0 2 (K2 (bS r n) 6 9)) 3 (K6 kk9 2 3 6 7 9 10)) (K6 kk9 2 3 6 7 9 10) = (K7 (aIa r n kk9) 2 3 6 7 9 10 11) :=
 (bDm r n kk9).trans
 ((by kernel_rfl))
theorem bFm (kk9 : fC) : D175 r n tS (xs (xs x0 2 (K2 (bS r n) 6 9)) 3 (K6 kk9 2 3 6 7 9 10)) (K6 kk9 2 3 6 7 9 10) = D175 r n bAq (xs (xs x0 2 (K2 (bS r n) 6 9)) 3 (K6 kk9 2 3 6 7 9 10)) (K7 (aIa r n kk9) 2 3 6 7 9 10 11) :=
 congrArg (fun k => D175 r n bAq (xs (xs x0 2 (K2 (bS r n) 6 9)) 3 (K6 kk9 2 3 6 7 9 10)) k) (bTa r n kk9)
theorem bIs (kk9 : fC) : D175 r n tS (xs (xs x0 2 (K2 (bS r n) 6 9)) 3 (K6 kk9 2 3 6 7 9 10)) (K6 kk9 2 3 6 7 9 10) = (K7 (aCx r n kk9) 2 3 6 7 9 10 11) :=
 (bFm r n kk9).trans
 ((by kernel_rfl))
theorem bGa (kk9 : fC) : D175 r n tK (xs (xs x0 2 (K2 (bS r n) 6 9)) 3 (K6 kk9 2 3 6 7 9 10)) (K6 kk9 2 3 6 7 9 10) = D175 r n aUt (xs (xs x0 2 (K2 (bS r n) 6 9)) 3 (K6 kk9 2 3 6 7 9 10)) (K7 (aCx r n kk9) 2 3 6 7 9 10 11) :=
 congrArg (fun k => D175 r n aUt (xs (xs x0 2 (K2 (bS r n) 6 9)) 3 (K6 kk9 2 3 6 7 9 10)) k) (bIs r n kk9)
theorem bLd (kk9 : fC) : D175 r n aJv (xs x0 2 (K2 (bS r n) 6 9)) (K6 kk9 2 3 6 7 9 10) = (K6 (aEc r n kk9) 2 3 6 7 9 10) :=
 (by kernel_rfl : D175 r n aJv (xs x0 2 (K2 (bS r n) 6 9)) (K6 kk9 2 3 6 7 9 10) = D175 r n tK (xs (xs x0 2 (K2 (bS r n) 6 9)) 3 (K6 kk9 2 3 6 7 9 10)) (K6 kk9 2 3 6 7 9 10)).trans
 ((bGa r n kk9).trans
 ((by kernel_rfl)))
theorem bIy (kk9 : fC) : D175 r n hU (xs x0 2 (K2 (bS r n) 6 9)) (K6 kk9 2 3 6 7 9 10) = D175 r n aYr (xs x0 2 (K2 (bS r n) 6 9)) (K6 (aEc r n kk9) 2 3 6 7 9 10) :=
 congrArg (fun k => D175 r n aYr (xs x0 2 (K2 (bS r n) 6 9)) k) (bLd r n kk9)
theorem bHv (kk9 : fC) : D175 r n hU (xs x0 2 (K2 (bS r n) 6 9)) (K6 kk9 2 3 6 7 9 10) = (K6 (aUd r n kk9) 2 3 6 7 9 10) :=
 (bIy r n kk9).trans
 ((by kernel_rfl))
theorem bMt (m : Nat) : aN (fun kk => D175 r n hU (xs x0 2 (K2 (bS r n) 6 9)) kk) m = (K6 (tN r n m) 2 3 6 7 9 10) := by
 induction m with
 | zero => exact (by kernel_rfl : aN (fun kk => D175 r n hU (xs x0 2 (K2 (bS r n) 6 9)) kk) 0 = (K6 (tN r n 0) 2 3 6 7 9 10))
 | succ m ih =>
  refine (by kernel_rfl : aN (fun kk => D175 r n hU (xs x0 2 (K2 (bS r n) 6 9)) kk) (m + 1) = D175 r n hU (xs x0 2 (K2 (bS r n) 6 9)) (aN (fun kk => D175 r n hU (xs x0 2 (K2 (bS r n) 6 9)) kk) m)).trans ?_
  rw [ih]
  exact (bHv r n (tN r n m)).trans (by kernel_rfl)
theorem cHo : D175 r n rT (xs x0 2 (K2 (bS r n) 6 9)) (K2 (bS r n) 6 9) = (K6 (bIh r n) 2 3 6 7 9 10) :=
 (by kernel_rfl : D175 r n rT (xs x0 2 (K2 (bS r n) 6 9)) (K2 (bS r n) 6 9) = aN (fun kk => D175 r n hU (xs x0 2 (K2 (bS r n) 6 9)) kk) n).trans ((bMt r n n).trans (by kernel_rfl))
theorem bXd : D175 r n aAp x0 r175 = D175 r n sV x0 (K2 (bS r n) 6 9) :=
 congrArg (fun k => D175 r n sV x0 k) (cKr r n)
theorem cPp : D175 r n aAp x0 r175 = (K6 (aOp r n) 2 3 6 7 9 10) :=
 (bXd r n).trans
 ((by kernel_rfl : D175 r n sV x0 (K2 (bS r n) 6 9) = D175 r n rT (xs x0 2 (K2 (bS r n) 6 9)) (K2 (bS r n) 6 9)).trans
 ((cHo r n).trans (by kernel_rfl)))
theorem bPv : D175 r n aEm x0 r175 = D175 r n aUe x0 (K6 (aOp r n) 2 3 6 7 9 10) :=
 congrArg (fun k => D175 r n aUe x0 k) (cPp r n)
theorem cBs : D175 r n aEm x0 r175 = (K6 (aSr r n) 2 3 6 7 9 10) :=
 (bPv r n).trans
 ((by kernel_rfl))
theorem bBx : D175 r n aBa x0 r175 = D175 r n aVt x0 (K6 (aSr r n) 2 3 6 7 9 10) :=
 congrArg (fun k => D175 r n aVt x0 k) (cBs r n)
theorem cKl : D175 r n aBa x0 r175 = (K5 (uI r n) 2 3 6 7 9) :=
 (bBx r n).trans
 ((by kernel_rfl))
theorem bEu : D175 r n aAi x0 r175 = D175 r n aGe x0 (K5 (uI r n) 2 3 6 7 9) :=
 congrArg (fun k => D175 r n aGe x0 k) (cKl r n)
theorem bCc (q0 : cD) : D175 r n aGe x0 (K5 q0 2 3 6 7 9) = fun (env : aU) (h : Hp) =>
 bnd (bL [(.b false)] h) fun v1 h1 =>
 bnd (aG 1 v1 (.b true) h1) fun _ h2 =>
  q0 (env 2) (env 3) (env 6) (env 7) v1 h2 := by kernel_rfl
theorem aNm : (fun (env : aU) (h : Hp) =>
 bnd (bL [(.b false)] h) fun v1 h1 =>
 bnd (aG 1 v1 (.b true) h1) fun _ h2 =>
  uI r n (env 2) (env 3) (env 6) (env 7) v1 h2) = (K4 (cJ r n) 2 3 6 7) := by kernel_rfl
theorem cFw : D175 r n aAi x0 r175 = (K4 (cJ r n) 2 3 6 7) :=
 (bEu r n).trans
 ((bCc r n (uI r n)).trans (aNm r n))
theorem bTm (kk18 : fC) : D175 r n cLe (xs x0 0 (K4 (cJ r n) 2 3 6 7)) (K6 kk18 2 3 6 7 19 20) = (K6 (lI r n kk18) 2 3 6 7 19 20) :=
 (by kernel_rfl)
theorem aTw (kk18 : fC) : D175 r n sH (xs x0 0 (K4 (cJ r n) 2 3 6 7)) (K6 kk18 2 3 6 7 19 20) = D175 r n aAr (xs x0 0 (K4 (cJ r n) 2 3 6 7)) (K6 (lI r n kk18) 2 3 6 7 19 20) :=
 congrArg (fun k => D175 r n aAr (xs x0 0 (K4 (cJ r n) 2 3 6 7)) k) (bTm r n kk18)
theorem aRu (kk18 : fC) (q0 : fC) (q1 : dH) : D175 r n aAr (xs x0 0 (K4 q1 2 3 6 7)) (K6 q0 2 3 6 7 19 20) = fun (env : aU) (h : Hp) =>
 bnd (aA (env 6) h) fun v1 h1 =>
 bnd (aJ 1 v1 (env 20) h1) fun v2 h2 =>
 bnd (aG 1 v2 (.i .i64 (Int.negSucc 0)) h2) fun _ h3 =>
 bnd (aD .eql (env 20) (aE 0) h3) fun v4 h4 =>
 bnd (gD v4 false (some ((env 20), h4)) h4) fun v5 h5 =>
 bnd (gD v4 false (aD .gtr v5 (aE 1) h5) h5) fun v6 h6 =>
 bnd (gD v4 false (some (v6, h6)) h6) fun v7 h7 =>
 bnd (gD v7 true (aA (env 2) h7) h7) fun v8 h8 =>
 bnd (gD v7 true (some ((env 20), h8)) h8) fun v9 h9 =>
 bnd (gD v7 true (aD .sub v9 (aE 2) h9) h9) fun v10 h10 =>
 bnd (gD v7 true (aJ 3 v8 v10 h10) h10) fun v11 h11 =>
 bnd (gD v7 true (aB 0 v11 h11) h11) fun v12 h12 =>
 bnd (gD v7 true (aA v12 h12) h12) fun v13 h13 =>
 bnd (gD v7 true (aD .eql v13 (aE 18) h13) h13) fun v14 h14 =>
 bnd (gD v4 false (aR v7 v14 (.b false) h14) h14) fun v15 h15 =>
 bnd (gD v4 false (some (v15, h15)) h15) fun v16 h16 =>
 bnd (gD v16 true (aA (env 3) h16) h16) fun v17 h17 =>
 bnd (gD v16 true (some ((env 20), h17)) h17) fun v18 h18 =>
 bnd (gD v16 true (aJ 1 v17 v18 h18) h18) fun v19 h19 =>
 bnd (gD v16 true (aA v19 h19) h19) fun v20 h20 =>
 bnd (gD v16 true (some ((env 20), h20)) h20) fun v21 h21 =>
 bnd (gD v16 true (aD .sub v21 (aE 2) h21) h21) fun v22 h22 =>
 bnd (gD v16 true (aD .eql v20 v22 h22) h22) fun v23 h23 =>
 bnd (gD v4 false (aR v16 v23 (.b false) h23) h23) fun v24 h24 =>
 bnd (aR v4 (.b true) v24 h24) fun v25 h25 =>
 aP v25 (
 bnd (aA (env 6) h25) fun v26 h26 =>
 bnd (aJ 1 v26 (env 20) h26) fun v27 h27 =>
 bnd (aG 1 v27 (aE 0) h27) fun _ h28 =>
 bnd (aA (env 7) h28) fun v29 h29 =>
 bnd (aL [(aE 0)] 1 [(0, 1, (env 20))] h29) fun v30 h30 =>
 bnd (aZ 1 8 v29 v30 h30) fun v31 h31 =>
 bnd (aG 1 (env 7) v31 h31) fun _ h32 =>
      q0 (env 2) (env 3) (env 6) (env 7) (env 19) (env 20) h32) (
      q0 (env 2) (env 3) (env 6) (env 7) (env 19) (env 20) h25) := by kernel_rfl
theorem aMk (kk18 : fC) : (fun (env : aU) (h : Hp) =>
 bnd (aA (env 6) h) fun v1 h1 =>
 bnd (aJ 1 v1 (env 20) h1) fun v2 h2 =>
 bnd (aG 1 v2 (.i .i64 (Int.negSucc 0)) h2) fun _ h3 =>
 bnd (aD .eql (env 20) (aE 0) h3) fun v4 h4 =>
 bnd (gD v4 false (some ((env 20), h4)) h4) fun v5 h5 =>
 bnd (gD v4 false (aD .gtr v5 (aE 1) h5) h5) fun v6 h6 =>
 bnd (gD v4 false (some (v6, h6)) h6) fun v7 h7 =>
 bnd (gD v7 true (aA (env 2) h7) h7) fun v8 h8 =>
 bnd (gD v7 true (some ((env 20), h8)) h8) fun v9 h9 =>
 bnd (gD v7 true (aD .sub v9 (aE 2) h9) h9) fun v10 h10 =>
 bnd (gD v7 true (aJ 3 v8 v10 h10) h10) fun v11 h11 =>
 bnd (gD v7 true (aB 0 v11 h11) h11) fun v12 h12 =>
 bnd (gD v7 true (aA v12 h12) h12) fun v13 h13 =>
 bnd (gD v7 true (aD .eql v13 (aE 18) h13) h13) fun v14 h14 =>
 bnd (gD v4 false (aR v7 v14 (.b false) h14) h14) fun v15 h15 =>
 bnd (gD v4 false (some (v15, h15)) h15) fun v16 h16 =>
 bnd (gD v16 true (aA (env 3) h16) h16) fun v17 h17 =>
 bnd (gD v16 true (some ((env 20), h17)) h17) fun v18 h18 =>
 bnd (gD v16 true (aJ 1 v17 v18 h18) h18) fun v19 h19 =>
 bnd (gD v16 true (aA v19 h19) h19) fun v20 h20 =>
 bnd (gD v16 true (some ((env 20), h20)) h20) fun v21 h21 =>
 bnd (gD v16 true (aD .sub v21 (aE 2) h21) h21) fun v22 h22 =>
 bnd (gD v16 true (aD .eql v20 v22 h22) h22) fun v23 h23 =>
 bnd (gD v4 false (aR v16 v23 (.b false) h23) h23) fun v24 h24 =>
 bnd (aR v4 (.b true) v24 h24) fun v25 h25 =>
 aP v25 (
 bnd (aA (env 6) h25) fun v26 h26 =>
 bnd (aJ 1 v26 (env 20) h26) fun v27 h27 =>
 bnd (aG 1 v27 (aE 0) h27) fun _ h28 =>
 bnd (aA (env 7) h28) fun v29 h29 =>
 bnd (aL [(aE 0)] 1 [(0, 1, (env 20))] h29) fun v30 h30 =>
 bnd (aZ 1 8 v29 v30 h30) fun v31 h31 =>
 bnd (aG 1 (env 7) v31 h31) fun _ h32 =>
      lI r n kk18 (env 2) (env 3) (env 6) (env 7) (env 19) (env 20) h32) (
      lI r n kk18 (env 2) (env 3) (env 6) (env 7) (env 19) (env 20) h25)) = (K6 (rX r n kk18) 2 3 6 7 19 20) := by kernel_rfl
theorem bGx (kk18 : fC) : D175 r n sH (xs x0 0 (K4 (cJ r n) 2 3 6 7)) (K6 kk18 2 3 6 7 19 20) = (K6 (rX r n kk18) 2 3 6 7 19 20) :=
 (aTw r n kk18).trans
 ((aRu r n kk18 (lI r n kk18) (cJ r n)).trans (aMk r n kk18))
theorem aPl (kk18 : fC) : D175 r n uF (xs x0 0 (K4 (cJ r n) 2 3 6 7)) (K6 kk18 2 3 6 7 19 20) = D175 r n aVu (xs x0 0 (K4 (cJ r n) 2 3 6 7)) (K6 (rX r n kk18) 2 3 6 7 19 20) :=
 congrArg (fun k => D175 r n aVu (xs x0 0 (K4 (cJ r n) 2 3 6 7)) k) (bGx r n kk18)
theorem bTb (kk18 : fC) : D175 r n uF (xs x0 0 (K4 (cJ r n) 2 3 6 7)) (K6 kk18 2 3 6 7 19 20) = (K7 (aCf r n kk18) 2 3 6 7 19 20 21) :=
 (aPl r n kk18).trans
 ((by kernel_rfl))
theorem aPg (kk18 : fC) : D175 r n hD (xs x0 0 (K4 (cJ r n) 2 3 6 7)) (K6 kk18 2 3 6 7 19 20) = D175 r n bAn (xs x0 0 (K4 (cJ r n) 2 3 6 7)) (K7 (aCf r n kk18) 2 3 6 7 19 20 21) :=
 congrArg (fun k => D175 r n bAn (xs x0 0 (K4 (cJ r n) 2 3 6 7)) k) (bTb r n kk18)
theorem bDe (kk18 : fC) : D175 r n hD (xs x0 0 (K4 (cJ r n) 2 3 6 7)) (K6 kk18 2 3 6 7 19 20) = (K6 (aLv r n kk18) 2 3 6 7 19 20) :=
 (aPg r n kk18).trans
 ((by kernel_rfl))
theorem bCp (m : Nat) : aN (fun kk => D175 r n hD (xs x0 0 (K4 (cJ r n) 2 3 6 7)) kk) m = (K6 (oH r n m) 2 3 6 7 19 20) := by
 induction m with
 | zero => exact (by kernel_rfl : aN (fun kk => D175 r n hD (xs x0 0 (K4 (cJ r n) 2 3 6 7)) kk) 0 = (K6 (oH r n 0) 2 3 6 7 19 20))
 | succ m ih =>
  refine (by kernel_rfl : aN (fun kk => D175 r n hD (xs x0 0 (K4 (cJ r n) 2 3 6 7)) kk) (m + 1) = D175 r n hD (xs x0 0 (K4 (cJ r n) 2 3 6 7)) (aN (fun kk => D175 r n hD (xs x0 0 (K4 (cJ r n) 2 3 6 7)) kk) m)).trans ?_
  rw [ih]
  exact (bDe r n (oH r n m)).trans (by kernel_rfl)
theorem cAg : D175 r n tZ (xs x0 0 (K4 (cJ r n) 2 3 6 7)) (K4 (cJ r n) 2 3 6 7) = (K6 (aUm r n) 2 3 6 7 19 20) :=
 (by kernel_rfl : D175 r n tZ (xs x0 0 (K4 (cJ r n) 2 3 6 7)) (K4 (cJ r n) 2 3 6 7) = aN (fun kk => D175 r n hD (xs x0 0 (K4 (cJ r n) 2 3 6 7)) kk) n).trans ((bCp r n n).trans (by kernel_rfl))
theorem bUc : D175 r n aBm x0 (K4 (cJ r n) 2 3 6 7) = (K6 (aBi r n) 2 3 6 7 19 20) :=
 (by kernel_rfl : D175 r n aBm x0 (K4 (cJ r n) 2 3 6 7) = D175 r n tZ (xs x0 0 (K4 (cJ r n) 2 3 6 7)) (K4 (cJ r n) 2 3 6 7)).trans
 ((cAg r n).trans (by kernel_rfl))
theorem bCh : D175 r n aFv x0 r175 = D175 r n pB x0 (K4 (cJ r n) 2 3 6 7) :=
 congrArg (fun k => D175 r n pB x0 k) (cFw r n)
theorem bFu : D175 r n pB x0 (K4 (cJ r n) 2 3 6 7) = D175 r n aXi x0 (K6 (aBi r n) 2 3 6 7 19 20) :=
 congrArg (fun k => D175 r n aXi x0 k) (bUc r n)
theorem cMe : D175 r n aFv x0 r175 = (K4 (uS r n) 2 3 6 7) :=
 (bCh r n).trans
 ((bFu r n).trans
 ((by kernel_rfl)))
theorem bEj : D175 r n aEo x0 r175 = D175 r n aBw x0 (K4 (uS r n) 2 3 6 7) :=
 congrArg (fun k => D175 r n aBw x0 k) (cMe r n)
theorem bEf (q0 : dH) : D175 r n aBw x0 (K4 q0 2 3 6 7) = fun (env : aU) (h : Hp) =>
 bnd (bL [.l0] h) fun v1 h1 =>
  q0 (env 2) (env 3) (env 6) v1 h1 := by kernel_rfl
theorem aOm : (fun (env : aU) (h : Hp) =>
 bnd (bL [.l0] h) fun v1 h1 =>
  uS r n (env 2) (env 3) (env 6) v1 h1) = (K3 (qC r n) 2 3 6) := by kernel_rfl
theorem cFn : D175 r n aEo x0 r175 = (K3 (qC r n) 2 3 6) :=
 (bEj r n).trans
 ((bEf r n (uS r n)).trans (aOm r n))
theorem bGb : D175 r n aGn x0 r175 = D175 r n aHh x0 (K3 (qC r n) 2 3 6) :=
 congrArg (fun k => D175 r n aHh x0 k) (cFn r n)
theorem bEq (q0 : mV) : D175 r n aHh x0 (K3 q0 2 3 6) = fun (env : aU) (h : Hp) =>
 bnd (aA (env 2) h) fun v1 h1 =>
 bnd (bV v1 h1) fun v2 h2 =>
 bnd (cG 1 8 [(aE 0)] v2 v2 h2) fun v3 h3 =>
 bnd (bL [.l0] h3) fun v4 h4 =>
 bnd (aG 1 v4 v3 h4) fun _ h5 =>
  q0 (env 2) (env 3) v4 h5 := by kernel_rfl
theorem aRd : (fun (env : aU) (h : Hp) =>
 bnd (aA (env 2) h) fun v1 h1 =>
 bnd (bV v1 h1) fun v2 h2 =>
 bnd (cG 1 8 [(aE 0)] v2 v2 h2) fun v3 h3 =>
 bnd (bL [.l0] h3) fun v4 h4 =>
 bnd (aG 1 v4 v3 h4) fun _ h5 =>
  qC r n (env 2) (env 3) v4 h5) = (K2 (qJ r n) 2 3) := by kernel_rfl
theorem cNr : D175 r n aQi x0 r175 = (K2 (qJ r n) 2 3) :=
 (by kernel_rfl : D175 r n aQi x0 r175 = D175 r n aGn x0 r175).trans
 ((bGb r n).trans
 ((bEq r n (qC r n)).trans (aRd r n)))
theorem cMx : D175 r n c175 x0 r175 = D175 r n aBx x0 (K2 (qJ r n) 2 3) :=
 congrArg (fun k => D175 r n aBx x0 k) (cNr r n)
theorem cIr (q0 : oF) : D175 r n aBx x0 (K2 q0 2 3) = fun (env : aU) (h : Hp) =>
 bnd (bQ (env 0) h) fun v1 h1 =>
 bnd (bQ (env 1) h1) fun v2 h2 =>
  q0 v1 v2 h2 := by kernel_rfl
theorem bJt : (fun (env : aU) (h : Hp) =>
 bnd (bQ (env 0) h) fun v1 h1 =>
 bnd (bQ (env 1) h1) fun v2 h2 =>
  qJ r n v1 v2 h2) = (K2 (s175 r n) 0 1) := by kernel_rfl
theorem dHi : D175 r n c175 x0 r175 = (K2 (s175 r n) 0 1) :=
 (cMx r n).trans
 ((cIr r n (qJ r n)).trans (bJt r n))
theorem dAn : aF CF r n 175 args h = s175 r n (aS args 0) (aS args 1) h :=
 (by kernel_rfl : aF CF r n 175 args h = D175 r n c175 x0 r175 (aI args) h).trans ((congrFun (congrFun (dHi r n) (aI args)) h).trans (by kernel_rfl))
noncomputable def s177 (r : RT) (n : Nat) (x0 : DV) (h0 : Hp) : aH :=
 bnd (r 148 [x0] h0) fun v1 h1 =>
 bnd (gD v1 false (some (x0, h1)) h1) fun v2 h2 =>
 bnd (gD v1 false (r 151 [v2] h2) h2) fun v3 h3 =>
 bnd (aR v1 (.b true) v3 h3) fun v4 h4 =>
 some (v4, h4)
noncomputable abbrev c177 : Code := cf Tryz.f177
noncomputable abbrev r177 : K := aQ CF Tryz.f177
noncomputable def D177 (r : RT) (n : Nat) (c : Code) (X : Nat → K) (k : K) : K := aM CF r 9 n c X r177 k
theorem dIm : D177 r n c177 x0 r177 = (K1 (s177 r n) 0) :=
 (by kernel_rfl)
theorem cWr : aF CF r n 177 args h = s177 r n (aS args 0) h :=
 (by kernel_rfl : aF CF r n 177 args h = D177 r n c177 x0 r177 (aI args) h).trans ((congrFun (congrFun (dIm r n) (aI args)) h).trans (by kernel_rfl))
end Go.Dd

namespace Go.Dd
open Go.Proofs
variable (r : RT) (n : Nat) (args : List DV) (h : Hp)
noncomputable def nV (r : RT) (n : Nat) (x2 : DV) (h0 : Hp) : aH :=
 bnd (bC jQ [] h0) fun v1 h1 =>
 bnd (aG 6 x2 v1 h1) fun _ h2 =>
 bnd (aK 6 x2 h2) fun v3 _ =>
 some (v3, h2)
noncomputable def pY (r : RT) (n : Nat) (x0 x2 : DV) (h0 : Hp) : aH :=
 bnd (r 137 [x0, (aE 0)] h0) fun v1 h1 =>
 bnd (bL [(aE 0), (.s []), (aE 0), (aE 0)] h1) fun v2 h2 =>
 bnd (aG 4 v2 v1 h2) fun _ h3 =>
 bnd (aO x0 h3) fun v4 h4 =>
 bnd (aB 3 v4 h4) fun v5 h5 =>
 bnd (aA v5 h5) fun v6 h6 =>
 bnd (aD .neq v6 (aE 0) h6) fun v7 h7 =>
 aP v7 (
  nV r n x2 h7) (
 bnd (aB 0 v2 h7) fun v8 h8 =>
 bnd (aA v8 h8) fun v9 h9 =>
 bnd (aD .eql v9 (aE 1) h9) fun v10 h10 =>
 aP v10 (
 bnd (r 134 [x0] h10) fun v11 h11 =>
 bnd (fM 1 v11 h11) fun v12 h12 =>
 bnd (bC jQ [(0, 1, (aE 5)), (1, 1, v12)] h12) fun v13 h13 =>
 bnd (aG 6 x2 v13 h13) fun _ h14 =>
 bnd (aK 6 x2 h14) fun v15 _ =>
 some (v15, h14)) (
 bnd (aB 0 v2 h10) fun v16 h16 =>
 bnd (aA v16 h16) fun v17 h17 =>
 bnd (aD .eql v17 (aE 7) h17) fun v18 h18 =>
 aP v18 (
 bnd (r 208 [x0, (.f 209 [x0] [])] h18) fun v19 h19 =>
 bnd (aG 6 x2 v19 h19) fun _ h20 =>
 bnd (aK 6 x2 h20) fun v21 _ =>
 some (v21, h20)) (
 bnd (r 133 [x0, (aE 10), (.s [40])] h18) fun v22 h22 =>
 aP v22 (
 bnd (r 208 [x0, (.f 210 [x0] [])] h22) fun v23 h23 =>
 bnd (aG 6 x2 v23 h23) fun _ h24 =>
 bnd (aK 6 x2 h24) fun v25 _ =>
 some (v25, h24)) (
 bnd (r 133 [x0, (aE 10), (.s [91])] h22) fun v26 h26 =>
 aP v26 (
 bnd (r 208 [x0, (.f 211 [x0] [])] h26) fun v27 h27 =>
 bnd (aG 6 x2 v27 h27) fun _ h28 =>
 bnd (aK 6 x2 h28) fun v29 _ =>
 some (v29, h28)) (
 bnd (aK 4 v2 h26) fun v30 h30 =>
 bnd (r 136 [x0, v30, (aE 13)] h30) fun v31 h31 =>
      nV r n x2 h31)))))
noncomputable def pO (r : RT) (n : Nat) (x0 x2 : DV) (h0 : Hp) : aH :=
 bnd (r 207 [x0] h0) fun v1 h1 =>
 bnd (aC 0 v1 h1) fun v2 h2 =>
 bnd (aC 1 v1 h2) fun v3 h3 =>
 bnd (bL jQ h3) fun v4 h4 =>
 bnd (aG 6 v4 v2 h4) fun _ h5 =>
 aP v3 (
 bnd (aK 6 v4 h5) fun v6 h6 =>
 bnd (aG 6 x2 v6 h6) fun _ h7 =>
 bnd (aK 6 x2 h7) fun v8 _ =>
 some (v8, h7)) (
  pY r n x0 x2 h5)
noncomputable def s182 (r : RT) (n : Nat) (x0 : DV) (h0 : Hp) : aH :=
 bnd (bL jQ h0) fun v1 h1 =>
  pO r n x0 v1 h1
noncomputable abbrev c182 : Code := cf Tryz.f182
noncomputable abbrev aFf : Code := cR c182
noncomputable abbrev aIu : Code := cR aFf
noncomputable abbrev cTw : Code := cR aIu
noncomputable abbrev aSq : Code := cL aIu
noncomputable abbrev aTe : Code := cL aFf
noncomputable abbrev aPt : Code := cL c182
noncomputable abbrev r182 : K := aQ CF Tryz.f182
noncomputable def D182 (r : RT) (n : Nat) (c : Code) (X : Nat → K) (k : K) : K := aM CF r 55 n c X r182 k
theorem cPb : D182 r n cTw x0 r182 = (K1 (nV r n) 2) :=
 (by kernel_rfl)
theorem bOu : D182 r n aIu x0 r182 = D182 r n aSq x0 (K1 (nV r n) 2) :=
 congrArg (fun k => D182 r n aSq x0 k) (cPb r n)
theorem bPw (q0 : TT1) : D182 r n aSq x0 (K1 q0 2) = fun (env : aU) (h : Hp) =>
 bnd (r 137 [(env 0), (aE 0)] h) fun v1 h1 =>
 bnd (bL [(aE 0), (.s []), (aE 0), (aE 0)] h1) fun v2 h2 =>
 bnd (aG 4 v2 v1 h2) fun _ h3 =>
 bnd (aO (env 0) h3) fun v4 h4 =>
 bnd (aB 3 v4 h4) fun v5 h5 =>
 bnd (aA v5 h5) fun v6 h6 =>
 bnd (aD .neq v6 (aE 0) h6) fun v7 h7 =>
 aP v7 (
   q0 (env 2) h7) (
 bnd (aB 0 v2 h7) fun v8 h8 =>
 bnd (aA v8 h8) fun v9 h9 =>
 bnd (aD .eql v9 (aE 1) h9) fun v10 h10 =>
 aP v10 (
 bnd (r 134 [(env 0)] h10) fun v11 h11 =>
 bnd (fM 1 v11 h11) fun v12 h12 =>
 bnd (bC jQ [(0, 1, (aE 5)), (1, 1, v12)] h12) fun v13 h13 =>
 bnd (aG 6 (env 2) v13 h13) fun _ h14 =>
 bnd (aK 6 (env 2) h14) fun v15 _ =>
 some (v15, h14)) (
 bnd (aB 0 v2 h10) fun v16 h16 =>
 bnd (aA v16 h16) fun v17 h17 =>
 bnd (aD .eql v17 (aE 7) h17) fun v18 h18 =>
 aP v18 (
 bnd (r 208 [(env 0), (.f 209 [(env 0)] [])] h18) fun v19 h19 =>
 bnd (aG 6 (env 2) v19 h19) fun _ h20 =>
 bnd (aK 6 (env 2) h20) fun v21 _ =>
 some (v21, h20)) (
 bnd (r 133 [(env 0), (aE 10), (.s [40])] h18) fun v22 h22 =>
 aP v22 (
 bnd (r 208 [(env 0), (.f 210 [(env 0)] [])] h22) fun v23 h23 =>
 bnd (aG 6 (env 2) v23 h23) fun _ h24 =>
 bnd (aK 6 (env 2) h24) fun v25 _ =>
 some (v25, h24)) (
 bnd (r 133 [(env 0), (aE 10), (.s [91])] h22) fun v26 h26 =>
 aP v26 (
 bnd (r 208 [(env 0), (.f 211 [(env 0)] [])] h26) fun v27 h27 =>
 bnd (aG 6 (env 2) v27 h27) fun _ h28 =>
 bnd (aK 6 (env 2) h28) fun v29 _ =>
 some (v29, h28)) (
 bnd (aK 4 v2 h26) fun v30 h30 =>
 bnd (r 136 [(env 0), v30, (aE 13)] h30) fun v31 h31 =>
       q0 (env 2) h31))))) := by kernel_rfl
theorem bEx : (fun (env : aU) (h : Hp) =>
 bnd (r 137 [(env 0), (aE 0)] h) fun v1 h1 =>
 bnd (bL [(aE 0), (.s []), (aE 0), (aE 0)] h1) fun v2 h2 =>
 bnd (aG 4 v2 v1 h2) fun _ h3 =>
 bnd (aO (env 0) h3) fun v4 h4 =>
 bnd (aB 3 v4 h4) fun v5 h5 =>
 bnd (aA v5 h5) fun v6 h6 =>
 bnd (aD .neq v6 (aE 0) h6) fun v7 h7 =>
 aP v7 (
   nV r n (env 2) h7) (
 bnd (aB 0 v2 h7) fun v8 h8 =>
 bnd (aA v8 h8) fun v9 h9 =>
 bnd (aD .eql v9 (aE 1) h9) fun v10 h10 =>
 aP v10 (
 bnd (r 134 [(env 0)] h10) fun v11 h11 =>
 bnd (fM 1 v11 h11) fun v12 h12 =>
 bnd (bC jQ [(0, 1, (aE 5)), (1, 1, v12)] h12) fun v13 h13 =>
 bnd (aG 6 (env 2) v13 h13) fun _ h14 =>
 bnd (aK 6 (env 2) h14) fun v15 _ =>
 some (v15, h14)) (
 bnd (aB 0 v2 h10) fun v16 h16 =>
 bnd (aA v16 h16) fun v17 h17 =>
 bnd (aD .eql v17 (aE 7) h17) fun v18 h18 =>
 aP v18 (
 bnd (r 208 [(env 0), (.f 209 [(env 0)] [])] h18) fun v19 h19 =>
 bnd (aG 6 (env 2) v19 h19) fun _ h20 =>
 bnd (aK 6 (env 2) h20) fun v21 _ =>
 some (v21, h20)) (
 bnd (r 133 [(env 0), (aE 10), (.s [40])] h18) fun v22 h22 =>
 aP v22 (
 bnd (r 208 [(env 0), (.f 210 [(env 0)] [])] h22) fun v23 h23 =>
 bnd (aG 6 (env 2) v23 h23) fun _ h24 =>
 bnd (aK 6 (env 2) h24) fun v25 _ =>
 some (v25, h24)) (
 bnd (r 133 [(env 0), (aE 10), (.s [91])] h22) fun v26 h26 =>
 aP v26 (
 bnd (r 208 [(env 0), (.f 211 [(env 0)] [])] h26) fun v27 h27 =>
 bnd (aG 6 (env 2) v27 h27) fun _ h28 =>
 bnd (aK 6 (env 2) h28) fun v29 _ =>
 some (v29, h28)) (
 bnd (aK 4 v2 h26) fun v30 h30 =>
 bnd (r 136 [(env 0), v30, (aE 13)] h30) fun v31 h31 =>
       nV r n (env 2) h31)))))) = (K2 (pY r n) 0 2) := by kernel_rfl
theorem cNi : D182 r n aIu x0 r182 = (K2 (pY r n) 0 2) :=
 (bOu r n).trans
 ((bPw r n (nV r n)).trans (bEx r n))
theorem bRt : D182 r n aFf x0 r182 = D182 r n aTe x0 (K2 (pY r n) 0 2) :=
 congrArg (fun k => D182 r n aTe x0 k) (cNi r n)
theorem bUa (q0 : oF) : D182 r n aTe x0 (K2 q0 0 2) = fun (env : aU) (h : Hp) =>
 bnd (r 207 [(env 0)] h) fun v1 h1 =>
 bnd (aC 0 v1 h1) fun v2 h2 =>
 bnd (aC 1 v1 h2) fun v3 h3 =>
 bnd (bL jQ h3) fun v4 h4 =>
 bnd (aG 6 v4 v2 h4) fun _ h5 =>
 aP v3 (
 bnd (aK 6 v4 h5) fun v6 h6 =>
 bnd (aG 6 (env 2) v6 h6) fun _ h7 =>
 bnd (aK 6 (env 2) h7) fun v8 _ =>
 some (v8, h7)) (
   q0 (env 0) (env 2) h5) := by kernel_rfl
theorem bFk : (fun (env : aU) (h : Hp) =>
 bnd (r 207 [(env 0)] h) fun v1 h1 =>
 bnd (aC 0 v1 h1) fun v2 h2 =>
 bnd (aC 1 v1 h2) fun v3 h3 =>
 bnd (bL jQ h3) fun v4 h4 =>
 bnd (aG 6 v4 v2 h4) fun _ h5 =>
 aP v3 (
 bnd (aK 6 v4 h5) fun v6 h6 =>
 bnd (aG 6 (env 2) v6 h6) fun _ h7 =>
 bnd (aK 6 (env 2) h7) fun v8 _ =>
 some (v8, h7)) (
   pY r n (env 0) (env 2) h5)) = (K2 (pO r n) 0 2) := by kernel_rfl
theorem cHt : D182 r n aFf x0 r182 = (K2 (pO r n) 0 2) :=
 (bRt r n).trans
 ((bUa r n (pY r n)).trans (bFk r n))
theorem dCy : D182 r n c182 x0 r182 = D182 r n aPt x0 (K2 (pO r n) 0 2) :=
 congrArg (fun k => D182 r n aPt x0 k) (cHt r n)
theorem cSl (q0 : oF) : D182 r n aPt x0 (K2 q0 0 2) = fun (env : aU) (h : Hp) =>
 bnd (bL jQ h) fun v1 h1 =>
  q0 (env 0) v1 h1 := by kernel_rfl
theorem cLx : (fun (env : aU) (h : Hp) =>
 bnd (bL jQ h) fun v1 h1 =>
  pO r n (env 0) v1 h1) = (K1 (s182 r n) 0) := by kernel_rfl
theorem dKj : D182 r n c182 x0 r182 = (K1 (s182 r n) 0) :=
 (dCy r n).trans
 ((cSl r n (pO r n)).trans (cLx r n))
theorem dAv : aF CF r n 182 args h = s182 r n (aS args 0) h :=
 (by kernel_rfl : aF CF r n 182 args h = D182 r n c182 x0 r182 (aI args) h).trans ((congrFun (congrFun (dKj r n) (aI args)) h).trans (by kernel_rfl))
noncomputable def eO (r : RT) (n : Nat) (h0 : Hp) : aH :=
 some ((.i .i64 (Int.negSucc 0)), h0)
noncomputable def aZx (r : RT) (n : Nat) (kk4 : dH) (x0 x1 x7 x8 : DV) (h0 : Hp) : aH :=
 bnd (aD .lss x8 x7 h0) fun v1 h1 =>
 aP v1 (
 bnd (aJ 4 x0 x8 h1) fun v2 h2 =>
 bnd (aK 4 v2 h2) fun v3 h3 =>
 bnd (cV CF r x1 [v3] h3) fun v4 h4 =>
 aP v4 (
 some (x8, h4)) (
 bnd (aD .add x8 (aE 1) h4) fun v5 h5 =>
    kk4 x0 x1 x7 v5 h5)) (
      eO r n h1)
noncomputable def tO (r : RT) (n : Nat) (m : Nat) : dH :=
 Nat.rec (motive := fun _ => dH) (fun _ _ _ _ _ => none) (fun _ ih => aZx r n ih) m
noncomputable def bMj (r : RT) (n : Nat) : dH := tO r n n
noncomputable def aTs (r : RT) (n : Nat) (x0 x1 x7 x8 : DV) (h0 : Hp) : aH :=
 bMj r n x0 x1 x7 x8 h0
noncomputable def aRm (r : RT) (n : Nat) (x0 x1 : DV) (h0 : Hp) : aH :=
 bnd (bV x0 h0) fun v1 h1 =>
  aTs r n x0 x1 v1 (aE 0) h1
noncomputable def s185 (r : RT) (n : Nat) (x0 x1 : DV) (h0 : Hp) : aH :=
 aRm r n x0 x1 h0
noncomputable abbrev c185 : Code := cf Tryz.f185
noncomputable abbrev aEe : Code := cR c185
noncomputable abbrev dAd : Code := cR aEe
noncomputable abbrev uJ : Code := cL aEe
noncomputable abbrev aQj : Code := cR uJ
noncomputable abbrev aBz : Code := cL aQj
noncomputable abbrev nU : Code := cL aBz
noncomputable abbrev bLw : Code := cL uJ
noncomputable abbrev bIt : Code := cL c185
noncomputable abbrev r185 : K := aQ CF Tryz.f185
noncomputable def D185 (r : RT) (n : Nat) (c : Code) (X : Nat → K) (k : K) : K := aM CF r 19 n c X r185 k
theorem cMf : D185 r n dAd x0 r185 = (K0 (eO r n)) :=
 (by kernel_rfl)
theorem bZu (kk4 : dH) : D185 r n nU (xs x0 0 (K0 (eO r n))) (K4 kk4 0 1 7 8) = (K4 (aZx r n kk4) 0 1 7 8) :=
 (by kernel_rfl)
theorem bVw (m : Nat) : aN (fun kk => D185 r n nU (xs x0 0 (K0 (eO r n))) kk) m = (K4 (tO r n m) 0 1 7 8) := by
 induction m with
 | zero => exact (by kernel_rfl : aN (fun kk => D185 r n nU (xs x0 0 (K0 (eO r n))) kk) 0 = (K4 (tO r n 0) 0 1 7 8))
 | succ m ih =>
  refine (by kernel_rfl : aN (fun kk => D185 r n nU (xs x0 0 (K0 (eO r n))) kk) (m + 1) = D185 r n nU (xs x0 0 (K0 (eO r n))) (aN (fun kk => D185 r n nU (xs x0 0 (K0 (eO r n))) kk) m)).trans ?_
  rw [ih]
  exact (bZu r n (tO r n m)).trans (by kernel_rfl)
theorem cPw : D185 r n aBz (xs x0 0 (K0 (eO r n))) (K0 (eO r n)) = (K4 (bMj r n) 0 1 7 8) :=
 (by kernel_rfl : D185 r n aBz (xs x0 0 (K0 (eO r n))) (K0 (eO r n)) = aN (fun kk => D185 r n nU (xs x0 0 (K0 (eO r n))) kk) n).trans ((bVw r n n).trans (by kernel_rfl))
theorem cQc : D185 r n aQj x0 (K0 (eO r n)) = (K4 (aTs r n) 0 1 7 8) :=
 (by kernel_rfl : D185 r n aQj x0 (K0 (eO r n)) = D185 r n aBz (xs x0 0 (K0 (eO r n))) (K0 (eO r n))).trans
 ((cPw r n).trans (by kernel_rfl))
theorem bPl : D185 r n aEe x0 r185 = D185 r n uJ x0 (K0 (eO r n)) :=
 congrArg (fun k => D185 r n uJ x0 k) (cMf r n)
theorem bLo : D185 r n uJ x0 (K0 (eO r n)) = D185 r n bLw x0 (K4 (aTs r n) 0 1 7 8) :=
 congrArg (fun k => D185 r n bLw x0 k) (cQc r n)
theorem cOj : D185 r n aEe x0 r185 = (K2 (aRm r n) 0 1) :=
 (bPl r n).trans
 ((bLo r n).trans
 ((by kernel_rfl)))
theorem cXf : D185 r n c185 x0 r185 = D185 r n bIt x0 (K2 (aRm r n) 0 1) :=
 congrArg (fun k => D185 r n bIt x0 k) (cOj r n)
theorem dJi : D185 r n c185 x0 r185 = (K2 (s185 r n) 0 1) :=
 (cXf r n).trans
 ((by kernel_rfl))
theorem dBi : aF CF r n 185 args h = s185 r n (aS args 0) (aS args 1) h :=
 (by kernel_rfl : aF CF r n 185 args h = D185 r n c185 x0 r185 (aI args) h).trans ((congrFun (congrFun (dJi r n) (aI args)) h).trans (by kernel_rfl))
noncomputable def s186 (r : RT) (n : Nat) (x0 x1 : DV) (h0 : Hp) : aH :=
 bnd (bQ x0 h0) fun v1 h1 =>
 bnd (aB 0 v1 h1) fun v2 h2 =>
 bnd (aA v2 h2) fun v3 h3 =>
 bnd (aA x1 h3) fun v4 h4 =>
 bnd (fH .eql v3 v4 h4) fun v5 h5 =>
 some (v5, h5)
noncomputable abbrev c186 : Code := cf Tryz.f186
noncomputable abbrev r186 : K := aQ CF Tryz.f186
noncomputable def D186 (r : RT) (n : Nat) (c : Code) (X : Nat → K) (k : K) : K := aM CF r 8 n c X r186 k
theorem dDr : D186 r n c186 x0 r186 = (K2 (s186 r n) 0 1) :=
 (by kernel_rfl)
theorem cZp : aF CF r n 186 args h = s186 r n (aS args 0) (aS args 1) h :=
 (by kernel_rfl : aF CF r n 186 args h = D186 r n c186 x0 r186 (aI args) h).trans ((congrFun (congrFun (dDr r n) (aI args)) h).trans (by kernel_rfl))
noncomputable def eS (r : RT) (n : Nat) (h0 : Hp) : aH :=
 some ((.i .i64 (Int.negSucc 0)), h0)
noncomputable def bAo (r : RT) (n : Nat) (kk4 : dH) (x0 x1 x7 x8 : DV) (h0 : Hp) : aH :=
 bnd (aD .lss x8 x7 h0) fun v1 h1 =>
 aP v1 (
 bnd (aJ 4 x0 x8 h1) fun v2 h2 =>
 bnd (aK 4 v2 h2) fun v3 h3 =>
 bnd (cV CF r x1 [v3] h3) fun v4 h4 =>
 aP v4 (
 some (x8, h4)) (
 bnd (aD .add x8 (aE 1) h4) fun v5 h5 =>
    kk4 x0 x1 x7 v5 h5)) (
      eS r n h1)
noncomputable def tQ (r : RT) (n : Nat) (m : Nat) : dH :=
 Nat.rec (motive := fun _ => dH) (fun _ _ _ _ _ => none) (fun _ ih => bAo r n ih) m
noncomputable def bHn (r : RT) (n : Nat) : dH := tQ r n n
noncomputable def aNt (r : RT) (n : Nat) (x0 x1 x7 x8 : DV) (h0 : Hp) : aH :=
 bHn r n x0 x1 x7 x8 h0
noncomputable def aSi (r : RT) (n : Nat) (x0 x1 : DV) (h0 : Hp) : aH :=
 bnd (bV x0 h0) fun v1 h1 =>
  aNt r n x0 x1 v1 (aE 0) h1
noncomputable def s187 (r : RT) (n : Nat) (x0 x1 : DV) (h0 : Hp) : aH :=
 aSi r n x0 x1 h0
noncomputable abbrev c187 : Code := cf Tryz.f187
noncomputable abbrev aBs : Code := cR c187
noncomputable abbrev cTm : Code := cR aBs
noncomputable abbrev xU : Code := cL aBs
noncomputable abbrev aRr : Code := cR xU
noncomputable abbrev aHa : Code := cL aRr
noncomputable abbrev nE : Code := cL aHa
noncomputable abbrev bNo : Code := cL xU
noncomputable abbrev bQh : Code := cL c187
noncomputable abbrev r187 : K := aQ CF Tryz.f187
noncomputable def D187 (r : RT) (n : Nat) (c : Code) (X : Nat → K) (k : K) : K := aM CF r 19 n c X r187 k
theorem cQb : D187 r n cTm x0 r187 = (K0 (eS r n)) :=
 (by kernel_rfl)
theorem bQr (kk4 : dH) : D187 r n nE (xs x0 0 (K0 (eS r n))) (K4 kk4 0 1 7 8) = (K4 (bAo r n kk4) 0 1 7 8) :=
 (by kernel_rfl)
theorem bZj (m : Nat) : aN (fun kk => D187 r n nE (xs x0 0 (K0 (eS r n))) kk) m = (K4 (tQ r n m) 0 1 7 8) := by
 induction m with
 | zero => exact (by kernel_rfl : aN (fun kk => D187 r n nE (xs x0 0 (K0 (eS r n))) kk) 0 = (K4 (tQ r n 0) 0 1 7 8))
 | succ m ih =>
  refine (by kernel_rfl : aN (fun kk => D187 r n nE (xs x0 0 (K0 (eS r n))) kk) (m + 1) = D187 r n nE (xs x0 0 (K0 (eS r n))) (aN (fun kk => D187 r n nE (xs x0 0 (K0 (eS r n))) kk) m)).trans ?_
  rw [ih]
  exact (bQr r n (tQ r n m)).trans (by kernel_rfl)
theorem cNf : D187 r n aHa (xs x0 0 (K0 (eS r n))) (K0 (eS r n)) = (K4 (bHn r n) 0 1 7 8) :=
 (by kernel_rfl : D187 r n aHa (xs x0 0 (K0 (eS r n))) (K0 (eS r n)) = aN (fun kk => D187 r n nE (xs x0 0 (K0 (eS r n))) kk) n).trans ((bZj r n n).trans (by kernel_rfl))
theorem cOc : D187 r n aRr x0 (K0 (eS r n)) = (K4 (aNt r n) 0 1 7 8) :=
 (by kernel_rfl : D187 r n aRr x0 (K0 (eS r n)) = D187 r n aHa (xs x0 0 (K0 (eS r n))) (K0 (eS r n))).trans
 ((cNf r n).trans (by kernel_rfl))
theorem bVu : D187 r n aBs x0 r187 = D187 r n xU x0 (K0 (eS r n)) :=
 congrArg (fun k => D187 r n xU x0 k) (cQb r n)
theorem bWw : D187 r n xU x0 (K0 (eS r n)) = D187 r n bNo x0 (K4 (aNt r n) 0 1 7 8) :=
 congrArg (fun k => D187 r n bNo x0 k) (cOc r n)
theorem cEi : D187 r n aBs x0 r187 = (K2 (aSi r n) 0 1) :=
 (bVu r n).trans
 ((bWw r n).trans
 ((by kernel_rfl)))
theorem dAr : D187 r n c187 x0 r187 = D187 r n bQh x0 (K2 (aSi r n) 0 1) :=
 congrArg (fun k => D187 r n bQh x0 k) (cEi r n)
theorem dEr : D187 r n c187 x0 r187 = (K2 (s187 r n) 0 1) :=
 (dAr r n).trans
 ((by kernel_rfl))
theorem cUm : aF CF r n 187 args h = s187 r n (aS args 0) (aS args 1) h :=
 (by kernel_rfl : aF CF r n 187 args h = D187 r n c187 x0 r187 (aI args) h).trans ((congrFun (congrFun (dEr r n) (aI args)) h).trans (by kernel_rfl))
noncomputable def s188 (r : RT) (n : Nat) (x0 x1 : DV) (h0 : Hp) : aH :=
 bnd (bQ x0 h0) fun v1 h1 =>
 bnd (aK 4 v1 h1) fun v2 h2 =>
 bnd (aK 4 x1 h2) fun v3 h3 =>
 bnd (r 189 [v2, v3] h3) fun v4 h4 =>
 some (v4, h4)
noncomputable abbrev c188 : Code := cf Tryz.f188
noncomputable abbrev r188 : K := aQ CF Tryz.f188
noncomputable def D188 (r : RT) (n : Nat) (c : Code) (X : Nat → K) (k : K) : K := aM CF r 7 n c X r188 k
theorem dKt : D188 r n c188 x0 r188 = (K2 (s188 r n) 0 1) :=
 (by kernel_rfl)
theorem cUl : aF CF r n 188 args h = s188 r n (aS args 0) (aS args 1) h :=
 (by kernel_rfl : aF CF r n 188 args h = D188 r n c188 x0 r188 (aI args) h).trans ((congrFun (congrFun (dKt r n) (aI args)) h).trans (by kernel_rfl))
noncomputable def s189 (r : RT) (n : Nat) (x0 x1 : DV) (h0 : Hp) : aH :=
 bnd (bQ x0 h0) fun v1 h1 =>
 bnd (bQ x1 h1) fun v2 h2 =>
 bnd (aB 0 v1 h2) fun v3 h3 =>
 bnd (aA v3 h3) fun v4 h4 =>
 bnd (aB 0 v2 h4) fun v5 h5 =>
 bnd (aA v5 h5) fun v6 h6 =>
 bnd (aD .eql v4 v6 h6) fun v7 h7 =>
 bnd (gD v7 true (aB 1 v1 h7) h7) fun v8 h8 =>
 bnd (gD v7 true (aA v8 h8) h8) fun v9 h9 =>
 bnd (gD v7 true (aB 1 v2 h9) h9) fun v10 h10 =>
 bnd (gD v7 true (aA v10 h10) h10) fun v11 h11 =>
 bnd (gD v7 true (fH .eql v9 v11 h11) h11) fun v12 h12 =>
 bnd (aR v7 v12 (.b false) h12) fun v13 h13 =>
 bnd (gD v13 true (aB 2 v1 h13) h13) fun v14 h14 =>
 bnd (gD v13 true (aA v14 h14) h14) fun v15 h15 =>
 bnd (gD v13 true (aB 2 v2 h15) h15) fun v16 h16 =>
 bnd (gD v13 true (aA v16 h16) h16) fun v17 h17 =>
 bnd (gD v13 true (aD .eql v15 v17 h17) h17) fun v18 h18 =>
 bnd (aR v13 v18 (.b false) h18) fun v19 h19 =>
 bnd (gD v19 true (aB 3 v1 h19) h19) fun v20 h20 =>
 bnd (gD v19 true (aA v20 h20) h20) fun v21 h21 =>
 bnd (gD v19 true (aB 3 v2 h21) h21) fun v22 h22 =>
 bnd (gD v19 true (aA v22 h22) h22) fun v23 h23 =>
 bnd (gD v19 true (r 213 [v21, v23, (.f 189 [] [])] h23) h23) fun v24 h24 =>
 bnd (aR v19 v24 (.b false) h24) fun v25 h25 =>
 some (v25, h25)
noncomputable abbrev c189 : Code := cf Tryz.f189
noncomputable abbrev r189 : K := aQ CF Tryz.f189
noncomputable def D189 (r : RT) (n : Nat) (c : Code) (X : Nat → K) (k : K) : K := aM CF r 31 n c X r189 k
theorem dKi : D189 r n c189 x0 r189 = (K2 (s189 r n) 0 1) :=
 (by kernel_rfl)
theorem cTx : aF CF r n 189 args h = s189 r n (aS args 0) (aS args 1) h :=
 (by kernel_rfl : aF CF r n 189 args h = D189 r n c189 x0 r189 (aI args) h).trans ((congrFun (congrFun (dKi r n) (aI args)) h).trans (by kernel_rfl))
noncomputable def s191 (r : RT) (n : Nat) (x0 x1 : DV) (h0 : Hp) : aH :=
 bnd (bC [(aE 0), (.s []), (aE 0), .l0] [(0, 1, (aE 3)), (1, 1, x1)] h0) fun v1 h1 =>
 bnd (lD [x0, v1] h1) fun v2 h2 =>
 some (v2, h2)
noncomputable abbrev c191 : Code := cf Tryz.f191
noncomputable abbrev r191 : K := aQ CF Tryz.f191
noncomputable def D191 (r : RT) (n : Nat) (c : Code) (X : Nat → K) (k : K) : K := aM CF r 9 n c X r191 k
theorem dIr : D191 r n c191 x0 r191 = (K2 (s191 r n) 0 1) :=
 (by kernel_rfl)
theorem cUq : aF CF r n 191 args h = s191 r n (aS args 0) (aS args 1) h :=
 (by kernel_rfl : aF CF r n 191 args h = D191 r n c191 x0 r191 (aI args) h).trans ((congrFun (congrFun (dIr r n) (aI args)) h).trans (by kernel_rfl))
noncomputable def mI (r : RT) (n : Nat) (x2 x3 x5 x6 x9 : DV) (h0 : Hp) : aH :=
 bnd (aB 5 x3 h0) fun v1 h1 =>
 bnd (aA v1 h1) fun v2 h2 =>
 bnd (bV v2 h2) fun v3 h3 =>
 bnd (aD .neq v3 x9 h3) fun v4 h4 =>
 bnd (gD v4 false (aB 5 x3 h4) h4) fun v5 h5 =>
 bnd (gD v4 false (aA v5 h5) h5) fun v6 h6 =>
 bnd (gD v4 false (cQ 6 v6 (some (aE 1)) none h6) h6) fun v7 h7 =>
 bnd (gD v4 false (r 220 [v7, (.f 221 [] [])] h7) h7) fun v8 h8 =>
 bnd (aR v4 (.b true) v8 h8) fun v9 h9 =>
 aP v9 (
 some ((.b false), h9)) (
 bnd (aA x2 h9) fun v10 h10 =>
 bnd (aB 5 x3 h10) fun v11 h11 =>
 bnd (aA v11 h11) fun v12 h12 =>
 bnd (aJ 6 v12 (aE 0) h12) fun v13 h13 =>
 bnd (aK 6 v13 h13) fun v14 h14 =>
 bnd (r 140 [v10, v14] h14) fun v15 h15 =>
 bnd (aA x2 h15) fun v16 h16 =>
 bnd (r 165 [v16, (aE 17)] h16) fun v17 h17 =>
 bnd (cV CF r x5 [] h17) fun v18 h18 =>
 bnd (aA x2 h18) fun v19 h19 =>
 bnd (r 165 [v19, (aE 16)] h19) fun v20 h20 =>
 bnd (cV CF r v17 [] h20) fun v21 h21 =>
 bnd (cV CF r x6 [] h21) fun v22 h22 =>
 bnd (cV CF r v20 [] h22) fun v23 h23 =>
 some ((.b true), h23))
noncomputable def aOn (r : RT) (n : Nat) (x2 x3 x7 x8 x9 : DV) (h0 : Hp) : aH :=
 bnd (aB 1 x3 h0) fun v1 h1 =>
 bnd (aA v1 h1) fun v2 h2 =>
 bnd (fH .eql v2 (.s [105, 102, 84, 114, 117, 101, 58]) h2) fun v3 h3 =>
 aP v3 (
 bnd (cV CF r x7 [(aE 1)] h3) fun v4 h4 =>
 bnd (cV CF r x8 [(aE 2)] h4) fun v5 h5 =>
  mI r n x2 x3 v4 v5 x9 h5) (
 bnd (fH .eql v2 (.s [105, 102, 70, 97, 108, 115, 101, 58]) h3) fun v6 h6 =>
 aP v6 (
 bnd (cV CF r x8 [(aE 2)] h6) fun v7 h7 =>
 bnd (cV CF r x7 [(aE 1)] h7) fun v8 h8 =>
      mI r n x2 x3 v7 v8 x9 h8) (
 bnd (fH .eql v2 (.s [97, 110, 100, 58]) h6) fun v9 h9 =>
 aP v9 (
 bnd (cV CF r x7 [(aE 1)] h9) fun v10 h10 =>
 bnd (cV CF r x8 [(aE 4)] h10) fun v11 h11 =>
    mI r n x2 x3 v10 v11 x9 h11) (
 bnd (fH .eql v2 (.s [111, 114, 58]) h9) fun v12 h12 =>
 aP v12 (
 bnd (cV CF r x8 [(aE 3)] h12) fun v13 h13 =>
 bnd (cV CF r x7 [(aE 1)] h13) fun v14 h14 =>
     mI r n x2 x3 v13 v14 x9 h14) (
 bnd (fH .eql v2 (.s [105, 102, 84, 114, 117, 101, 58, 105, 102, 70, 97, 108, 115, 101, 58]) h12) fun v15 h15 =>
 aP v15 (
 bnd (cV CF r x7 [(aE 1)] h15) fun v16 h16 =>
 bnd (cV CF r x7 [(aE 2)] h16) fun v17 h17 =>
      mI r n x2 x3 v16 v17 (aE 3) h17) (
 bnd (fH .eql v2 (.s [105, 102, 70, 97, 108, 115, 101, 58, 105, 102, 84, 114, 117, 101, 58]) h15) fun v18 h18 =>
 aP v18 (
 bnd (cV CF r x7 [(aE 2)] h18) fun v19 h19 =>
 bnd (cV CF r x7 [(aE 1)] h19) fun v20 h20 =>
       mI r n x2 x3 v19 v20 (aE 3) h20) (
 some ((.b false), h18)))))))
noncomputable def aRi (r : RT) (n : Nat) (x2 x3 x7 x8 : DV) (h0 : Hp) : aH :=
 aOn r n x2 x3 x7 x8 (aE 2) h0
noncomputable def aOz (r : RT) (n : Nat) (x2 x3 x7 : DV) (h0 : Hp) : aH :=
 aRi r n x2 x3 x7 (.f 218 [] [x2]) h0
noncomputable def aNa (r : RT) (n : Nat) (x2 x3 : DV) (h0 : Hp) : aH :=
 aOz r n x2 x3 (.f 216 [] [x2, x3]) h0
noncomputable def uH (r : RT) (n : Nat) (x2 x3 : DV) (h0 : Hp) : aH :=
 aNa r n x2 x3 h0
noncomputable def s192 (r : RT) (n : Nat) (x0 x1 : DV) (h0 : Hp) : aH :=
 bnd (bQ x0 h0) fun v1 h1 =>
 bnd (bQ x1 h1) fun v2 h2 =>
  uH r n v1 v2 h2
noncomputable abbrev c192 : Code := cf Tryz.f192
noncomputable abbrev aJe : Code := cR c192
noncomputable abbrev aIj : Code := cR aJe
noncomputable abbrev aJl : Code := cR aIj
noncomputable abbrev aAo : Code := cR aJl
noncomputable abbrev aDi : Code := cR aAo
noncomputable abbrev cXp : Code := cR aDi
noncomputable abbrev bIq : Code := cL aDi
noncomputable abbrev bZw : Code := cL aAo
noncomputable abbrev bTj : Code := cL aJl
noncomputable abbrev bBs : Code := cL aIj
noncomputable abbrev aZa : Code := cL aJe
noncomputable abbrev aFc : Code := cL c192
noncomputable abbrev r192 : K := aQ CF Tryz.f192
noncomputable def D192 (r : RT) (n : Nat) (c : Code) (X : Nat → K) (k : K) : K := aM CF r 81 n c X r192 k
theorem cFb : D192 r n cXp x0 r192 = (K5 (mI r n) 2 3 5 6 9) :=
 (by kernel_rfl)
theorem bUd : D192 r n aDi x0 r192 = D192 r n bIq x0 (K5 (mI r n) 2 3 5 6 9) :=
 congrArg (fun k => D192 r n bIq x0 k) (cFb r n)
theorem cPk : D192 r n aDi x0 r192 = (K5 (aOn r n) 2 3 7 8 9) :=
 (bUd r n).trans
 ((by kernel_rfl))
theorem bKj : D192 r n aAo x0 r192 = D192 r n bZw x0 (K5 (aOn r n) 2 3 7 8 9) :=
 congrArg (fun k => D192 r n bZw x0 k) (cPk r n)
theorem cFq : D192 r n aAo x0 r192 = (K4 (aRi r n) 2 3 7 8) :=
 (bKj r n).trans
 ((by kernel_rfl))
theorem bLr : D192 r n aJl x0 r192 = D192 r n bTj x0 (K4 (aRi r n) 2 3 7 8) :=
 congrArg (fun k => D192 r n bTj x0 k) (cFq r n)
theorem cBo : D192 r n aJl x0 r192 = (K3 (aOz r n) 2 3 7) :=
 (bLr r n).trans
 ((by kernel_rfl))
theorem cAw : D192 r n aIj x0 r192 = D192 r n bBs x0 (K3 (aOz r n) 2 3 7) :=
 congrArg (fun k => D192 r n bBs x0 k) (cBo r n)
theorem cDv : D192 r n aIj x0 r192 = (K2 (aNa r n) 2 3) :=
 (cAw r n).trans
 ((by kernel_rfl))
theorem bKu : D192 r n aJe x0 r192 = D192 r n aZa x0 (K2 (aNa r n) 2 3) :=
 congrArg (fun k => D192 r n aZa x0 k) (cDv r n)
theorem cHi : D192 r n aJe x0 r192 = (K2 (uH r n) 2 3) :=
 (bKu r n).trans
 ((by kernel_rfl))
theorem dBt : D192 r n c192 x0 r192 = D192 r n aFc x0 (K2 (uH r n) 2 3) :=
 congrArg (fun k => D192 r n aFc x0 k) (cHi r n)
theorem cVz (q0 : oF) : D192 r n aFc x0 (K2 q0 2 3) = fun (env : aU) (h : Hp) =>
 bnd (bQ (env 0) h) fun v1 h1 =>
 bnd (bQ (env 1) h1) fun v2 h2 =>
  q0 v1 v2 h2 := by kernel_rfl
theorem cFv : (fun (env : aU) (h : Hp) =>
 bnd (bQ (env 0) h) fun v1 h1 =>
 bnd (bQ (env 1) h1) fun v2 h2 =>
  uH r n v1 v2 h2) = (K2 (s192 r n) 0 1) := by kernel_rfl
theorem dHa : D192 r n c192 x0 r192 = (K2 (s192 r n) 0 1) :=
 (dBt r n).trans
 ((cVz r n (uH r n)).trans (cFv r n))
theorem cVc : aF CF r n 192 args h = s192 r n (aS args 0) (aS args 1) h :=
 (by kernel_rfl : aF CF r n 192 args h = D192 r n c192 x0 r192 (aI args) h).trans ((congrFun (congrFun (dHa r n) (aI args)) h).trans (by kernel_rfl))
noncomputable def s195 (r : RT) (n : Nat) (x0 x1 : DV) (h0 : Hp) : aH :=
 bnd (bQ x1 h0) fun v1 h1 =>
 bnd (aK 6 v1 h1) fun v2 h2 =>
 bnd (r 223 [v2] h2) fun v3 h3 =>
 aP v3 (
 bnd (r 141 [x0, (aE 1), (aE 0), (aE 0)] h3) fun v4 h4 =>
 some ((aE 15), h4)) (
 bnd (aK 6 v1 h3) fun v5 h5 =>
 bnd (r 140 [x0, v5] h5) fun v6 h6 =>
 some ((aE 14), h6))
noncomputable abbrev c195 : Code := cf Tryz.f195
noncomputable abbrev r195 : K := aQ CF Tryz.f195
noncomputable def D195 (r : RT) (n : Nat) (c : Code) (X : Nat → K) (k : K) : K := aM CF r 12 n c X r195 k
theorem dHw : D195 r n c195 x0 r195 = (K2 (s195 r n) 0 1) :=
 (by kernel_rfl)
theorem dBk : aF CF r n 195 args h = s195 r n (aS args 0) (aS args 1) h :=
 (by kernel_rfl : aF CF r n 195 args h = D195 r n c195 x0 r195 (aI args) h).trans ((congrFun (congrFun (dHw r n) (aI args)) h).trans (by kernel_rfl))
noncomputable def s196 (r : RT) (n : Nat) (x0 : DV) (h0 : Hp) : aH :=
 bnd (aO x0 h0) fun v1 h1 =>
 bnd (aB 0 v1 h1) fun v2 h2 =>
 bnd (aB 5 v2 h2) fun v3 h3 =>
 bnd (aA v3 h3) fun v4 h4 =>
 bnd (bV v4 h4) fun v5 h5 =>
 some (v5, h5)
noncomputable abbrev c196 : Code := cf Tryz.f196
noncomputable abbrev r196 : K := aQ CF Tryz.f196
noncomputable def D196 (r : RT) (n : Nat) (c : Code) (X : Nat → K) (k : K) : K := aM CF r 9 n c X r196 k
theorem dGl : D196 r n c196 x0 r196 = (K1 (s196 r n) 0) :=
 (by kernel_rfl)
theorem cUt : aF CF r n 196 args h = s196 r n (aS args 0) h :=
 (by kernel_rfl : aF CF r n 196 args h = D196 r n c196 x0 r196 (aI args) h).trans ((congrFun (congrFun (dGl r n) (aI args)) h).trans (by kernel_rfl))
noncomputable def dA (r : RT) (n : Nat) (x4 : DV) (h0 : Hp) : aH :=
 some (x4, h0)
noncomputable def aCo (r : RT) (n : Nat) (kk5 : dH) (x0 x1 x4 x5 : DV) (h0 : Hp) : aH :=
 bnd (aD .add x5 (aE 1) h0) fun v1 h1 =>
  kk5 x0 x1 x4 v1 h1
noncomputable def aSg (r : RT) (n : Nat) (kk5 : dH) (x0 x1 x4 x5 : DV) (h0 : Hp) : aH :=
 bnd (aA x1 h0) fun v1 h1 =>
 bnd (r 201 [v1, x5] h1) fun v2 h2 =>
 bnd (aC 0 v2 h2) fun v3 h3 =>
 bnd (aC 1 v2 h3) fun v4 h4 =>
 bnd (gD v4 true (some (x0, h4)) h4) fun v5 h5 =>
 bnd (gD v4 true (some (v3, h5)) h5) fun v6 h6 =>
 bnd (gD v4 true (aD .lss v5 v6 h6) h6) fun v7 h7 =>
 bnd (aR v4 v7 (.b false) h7) fun v8 h8 =>
 aP v8 (
  aCo r n kk5 x0 x1 x5 x5 h8) (
  aCo r n kk5 x0 x1 x4 x5 h8)
noncomputable def aWq (r : RT) (n : Nat) (kk5 : dH) (x0 x1 x4 x5 : DV) (h0 : Hp) : aH :=
 bnd (aD .add x5 (aE 2) h0) fun v1 h1 =>
 bnd (aD .leq v1 x0 h1) fun v2 h2 =>
 aP v2 (
   aSg r n kk5 x0 x1 x4 x5 h2) (
   dA r n x4 h2)
noncomputable def tD (r : RT) (n : Nat) (m : Nat) : dH :=
 Nat.rec (motive := fun _ => dH) (fun _ _ _ _ _ => none) (fun _ ih => aWq r n ih) m
noncomputable def bJa (r : RT) (n : Nat) : dH := tD r n n
noncomputable def aRl (r : RT) (n : Nat) (x0 x1 x4 x5 : DV) (h0 : Hp) : aH :=
 bJa r n x0 x1 x4 x5 h0
noncomputable def aNw (r : RT) (n : Nat) (x0 x1 x4 : DV) (h0 : Hp) : aH :=
 aRl r n x0 x1 x4 (aE 0) h0
noncomputable def aPu (r : RT) (n : Nat) (x0 x1 : DV) (h0 : Hp) : aH :=
 aNw r n x0 x1 (.i .i64 (Int.negSucc 0)) h0
noncomputable def s200 (r : RT) (n : Nat) (x0 x1 : DV) (h0 : Hp) : aH :=
 aPu r n x0 x1 h0
noncomputable abbrev c200 : Code := cf Tryz.f200
noncomputable abbrev aDl : Code := cR c200
noncomputable abbrev aEr : Code := cR aDl
noncomputable abbrev cUk : Code := cR aEr
noncomputable abbrev yA : Code := cL aEr
noncomputable abbrev aNs : Code := cR yA
noncomputable abbrev aHb : Code := cL aNs
noncomputable abbrev jU : Code := cL aHb
noncomputable abbrev aFs : Code := cR jU
noncomputable abbrev dBw : Code := cR aFs
noncomputable abbrev bBh : Code := cL aFs
noncomputable abbrev aWs : Code := cL jU
noncomputable abbrev aUl : Code := cL yA
noncomputable abbrev aZw : Code := cL aDl
noncomputable abbrev aUp : Code := cL c200
noncomputable abbrev r200 : K := aQ CF Tryz.f200
noncomputable def D200 (r : RT) (n : Nat) (c : Code) (X : Nat → K) (k : K) : K := aM CF r 28 n c X r200 k
theorem cLr : D200 r n cUk x0 r200 = (K1 (dA r n) 4) :=
 (by kernel_rfl)
theorem cLn (kk5 : dH) : D200 r n dBw (xs x0 0 (K1 (dA r n) 4)) (K4 kk5 0 1 4 5) = (K4 (aCo r n kk5) 0 1 4 5) :=
 (by kernel_rfl)
theorem bSd (kk5 : dH) : D200 r n aFs (xs x0 0 (K1 (dA r n) 4)) (K4 kk5 0 1 4 5) = D200 r n bBh (xs x0 0 (K1 (dA r n) 4)) (K4 (aCo r n kk5) 0 1 4 5) :=
 congrArg (fun k => D200 r n bBh (xs x0 0 (K1 (dA r n) 4)) k) (cLn r n kk5)
theorem cIj (kk5 : dH) : D200 r n aFs (xs x0 0 (K1 (dA r n) 4)) (K4 kk5 0 1 4 5) = (K4 (aSg r n kk5) 0 1 4 5) :=
 (bSd r n kk5).trans
 ((by kernel_rfl))
theorem bXh (kk5 : dH) : D200 r n jU (xs x0 0 (K1 (dA r n) 4)) (K4 kk5 0 1 4 5) = D200 r n aWs (xs x0 0 (K1 (dA r n) 4)) (K4 (aSg r n kk5) 0 1 4 5) :=
 congrArg (fun k => D200 r n aWs (xs x0 0 (K1 (dA r n) 4)) k) (cIj r n kk5)
theorem bKh (kk5 : dH) : D200 r n jU (xs x0 0 (K1 (dA r n) 4)) (K4 kk5 0 1 4 5) = (K4 (aWq r n kk5) 0 1 4 5) :=
 (bXh r n kk5).trans
 ((by kernel_rfl))
theorem bNh (m : Nat) : aN (fun kk => D200 r n jU (xs x0 0 (K1 (dA r n) 4)) kk) m = (K4 (tD r n m) 0 1 4 5) := by
 induction m with
 | zero => exact (by kernel_rfl : aN (fun kk => D200 r n jU (xs x0 0 (K1 (dA r n) 4)) kk) 0 = (K4 (tD r n 0) 0 1 4 5))
 | succ m ih =>
  refine (by kernel_rfl : aN (fun kk => D200 r n jU (xs x0 0 (K1 (dA r n) 4)) kk) (m + 1) = D200 r n jU (xs x0 0 (K1 (dA r n) 4)) (aN (fun kk => D200 r n jU (xs x0 0 (K1 (dA r n) 4)) kk) m)).trans ?_
  rw [ih]
  exact (bKh r n (tD r n m)).trans (by kernel_rfl)
theorem cJs : D200 r n aHb (xs x0 0 (K1 (dA r n) 4)) (K1 (dA r n) 4) = (K4 (bJa r n) 0 1 4 5) :=
 (by kernel_rfl : D200 r n aHb (xs x0 0 (K1 (dA r n) 4)) (K1 (dA r n) 4) = aN (fun kk => D200 r n jU (xs x0 0 (K1 (dA r n) 4)) kk) n).trans ((bNh r n n).trans (by kernel_rfl))
theorem cEs : D200 r n aNs x0 (K1 (dA r n) 4) = (K4 (aRl r n) 0 1 4 5) :=
 (by kernel_rfl : D200 r n aNs x0 (K1 (dA r n) 4) = D200 r n aHb (xs x0 0 (K1 (dA r n) 4)) (K1 (dA r n) 4)).trans
 ((cJs r n).trans (by kernel_rfl))
theorem bJs : D200 r n aEr x0 r200 = D200 r n yA x0 (K1 (dA r n) 4) :=
 congrArg (fun k => D200 r n yA x0 k) (cLr r n)
theorem bIe : D200 r n yA x0 (K1 (dA r n) 4) = D200 r n aUl x0 (K4 (aRl r n) 0 1 4 5) :=
 congrArg (fun k => D200 r n aUl x0 k) (cEs r n)
theorem cOl : D200 r n aEr x0 r200 = (K3 (aNw r n) 0 1 4) :=
 (bJs r n).trans
 ((bIe r n).trans
 ((by kernel_rfl)))
theorem bTd : D200 r n aDl x0 r200 = D200 r n aZw x0 (K3 (aNw r n) 0 1 4) :=
 congrArg (fun k => D200 r n aZw x0 k) (cOl r n)
theorem cGz : D200 r n aDl x0 r200 = (K2 (aPu r n) 0 1) :=
 (bTd r n).trans
 ((by kernel_rfl))
theorem dBr : D200 r n c200 x0 r200 = D200 r n aUp x0 (K2 (aPu r n) 0 1) :=
 congrArg (fun k => D200 r n aUp x0 k) (cGz r n)
theorem dJw : D200 r n c200 x0 r200 = (K2 (s200 r n) 0 1) :=
 (dBr r n).trans
 ((by kernel_rfl))
theorem cVp : aF CF r n 200 args h = s200 r n (aS args 0) (aS args 1) h :=
 (by kernel_rfl : aF CF r n 200 args h = D200 r n c200 x0 r200 (aI args) h).trans ((congrFun (congrFun (dJw r n) (aI args)) h).trans (by kernel_rfl))
noncomputable def s201 (r : RT) (n : Nat) (x0 x1 : DV) (h0 : Hp) : aH :=
 bnd (aJ 3 x0 x1 h0) fun v1 h1 =>
 bnd (aB 0 v1 h1) fun v2 h2 =>
 bnd (aA v2 h2) fun v3 h3 =>
 bnd (aD .neq v3 (aE 18) h3) fun v4 h4 =>
 bnd (gD v4 false (some (x1, h4)) h4) fun v5 h5 =>
 bnd (gD v4 false (aD .add v5 (aE 1) h5) h5) fun v6 h6 =>
 bnd (gD v4 false (some (x0, h6)) h6) fun v7 h7 =>
 bnd (gD v4 false (bV v7 h7) h7) fun v8 h8 =>
 bnd (gD v4 false (aD .geq v6 v8 h8) h8) fun v9 h9 =>
 bnd (aR v4 (.b true) v9 h9) fun v10 h10 =>
 bnd (gD v10 false (some (x0, h10)) h10) fun v11 h11 =>
 bnd (gD v10 false (some (x1, h11)) h11) fun v12 h12 =>
 bnd (gD v10 false (aD .add v12 (aE 1) h12) h12) fun v13 h13 =>
 bnd (gD v10 false (aJ 3 v11 v13 h13) h13) fun v14 h14 =>
 bnd (gD v10 false (aB 0 v14 h14) h14) fun v15 h15 =>
 bnd (gD v10 false (aA v15 h15) h15) fun v16 h16 =>
 bnd (gD v10 false (aD .neq v16 (aE 16) h16) h16) fun v17 h17 =>
 bnd (aR v10 (.b true) v17 h17) fun v18 h18 =>
 aP v18 (
 some (.t [(aE 0), (.b false)], h18)) (
 bnd (aD .add x1 (aE 1) h18) fun v19 h19 =>
 bnd (aJ 3 x0 v19 h19) fun v20 h20 =>
 bnd (aK 3 v20 h20) fun v21 h21 =>
 bnd (r 202 [v21] h21) fun v22 h22 =>
 bnd (aD .add x1 (aE 2) h22) fun v23 h23 =>
 bnd (aD .gtr v22 v23 h23) fun v24 h24 =>
 some (.t [v22, v24], h24))
noncomputable abbrev c201 : Code := cf Tryz.f201
noncomputable abbrev r201 : K := aQ CF Tryz.f201
noncomputable def D201 (r : RT) (n : Nat) (c : Code) (X : Nat → K) (k : K) : K := aM CF r 40 n c X r201 k
theorem dIy : D201 r n c201 x0 r201 = (K2 (s201 r n) 0 1) :=
 (by kernel_rfl)
theorem dAw : aF CF r n 201 args h = s201 r n (aS args 0) (aS args 1) h :=
 (by kernel_rfl : aF CF r n 201 args h = D201 r n c201 x0 r201 (aI args) h).trans ((congrFun (congrFun (dIy r n) (aI args)) h).trans (by kernel_rfl))
noncomputable def s202 (r : RT) (n : Nat) (x0 : DV) (h0 : Hp) : aH :=
 bnd (bQ x0 h0) fun v1 h1 =>
 bnd (aB 0 v1 h1) fun v2 h2 =>
 bnd (aA v2 h2) fun v3 h3 =>
 bnd (r 224 [v3] h3) fun v4 h4 =>
 bnd (gS .not v4 h4) fun v5 h5 =>
 aP v5 (
 some ((.i .i64 (Int.negSucc 0)), h5)) (
 bnd (aB 1 v1 h5) fun v6 h6 =>
 bnd (aA v6 h6) fun v7 h7 =>
 bnd (aB 2 v1 h7) fun v8 h8 =>
 bnd (aA v8 h8) fun v9 h9 =>
 bnd (dK .shl v9 (.i .u64 (Int.ofNat 8)) h9) fun v10 h10 =>
 bnd (aD .add v7 v10 h10) fun v11 h11 =>
 some (v11, h11))
noncomputable abbrev c202 : Code := cf Tryz.f202
noncomputable abbrev r202 : K := aQ CF Tryz.f202
noncomputable def D202 (r : RT) (n : Nat) (c : Code) (X : Nat → K) (k : K) : K := aM CF r 13 n c X r202 k
theorem dIq : D202 r n c202 x0 r202 = (K1 (s202 r n) 0) :=
 (by kernel_rfl)
theorem dAf : aF CF r n 202 args h = s202 r n (aS args 0) h :=
 (by kernel_rfl : aF CF r n 202 args h = D202 r n c202 x0 r202 (aI args) h).trans ((congrFun (congrFun (dIq r n) (aI args)) h).trans (by kernel_rfl))
noncomputable def s203 (r : RT) (n : Nat) (x0 x1 x2 x3 x4 x5 x6 x7 : DV) (h0 : Hp) : aH :=
 bnd (aA x3 h0) fun v1 h1 =>
 bnd (bV v1 h1) fun v2 h2 =>
 bnd (aD .geq x0 v2 h2) fun v3 h3 =>
 bnd (gD v3 false (aA x4 h3) h3) fun v4 h4 =>
 bnd (gD v3 false (some (x0, h4)) h4) fun v5 h5 =>
 bnd (gD v3 false (aJ 1 v4 v5 h5) h5) fun v6 h6 =>
 bnd (gD v3 false (aA v6 h6) h6) fun v7 h7 =>
 bnd (gD v3 false (some (x1, h7)) h7) fun v8 h8 =>
 bnd (gD v3 false (aD .neq v7 v8 h8) h8) fun v9 h9 =>
 bnd (aR v3 (.b true) v9 h9) fun v10 h10 =>
 bnd (gD v10 false (aA x5 h10) h10) fun v11 h11 =>
 bnd (gD v10 false (some (x0, h11)) h11) fun v12 h12 =>
 bnd (gD v10 false (aJ 1 v11 v12 h12) h12) fun v13 h13 =>
 bnd (gD v10 false (aA v13 h13) h13) fun v14 h14 =>
 bnd (gD v10 false (aD .geq v14 (aE 0) h14) h14) fun v15 h15 =>
 bnd (gD v10 false (some (v15, h15)) h15) fun v16 h16 =>
 bnd (gD v16 true (aA x5 h16) h16) fun v17 h17 =>
 bnd (gD v16 true (some (x0, h17)) h17) fun v18 h18 =>
 bnd (gD v16 true (aJ 1 v17 v18 h18) h18) fun v19 h19 =>
 bnd (gD v16 true (aA v19 h19) h19) fun v20 h20 =>
 bnd (gD v16 true (some (x2, h20)) h20) fun v21 h21 =>
 bnd (gD v16 true (aD .neq v20 v21 h21) h21) fun v22 h22 =>
 bnd (gD v10 false (aR v16 v22 (.b false) h22) h22) fun v23 h23 =>
 bnd (aR v10 (.b true) v23 h23) fun v24 h24 =>
 aP v24 (
 bnd (aG 1 x6 (.b false) h24) fun _ h25 =>
 some (.t [], h25)) (
 bnd (aA x5 h24) fun v26 h26 =>
 bnd (aJ 1 v26 x0 h26) fun v27 h27 =>
 bnd (aA v27 h27) fun v28 h28 =>
 bnd (aD .lss v28 (aE 0) h28) fun v29 h29 =>
 aP v29 (
 bnd (aA x5 h29) fun v30 h30 =>
 bnd (aJ 1 v30 x0 h30) fun v31 h31 =>
 bnd (aG 1 v31 x2 h31) fun _ h32 =>
 bnd (aA x7 h32) fun v33 h33 =>
 bnd (aL [(aE 0)] 1 [(0, 1, x0)] h33) fun v34 h34 =>
 bnd (aZ 1 8 v33 v34 h34) fun v35 h35 =>
 bnd (aG 1 x7 v35 h35) fun _ h36 =>
 some (.t [], h36)) (
 some (.t [], h29)))
noncomputable abbrev c203 : Code := cf Tryz.f203
noncomputable abbrev r203 : K := aQ CF Tryz.f203
noncomputable def D203 (r : RT) (n : Nat) (c : Code) (X : Nat → K) (k : K) : K := aM CF r 53 n c X r203 k
theorem dEg : D203 r n c203 x0 r203 = (K8 (s203 r n) 0 1 2 3 4 5 6 7) :=
 (by kernel_rfl)
theorem cXh : aF CF r n 203 args h = s203 r n (aS args 0) (aS args 1) (aS args 2) (aS args 3) (aS args 4) (aS args 5) (aS args 6) (aS args 7) h :=
 (by kernel_rfl : aF CF r n 203 args h = D203 r n c203 x0 r203 (aI args) h).trans ((congrFun (congrFun (dEg r n) (aI args)) h).trans (by kernel_rfl))
end Go.Dd

