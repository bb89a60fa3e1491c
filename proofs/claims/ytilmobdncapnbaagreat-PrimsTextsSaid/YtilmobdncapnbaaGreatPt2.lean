/- A part of the proof: Q3 Q4 Q5 Q6 Q7 Q8: each text has a comment of its own. -/
import Derived.Test.YtilmobdncapnbaaGreatPt1
set_option linter.unusedVariables false
set_option linter.unusedSimpArgs false
set_option linter.constructorNameAsVariable false
set_option maxRecDepth 100000
namespace Go.Dd
open Go.Proofs
variable (r : RT) (n : Nat) (args : List DV) (h : Hp)
noncomputable def s95 (r : RT) (n : Nat) (x0 : DV) (h0 : Hp) : aH :=
 aS x0 (
 some (.t [(aE 2), (aE 0)], h0)) (
 some (.t [(aE 4), (aE 0)], h0))
noncomputable abbrev c95 : Code := cf Tryz.f95
noncomputable abbrev r95 : K := aQ CF Tryz.f95
noncomputable def D95 (r : RT) (n : Nat) (c : Code) (X : Nat → K) (k : K) : K := aM CF r 5 n c X r95 k
theorem dOt : D95 r n c95 x0 r95 = (K1 (s95 r n) 0) :=
 (by kernel_rfl)
theorem cQi : aF CF r n 95 args h = s95 r n (aT args 0) h :=
 (by kernel_rfl : aF CF r n 95 args h = D95 r n c95 x0 r95 (aI args) h).trans ((congrFun (congrFun (dOt r n) (aI args)) h).trans (by kernel_rfl))
noncomputable def s96 (r : RT) (n : Nat) (x0 x1 : DV) (h0 : Hp) : aH :=
 bnd (bQ x0 h0) fun v1 h1 =>
 bnd (aA v1 (resv 1 h1)) fun v2 h2 =>
 bnd (aN v2 h2) fun v3 h3 =>
 bnd (aB 0 v3 h3) fun v4 h4 =>
 bnd (aA v4 h4) fun v5 h5 =>
 bnd (aA v1 h5) fun v6 h6 =>
 bnd (aN v6 h6) fun v7 h7 =>
 bnd (aB 2 v7 h7) fun v8 h8 =>
 bnd (aA v8 h8) fun v9 h9 =>
 bnd (r 25 [v5, v9] h9) fun v10 h10 =>
 bnd (jW (bW 0 h1.next) [(.i .i64 (Int.ofNat 0))] h10) fun v11 h11 =>
 bnd (aG 1 v11 v10 h11) fun v12 h12 =>
 bnd (r 52 [x1, (.f 109 [] [v1, v11])] h12) fun v13 h13 =>
 some (v13, h13)
noncomputable abbrev c96 : Code := cf Tryz.f96
noncomputable abbrev r96 : K := aQ CF Tryz.f96
noncomputable def D96 (r : RT) (n : Nat) (c : Code) (X : Nat → K) (k : K) : K := aM CF r 18 n c X r96 k
theorem dPr : D96 r n c96 x0 r96 = (K2 (s96 r n) 0 1) :=
 (by kernel_rfl)
theorem dHl : aF CF r n 96 args h = s96 r n (aT args 0) (aT args 1) h :=
 (by kernel_rfl : aF CF r n 96 args h = D96 r n c96 x0 r96 (aI args) h).trans ((congrFun (congrFun (dPr r n) (aI args)) h).trans (by kernel_rfl))
noncomputable def s97 (r : RT) (n : Nat) (x0 : DV) (h0 : Hp) : aH :=
 bnd (aN x0 h0) fun v1 h1 =>
 bnd (aB 0 v1 h1) fun v2 h2 =>
 bnd (aA v2 h2) fun v3 h3 =>
 bnd (aN x0 h3) fun v4 h4 =>
 bnd (aB 3 v4 h4) fun v5 h5 =>
 bnd (aA v5 h5) fun v6 h6 =>
 bnd (aJ 1 v6 (.i .i64 (Int.ofNat 0)) h6) fun v7 h7 =>
 bnd (aA v7 h7) fun v8 h8 =>
 bnd (r 15 [v3, v8] h8) fun v9 h9 =>
 bnd (aC 0 v9 h9) fun v10 h10 =>
 bnd (aC 1 v9 h10) fun v11 h11 =>
 bnd (aD .sub v10 (.i .i64 (Int.ofNat 1)) h11) fun v12 h12 =>
 bnd (gD v11 true (some (v10, h12)) h12) fun v13 h13 =>
 bnd (gD v11 true (aD .geq v13 (.i .i64 (Int.ofNat 1)) h13) h13) fun v14 h14 =>
 bnd (aP v11 v14 (.b false) h14) fun v15 h15 =>
 bnd (gD v15 true (some (v10, h15)) h15) fun v16 h16 =>
 bnd (gD v15 true (some (x0, h16)) h16) fun v17 h17 =>
 bnd (gD v15 true (aN v17 h17) h17) fun v18 h18 =>
 bnd (gD v15 true (aB 0 v18 h18) h18) fun v19 h19 =>
 bnd (gD v15 true (aA v19 h19) h19) fun v20 h20 =>
 bnd (gD v15 true (r 23 [v20] h20) h20) fun v21 h21 =>
 bnd (gD v15 true (some (x0, h21)) h21) fun v22 h22 =>
 bnd (gD v15 true (aN v22 h22) h22) fun v23 h23 =>
 bnd (gD v15 true (aB 2 v23 h23) h23) fun v24 h24 =>
 bnd (gD v15 true (aA v24 h24) h24) fun v25 h25 =>
 cnd (bI (gD v15 true (aA v24 h11) h11) v25 && true) (
 bnd (gD v15 true (fF [v21, v25] h25) h25) fun v26 h26 =>
 bnd (gD v15 true (aD .leq v16 v26 h26) h26) fun v27 h27 =>
 bnd (aP v15 v27 (.b false) h27) fun v28 h28 =>
 some (.t [v12, v28], h28))
noncomputable abbrev c97 : Code := cf Tryz.f97
noncomputable abbrev r97 : K := aQ CF Tryz.f97
noncomputable def D97 (r : RT) (n : Nat) (c : Code) (X : Nat → K) (k : K) : K := aM CF r 41 n c X r97 k
theorem dOa : D97 r n c97 x0 r97 = (K1 (s97 r n) 0) :=
 (by kernel_rfl)
theorem dFm : aF CF r n 97 args h = s97 r n (aT args 0) h :=
 (by kernel_rfl : aF CF r n 97 args h = D97 r n c97 x0 r97 (aI args) h).trans ((congrFun (congrFun (dOa r n) (aI args)) h).trans (by kernel_rfl))
noncomputable def s99 (r : RT) (n : Nat) (x0 : DV) (h0 : Hp) : aH :=
 bnd (bL jY h0) fun v1 h1 =>
 bnd (r 110 [x0, (.f 111 [] [])] h1) fun v2 h2 =>
 bnd (aC 0 v2 h2) fun v3 h3 =>
 bnd (aC 1 v2 h3) fun v4 h4 =>
 bnd (aC 2 v2 h4) fun v5 h5 =>
 bnd (aG 6 v1 v3 h5) fun _ h6 =>
 bnd (aK 6 v1 h6) fun v7 _ =>
 some (.t [v7, v4, v5], h6)
noncomputable abbrev c99 : Code := cf Tryz.f99
noncomputable abbrev r99 : K := aQ CF Tryz.f99
noncomputable def D99 (r : RT) (n : Nat) (c : Code) (X : Nat → K) (k : K) : K := aM CF r 10 n c X r99 k
theorem dPh : D99 r n c99 x0 r99 = (K1 (s99 r n) 0) :=
 (by kernel_rfl)
theorem dGq : aF CF r n 99 args h = s99 r n (aT args 0) h :=
 (by kernel_rfl : aF CF r n 99 args h = D99 r n c99 x0 r99 (aI args) h).trans ((congrFun (congrFun (dPh r n) (aI args)) h).trans (by kernel_rfl))
noncomputable def s100 (r : RT) (n : Nat) (x0 x1 : DV) (h0 : Hp) : aH :=
 bnd (bQ x0 h0) fun v1 h1 =>
 bnd (bL [(.s []), (aE 0), (aE 0), (aE 0), .l0, .l0] h1) fun v2 h2 =>
 bnd (aK 6 v1 h2) fun v3 h3 =>
 bnd (r 112 [v3, x1, (.b false)] h3) fun v4 h4 =>
 bnd (aC 0 v4 h4) fun v5 h5 =>
 bnd (aC 1 v4 h5) fun v6 h6 =>
 bnd (aC 2 v4 h6) fun v7 h7 =>
 bnd (aG 6 v2 v5 h7) fun _ h8 =>
 bnd (aK 6 v2 h8) fun v9 _ =>
 some (.t [v9, v6, v7], h8)
noncomputable abbrev c100 : Code := cf Tryz.f100
noncomputable abbrev r100 : K := aQ CF Tryz.f100
noncomputable def D100 (r : RT) (n : Nat) (c : Code) (X : Nat → K) (k : K) : K := aM CF r 13 n c X r100 k
theorem dHm : D100 r n c100 x0 r100 = (K2 (s100 r n) 0 1) :=
 (by kernel_rfl)
theorem cSj : aF CF r n 100 args h = s100 r n (aT args 0) (aT args 1) h :=
 (by kernel_rfl : aF CF r n 100 args h = D100 r n c100 x0 r100 (aI args) h).trans ((congrFun (congrFun (dHm r n) (aI args)) h).trans (by kernel_rfl))
noncomputable def s101 (r : RT) (n : Nat) (x0 x1 x2 : DV) (h0 : Hp) : aH :=
 bnd (bQ x2 h0) fun v1 h1 =>
 bnd (aK 6 v1 h1) fun v2 h2 =>
 bnd (r 113 [x0, x1, v2] h2) fun v3 h3 =>
 bnd (aC 0 v3 h3) fun v4 h4 =>
 bnd (aC 1 v3 h4) fun v5 h5 =>
 bnd (aD .neq v5 (aE 0) h5) fun v6 h6 =>
 aS v6 (
 some (.t [(aE 0), v5], h6)) (
 bnd (r 51 [x0, v4, (aE 0)] h6) fun v7 h7 =>
 bnd (r 114 [x0, x1, v7, v4] h7) fun v8 h8 =>
 bnd (aD .neq v8 (aE 0) h8) fun v9 h9 =>
 aS v9 (
 some (.t [(aE 0), v8], h9)) (
 some (.t [v4, (aE 0)], h9)))
noncomputable abbrev c101 : Code := cf Tryz.f101
noncomputable abbrev r101 : K := aQ CF Tryz.f101
noncomputable def D101 (r : RT) (n : Nat) (c : Code) (X : Nat → K) (k : K) : K := aM CF r 32 n c X r101 k
theorem dJi : D101 r n c101 x0 r101 = (K3 (s101 r n) 0 1 2) :=
 (by kernel_rfl)
theorem cRy : aF CF r n 101 args h = s101 r n (aT args 0) (aT args 1) (aT args 2) h :=
 (by kernel_rfl : aF CF r n 101 args h = D101 r n c101 x0 r101 (aI args) h).trans ((congrFun (congrFun (dJi r n) (aI args)) h).trans (by kernel_rfl))
noncomputable def s109 (r : RT) (n : Nat) (x0 x1 x2 : DV) (h0 : Hp) : aH :=
 bnd (aA x1 h0) fun v1 h1 =>
 bnd (aN v1 h1) fun v2 h2 =>
 bnd (aB 0 v2 h2) fun v3 h3 =>
 bnd (aA v3 h3) fun v4 h4 =>
 bnd (r 30 [v4, x0] h4) fun v5 h5 =>
 bnd (aA x2 h5) fun v6 h6 =>
 cnd (bI (aA x2 h0) v6 && true) (
 bnd (aD .eql v5 v6 h6) fun v7 h7 =>
 some (v7, h7))
noncomputable abbrev c109 : Code := cf Tryz.f109
noncomputable abbrev r109 : K := aQ CF Tryz.f109
noncomputable def D109 (r : RT) (n : Nat) (c : Code) (X : Nat → K) (k : K) : K := aM CF r 13 n c X r109 k
theorem dIt : D109 r n c109 x0 r109 = (K3 (s109 r n) 0 1 2) :=
 (by kernel_rfl)
theorem cSb : aF CF r n 109 args h = s109 r n (aT args 0) (aT args 1) (aT args 2) h :=
 (by kernel_rfl : aF CF r n 109 args h = D109 r n c109 x0 r109 (aI args) h).trans ((congrFun (congrFun (dIt r n) (aI args)) h).trans (by kernel_rfl))
noncomputable def s110 (r : RT) (n : Nat) (x0 x1 : DV) (h0 : Hp) : aH :=
 bnd (bL jY h0) fun v1 h1 =>
 bnd (r 117 [x0] h1) fun v2 h2 =>
 bnd (aC 0 v2 h2) fun v3 h3 =>
 bnd (aC 1 v2 h3) fun v4 h4 =>
 bnd (aC 2 v2 h4) fun v5 h5 =>
 bnd (aD .neq v5 (aE 0) h5) fun v6 h6 =>
 aS v6 (
 bnd (bC jY [] h6) fun v7 h7 =>
 bnd (aG 6 v1 v7 h7) fun _ h8 =>
 bnd (aK 6 v1 h8) fun v9 _ =>
 some (.t [v9, v4, v5], h8)) (
 bnd (bC [.l0, (aE 0), (aE 0), (aE 0)] [(0, 1, v3)] h6) fun v10 h10 =>
 bnd (bQ v10 h10) fun v11 h11 =>
 bnd (cV CF r x1 [v11] h11) fun v12 h12 =>
 bnd (bL jY h12) fun v13 h13 =>
 bnd (aG 6 v13 v12 h13) fun _ h14 =>
 bnd (r 118 [v11] h14) fun v15 h15 =>
 bnd (aB 4 v13 h15) fun v16 h16 =>
 bnd (aG 1 v16 v15 h16) fun _ h17 =>
 bnd (r 119 [v11] h17) fun v18 h18 =>
 bnd (aB 5 v13 h18) fun v19 h19 =>
 bnd (aG 1 v19 v18 h19) fun _ h20 =>
 bnd (r 120 [v11, (aE 0), (.s [])] h20) fun v21 h21 =>
 bnd (aN v11 h21) fun v22 h22 =>
 bnd (aB 3 v22 h22) fun v23 h23 =>
 bnd (aA v23 h23) fun v24 h24 =>
 bnd (aD .neq v24 (aE 0) h24) fun v25 h25 =>
 aS v25 (
 bnd (bC jY [] h25) fun v26 h26 =>
 bnd (aN v11 h26) fun v27 h27 =>
 bnd (aB 2 v27 h27) fun v28 h28 =>
 bnd (aA v28 h28) fun v29 h29 =>
 bnd (aN v11 h29) fun v30 h30 =>
 bnd (aB 3 v30 h30) fun v31 h31 =>
 bnd (aA v31 h31) fun v32 h32 =>
 bnd (aG 6 v1 v26 h32) fun v33 h33 =>
 cnd (bI (aA v31 h33) v32 && (bI (aA v28 h33) v29 && true)) (
 bnd (aK 6 v1 h33) fun v34 _ =>
 some (.t [v34, v29, v32], h33))) (
 bnd (aK 6 v13 h25) fun v35 h35 =>
 bnd (aG 6 v1 v35 h35) fun _ h36 =>
 bnd (aK 6 v1 h36) fun v37 _ =>
 some (.t [v37, (aE 0), (aE 0)], h36)))
noncomputable abbrev c110 : Code := cf Tryz.f110
noncomputable abbrev r110 : K := aQ CF Tryz.f110
noncomputable def D110 (r : RT) (n : Nat) (c : Code) (X : Nat → K) (k : K) : K := aM CF r 52 n c X r110 k
theorem dId : D110 r n c110 x0 r110 = (K2 (s110 r n) 0 1) :=
 (by kernel_rfl)
theorem cZh : aF CF r n 110 args h = s110 r n (aT args 0) (aT args 1) h :=
 (by kernel_rfl : aF CF r n 110 args h = D110 r n c110 x0 r110 (aI args) h).trans ((congrFun (congrFun (dId r n) (aI args)) h).trans (by kernel_rfl))
noncomputable def s111 (r : RT) (n : Nat) (x0 : DV) (h0 : Hp) : aH :=
 bnd (bL jY h0) fun v1 h1 =>
 bnd (bC jY [(0, 1, (aE 11))] h1) fun v2 h2 =>
 bnd (bL jY h2) fun v3 h3 =>
 bnd (aG 6 v3 v2 h3) fun _ h4 =>
 bnd (r 121 [x0, v3] h4) fun v5 h5 =>
 bnd (r 122 [x0] h5) fun v6 h6 =>
 bnd (aB 2 v3 h6) fun v7 h7 =>
 bnd (aG 1 v7 v6 h7) fun _ h8 =>
 bnd (aK 6 v3 h8) fun v9 h9 =>
 bnd (aG 6 v1 v9 h9) fun _ h10 =>
 bnd (aK 6 v1 h10) fun v11 _ =>
 some (v11, h10)
noncomputable abbrev c111 : Code := cf Tryz.f111
noncomputable abbrev r111 : K := aQ CF Tryz.f111
noncomputable def D111 (r : RT) (n : Nat) (c : Code) (X : Nat → K) (k : K) : K := aM CF r 11 n c X r111 k
theorem dHa : D111 r n c111 x0 r111 = (K1 (s111 r n) 0) :=
 (by kernel_rfl)
theorem cYe : aF CF r n 111 args h = s111 r n (aT args 0) h :=
 (by kernel_rfl : aF CF r n 111 args h = D111 r n c111 x0 r111 (aI args) h).trans ((congrFun (congrFun (dHa r n) (aI args)) h).trans (by kernel_rfl))
noncomputable def eA (r : RT) (n : Nat) (x6 x9 : DV) (h0 : Hp) : aH :=
 bnd (aN x9 h0) fun v1 h1 =>
 bnd (aB 0 v1 h1) fun v2 h2 =>
 bnd (aK 6 v2 h2) fun v3 h3 =>
 bnd (aG 6 x6 v3 h3) fun _ h4 =>
 bnd (aK 6 x6 h4) fun v5 _ =>
 some (.t [v5, (.s []), (aE 0)], h4)
noncomputable def aEx (r : RT) (n : Nat) (kk9 : cD) (x6 x9 x94 x95 x96 : DV) (h0 : Hp) : aH :=
 bnd (aD .lss x96 x95 h0) fun v1 h1 =>
 aS v1 (
 bnd (aJ 3 x94 x96 h1) fun v2 h2 =>
 bnd (aK 3 v2 h2) fun v3 h3 =>
 bnd (bL [(aE 0), (aE 0), (aE 0)] h3) fun v4 h4 =>
 bnd (aG 3 v4 v3 h4) fun _ h5 =>
 bnd (aK 3 v4 h5) fun v6 h6 =>
 bnd (r 124 [v6] h6) fun v7 h7 =>
 bnd (gU .not v7 h7) fun v8 h8 =>
 aS v8 (
 bnd (bC [(.s []), (aE 0), (aE 0), (aE 0), .l0, .l0] [] h8) fun v9 h9 =>
 bnd (aG 6 x6 v9 h9) fun _ h10 =>
 bnd (aK 6 x6 h10) fun v11 _ =>
 some (.t [v11, (.s []), (aE 12)], h10)) (
 bnd (aD .add x96 (aE 1) h8) fun v12 h12 =>
    kk9 x6 x9 x94 x95 v12 h12)) (
      eA r n x6 x9 h1)
noncomputable def sO (r : RT) (n : Nat) (m : Nat) : cD :=
 Nat.rec (motive := fun _ => cD) (fun _ _ _ _ _ _ => none) (fun _ ih => aEx r n ih) m
noncomputable def cAa (r : RT) (n : Nat) : cD := sO r n n
noncomputable def aSn (r : RT) (n : Nat) (x6 x9 x94 x95 x96 : DV) (h0 : Hp) : aH :=
 cAa r n x6 x9 x94 x95 x96 h0
noncomputable def zB (r : RT) (n : Nat) (x6 x9 : DV) (h0 : Hp) : aH :=
 bnd (aN x9 h0) fun v1 h1 =>
 bnd (aB 0 v1 h1) fun v2 h2 =>
 bnd (aB 5 v2 h2) fun v3 h3 =>
 bnd (aA v3 h3) fun v4 h4 =>
 bnd (bX v4 h4) fun v5 h5 =>
  aSn r n x6 x9 v4 v5 (aE 0) h5
noncomputable def aFq (r : RT) (n : Nat) (x6 x9 : DV) (h0 : Hp) : aH :=
 bnd (aN x9 h0) fun v1 h1 =>
 bnd (aB 8 v1 h1) fun v2 h2 =>
 bnd (aA v2 h2) fun v3 h3 =>
 bnd (aD .neq v3 (aE 0) h3) fun v4 h4 =>
 aS v4 (
 bnd (bC [(.s []), (aE 0), (aE 0), (aE 0), .l0, .l0] [] h4) fun v5 h5 =>
 bnd (aN x9 h5) fun v6 h6 =>
 bnd (aB 7 v6 h6) fun v7 h7 =>
 bnd (aA v7 h7) fun v8 h8 =>
 bnd (aN x9 h8) fun v9 h9 =>
 bnd (aB 8 v9 h9) fun v10 h10 =>
 bnd (aA v10 h10) fun v11 h11 =>
 bnd (aG 6 x6 v5 h11) fun v12 h12 =>
 cnd (bI (aA v10 h12) v11 && (bI (aA v7 h12) v8 && true)) (
 bnd (aK 6 x6 h12) fun v13 _ =>
 some (.t [v13, v8, v11], h12))) (
 bnd (aN x9 h4) fun v14 h14 =>
 bnd (aB 0 v14 h14) fun v15 h15 =>
 bnd (aB 4 v15 h15) fun v16 h16 =>
 bnd (aA v16 h16) fun v17 h17 =>
 bnd (bX v17 h17) fun v18 h18 =>
 bnd (aD .gtr v18 (aE 60) h18) fun v19 h19 =>
 aS v19 (
 bnd (bC [(.s []), (aE 0), (aE 0), (aE 0), .l0, .l0] [] h19) fun v20 h20 =>
 bnd (aG 6 x6 v20 h20) fun _ h21 =>
 bnd (aK 6 x6 h21) fun v22 _ =>
 some (.t [v22, (.s []), (aE 18)], h21)) (
 bnd (aN x9 h19) fun v23 h23 =>
 bnd (aB 0 v23 h23) fun v24 h24 =>
 bnd (aB 5 v24 h24) fun v25 h25 =>
 bnd (aA v25 h25) fun v26 h26 =>
 bnd (bX v26 h26) fun v27 h27 =>
 bnd (aD .gtr v27 (aE 400) h27) fun v28 h28 =>
 aS v28 (
 bnd (bC [(.s []), (aE 0), (aE 0), (aE 0), .l0, .l0] [] h28) fun v29 h29 =>
 bnd (aG 6 x6 v29 h29) fun _ h30 =>
 bnd (aK 6 x6 h30) fun v31 _ =>
 some (.t [v31, (.s []), (aE 12)], h30)) (
    zB r n x6 x9 h28)))
noncomputable def dZ (r : RT) (n : Nat) (x2 x3 x6 x9 : DV) (h0 : Hp) : aH :=
 bnd (aK 6 x3 h0) fun v1 h1 =>
 bnd (r 123 [x9, v1, x2] h1) fun v2 h2 =>
  aFq r n x6 x9 h2
noncomputable def xT (r : RT) (n : Nat) (kk11 : TT7) (x2 x3 x6 x9 x33 x34 x35 : DV) (h0 : Hp) : aH :=
 bnd (aD .lss x35 x34 h0) fun v1 h1 =>
 aS v1 (
 bnd (aJ 1 x33 x35 h1) fun v2 h2 =>
 bnd (aA v2 h2) fun v3 h3 =>
 bnd (aN x9 h3) fun v4 h4 =>
 bnd (aB 6 v4 h4) fun v5 h5 =>
 bnd (aA v5 h5) fun v6 h6 =>
 bnd (bC [(.s []), (.b false), (.b false), (aE 0)] [(0, 1, v3), (1, 1, (.b true)), (2, 1, (.b false)), (3, 1, x35)] h6) fun v7 h7 =>
 bnd (aL [(.s []), (.b false), (.b false), (aE 0)] 1 [(0, 4, v7)] h7) fun v8 h8 =>
 bnd (bA 4 32 v6 v8 h8) fun v9 h9 =>
 bnd (aN x9 h9) fun v10 h10 =>
 bnd (aB 6 v10 h10) fun v11 h11 =>
 bnd (aG 1 v11 v9 h11) fun _ h12 =>
 bnd (aD .add x35 (aE 1) h12) fun v13 h13 =>
      kk11 x2 x3 x6 x9 x33 x34 v13 h13) (
      dZ r n x2 x3 x6 x9 h1)
noncomputable def oV (r : RT) (n : Nat) (m : Nat) : TT7 :=
 Nat.rec (motive := fun _ => TT7) (fun _ _ _ _ _ _ _ _ => none) (fun _ ih => xT r n ih) m
noncomputable def aWd (r : RT) (n : Nat) : TT7 := oV r n n
noncomputable def aCi (r : RT) (n : Nat) (x2 x3 x6 x9 x33 x34 x35 : DV) (h0 : Hp) : aH :=
 aWd r n x2 x3 x6 x9 x33 x34 x35 h0
noncomputable def vB (r : RT) (n : Nat) (x1 x2 x3 x6 x9 : DV) (h0 : Hp) : aH :=
 bnd (bX x1 h0) fun v1 h1 =>
  aCi r n x2 x3 x6 x9 x1 v1 (aE 0) h1
noncomputable def pW (r : RT) (n : Nat) (x1 x2 x3 x6 : DV) (h0 : Hp) : aH :=
 bnd (aB 1 x3 h0) fun v1 h1 =>
 bnd (aA v1 h1) fun v2 h2 =>
 bnd (aB 3 x3 h2) fun v3 h3 =>
 bnd (aA v3 h3) fun v4 h4 =>
 bnd (bX v4 h4) fun v5 h5 =>
 bnd (aB 2 x3 h5) fun v6 h6 =>
 bnd (aA v6 h6) fun v7 h7 =>
 bnd (bC [(.s []), (aE 0), (aE 0), (aE 0), .l0, .l0] [(0, 1, v2), (1, 1, v5), (3, 1, v7)] h7) fun v8 h8 =>
 bnd (bC [(.s []), (aE 0), (aE 0), (aE 0), .l0, .l0, .l0, (.s []), (aE 0)] [(0, 6, v8)] h8) fun v9 h9 =>
 bnd (bQ v9 h9) fun v10 h10 =>
  vB r n x1 x2 x3 x6 v10 h10
noncomputable def qG (r : RT) (n : Nat) (x1 x2 x3 x6 : DV) (h0 : Hp) : aH :=
 bnd (aB 0 x3 h0) fun v1 h1 =>
 bnd (aA v1 h1) fun v2 h2 =>
 bnd (aD .neq v2 (aE 11) h2) fun v3 h3 =>
 bnd (gD v3 false (some (x1, h3)) h3) fun v4 h4 =>
 bnd (gD v3 false (bX v4 h4) h4) fun v5 h5 =>
 bnd (gD v3 false (aD .gtr v5 (aE 8) h5) h5) fun v6 h6 =>
 bnd (aP v3 (.b true) v6 h6) fun v7 h7 =>
 aS v7 (
 bnd (bC [(.s []), (aE 0), (aE 0), (aE 0), .l0, .l0] [] h7) fun v8 h8 =>
 bnd (aG 6 x6 v8 h8) fun _ h9 =>
 bnd (aK 6 x6 h9) fun v10 _ =>
 some (.t [v10, (.s []), (aE 1)], h9)) (
  pW r n x1 x2 x3 x6 h7)
noncomputable def s112 (r : RT) (n : Nat) (x0 x1 x2 : DV) (h0 : Hp) : aH :=
 bnd (bQ x0 h0) fun v1 h1 =>
 bnd (bL [(.s []), (aE 0), (aE 0), (aE 0), .l0, .l0] h1) fun v2 h2 =>
  qG r n x1 x2 v1 v2 h2
noncomputable abbrev c112 : Code := cf Tryz.f112
noncomputable abbrev aBv : Code := cR c112
noncomputable abbrev aIm : Code := cR aBv
noncomputable abbrev aId : Code := cR aIm
noncomputable abbrev aBs : Code := cR aId
noncomputable abbrev aDd : Code := cR aBs
noncomputable abbrev aCt : Code := cR aDd
noncomputable abbrev dBy : Code := cR aCt
noncomputable abbrev yB : Code := cL aCt
noncomputable abbrev aTc : Code := cR yB
noncomputable abbrev sG : Code := cL aTc
noncomputable abbrev jQ : Code := cL sG
noncomputable abbrev aYk : Code := cL yB
noncomputable abbrev aIs : Code := cL aDd
noncomputable abbrev aZu : Code := cL aBs
noncomputable abbrev pL : Code := cL aId
noncomputable abbrev aAv : Code := cR pL
noncomputable abbrev uM : Code := cL aAv
noncomputable abbrev jL : Code := cL uM
noncomputable abbrev aXd : Code := cL pL
noncomputable abbrev aAw : Code := cL aIm
noncomputable abbrev aDc : Code := cL aBv
noncomputable abbrev aEq : Code := cL c112
noncomputable abbrev r112 : K := aQ CF Tryz.f112
noncomputable def D112 (r : RT) (n : Nat) (c : Code) (X : Nat → K) (k : K) : K := aM CF r 109 n c X r112 k
theorem cEr : D112 r n dBy x0 r112 = (K2 (eA r n) 6 9) :=
 (by kernel_rfl)
theorem bXh (kk9 : cD) (q0 : oL) : D112 r n jQ (xs x0 3 (K2 q0 6 9)) (K5 kk9 6 9 94 95 96) = fun (env : aW) (h : Hp) =>
 bnd (aD .lss (env 96) (env 95) h) fun v1 h1 =>
 aS v1 (
 bnd (aJ 3 (env 94) (env 96) h1) fun v2 h2 =>
 bnd (aK 3 v2 h2) fun v3 h3 =>
 bnd (bL [(aE 0), (aE 0), (aE 0)] h3) fun v4 h4 =>
 bnd (aG 3 v4 v3 h4) fun _ h5 =>
 bnd (aK 3 v4 h5) fun v6 h6 =>
 bnd (r 124 [v6] h6) fun v7 h7 =>
 bnd (gU .not v7 h7) fun v8 h8 =>
 aS v8 (
 bnd (bC [(.s []), (aE 0), (aE 0), (aE 0), .l0, .l0] [] h8) fun v9 h9 =>
 bnd (aG 6 (env 6) v9 h9) fun _ h10 =>
 bnd (aK 6 (env 6) h10) fun v11 _ =>
 some (.t [v11, (.s []), (aE 12)], h10)) (
 bnd (aD .add (env 96) (aE 1) h8) fun v12 h12 =>
    kk9 (env 6) (env 9) (env 94) (env 95) v12 h12)) (
      q0 (env 6) (env 9) h1) := by kernel_rfl
theorem bFh (kk9 : cD) : (fun (env : aW) (h : Hp) =>
 bnd (aD .lss (env 96) (env 95) h) fun v1 h1 =>
 aS v1 (
 bnd (aJ 3 (env 94) (env 96) h1) fun v2 h2 =>
 bnd (aK 3 v2 h2) fun v3 h3 =>
 bnd (bL [(aE 0), (aE 0), (aE 0)] h3) fun v4 h4 =>
 bnd (aG 3 v4 v3 h4) fun _ h5 =>
 bnd (aK 3 v4 h5) fun v6 h6 =>
 bnd (r 124 [v6] h6) fun v7 h7 =>
 bnd (gU .not v7 h7) fun v8 h8 =>
 aS v8 (
 bnd (bC [(.s []), (aE 0), (aE 0), (aE 0), .l0, .l0] [] h8) fun v9 h9 =>
 bnd (aG 6 (env 6) v9 h9) fun _ h10 =>
 bnd (aK 6 (env 6) h10) fun v11 _ =>
 some (.t [v11, (.s []), (aE 12)], h10)) (
 bnd (aD .add (env 96) (aE 1) h8) fun v12 h12 =>
    kk9 (env 6) (env 9) (env 94) (env 95) v12 h12)) (
      eA r n (env 6) (env 9) h1)) = (K5 (aEx r n kk9) 6 9 94 95 96) := by kernel_rfl
theorem bWk (kk9 : cD) : D112 r n jQ (xs x0 3 (K2 (eA r n) 6 9)) (K5 kk9 6 9 94 95 96) = (K5 (aEx r n kk9) 6 9 94 95 96) :=
 (bXh r n kk9 (eA r n)).trans (bFh r n kk9)
theorem bHq (m : Nat) : aO (fun kk => D112 r n jQ (xs x0 3 (K2 (eA r n) 6 9)) kk) m = (K5 (sO r n m) 6 9 94 95 96) := by
 induction m with
 | zero => exact (by kernel_rfl : aO (fun kk => D112 r n jQ (xs x0 3 (K2 (eA r n) 6 9)) kk) 0 = (K5 (sO r n 0) 6 9 94 95 96))
 | succ m ih =>
  refine (by kernel_rfl : aO (fun kk => D112 r n jQ (xs x0 3 (K2 (eA r n) 6 9)) kk) (m + 1) = D112 r n jQ (xs x0 3 (K2 (eA r n) 6 9)) (aO (fun kk => D112 r n jQ (xs x0 3 (K2 (eA r n) 6 9)) kk) m)).trans ?_
  rw [ih]
  exact (bWk r n (sO r n m)).trans (by kernel_rfl)
theorem cKf : D112 r n sG (xs x0 3 (K2 (eA r n) 6 9)) (K2 (eA r n) 6 9) = (K5 (cAa r n) 6 9 94 95 96) :=
 (by kernel_rfl : D112 r n sG (xs x0 3 (K2 (eA r n) 6 9)) (K2 (eA r n) 6 9) = aO (fun kk => D112 r n jQ (xs x0 3 (K2 (eA r n) 6 9)) kk) n).trans ((bHq r n n).trans (by kernel_rfl))
theorem cOi : D112 r n aTc x0 (K2 (eA r n) 6 9) = (K5 (aSn r n) 6 9 94 95 96) :=
 (by kernel_rfl : D112 r n aTc x0 (K2 (eA r n) 6 9) = D112 r n sG (xs x0 3 (K2 (eA r n) 6 9)) (K2 (eA r n) 6 9)).trans
 ((cKf r n).trans (by kernel_rfl))
theorem bSv : D112 r n aCt x0 r112 = D112 r n yB x0 (K2 (eA r n) 6 9) :=
 congrArg (fun k => D112 r n yB x0 k) (cEr r n)
theorem bTs : D112 r n yB x0 (K2 (eA r n) 6 9) = D112 r n aYk x0 (K5 (aSn r n) 6 9 94 95 96) :=
 congrArg (fun k => D112 r n aYk x0 k) (cOi r n)
theorem cIn : D112 r n aCt x0 r112 = (K2 (zB r n) 6 9) :=
 (bSv r n).trans
 ((bTs r n).trans
 ((by kernel_rfl)))
theorem bJr : D112 r n aDd x0 r112 = D112 r n aIs x0 (K2 (zB r n) 6 9) :=
 congrArg (fun k => D112 r n aIs x0 k) (cIn r n)
theorem bPb (q0 : oL) : D112 r n aIs x0 (K2 q0 6 9) = fun (env : aW) (h : Hp) =>
 bnd (aN (env 9) h) fun v1 h1 =>
 bnd (aB 8 v1 h1) fun v2 h2 =>
 bnd (aA v2 h2) fun v3 h3 =>
 bnd (aD .neq v3 (aE 0) h3) fun v4 h4 =>
 aS v4 (
 bnd (bC [(.s []), (aE 0), (aE 0), (aE 0), .l0, .l0] [] h4) fun v5 h5 =>
 bnd (aN (env 9) h5) fun v6 h6 =>
 bnd (aB 7 v6 h6) fun v7 h7 =>
 bnd (aA v7 h7) fun v8 h8 =>
 bnd (aN (env 9) h8) fun v9 h9 =>
 bnd (aB 8 v9 h9) fun v10 h10 =>
 bnd (aA v10 h10) fun v11 h11 =>
 bnd (aG 6 (env 6) v5 h11) fun v12 h12 =>
 cnd (bI (aA v10 h12) v11 && (bI (aA v7 h12) v8 && true)) (
 bnd (aK 6 (env 6) h12) fun v13 _ =>
 some (.t [v13, v8, v11], h12))) (
 bnd (aN (env 9) h4) fun v14 h14 =>
 bnd (aB 0 v14 h14) fun v15 h15 =>
 bnd (aB 4 v15 h15) fun v16 h16 =>
 bnd (aA v16 h16) fun v17 h17 =>
 bnd (bX v17 h17) fun v18 h18 =>
 bnd (aD .gtr v18 (aE 60) h18) fun v19 h19 =>
 aS v19 (
 bnd (bC [(.s []), (aE 0), (aE 0), (aE 0), .l0, .l0] [] h19) fun v20 h20 =>
 bnd (aG 6 (env 6) v20 h20) fun _ h21 =>
 bnd (aK 6 (env 6) h21) fun v22 _ =>
 some (.t [v22, (.s []), (aE 18)], h21)) (
 bnd (aN (env 9) h19) fun v23 h23 =>
 bnd (aB 0 v23 h23) fun v24 h24 =>
 bnd (aB 5 v24 h24) fun v25 h25 =>
 bnd (aA v25 h25) fun v26 h26 =>
 bnd (bX v26 h26) fun v27 h27 =>
 bnd (aD .gtr v27 (aE 400) h27) fun v28 h28 =>
 aS v28 (
 bnd (bC [(.s []), (aE 0), (aE 0), (aE 0), .l0, .l0] [] h28) fun v29 h29 =>
 bnd (aG 6 (env 6) v29 h29) fun _ h30 =>
 bnd (aK 6 (env 6) h30) fun v31 _ =>
 some (.t [v31, (.s []), (aE 12)], h30)) (
     q0 (env 6) (env 9) h28))) := by kernel_rfl
theorem bCf : (fun (env : aW) (h : Hp) =>
 bnd (aN (env 9) h) fun v1 h1 =>
 bnd (aB 8 v1 h1) fun v2 h2 =>
 bnd (aA v2 h2) fun v3 h3 =>
 bnd (aD .neq v3 (aE 0) h3) fun v4 h4 =>
 aS v4 (
 bnd (bC [(.s []), (aE 0), (aE 0), (aE 0), .l0, .l0] [] h4) fun v5 h5 =>
 bnd (aN (env 9) h5) fun v6 h6 =>
 bnd (aB 7 v6 h6) fun v7 h7 =>
 bnd (aA v7 h7) fun v8 h8 =>
 bnd (aN (env 9) h8) fun v9 h9 =>
 bnd (aB 8 v9 h9) fun v10 h10 =>
 bnd (aA v10 h10) fun v11 h11 =>
 bnd (aG 6 (env 6) v5 h11) fun v12 h12 =>
 cnd (bI (aA v10 h12) v11 && (bI (aA v7 h12) v8 && true)) (
 bnd (aK 6 (env 6) h12) fun v13 _ =>
 some (.t [v13, v8, v11], h12))) (
 bnd (aN (env 9) h4) fun v14 h14 =>
 bnd (aB 0 v14 h14) fun v15 h15 =>
 bnd (aB 4 v15 h15) fun v16 h16 =>
 bnd (aA v16 h16) fun v17 h17 =>
 bnd (bX v17 h17) fun v18 h18 =>
 bnd (aD .gtr v18 (aE 60) h18) fun v19 h19 =>
 aS v19 (
 bnd (bC [(.s []), (aE 0), (aE 0), (aE 0), .l0, .l0] [] h19) fun v20 h20 =>
 bnd (aG 6 (env 6) v20 h20) fun _ h21 =>
 bnd (aK 6 (env 6) h21) fun v22 _ =>
 some (.t [v22, (.s []), (aE 18)], h21)) (
 bnd (aN (env 9) h19) fun v23 h23 =>
 bnd (aB 0 v23 h23) fun v24 h24 =>
 bnd (aB 5 v24 h24) fun v25 h25 =>
 bnd (aA v25 h25) fun v26 h26 =>
 bnd (bX v26 h26) fun v27 h27 =>
 bnd (aD .gtr v27 (aE 400) h27) fun v28 h28 =>
 aS v28 (
 bnd (bC [(.s []), (aE 0), (aE 0), (aE 0), .l0, .l0] [] h28) fun v29 h29 =>
 bnd (aG 6 (env 6) v29 h29) fun _ h30 =>
 bnd (aK 6 (env 6) h30) fun v31 _ =>
 some (.t [v31, (.s []), (aE 12)], h30)) (
     zB r n (env 6) (env 9) h28)))) = (K2 (aFq r n) 6 9) := by kernel_rfl
theorem cDw : D112 r n aDd x0 r112 = (K2 (aFq r n) 6 9) :=
 (bJr r n).trans
 ((bPb r n (zB r n)).trans (bCf r n))
theorem bVx : D112 r n aBs x0 r112 = D112 r n aZu x0 (K2 (aFq r n) 6 9) :=
 congrArg (fun k => D112 r n aZu x0 k) (cDw r n)
theorem cPm : D112 r n aBs x0 r112 = (K4 (dZ r n) 2 3 6 9) :=
 (bVx r n).trans
 ((by kernel_rfl))
theorem bCx (kk11 : TT7) (q0 : dL) : D112 r n jL (xs x0 0 (K4 q0 2 3 6 9)) (K7 kk11 2 3 6 9 33 34 35) = fun (env : aW) (h : Hp) =>
 bnd (aD .lss (env 35) (env 34) h) fun v1 h1 =>
 aS v1 (
 bnd (aJ 1 (env 33) (env 35) h1) fun v2 h2 =>
 bnd (aA v2 h2) fun v3 h3 =>
 bnd (aN (env 9) h3) fun v4 h4 =>
 bnd (aB 6 v4 h4) fun v5 h5 =>
 bnd (aA v5 h5) fun v6 h6 =>
 bnd (bC [(.s []), (.b false), (.b false), (aE 0)] [(0, 1, v3), (1, 1, (.b true)), (2, 1, (.b false)), (3, 1, (env 35))] h6) fun v7 h7 =>
 bnd (aL [(.s []), (.b false), (.b false), (aE 0)] 1 [(0, 4, v7)] h7) fun v8 h8 =>
 bnd (bA 4 32 v6 v8 h8) fun v9 h9 =>
 bnd (aN (env 9) h9) fun v10 h10 =>
 bnd (aB 6 v10 h10) fun v11 h11 =>
 bnd (aG 1 v11 v9 h11) fun _ h12 =>
 bnd (aD .add (env 35) (aE 1) h12) fun v13 h13 =>
      kk11 (env 2) (env 3) (env 6) (env 9) (env 33) (env 34) v13 h13) (
      q0 (env 2) (env 3) (env 6) (env 9) h1) := by kernel_rfl
theorem aQf (kk11 : TT7) : (fun (env : aW) (h : Hp) =>
 bnd (aD .lss (env 35) (env 34) h) fun v1 h1 =>
 aS v1 (
 bnd (aJ 1 (env 33) (env 35) h1) fun v2 h2 =>
 bnd (aA v2 h2) fun v3 h3 =>
 bnd (aN (env 9) h3) fun v4 h4 =>
 bnd (aB 6 v4 h4) fun v5 h5 =>
 bnd (aA v5 h5) fun v6 h6 =>
 bnd (bC [(.s []), (.b false), (.b false), (aE 0)] [(0, 1, v3), (1, 1, (.b true)), (2, 1, (.b false)), (3, 1, (env 35))] h6) fun v7 h7 =>
 bnd (aL [(.s []), (.b false), (.b false), (aE 0)] 1 [(0, 4, v7)] h7) fun v8 h8 =>
 bnd (bA 4 32 v6 v8 h8) fun v9 h9 =>
 bnd (aN (env 9) h9) fun v10 h10 =>
 bnd (aB 6 v10 h10) fun v11 h11 =>
 bnd (aG 1 v11 v9 h11) fun _ h12 =>
 bnd (aD .add (env 35) (aE 1) h12) fun v13 h13 =>
      kk11 (env 2) (env 3) (env 6) (env 9) (env 33) (env 34) v13 h13) (
      dZ r n (env 2) (env 3) (env 6) (env 9) h1)) = (K7 (xT r n kk11) 2 3 6 9 33 34 35) := by kernel_rfl
theorem bEb (kk11 : TT7) : D112 r n jL (xs x0 0 (K4 (dZ r n) 2 3 6 9)) (K7 kk11 2 3 6 9 33 34 35) = (K7 (xT r n kk11) 2 3 6 9 33 34 35) :=
 (bCx r n kk11 (dZ r n)).trans (aQf r n kk11)
theorem bDr (m : Nat) : aO (fun kk => D112 r n jL (xs x0 0 (K4 (dZ r n) 2 3 6 9)) kk) m = (K7 (oV r n m) 2 3 6 9 33 34 35) := by
 induction m with
 | zero => exact (by kernel_rfl : aO (fun kk => D112 r n jL (xs x0 0 (K4 (dZ r n) 2 3 6 9)) kk) 0 = (K7 (oV r n 0) 2 3 6 9 33 34 35))
 | succ m ih =>
  refine (by kernel_rfl : aO (fun kk => D112 r n jL (xs x0 0 (K4 (dZ r n) 2 3 6 9)) kk) (m + 1) = D112 r n jL (xs x0 0 (K4 (dZ r n) 2 3 6 9)) (aO (fun kk => D112 r n jL (xs x0 0 (K4 (dZ r n) 2 3 6 9)) kk) m)).trans ?_
  rw [ih]
  exact (bEb r n (oV r n m)).trans (by kernel_rfl)
theorem bXk : D112 r n uM (xs x0 0 (K4 (dZ r n) 2 3 6 9)) (K4 (dZ r n) 2 3 6 9) = (K7 (aWd r n) 2 3 6 9 33 34 35) :=
 (by kernel_rfl : D112 r n uM (xs x0 0 (K4 (dZ r n) 2 3 6 9)) (K4 (dZ r n) 2 3 6 9) = aO (fun kk => D112 r n jL (xs x0 0 (K4 (dZ r n) 2 3 6 9)) kk) n).trans ((bDr r n n).trans (by kernel_rfl))
theorem bZj : D112 r n aAv x0 (K4 (dZ r n) 2 3 6 9) = (K7 (aCi r n) 2 3 6 9 33 34 35) :=
 (by kernel_rfl : D112 r n aAv x0 (K4 (dZ r n) 2 3 6 9) = D112 r n uM (xs x0 0 (K4 (dZ r n) 2 3 6 9)) (K4 (dZ r n) 2 3 6 9)).trans
 ((bXk r n).trans (by kernel_rfl))
theorem bUa : D112 r n aId x0 r112 = D112 r n pL x0 (K4 (dZ r n) 2 3 6 9) :=
 congrArg (fun k => D112 r n pL x0 k) (cPm r n)
theorem bLm : D112 r n pL x0 (K4 (dZ r n) 2 3 6 9) = D112 r n aXd x0 (K7 (aCi r n) 2 3 6 9 33 34 35) :=
 congrArg (fun k => D112 r n aXd x0 k) (bZj r n)
theorem cLr : D112 r n aId x0 r112 = (K5 (vB r n) 1 2 3 6 9) :=
 (bUa r n).trans
 ((bLm r n).trans
 ((by kernel_rfl)))
theorem bEi : D112 r n aIm x0 r112 = D112 r n aAw x0 (K5 (vB r n) 1 2 3 6 9) :=
 congrArg (fun k => D112 r n aAw x0 k) (cLr r n)
theorem bDt (q0 : cD) : D112 r n aAw x0 (K5 q0 1 2 3 6 9) = fun (env : aW) (h : Hp) =>
 bnd (aB 1 (env 3) h) fun v1 h1 =>
 bnd (aA v1 h1) fun v2 h2 =>
 bnd (aB 3 (env 3) h2) fun v3 h3 =>
 bnd (aA v3 h3) fun v4 h4 =>
 bnd (bX v4 h4) fun v5 h5 =>
 bnd (aB 2 (env 3) h5) fun v6 h6 =>
 bnd (aA v6 h6) fun v7 h7 =>
 bnd (bC [(.s []), (aE 0), (aE 0), (aE 0), .l0, .l0] [(0, 1, v2), (1, 1, v5), (3, 1, v7)] h7) fun v8 h8 =>
 bnd (bC [(.s []), (aE 0), (aE 0), (aE 0), .l0, .l0, .l0, (.s []), (aE 0)] [(0, 6, v8)] h8) fun v9 h9 =>
 bnd (bQ v9 h9) fun v10 h10 =>
  q0 (env 1) (env 2) (env 3) (env 6) v10 h10 := by kernel_rfl
theorem aSb : (fun (env : aW) (h : Hp) =>
 bnd (aB 1 (env 3) h) fun v1 h1 =>
 bnd (aA v1 h1) fun v2 h2 =>
 bnd (aB 3 (env 3) h2) fun v3 h3 =>
 bnd (aA v3 h3) fun v4 h4 =>
 bnd (bX v4 h4) fun v5 h5 =>
 bnd (aB 2 (env 3) h5) fun v6 h6 =>
 bnd (aA v6 h6) fun v7 h7 =>
 bnd (bC [(.s []), (aE 0), (aE 0), (aE 0), .l0, .l0] [(0, 1, v2), (1, 1, v5), (3, 1, v7)] h7) fun v8 h8 =>
 bnd (bC [(.s []), (aE 0), (aE 0), (aE 0), .l0, .l0, .l0, (.s []), (aE 0)] [(0, 6, v8)] h8) fun v9 h9 =>
 bnd (bQ v9 h9) fun v10 h10 =>
  vB r n (env 1) (env 2) (env 3) (env 6) v10 h10) = (K4 (pW r n) 1 2 3 6) := by kernel_rfl
theorem cDe : D112 r n aIm x0 r112 = (K4 (pW r n) 1 2 3 6) :=
 (bEi r n).trans
 ((bDt r n (vB r n)).trans (aSb r n))
theorem bEe : D112 r n aBv x0 r112 = D112 r n aDc x0 (K4 (pW r n) 1 2 3 6) :=
 congrArg (fun k => D112 r n aDc x0 k) (cDe r n)
theorem bEp (q0 : dL) : D112 r n aDc x0 (K4 q0 1 2 3 6) = fun (env : aW) (h : Hp) =>
 bnd (aB 0 (env 3) h) fun v1 h1 =>
 bnd (aA v1 h1) fun v2 h2 =>
 bnd (aD .neq v2 (aE 11) h2) fun v3 h3 =>
 bnd (gD v3 false (some ((env 1), h3)) h3) fun v4 h4 =>
 bnd (gD v3 false (bX v4 h4) h4) fun v5 h5 =>
 bnd (gD v3 false (aD .gtr v5 (aE 8) h5) h5) fun v6 h6 =>
 bnd (aP v3 (.b true) v6 h6) fun v7 h7 =>
 aS v7 (
 bnd (bC [(.s []), (aE 0), (aE 0), (aE 0), .l0, .l0] [] h7) fun v8 h8 =>
 bnd (aG 6 (env 6) v8 h8) fun _ h9 =>
 bnd (aK 6 (env 6) h9) fun v10 _ =>
 some (.t [v10, (.s []), (aE 1)], h9)) (
   q0 (env 1) (env 2) (env 3) (env 6) h7) := by kernel_rfl
theorem aOg : (fun (env : aW) (h : Hp) =>
 bnd (aB 0 (env 3) h) fun v1 h1 =>
 bnd (aA v1 h1) fun v2 h2 =>
 bnd (aD .neq v2 (aE 11) h2) fun v3 h3 =>
 bnd (gD v3 false (some ((env 1), h3)) h3) fun v4 h4 =>
 bnd (gD v3 false (bX v4 h4) h4) fun v5 h5 =>
 bnd (gD v3 false (aD .gtr v5 (aE 8) h5) h5) fun v6 h6 =>
 bnd (aP v3 (.b true) v6 h6) fun v7 h7 =>
 aS v7 (
 bnd (bC [(.s []), (aE 0), (aE 0), (aE 0), .l0, .l0] [] h7) fun v8 h8 =>
 bnd (aG 6 (env 6) v8 h8) fun _ h9 =>
 bnd (aK 6 (env 6) h9) fun v10 _ =>
 some (.t [v10, (.s []), (aE 1)], h9)) (
   pW r n (env 1) (env 2) (env 3) (env 6) h7)) = (K4 (qG r n) 1 2 3 6) := by kernel_rfl
theorem cNi : D112 r n aBv x0 r112 = (K4 (qG r n) 1 2 3 6) :=
 (bEe r n).trans
 ((bEp r n (pW r n)).trans (aOg r n))
theorem cKk : D112 r n c112 x0 r112 = D112 r n aEq x0 (K4 (qG r n) 1 2 3 6) :=
 congrArg (fun k => D112 r n aEq x0 k) (cNi r n)
theorem cCs (q0 : dL) : D112 r n aEq x0 (K4 q0 1 2 3 6) = fun (env : aW) (h : Hp) =>
 bnd (bQ (env 0) h) fun v1 h1 =>
 bnd (bL [(.s []), (aE 0), (aE 0), (aE 0), .l0, .l0] h1) fun v2 h2 =>
  q0 (env 1) (env 2) v1 v2 h2 := by kernel_rfl
theorem bKj : (fun (env : aW) (h : Hp) =>
 bnd (bQ (env 0) h) fun v1 h1 =>
 bnd (bL [(.s []), (aE 0), (aE 0), (aE 0), .l0, .l0] h1) fun v2 h2 =>
  qG r n (env 1) (env 2) v1 v2 h2) = (K3 (s112 r n) 0 1 2) := by kernel_rfl
theorem dIq : D112 r n c112 x0 r112 = (K3 (s112 r n) 0 1 2) :=
 (cKk r n).trans
 ((cCs r n (qG r n)).trans (bKj r n))
theorem cUl : aF CF r n 112 args h = s112 r n (aT args 0) (aT args 1) (aT args 2) h :=
 (by kernel_rfl : aF CF r n 112 args h = D112 r n c112 x0 r112 (aI args) h).trans ((congrFun (congrFun (dIq r n) (aI args)) h).trans (by kernel_rfl))
noncomputable def s113 (r : RT) (n : Nat) (x0 x1 x2 : DV) (h0 : Hp) : aH :=
 bnd (bQ x2 h0) fun v1 h1 =>
 bnd (r 67 [x0, x1] h1) fun v2 h2 =>
 bnd (gU .not v2 h2) fun v3 h3 =>
 aS v3 (
 some (.t [(aE 0), (aE 24)], h3)) (
 bnd (aK 6 v1 h3) fun v4 h4 =>
 bnd (r 37 [x0, x1] h4) fun v5 h5 =>
 cnd (bI (aK 6 v1 h5) v4 && true) (
 bnd (r 125 [v4, v5] h5) fun v6 h6 =>
 bnd (aD .neq v6 (aE 0) h6) fun v7 h7 =>
 aS v7 (
 some (.t [(aE 0), v6], h7)) (
 bnd (aB 0 v1 h7) fun v8 h8 =>
 bnd (aA v8 h8) fun v9 h9 =>
 bnd (r 44 [x0, v9] h9) fun v10 h10 =>
 bnd (aC 0 v10 h10) fun v11 h11 =>
 bnd (aC 1 v10 h11) fun v12 h12 =>
 bnd (aD .neq v12 (aE 0) h12) fun v13 h13 =>
 aS v13 (
 some (.t [(aE 0), v12], h13)) (
 bnd (aB 4 v1 h13) fun v14 h14 =>
 bnd (aA v14 h14) fun v15 h15 =>
 bnd (bC [(aE 0), (.s []), (aE 0), .l0] [(0, 1, (aE 4)), (3, 1, v15)] h15) fun v16 h16 =>
 bnd (r 126 [x0, v16] h16) fun v17 h17 =>
 bnd (aC 0 v17 h17) fun v18 h18 =>
 bnd (aC 1 v17 h18) fun v19 h19 =>
 bnd (aD .neq v19 (aE 0) h19) fun v20 h20 =>
 aS v20 (
 some (.t [(aE 0), v19], h20)) (
 bnd (aB 5 v1 h20) fun v21 h21 =>
 bnd (aA v21 h21) fun v22 h22 =>
 bnd (r 127 [v22] h22) fun v23 h23 =>
 bnd (aC 0 v23 h23) fun v24 h24 =>
 bnd (aC 1 v23 h24) fun v25 h25 =>
 bnd (r 128 [x0, v24] h25) fun v26 h26 =>
 bnd (aC 0 v26 h26) fun v27 h27 =>
 bnd (aC 1 v26 h27) fun v28 h28 =>
 bnd (aD .neq v28 (aE 0) h28) fun v29 h29 =>
 aS v29 (
 some (.t [(aE 0), v28], h29)) (
 bnd (r 30 [x0, (aE 14)] (resv 1 h29)) fun v30 h30 =>
 bnd (aB 1 v1 h30) fun v31 h31 =>
 bnd (aA v31 h31) fun v32 h32 =>
 cnd (bI (aA v31 (resv 1 h29)) v32 && true) (
 bnd (r 71 [v32] h32) fun v33 h33 =>
 bnd (aB 2 v1 h33) fun v34 h34 =>
 bnd (aA v34 h34) fun v35 h35 =>
 cnd (bI (aA v34 h30) v35 && (bI (aA v34 (resv 1 h29)) v35 && true)) (
 bnd (r 71 [v35] h35) fun v36 h36 =>
 bnd (aB 3 v1 h36) fun v37 h37 =>
 bnd (aA v37 h37) fun v38 h38 =>
 cnd (bI (aA v37 h33) v38 && (bI (aA v37 h30) v38 && (bI (aA v37 (resv 1 h29)) v38 && true))) (
 bnd (r 71 [v38] h38) fun v39 h39 =>
 bnd (bK (bW 0 h29.next) [(aE 0), (aE 0), (aE 0), (aE 0), (aE 0), (aE 0), (aE 0)] 7 [(0, 1, v11), (1, 1, v33), (2, 1, v36), (3, 1, v39), (4, 1, v18), (5, 1, v27), (6, 1, x1)] h39) fun v40 h40 =>
 bnd (r 82 [x0, v30, (aE 0), v40] h40) fun v41 h41 =>
 bnd (aC 0 v41 h41) fun v42 h42 =>
 bnd (aC 1 v41 h42) fun v43 h43 =>
 some (.t [v42, v43], h43))))))))))
noncomputable abbrev c113 : Code := cf Tryz.f113
noncomputable abbrev r113 : K := aQ CF Tryz.f113
noncomputable def D113 (r : RT) (n : Nat) (c : Code) (X : Nat → K) (k : K) : K := aM CF r 83 n c X r113 k
theorem dLr : D113 r n c113 x0 r113 = (K3 (s113 r n) 0 1 2) :=
 (by kernel_rfl)
theorem cWl : aF CF r n 113 args h = s113 r n (aT args 0) (aT args 1) (aT args 2) h :=
 (by kernel_rfl : aF CF r n 113 args h = D113 r n c113 x0 r113 (aI args) h).trans ((congrFun (congrFun (dLr r n) (aI args)) h).trans (by kernel_rfl))
noncomputable def eU (r : RT) (n : Nat) (x0 x1 x3 : DV) (h0 : Hp) : aH :=
 bnd (r 51 [x0, x1, (aE 4)] h0) fun v1 h1 =>
 bnd (r 73 [x0, x3, v1] h1) fun v2 h2 =>
 bnd (aC 0 v2 h2) fun v3 h3 =>
 bnd (aC 1 v2 h3) fun v4 h4 =>
 bnd (aD .neq v4 (aE 0) h4) fun v5 h5 =>
 aS v5 (
 some (v4, h5)) (
 bnd (aN x0 h5) fun v6 h6 =>
 bnd (aB 0 v6 h6) fun v7 h7 =>
 bnd (aA v7 h7) fun v8 h8 =>
 bnd (zN [v8, x1, (aE 4), v3] h8) fun v9 h9 =>
 some (v9, h9))
noncomputable def aZd (r : RT) (n : Nat) (kk5 : fE) (x0 x1 x2 x3 x9 x10 : DV) (h0 : Hp) : aH :=
 bnd (aD .gtr x10 (aE 0) h0) fun v1 h1 =>
 bnd (gD v1 true (some (x0, h1)) h1) fun v2 h2 =>
 bnd (gD v1 true (aN v2 h2) h2) fun v3 h3 =>
 bnd (gD v1 true (aB 0 v3 h3) h3) fun v4 h4 =>
 bnd (gD v1 true (aA v4 h4) h4) fun v5 h5 =>
 bnd (gD v1 true (some (x9, h5)) h5) fun v6 h6 =>
 bnd (gD v1 true (isF [v5, v6] h6) h6) fun v7 h7 =>
 bnd (aP v1 v7 (.b false) h7) fun v8 h8 =>
 aS v8 (
 bnd (r 51 [x0, x9, (aE 0)] h8) fun v9 h9 =>
 bnd (r 51 [x0, v9, (aE 0)] h9) fun v10 h10 =>
 bnd (aD .eql v10 x2 h10) fun v11 h11 =>
 aS v11 (
 bnd (aN x0 h11) fun v12 h12 =>
 bnd (aB 0 v12 h12) fun v13 h13 =>
 bnd (aA v13 h13) fun v14 h14 =>
 bnd (zN [v14, x9, (aE 0), x3] h14) fun v15 h15 =>
 some (v15, h15)) (
 bnd (r 51 [x0, x9, (aE 1)] h11) fun v16 h16 =>
 bnd (aD .sub x10 (aE 1) h16) fun v17 h17 =>
    kk5 x0 x1 x2 x3 v16 v17 h17)) (
      eU r n x0 x1 x3 h8)
noncomputable def sH (r : RT) (n : Nat) (m : Nat) : fE :=
 Nat.rec (motive := fun _ => fE) (fun _ _ _ _ _ _ _ => none) (fun _ ih => aZd r n ih) m
noncomputable def bWf (r : RT) (n : Nat) : fE := sH r n n
noncomputable def aPk (r : RT) (n : Nat) (x0 x1 x2 x3 x9 x10 : DV) (h0 : Hp) : aH :=
 bWf r n x0 x1 x2 x3 x9 x10 h0
noncomputable def aTh (r : RT) (n : Nat) (x0 x1 x2 x3 x9 : DV) (h0 : Hp) : aH :=
 bnd (aN x0 h0) fun v1 h1 =>
 bnd (aB 0 v1 h1) fun v2 h2 =>
 bnd (aA v2 h2) fun v3 h3 =>
 bnd (zV [v3] h3) fun v4 h4 =>
  aPk r n x0 x1 x2 x3 x9 v4 h4
noncomputable def aNq (r : RT) (n : Nat) (x0 x1 x2 x3 : DV) (h0 : Hp) : aH :=
 bnd (r 51 [x0, x1, (aE 4)] h0) fun v1 h1 =>
  aTh r n x0 x1 x2 x3 v1 h1
noncomputable def s114 (r : RT) (n : Nat) (x0 x1 x2 x3 : DV) (h0 : Hp) : aH :=
 aNq r n x0 x1 x2 x3 h0
noncomputable abbrev c114 : Code := cf Tryz.f114
noncomputable abbrev aBe : Code := cR c114
noncomputable abbrev aGh : Code := cR aBe
noncomputable abbrev dBf : Code := cR aGh
noncomputable abbrev yM : Code := cL aGh
noncomputable abbrev aPb : Code := cR yM
noncomputable abbrev aAs : Code := cL aPb
noncomputable abbrev nL : Code := cL aAs
noncomputable abbrev bIs : Code := cL yM
noncomputable abbrev bUv : Code := cL aBe
noncomputable abbrev aYb : Code := cL c114
noncomputable abbrev r114 : K := aQ CF Tryz.f114
noncomputable def D114 (r : RT) (n : Nat) (c : Code) (X : Nat → K) (k : K) : K := aM CF r 69 n c X r114 k
theorem cDh : D114 r n dBf x0 r114 = (K3 (eU r n) 0 1 3) :=
 (by kernel_rfl)
theorem bSl (kk5 : fE) : D114 r n nL (xs x0 0 (K3 (eU r n) 0 1 3)) (K6 kk5 0 1 2 3 9 10) = (K6 (aZd r n kk5) 0 1 2 3 9 10) :=
 (by kernel_rfl)
theorem bMz (m : Nat) : aO (fun kk => D114 r n nL (xs x0 0 (K3 (eU r n) 0 1 3)) kk) m = (K6 (sH r n m) 0 1 2 3 9 10) := by
 induction m with
 | zero => exact (by kernel_rfl : aO (fun kk => D114 r n nL (xs x0 0 (K3 (eU r n) 0 1 3)) kk) 0 = (K6 (sH r n 0) 0 1 2 3 9 10))
 | succ m ih =>
  refine (by kernel_rfl : aO (fun kk => D114 r n nL (xs x0 0 (K3 (eU r n) 0 1 3)) kk) (m + 1) = D114 r n nL (xs x0 0 (K3 (eU r n) 0 1 3)) (aO (fun kk => D114 r n nL (xs x0 0 (K3 (eU r n) 0 1 3)) kk) m)).trans ?_
  rw [ih]
  exact (bSl r n (sH r n m)).trans (by kernel_rfl)
theorem cMs : D114 r n aAs (xs x0 0 (K3 (eU r n) 0 1 3)) (K3 (eU r n) 0 1 3) = (K6 (bWf r n) 0 1 2 3 9 10) :=
 (by kernel_rfl : D114 r n aAs (xs x0 0 (K3 (eU r n) 0 1 3)) (K3 (eU r n) 0 1 3) = aO (fun kk => D114 r n nL (xs x0 0 (K3 (eU r n) 0 1 3)) kk) n).trans ((bMz r n n).trans (by kernel_rfl))
theorem cCv : D114 r n aPb x0 (K3 (eU r n) 0 1 3) = (K6 (aPk r n) 0 1 2 3 9 10) :=
 (by kernel_rfl : D114 r n aPb x0 (K3 (eU r n) 0 1 3) = D114 r n aAs (xs x0 0 (K3 (eU r n) 0 1 3)) (K3 (eU r n) 0 1 3)).trans
 ((cMs r n).trans (by kernel_rfl))
theorem bSa : D114 r n aGh x0 r114 = D114 r n yM x0 (K3 (eU r n) 0 1 3) :=
 congrArg (fun k => D114 r n yM x0 k) (cDh r n)
theorem bTd : D114 r n yM x0 (K3 (eU r n) 0 1 3) = D114 r n bIs x0 (K6 (aPk r n) 0 1 2 3 9 10) :=
 congrArg (fun k => D114 r n bIs x0 k) (cCv r n)
theorem cLy : D114 r n aGh x0 r114 = (K5 (aTh r n) 0 1 2 3 9) :=
 (bSa r n).trans
 ((bTd r n).trans
 ((by kernel_rfl)))
theorem bQq : D114 r n aBe x0 r114 = D114 r n bUv x0 (K5 (aTh r n) 0 1 2 3 9) :=
 congrArg (fun k => D114 r n bUv x0 k) (cLy r n)
theorem cKv : D114 r n aBe x0 r114 = (K4 (aNq r n) 0 1 2 3) :=
 (bQq r n).trans
 ((by kernel_rfl))
theorem cTy : D114 r n c114 x0 r114 = D114 r n aYb x0 (K4 (aNq r n) 0 1 2 3) :=
 congrArg (fun k => D114 r n aYb x0 k) (cKv r n)
theorem dGg : D114 r n c114 x0 r114 = (K4 (s114 r n) 0 1 2 3) :=
 (cTy r n).trans
 ((by kernel_rfl))
theorem cZr : aF CF r n 114 args h = s114 r n (aT args 0) (aT args 1) (aT args 2) (aT args 3) h :=
 (by kernel_rfl : aF CF r n 114 args h = D114 r n c114 x0 r114 (aI args) h).trans ((congrFun (congrFun (dGg r n) (aI args)) h).trans (by kernel_rfl))
noncomputable def eV (r : RT) (n : Nat) (x0 x6 : DV) (h0 : Hp) : aH :=
 bnd (dH x0 h0) fun v1 h1 =>
 bnd (bC [(aE 0), (.s []), (aE 0), (aE 0)] [(3, 1, v1)] h1) fun v2 h2 =>
 bnd (aL [(aE 0), (.s []), (aE 0), (aE 0)] 1 [(0, 4, v2)] h2) fun v3 h3 =>
 bnd (bA 4 40 x6 v3 h3) fun v4 h4 =>
 some (.t [v4, (aE 0), (aE 0)], h4)
noncomputable def aHw (r : RT) (n : Nat) (kk7 : mL) (x0 x5 x6 : DV) (h0 : Hp) : aH :=
 bnd (r 130 [(.s [9, 10, 13, 32])] h0) fun v1 h1 =>
 bnd (dH x0 h1) fun v2 h2 =>
 bnd (r 129 [x5, v1, v2] h2) fun v3 h3 =>
 bnd (aN x5 h3) fun v4 h4 =>
 bnd (aB 1 v4 h4) fun v5 h5 =>
 bnd (aA v5 h5) fun v6 h6 =>
 bnd (dH x0 h6) fun v7 h7 =>
 bnd (aD .geq v6 v7 h7) fun v8 h8 =>
 aS v8 (
   eV r n x0 x6 h8) (
 bnd (aN x5 h8) fun v9 h9 =>
 bnd (aB 1 v9 h9) fun v10 h10 =>
 bnd (aA v10 h10) fun v11 h11 =>
 bnd (fB x0 v11 h11) fun v12 h12 =>
 bnd (aD .eql v12 (.i .u8 (Int.ofNat 34)) h12) fun v13 h13 =>
 aS v13 (
 bnd (aN x5 h13) fun v14 h14 =>
 bnd (aB 1 v14 h14) fun v15 h15 =>
 bnd (aA v15 h15) fun v16 h16 =>
 bnd (aD .add v16 (aE 1) h16) fun v17 h17 =>
 bnd (fC x0 (some v17) none h17) fun v18 h18 =>
 bnd (r 131 [v18, (.i .u8 (Int.ofNat 34))] h18) fun v19 h19 =>
 bnd (aD .lss v19 (aE 0) h19) fun v20 h20 =>
 aS v20 (
 bnd (aN x5 h20) fun v21 h21 =>
 bnd (aB 1 v21 h21) fun v22 h22 =>
 bnd (aA v22 h22) fun v23 h23 =>
 some (.t [.l0, v23, (aE 11)], h23)) (
 bnd (aN x5 h20) fun v24 h24 =>
 bnd (aB 1 v24 h24) fun v25 h25 =>
 bnd (aA v25 h25) fun v26 h26 =>
 bnd (aD .add v19 (aE 2) h26) fun v27 h27 =>
 bnd (aD .add v26 v27 h27) fun v28 h28 =>
 bnd (aN x5 h28) fun v29 h29 =>
 bnd (aB 1 v29 h29) fun v30 h30 =>
 bnd (aG 1 v30 v28 h30) fun _ h31 =>
     kk7 x0 x5 x6 h31)) (
 bnd (r 132 [x5] h13) fun v32 h32 =>
 bnd (aC 0 v32 h32) fun v33 h33 =>
 bnd (aC 1 v32 h33) fun v34 h34 =>
 bnd (bL [(aE 0), (.s []), (aE 0), (aE 0)] h34) fun v35 h35 =>
 bnd (aG 4 v35 v33 h35) fun _ h36 =>
 bnd (aD .neq v34 (aE 0) h36) fun v37 h37 =>
 aS v37 (
 bnd (aB 3 v35 h37) fun v38 h38 =>
 bnd (aA v38 h38) fun v39 h39 =>
 some (.t [.l0, v39, v34], h39)) (
 bnd (aK 4 v35 h37) fun v40 h40 =>
 bnd (aL [(aE 0), (.s []), (aE 0), (aE 0)] 1 [(0, 4, v40)] h40) fun v41 h41 =>
 bnd (bA 4 40 x6 v41 h41) fun v42 h42 =>
     kk7 x0 x5 v42 h42)))
noncomputable def tK (r : RT) (n : Nat) (m : Nat) : mL :=
 Nat.rec (motive := fun _ => mL) (fun _ _ _ _ => none) (fun _ ih => aHw r n ih) m
noncomputable def bOf (r : RT) (n : Nat) : mL := tK r n n
noncomputable def aPr (r : RT) (n : Nat) (x0 x5 x6 : DV) (h0 : Hp) : aH :=
 bOf r n x0 x5 x6 h0
noncomputable def aPv (r : RT) (n : Nat) (x0 x5 x6 : DV) (h0 : Hp) : aH :=
 aPr r n x0 x5 x6 h0
noncomputable def wF (r : RT) (n : Nat) (x0 x5 : DV) (h0 : Hp) : aH :=
 aPv r n x0 x5 .l0 h0
noncomputable def aJb (r : RT) (n : Nat) (x0 : DV) (h0 : Hp) : aH :=
 bnd (bC [(.s []), (aE 0)] [(0, 1, x0)] h0) fun v1 h1 =>
 bnd (bQ v1 h1) fun v2 h2 =>
  wF r n x0 v2 h2
noncomputable def aUe (r : RT) (n : Nat) (x0 : DV) (h0 : Hp) : aH :=
 bnd (dH x0 h0) fun v1 h1 =>
 bnd (aD .gtr v1 (aE 2000) h1) fun v2 h2 =>
 aS v2 (
 some (.t [.l0, (aE 0), (aE 12)], h2)) (
  aJb r n x0 h2)
noncomputable def s117 (r : RT) (n : Nat) (x0 : DV) (h0 : Hp) : aH :=
 aUe r n x0 h0
noncomputable abbrev c117 : Code := cf Tryz.f117
noncomputable abbrev aOm : Code := cR c117
noncomputable abbrev aKc : Code := cL aOm
noncomputable abbrev aEu : Code := cR aKc
noncomputable abbrev aBc : Code := cR aEu
noncomputable abbrev aHy : Code := cR aBc
noncomputable abbrev aEp : Code := cR aHy
noncomputable abbrev cZd : Code := cR aEp
noncomputable abbrev aCq : Code := cL aEp
noncomputable abbrev aFn : Code := cL aCq
noncomputable abbrev jO : Code := cL aFn
noncomputable abbrev aZg : Code := cL aHy
noncomputable abbrev aXm : Code := cL aBc
noncomputable abbrev aCx : Code := cL aEu
noncomputable abbrev bBm : Code := cL aKc
noncomputable abbrev aYg : Code := cL c117
noncomputable abbrev r117 : K := aQ CF Tryz.f117
noncomputable def D117 (r : RT) (n : Nat) (c : Code) (X : Nat → K) (k : K) : K := aM CF r 80 n c X r117 k
theorem cDf : D117 r n cZd x0 r117 = (K2 (eV r n) 0 6) :=
 (by kernel_rfl)
theorem cAh (kk7 : mL) (q0 : oL) : D117 r n jO (xs x0 0 (K2 q0 0 6)) (K3 kk7 0 5 6) = fun (env : aW) (h : Hp) =>
 bnd (r 130 [(.s [9, 10, 13, 32])] h) fun v1 h1 =>
 bnd (dH (env 0) h1) fun v2 h2 =>
 bnd (r 129 [(env 5), v1, v2] h2) fun v3 h3 =>
 bnd (aN (env 5) h3) fun v4 h4 =>
 bnd (aB 1 v4 h4) fun v5 h5 =>
 bnd (aA v5 h5) fun v6 h6 =>
 bnd (dH (env 0) h6) fun v7 h7 =>
 bnd (aD .geq v6 v7 h7) fun v8 h8 =>
 aS v8 (
   q0 (env 0) (env 6) h8) (
 bnd (aN (env 5) h8) fun v9 h9 =>
 bnd (aB 1 v9 h9) fun v10 h10 =>
 bnd (aA v10 h10) fun v11 h11 =>
 bnd (fB (env 0) v11 h11) fun v12 h12 =>
 bnd (aD .eql v12 (.i .u8 (Int.ofNat 34)) h12) fun v13 h13 =>
 aS v13 (
 bnd (aN (env 5) h13) fun v14 h14 =>
 bnd (aB 1 v14 h14) fun v15 h15 =>
 bnd (aA v15 h15) fun v16 h16 =>
 bnd (aD .add v16 (aE 1) h16) fun v17 h17 =>
 bnd (fC (env 0) (some v17) none h17) fun v18 h18 =>
 bnd (r 131 [v18, (.i .u8 (Int.ofNat 34))] h18) fun v19 h19 =>
 bnd (aD .lss v19 (aE 0) h19) fun v20 h20 =>
 aS v20 (
 bnd (aN (env 5) h20) fun v21 h21 =>
 bnd (aB 1 v21 h21) fun v22 h22 =>
 bnd (aA v22 h22) fun v23 h23 =>
 some (.t [.l0, v23, (aE 11)], h23)) (
 bnd (aN (env 5) h20) fun v24 h24 =>
 bnd (aB 1 v24 h24) fun v25 h25 =>
 bnd (aA v25 h25) fun v26 h26 =>
 bnd (aD .add v19 (aE 2) h26) fun v27 h27 =>
 bnd (aD .add v26 v27 h27) fun v28 h28 =>
 bnd (aN (env 5) h28) fun v29 h29 =>
 bnd (aB 1 v29 h29) fun v30 h30 =>
 bnd (aG 1 v30 v28 h30) fun _ h31 =>
     kk7 (env 0) (env 5) (env 6) h31)) (
 bnd (r 132 [(env 5)] h13) fun v32 h32 =>
 bnd (aC 0 v32 h32) fun v33 h33 =>
 bnd (aC 1 v32 h33) fun v34 h34 =>
 bnd (bL [(aE 0), (.s []), (aE 0), (aE 0)] h34) fun v35 h35 =>
 bnd (aG 4 v35 v33 h35) fun _ h36 =>
 bnd (aD .neq v34 (aE 0) h36) fun v37 h37 =>
 aS v37 (
 bnd (aB 3 v35 h37) fun v38 h38 =>
 bnd (aA v38 h38) fun v39 h39 =>
 some (.t [.l0, v39, v34], h39)) (
 bnd (aK 4 v35 h37) fun v40 h40 =>
 bnd (aL [(aE 0), (.s []), (aE 0), (aE 0)] 1 [(0, 4, v40)] h40) fun v41 h41 =>
 bnd (bA 4 40 (env 6) v41 h41) fun v42 h42 =>
     kk7 (env 0) (env 5) v42 h42))) := by kernel_rfl
theorem bGa (kk7 : mL) : (fun (env : aW) (h : Hp) =>
 bnd (r 130 [(.s [9, 10, 13, 32])] h) fun v1 h1 =>
 bnd (dH (env 0) h1) fun v2 h2 =>
 bnd (r 129 [(env 5), v1, v2] h2) fun v3 h3 =>
 bnd (aN (env 5) h3) fun v4 h4 =>
 bnd (aB 1 v4 h4) fun v5 h5 =>
 bnd (aA v5 h5) fun v6 h6 =>
 bnd (dH (env 0) h6) fun v7 h7 =>
 bnd (aD .geq v6 v7 h7) fun v8 h8 =>
 aS v8 (
   eV r n (env 0) (env 6) h8) (
 bnd (aN (env 5) h8) fun v9 h9 =>
 bnd (aB 1 v9 h9) fun v10 h10 =>
 bnd (aA v10 h10) fun v11 h11 =>
 bnd (fB (env 0) v11 h11) fun v12 h12 =>
 bnd (aD .eql v12 (.i .u8 (Int.ofNat 34)) h12) fun v13 h13 =>
 aS v13 (
 bnd (aN (env 5) h13) fun v14 h14 =>
 bnd (aB 1 v14 h14) fun v15 h15 =>
 bnd (aA v15 h15) fun v16 h16 =>
 bnd (aD .add v16 (aE 1) h16) fun v17 h17 =>
 bnd (fC (env 0) (some v17) none h17) fun v18 h18 =>
 bnd (r 131 [v18, (.i .u8 (Int.ofNat 34))] h18) fun v19 h19 =>
 bnd (aD .lss v19 (aE 0) h19) fun v20 h20 =>
 aS v20 (
 bnd (aN (env 5) h20) fun v21 h21 =>
 bnd (aB 1 v21 h21) fun v22 h22 =>
 bnd (aA v22 h22) fun v23 h23 =>
 some (.t [.l0, v23, (aE 11)], h23)) (
 bnd (aN (env 5) h20) fun v24 h24 =>
 bnd (aB 1 v24 h24) fun v25 h25 =>
 bnd (aA v25 h25) fun v26 h26 =>
 bnd (aD .add v19 (aE 2) h26) fun v27 h27 =>
 bnd (aD .add v26 v27 h27) fun v28 h28 =>
 bnd (aN (env 5) h28) fun v29 h29 =>
 bnd (aB 1 v29 h29) fun v30 h30 =>
 bnd (aG 1 v30 v28 h30) fun _ h31 =>
     kk7 (env 0) (env 5) (env 6) h31)) (
 bnd (r 132 [(env 5)] h13) fun v32 h32 =>
 bnd (aC 0 v32 h32) fun v33 h33 =>
 bnd (aC 1 v32 h33) fun v34 h34 =>
 bnd (bL [(aE 0), (.s []), (aE 0), (aE 0)] h34) fun v35 h35 =>
 bnd (aG 4 v35 v33 h35) fun _ h36 =>
 bnd (aD .neq v34 (aE 0) h36) fun v37 h37 =>
 aS v37 (
 bnd (aB 3 v35 h37) fun v38 h38 =>
 bnd (aA v38 h38) fun v39 h39 =>
 some (.t [.l0, v39, v34], h39)) (
 bnd (aK 4 v35 h37) fun v40 h40 =>
 bnd (aL [(aE 0), (.s []), (aE 0), (aE 0)] 1 [(0, 4, v40)] h40) fun v41 h41 =>
 bnd (bA 4 40 (env 6) v41 h41) fun v42 h42 =>
     kk7 (env 0) (env 5) v42 h42)))) = (K3 (aHw r n kk7) 0 5 6) := by kernel_rfl
theorem bIu (kk7 : mL) : D117 r n jO (xs x0 0 (K2 (eV r n) 0 6)) (K3 kk7 0 5 6) = (K3 (aHw r n kk7) 0 5 6) :=
 (cAh r n kk7 (eV r n)).trans (bGa r n kk7)
theorem bSi (m : Nat) : aO (fun kk => D117 r n jO (xs x0 0 (K2 (eV r n) 0 6)) kk) m = (K3 (tK r n m) 0 5 6) := by
 induction m with
 | zero => exact (by kernel_rfl : aO (fun kk => D117 r n jO (xs x0 0 (K2 (eV r n) 0 6)) kk) 0 = (K3 (tK r n 0) 0 5 6))
 | succ m ih =>
  refine (by kernel_rfl : aO (fun kk => D117 r n jO (xs x0 0 (K2 (eV r n) 0 6)) kk) (m + 1) = D117 r n jO (xs x0 0 (K2 (eV r n) 0 6)) (aO (fun kk => D117 r n jO (xs x0 0 (K2 (eV r n) 0 6)) kk) m)).trans ?_
  rw [ih]
  exact (bIu r n (tK r n m)).trans (by kernel_rfl)
theorem cHi : D117 r n aFn (xs x0 0 (K2 (eV r n) 0 6)) (K2 (eV r n) 0 6) = (K3 (bOf r n) 0 5 6) :=
 (by kernel_rfl : D117 r n aFn (xs x0 0 (K2 (eV r n) 0 6)) (K2 (eV r n) 0 6) = aO (fun kk => D117 r n jO (xs x0 0 (K2 (eV r n) 0 6)) kk) n).trans ((bSi r n n).trans (by kernel_rfl))
theorem bWl : D117 r n aEp x0 r117 = D117 r n aCq x0 (K2 (eV r n) 0 6) :=
 congrArg (fun k => D117 r n aCq x0 k) (cDf r n)
theorem cBm : D117 r n aEp x0 r117 = (K3 (aPr r n) 0 5 6) :=
 (bWl r n).trans
 ((by kernel_rfl : D117 r n aCq x0 (K2 (eV r n) 0 6) = D117 r n aFn (xs x0 0 (K2 (eV r n) 0 6)) (K2 (eV r n) 0 6)).trans
 ((cHi r n).trans (by kernel_rfl)))
theorem bJk : D117 r n aHy x0 r117 = D117 r n aZg x0 (K3 (aPr r n) 0 5 6) :=
 congrArg (fun k => D117 r n aZg x0 k) (cBm r n)
theorem cDl : D117 r n aHy x0 r117 = (K3 (aPv r n) 0 5 6) :=
 (bJk r n).trans
 ((by kernel_rfl))
theorem bHs : D117 r n aBc x0 r117 = D117 r n aXm x0 (K3 (aPv r n) 0 5 6) :=
 congrArg (fun k => D117 r n aXm x0 k) (cDl r n)
theorem cMu : D117 r n aBc x0 r117 = (K2 (wF r n) 0 5) :=
 (bHs r n).trans
 ((by kernel_rfl))
theorem bYj : D117 r n aEu x0 r117 = D117 r n aCx x0 (K2 (wF r n) 0 5) :=
 congrArg (fun k => D117 r n aCx x0 k) (cMu r n)
theorem bNg (q0 : oL) : D117 r n aCx x0 (K2 q0 0 5) = fun (env : aW) (h : Hp) =>
 bnd (bC [(.s []), (aE 0)] [(0, 1, (env 0))] h) fun v1 h1 =>
 bnd (bQ v1 h1) fun v2 h2 =>
  q0 (env 0) v2 h2 := by kernel_rfl
theorem bGc : (fun (env : aW) (h : Hp) =>
 bnd (bC [(.s []), (aE 0)] [(0, 1, (env 0))] h) fun v1 h1 =>
 bnd (bQ v1 h1) fun v2 h2 =>
  wF r n (env 0) v2 h2) = (K1 (aJb r n) 0) := by kernel_rfl
theorem cHj : D117 r n aEu x0 r117 = (K1 (aJb r n) 0) :=
 (bYj r n).trans
 ((bNg r n (wF r n)).trans (bGc r n))
theorem bYv : D117 r n aKc x0 r117 = D117 r n bBm x0 (K1 (aJb r n) 0) :=
 congrArg (fun k => D117 r n bBm x0 k) (cHj r n)
theorem cCw : D117 r n aOm x0 r117 = (K1 (aUe r n) 0) :=
 (by kernel_rfl : D117 r n aOm x0 r117 = D117 r n aKc x0 r117).trans
 ((bYv r n).trans
 ((by kernel_rfl)))
theorem cRt : D117 r n c117 x0 r117 = D117 r n aYg x0 (K1 (aUe r n) 0) :=
 congrArg (fun k => D117 r n aYg x0 k) (cCw r n)
theorem dGn : D117 r n c117 x0 r117 = (K1 (s117 r n) 0) :=
 (cRt r n).trans
 ((by kernel_rfl))
theorem cWx : aF CF r n 117 args h = s117 r n (aT args 0) h :=
 (by kernel_rfl : aF CF r n 117 args h = D117 r n c117 x0 r117 (aI args) h).trans ((congrFun (congrFun (dGn r n) (aI args)) h).trans (by kernel_rfl))
end Go.Dd

namespace Go.Dd
open Go.Proofs
variable (r : RT) (n : Nat) (args : List DV) (h : Hp)
noncomputable def s120 (r : RT) (n : Nat) (x0 x1 x2 : DV) (h0 : Hp) : aH :=
 bnd (bL [(aE 0), (.s []), (aE 0), (aE 0)] h0) fun v1 h1 =>
 bnd (r 133 [x0, x1, x2] h1) fun v2 h2 =>
 bnd (gU .not v2 h2) fun v3 h3 =>
 aS v3 (
 bnd (r 137 [x0, (aE 0)] h3) fun v4 h4 =>
 bnd (r 136 [x0, v4, (aE 13)] h4) fun v5 h5 =>
 bnd (bC [(aE 0), (.s []), (aE 0), (aE 0)] [] h5) fun v6 h6 =>
 bnd (aG 4 v1 v6 h6) fun _ h7 =>
 bnd (aK 4 v1 h7) fun v8 _ =>
 some (v8, h7)) (
 bnd (r 134 [x0] h3) fun v9 h9 =>
 bnd (aG 4 v1 v9 h9) fun _ h10 =>
 bnd (aK 4 v1 h10) fun v11 _ =>
 some (v11, h10))
noncomputable abbrev c120 : Code := cf Tryz.f120
noncomputable abbrev r120 : K := aQ CF Tryz.f120
noncomputable def D120 (r : RT) (n : Nat) (c : Code) (X : Nat → K) (k : K) : K := aM CF r 19 n c X r120 k
theorem dDy : D120 r n c120 x0 r120 = (K3 (s120 r n) 0 1 2) :=
 (by kernel_rfl)
theorem dCe : aF CF r n 120 args h = s120 r n (aT args 0) (aT args 1) (aT args 2) h :=
 (by kernel_rfl : aF CF r n 120 args h = D120 r n c120 x0 r120 (aI args) h).trans ((congrFun (congrFun (dDy r n) (aI args)) h).trans (by kernel_rfl))
noncomputable def aYv (r : RT) (n : Nat) (kk6 : mL) (x0 x1 x4 : DV) (h0 : Hp) : aH :=
 bnd (gD x4 false (some (x0, h0)) h0) fun v1 h1 =>
 bnd (gD x4 false (r 133 [v1, (aE 2), (.s [])] h1) h1) fun v2 h2 =>
 bnd (aP x4 (.b true) v2 h2) fun v3 h3 =>
 aS v3 (
 bnd (aN x1 h3) fun v4 h4 =>
 bnd (aB 1 v4 h4) fun v5 h5 =>
 bnd (aA v5 h5) fun v6 h6 =>
 bnd (r 120 [x0, (aE 2), (.s [])] h6) fun v7 h7 =>
 cnd (bI (aA v5 h7) v6 && true) (
 bnd (fJ 1 v7 h7) fun v8 h8 =>
 bnd (eG .add v6 v8 h8) fun v9 h9 =>
 bnd (aN x1 h9) fun v10 h10 =>
 bnd (aB 1 v10 h10) fun v11 h11 =>
 bnd (aG 1 v11 v9 h11) fun v12 h12 =>
 bnd (aN x1 (resv 1 h12)) fun v13 h13 =>
 bnd (aB 3 v13 h13) fun v14 h14 =>
 bnd (aA v14 h14) fun v15 h15 =>
 bnd (aN x1 h15) fun v16 h16 =>
 bnd (aB 3 v16 h16) fun v17 h17 =>
 bnd (aA v17 h17) fun v18 h18 =>
 bnd (r 138 [x0, (aE 1), v18] h18) fun v19 h19 =>
 cnd (bI (aA v14 h19) v15 && true) (
 bnd (bK (bW 0 h12.next) [(.s [])] 1 [(0, 1, v19)] h19) fun v20 h20 =>
 bnd (bA 1 16 v15 v20 h20) fun v21 h21 =>
 bnd (aN x1 h21) fun v22 h22 =>
 bnd (aB 3 v22 h22) fun v23 h23 =>
 bnd (aG 1 v23 v21 h23) fun v24 h24 =>
      kk6 x0 x1 (.b false) h24))) (
 some (.t [], h3))
noncomputable def sW (r : RT) (n : Nat) (m : Nat) : mL :=
 Nat.rec (motive := fun _ => mL) (fun _ _ _ _ => none) (fun _ ih => aYv r n ih) m
noncomputable def bRt (r : RT) (n : Nat) : mL := sW r n n
noncomputable def aTi (r : RT) (n : Nat) (x0 x1 x4 : DV) (h0 : Hp) : aH :=
 bRt r n x0 x1 x4 h0
noncomputable def bSd (r : RT) (n : Nat) (x0 x1 : DV) (h0 : Hp) : aH :=
 aTi r n x0 x1 (.b true) h0
noncomputable def aUc (r : RT) (n : Nat) (x0 x1 x44 : DV) (h0 : Hp) : aH :=
 aS x44 (
 bnd (r 134 [x0] h0) fun v1 h1 =>
 bnd (fJ 1 v1 h1) fun v2 h2 =>
 bnd (aN x1 h2) fun v3 h3 =>
 bnd (aB 1 v3 h3) fun v4 h4 =>
 bnd (aG 1 v4 v2 h4) fun _ h5 =>
 bnd (aN x1 (resv 1 h5)) fun v6 h6 =>
 bnd (aB 3 v6 h6) fun v7 h7 =>
 bnd (aA v7 h7) fun v8 h8 =>
 bnd (aN x1 h8) fun v9 h9 =>
 bnd (aB 3 v9 h9) fun v10 h10 =>
 bnd (aA v10 h10) fun v11 h11 =>
 bnd (r 138 [x0, (aE 1), v11] h11) fun v12 h12 =>
 cnd (bI (aA v7 h12) v8 && true) (
 bnd (bK (bW 0 h5.next) [(.s [])] 1 [(0, 1, v12)] h12) fun v13 h13 =>
 bnd (bA 1 16 v8 v13 h13) fun v14 h14 =>
 bnd (aN x1 h14) fun v15 h15 =>
 bnd (aB 3 v15 h15) fun v16 h16 =>
 bnd (aG 1 v16 v14 h16) fun v17 h17 =>
 some (.t [], h17))) (
  bSd r n x0 x1 h0)
noncomputable def bMs (r : RT) (n : Nat) (x0 x1 : DV) (h0 : Hp) : aH :=
 bnd (r 133 [x0, (aE 3), (.s [])] h0) fun v1 h1 =>
  aUc r n x0 x1 v1 h1
noncomputable def aQc (r : RT) (n : Nat) (x0 x1 x35 : DV) (h0 : Hp) : aH :=
 aS x35 (
 bnd (r 134 [x0] h0) fun v1 h1 =>
 bnd (fJ 1 v1 h1) fun v2 h2 =>
 bnd (aN x1 h2) fun v3 h3 =>
 bnd (aB 1 v3 h3) fun v4 h4 =>
 bnd (aG 1 v4 v2 h4) fun _ h5 =>
 some (.t [], h5)) (
  bMs r n x0 x1 h0)
noncomputable def s121 (r : RT) (n : Nat) (x0 x1 : DV) (h0 : Hp) : aH :=
 bnd (r 133 [x0, (aE 1), (.s [])] h0) fun v1 h1 =>
  aQc r n x0 x1 v1 h1
noncomputable abbrev c121 : Code := cf Tryz.f121
noncomputable abbrev aHq : Code := cL c121
noncomputable abbrev yF : Code := cR aHq
noncomputable abbrev uW : Code := cR yF
noncomputable abbrev xE : Code := cR uW
noncomputable abbrev wV : Code := cR xE
noncomputable abbrev aRe : Code := cR wV
noncomputable abbrev aJu : Code := cL aRe
noncomputable abbrev nZ : Code := cL aJu
noncomputable abbrev bUk : Code := cL wV
noncomputable abbrev cIt : Code := cL xE
noncomputable abbrev aVz : Code := cL uW
noncomputable abbrev cJh : Code := cL yF
noncomputable abbrev aUj : Code := cL aHq
noncomputable abbrev r121 : K := aQ CF Tryz.f121
noncomputable def D121 (r : RT) (n : Nat) (c : Code) (X : Nat → K) (k : K) : K := aM CF r 68 n c X r121 k
theorem bUm (kk6 : mL) : D121 r n nZ (xs (xs x0 0 r121) 1 r121) (K3 kk6 0 1 4) = (K3 (aYv r n kk6) 0 1 4) :=
 (by kernel_rfl)
theorem bXz (m : Nat) : aO (fun kk => D121 r n nZ (xs (xs x0 0 r121) 1 r121) kk) m = (K3 (sW r n m) 0 1 4) := by
 induction m with
 | zero => exact (by kernel_rfl : aO (fun kk => D121 r n nZ (xs (xs x0 0 r121) 1 r121) kk) 0 = (K3 (sW r n 0) 0 1 4))
 | succ m ih =>
  refine (by kernel_rfl : aO (fun kk => D121 r n nZ (xs (xs x0 0 r121) 1 r121) kk) (m + 1) = D121 r n nZ (xs (xs x0 0 r121) 1 r121) (aO (fun kk => D121 r n nZ (xs (xs x0 0 r121) 1 r121) kk) m)).trans ?_
  rw [ih]
  exact (bUm r n (sW r n m)).trans (by kernel_rfl)
theorem cBi : D121 r n aJu (xs (xs x0 0 r121) 1 r121) r121 = (K3 (bRt r n) 0 1 4) :=
 (by kernel_rfl : D121 r n aJu (xs (xs x0 0 r121) 1 r121) r121 = aO (fun kk => D121 r n nZ (xs (xs x0 0 r121) 1 r121) kk) n).trans ((bXz r n n).trans (by kernel_rfl))
theorem cEj : D121 r n aRe (xs x0 0 r121) r121 = (K3 (aTi r n) 0 1 4) :=
 (by kernel_rfl : D121 r n aRe (xs x0 0 r121) r121 = D121 r n aJu (xs (xs x0 0 r121) 1 r121) r121).trans
 ((cBi r n).trans (by kernel_rfl))
theorem bHh : D121 r n wV (xs x0 0 r121) r121 = D121 r n bUk (xs x0 0 r121) (K3 (aTi r n) 0 1 4) :=
 congrArg (fun k => D121 r n bUk (xs x0 0 r121) k) (cEj r n)
theorem cJt : D121 r n wV (xs x0 0 r121) r121 = (K2 (bSd r n) 0 1) :=
 (bHh r n).trans
 ((by kernel_rfl))
theorem cBa : D121 r n xE (xs x0 0 r121) r121 = (K3 (aUc r n) 0 1 44) :=
 (by kernel_rfl : D121 r n xE (xs x0 0 r121) r121 = (fun (env : aW) (h : Hp) => aS (opr env (cC xE)) (D121 r n cIt (xs x0 0 r121) r121 env h) (D121 r n wV (xs x0 0 r121) r121 env h))).trans (by rw [cJt r n]; kernel_rfl)
theorem bYi : D121 r n uW (xs x0 0 r121) r121 = D121 r n aVz (xs x0 0 r121) (K3 (aUc r n) 0 1 44) :=
 congrArg (fun k => D121 r n aVz (xs x0 0 r121) k) (cBa r n)
theorem cCz : D121 r n uW (xs x0 0 r121) r121 = (K2 (bMs r n) 0 1) :=
 (bYi r n).trans
 ((by kernel_rfl))
theorem cIi : D121 r n yF (xs x0 0 r121) r121 = (K3 (aQc r n) 0 1 35) :=
 (by kernel_rfl : D121 r n yF (xs x0 0 r121) r121 = (fun (env : aW) (h : Hp) => aS (opr env (cC yF)) (D121 r n cJh (xs x0 0 r121) r121 env h) (D121 r n uW (xs x0 0 r121) r121 env h))).trans (by rw [cCz r n]; kernel_rfl)
theorem dBw : D121 r n aHq (xs x0 0 r121) r121 = D121 r n aUj (xs x0 0 r121) (K3 (aQc r n) 0 1 35) :=
 congrArg (fun k => D121 r n aUj (xs x0 0 r121) k) (cIi r n)
theorem dGr : D121 r n c121 x0 r121 = (K2 (s121 r n) 0 1) :=
 (by kernel_rfl : D121 r n c121 x0 r121 = D121 r n aHq (xs x0 0 r121) r121).trans
 ((dBw r n).trans
 ((by kernel_rfl)))
theorem dDo : aF CF r n 121 args h = s121 r n (aT args 0) (aT args 1) h :=
 (by kernel_rfl : aF CF r n 121 args h = D121 r n c121 x0 r121 (aI args) h).trans ((congrFun (congrFun (dGr r n) (aI args)) h).trans (by kernel_rfl))
noncomputable def aFm (r : RT) (n : Nat) (x0 x3 : DV) (h0 : Hp) : aH :=
 bnd (r 120 [x0, (aE 3), (.s [62])] h0) fun v1 h1 =>
 bnd (aB 2 x3 h1) fun v2 h2 =>
 bnd (aA v2 h2) fun v3 h3 =>
 some (v3, h3)
noncomputable def wC (r : RT) (n : Nat) (x0 x3 : DV) (h0 : Hp) : aH :=
 bnd (aB 2 x3 h0) fun v1 h1 =>
 bnd (aA v1 h1) fun v2 h2 =>
 bnd (aD .gtr v2 (aE 255) h2) fun v3 h3 =>
 aS v3 (
 bnd (aK 4 x3 h3) fun v4 h4 =>
 bnd (r 136 [x0, v4, (aE 2)] h4) fun v5 h5 =>
  aFm r n x0 x3 h5) (
  aFm r n x0 x3 h3)
noncomputable def aBq (r : RT) (n : Nat) (x0 : DV) (h0 : Hp) : aH :=
 bnd (r 120 [x0, (aE 4), (.s [])] h0) fun v1 h1 =>
 bnd (bL [(aE 0), (.s []), (aE 0), (aE 0)] h1) fun v2 h2 =>
 bnd (aG 4 v2 v1 h2) fun _ h3 =>
  wC r n x0 v2 h3
noncomputable def aOw (r : RT) (n : Nat) (x0 : DV) (h0 : Hp) : aH :=
 bnd (r 120 [x0, (aE 2), (.s [112, 114, 105, 109, 105, 116, 105, 118, 101, 58])] h0) fun v1 h1 =>
  aBq r n x0 h1
noncomputable def aSk (r : RT) (n : Nat) (x0 : DV) (h0 : Hp) : aH :=
 bnd (r 134 [x0] h0) fun v1 h1 =>
  aOw r n x0 h1
noncomputable def aSp (r : RT) (n : Nat) (x0 : DV) (h0 : Hp) : aH :=
 bnd (r 133 [x0, (aE 3), (.s [60])] h0) fun v1 h1 =>
 bnd (gU .not v1 h1) fun v2 h2 =>
 aS v2 (
 some ((aE 0), h2)) (
  aSk r n x0 h2)
noncomputable def s122 (r : RT) (n : Nat) (x0 : DV) (h0 : Hp) : aH :=
 aSp r n x0 h0
noncomputable abbrev c122 : Code := cf Tryz.f122
noncomputable abbrev aDf : Code := cR c122
noncomputable abbrev aHv : Code := cR aDf
noncomputable abbrev aFk : Code := cR aHv
noncomputable abbrev aDl : Code := cR aFk
noncomputable abbrev aHa : Code := cR aDl
noncomputable abbrev cVn : Code := cR aHa
noncomputable abbrev bQv : Code := cL aHa
noncomputable abbrev aNp : Code := cL aDl
noncomputable abbrev bQs : Code := cL aFk
noncomputable abbrev bAa : Code := cL aHv
noncomputable abbrev aUq : Code := cL aDf
noncomputable abbrev aWc : Code := cL c122
noncomputable abbrev r122 : K := aQ CF Tryz.f122
noncomputable def D122 (r : RT) (n : Nat) (c : Code) (X : Nat → K) (k : K) : K := aM CF r 23 n c X r122 k
theorem cCi : D122 r n cVn x0 r122 = (K2 (aFm r n) 0 3) :=
 (by kernel_rfl)
theorem bMq : D122 r n aHa x0 r122 = D122 r n bQv x0 (K2 (aFm r n) 0 3) :=
 congrArg (fun k => D122 r n bQv x0 k) (cCi r n)
theorem cNh : D122 r n aHa x0 r122 = (K2 (wC r n) 0 3) :=
 (bMq r n).trans
 ((by kernel_rfl))
theorem bOw : D122 r n aDl x0 r122 = D122 r n aNp x0 (K2 (wC r n) 0 3) :=
 congrArg (fun k => D122 r n aNp x0 k) (cNh r n)
theorem bVr (q0 : oL) : D122 r n aNp x0 (K2 q0 0 3) = fun (env : aW) (h : Hp) =>
 bnd (r 120 [(env 0), (aE 4), (.s [])] h) fun v1 h1 =>
 bnd (bL [(aE 0), (.s []), (aE 0), (aE 0)] h1) fun v2 h2 =>
 bnd (aG 4 v2 v1 h2) fun _ h3 =>
  q0 (env 0) v2 h3 := by kernel_rfl
theorem bEh : (fun (env : aW) (h : Hp) =>
 bnd (r 120 [(env 0), (aE 4), (.s [])] h) fun v1 h1 =>
 bnd (bL [(aE 0), (.s []), (aE 0), (aE 0)] h1) fun v2 h2 =>
 bnd (aG 4 v2 v1 h2) fun _ h3 =>
  wC r n (env 0) v2 h3) = (K1 (aBq r n) 0) := by kernel_rfl
theorem cNc : D122 r n aDl x0 r122 = (K1 (aBq r n) 0) :=
 (bOw r n).trans
 ((bVr r n (wC r n)).trans (bEh r n))
theorem bMg : D122 r n aFk x0 r122 = D122 r n bQs x0 (K1 (aBq r n) 0) :=
 congrArg (fun k => D122 r n bQs x0 k) (cNc r n)
theorem cMr : D122 r n aFk x0 r122 = (K1 (aOw r n) 0) :=
 (bMg r n).trans
 ((by kernel_rfl))
theorem bXv : D122 r n aHv x0 r122 = D122 r n bAa x0 (K1 (aOw r n) 0) :=
 congrArg (fun k => D122 r n bAa x0 k) (cMr r n)
theorem cOp : D122 r n aHv x0 r122 = (K1 (aSk r n) 0) :=
 (bXv r n).trans
 ((by kernel_rfl))
theorem bNm : D122 r n aDf x0 r122 = D122 r n aUq x0 (K1 (aSk r n) 0) :=
 congrArg (fun k => D122 r n aUq x0 k) (cOp r n)
theorem cPv : D122 r n aDf x0 r122 = (K1 (aSp r n) 0) :=
 (bNm r n).trans
 ((by kernel_rfl))
theorem dBl : D122 r n c122 x0 r122 = D122 r n aWc x0 (K1 (aSp r n) 0) :=
 congrArg (fun k => D122 r n aWc x0 k) (cPv r n)
theorem dHf : D122 r n c122 x0 r122 = (K1 (s122 r n) 0) :=
 (dBl r n).trans
 ((by kernel_rfl))
theorem cTg : aF CF r n 122 args h = s122 r n (aT args 0) h :=
 (by kernel_rfl : aF CF r n 122 args h = D122 r n c122 x0 r122 (aI args) h).trans ((congrFun (congrFun (dHf r n) (aI args)) h).trans (by kernel_rfl))
noncomputable def aFh (r : RT) (n : Nat) (x0 : DV) (h0 : Hp) : aH :=
 bnd (r 141 [x0, (aE 20), (aE 0), (aE 0)] h0) fun v1 h1 =>
 some (.t [], h1)
noncomputable def cO (r : RT) (n : Nat) (x0 x2 : DV) (h0 : Hp) : aH :=
 aS x2 (
 bnd (r 141 [x0, (aE 2), (aE 0), (aE 0)] h0) fun v1 h1 =>
  aFh r n x0 h1) (
 bnd (r 141 [x0, (aE 1), (aE 0), (aE 0)] h0) fun v2 h2 =>
  aFh r n x0 h2)
noncomputable def kQ (r : RT) (n : Nat) (kk8 : fE) (x0 x2 x6 x22 x23 x24 : DV) (h0 : Hp) : aH :=
 bnd (aD .add x24 (aE 1) h0) fun v1 h1 =>
  kk8 x0 x2 x6 x22 x23 v1 h1
noncomputable def sN (r : RT) (n : Nat) (kk8 : fE) (x0 x2 x6 x22 x23 x24 : DV) (h0 : Hp) : aH :=
 bnd (aJ 6 x22 x24 h0) fun v1 h1 =>
 bnd (aK 6 v1 h1) fun v2 h2 =>
 bnd (bL jY h2) fun v3 h3 =>
 bnd (aG 6 v3 v2 h3) fun _ h4 =>
 bnd (aK 6 v3 h4) fun v5 h5 =>
 bnd (r 140 [x0, v5] h5) fun v6 h6 =>
 bnd (aD .eql x24 x6 h6) fun v7 h7 =>
 bnd (gD v7 true (aB 0 v3 h7) h7) fun v8 h8 =>
 bnd (gD v7 true (aA v8 h8) h8) fun v9 h9 =>
 bnd (gD v7 true (aD .eql v9 (aE 10) h9) h9) fun v10 h10 =>
 bnd (aP v7 v10 (.b false) h10) fun v11 h11 =>
 aS v11 (
 some (.t [], h11)) (
 bnd (aD .eql x24 x6 h11) fun v12 h12 =>
 bnd (gD v12 true (some (x2, h12)) h12) fun v13 h13 =>
 bnd (aP v12 v13 (.b false) h13) fun v14 h14 =>
 aS v14 (
 bnd (r 141 [x0, (aE 20), (aE 0), (aE 0)] h14) fun v15 h15 =>
 some (.t [], h15)) (
 bnd (aB 0 v3 h14) fun v16 h16 =>
 bnd (aA v16 h16) fun v17 h17 =>
 bnd (aD .eql v17 (aE 10) h17) fun v18 h18 =>
 aS v18 (
    kQ r n kk8 x0 x2 x6 x22 x23 x24 h18) (
 bnd (r 141 [x0, (aE 12), (aE 0), (aE 0)] h18) fun v19 h19 =>
    kQ r n kk8 x0 x2 x6 x22 x23 x24 h19)))
noncomputable def aQo (r : RT) (n : Nat) (kk8 : fE) (x0 x2 x6 x22 x23 x24 x25 : DV) (h0 : Hp) : aH :=
 aS x25 (
  sN r n kk8 x0 x2 x6 x22 x23 x24 h0) (
  cO r n x0 x2 h0)
noncomputable def aYn (r : RT) (n : Nat) (kk8 : fE) (x0 x2 x6 x22 x23 x24 : DV) (h0 : Hp) : aH :=
 bnd (aD .lss x24 x23 h0) fun v1 h1 =>
  aQo r n kk8 x0 x2 x6 x22 x23 x24 v1 h1
noncomputable def tY (r : RT) (n : Nat) (m : Nat) : fE :=
 Nat.rec (motive := fun _ => fE) (fun _ _ _ _ _ _ _ => none) (fun _ ih => aYn r n ih) m
noncomputable def bNa (r : RT) (n : Nat) : fE := tY r n n
noncomputable def aTn (r : RT) (n : Nat) (x0 x2 x6 x22 x23 x24 : DV) (h0 : Hp) : aH :=
 bNa r n x0 x2 x6 x22 x23 x24 h0
noncomputable def aPh (r : RT) (n : Nat) (x0 x2 x4 x6 : DV) (h0 : Hp) : aH :=
 bnd (aB 5 x4 h0) fun v1 h1 =>
 bnd (aA v1 h1) fun v2 h2 =>
 bnd (bX v2 h2) fun v3 h3 =>
  aTn r n x0 x2 x6 v2 v3 (aE 0) h3
noncomputable def aQm (r : RT) (n : Nat) (x0 x2 x4 : DV) (h0 : Hp) : aH :=
 bnd (aB 5 x4 h0) fun v1 h1 =>
 bnd (aA v1 h1) fun v2 h2 =>
 bnd (bX v2 h2) fun v3 h3 =>
 bnd (aD .sub v3 (aE 1) h3) fun v4 h4 =>
  aPh r n x0 x2 x4 v4 h4
noncomputable def aTx (r : RT) (n : Nat) (x0 x2 x4 : DV) (h0 : Hp) : aH :=
 bnd (aB 4 x4 h0) fun v1 h1 =>
 bnd (aA v1 h1) fun v2 h2 =>
 bnd (r 139 [x0, v2, (.b false)] h2) fun v3 h3 =>
  aQm r n x0 x2 x4 h3
noncomputable def xM (r : RT) (n : Nat) (x0 x2 x4 : DV) (h0 : Hp) : aH :=
 bnd (aB 3 x4 h0) fun v1 h1 =>
 bnd (aA v1 h1) fun v2 h2 =>
 bnd (r 139 [x0, v2, (.b true)] h2) fun v3 h3 =>
  aTx r n x0 x2 x4 h3
noncomputable def s123 (r : RT) (n : Nat) (x0 x1 x2 : DV) (h0 : Hp) : aH :=
 bnd (bQ x1 h0) fun v1 h1 =>
  xM r n x0 x2 v1 h1
noncomputable abbrev c123 : Code := cf Tryz.f123
noncomputable abbrev aCk : Code := cR c123
noncomputable abbrev aBl : Code := cR aCk
noncomputable abbrev aJz : Code := cR aBl
noncomputable abbrev aJw : Code := cR aJz
noncomputable abbrev aGe : Code := cR aJw
noncomputable abbrev dAd : Code := cR aGe
noncomputable abbrev bSr : Code := cL aGe
noncomputable abbrev xS : Code := cL aJw
noncomputable abbrev aTp : Code := cR xS
noncomputable abbrev tU : Code := cL aTp
noncomputable abbrev iB : Code := cL tU
noncomputable abbrev uL : Code := cR iB
noncomputable abbrev sV : Code := cR uL
noncomputable abbrev cNb : Code := cR sV
noncomputable abbrev aGu : Code := cL sV
noncomputable abbrev aVu : Code := cL uL
noncomputable abbrev bBz : Code := cL iB
noncomputable abbrev aXu : Code := cL xS
noncomputable abbrev bAd : Code := cL aJz
noncomputable abbrev aVn : Code := cL aBl
noncomputable abbrev aXt : Code := cL aCk
noncomputable abbrev aEc : Code := cL c123
noncomputable abbrev r123 : K := aQ CF Tryz.f123
noncomputable def D123 (r : RT) (n : Nat) (c : Code) (X : Nat → K) (k : K) : K := aM CF r 64 n c X r123 k
theorem cPl : D123 r n dAd x0 r123 = (K1 (aFh r n) 0) :=
 (by kernel_rfl)
theorem cAj : D123 r n aGe x0 r123 = D123 r n bSr x0 (K1 (aFh r n) 0) :=
 congrArg (fun k => D123 r n bSr x0 k) (cPl r n)
theorem cCj : D123 r n aGe x0 r123 = (K2 (cO r n) 0 2) :=
 (cAj r n).trans
 ((by kernel_rfl))
theorem bOd (kk8 : fE) : D123 r n cNb (xs x0 0 (K2 (cO r n) 0 2)) (K6 kk8 0 2 6 22 23 24) = (K6 (kQ r n kk8) 0 2 6 22 23 24) :=
 (by kernel_rfl)
theorem bFv (kk8 : fE) : D123 r n sV (xs x0 0 (K2 (cO r n) 0 2)) (K6 kk8 0 2 6 22 23 24) = D123 r n aGu (xs x0 0 (K2 (cO r n) 0 2)) (K6 (kQ r n kk8) 0 2 6 22 23 24) :=
 congrArg (fun k => D123 r n aGu (xs x0 0 (K2 (cO r n) 0 2)) k) (bOd r n kk8)
theorem bFk (kk8 : fE) (q0 : fE) (q1 : oL) : D123 r n aGu (xs x0 0 (K2 q1 0 2)) (K6 q0 0 2 6 22 23 24) = fun (env : aW) (h : Hp) =>
 bnd (aJ 6 (env 22) (env 24) h) fun v1 h1 =>
 bnd (aK 6 v1 h1) fun v2 h2 =>
 bnd (bL jY h2) fun v3 h3 =>
 bnd (aG 6 v3 v2 h3) fun _ h4 =>
 bnd (aK 6 v3 h4) fun v5 h5 =>
 bnd (r 140 [(env 0), v5] h5) fun v6 h6 =>
 bnd (aD .eql (env 24) (env 6) h6) fun v7 h7 =>
 bnd (gD v7 true (aB 0 v3 h7) h7) fun v8 h8 =>
 bnd (gD v7 true (aA v8 h8) h8) fun v9 h9 =>
 bnd (gD v7 true (aD .eql v9 (aE 10) h9) h9) fun v10 h10 =>
 bnd (aP v7 v10 (.b false) h10) fun v11 h11 =>
 aS v11 (
 some (.t [], h11)) (
 bnd (aD .eql (env 24) (env 6) h11) fun v12 h12 =>
 bnd (gD v12 true (some ((env 2), h12)) h12) fun v13 h13 =>
 bnd (aP v12 v13 (.b false) h13) fun v14 h14 =>
 aS v14 (
 bnd (r 141 [(env 0), (aE 20), (aE 0), (aE 0)] h14) fun v15 h15 =>
 some (.t [], h15)) (
 bnd (aB 0 v3 h14) fun v16 h16 =>
 bnd (aA v16 h16) fun v17 h17 =>
 bnd (aD .eql v17 (aE 10) h17) fun v18 h18 =>
 aS v18 (
     q0 (env 0) (env 2) (env 6) (env 22) (env 23) (env 24) h18) (
 bnd (r 141 [(env 0), (aE 12), (aE 0), (aE 0)] h18) fun v19 h19 =>
     q0 (env 0) (env 2) (env 6) (env 22) (env 23) (env 24) h19))) := by kernel_rfl
theorem aNz (kk8 : fE) : (fun (env : aW) (h : Hp) =>
 bnd (aJ 6 (env 22) (env 24) h) fun v1 h1 =>
 bnd (aK 6 v1 h1) fun v2 h2 =>
 bnd (bL jY h2) fun v3 h3 =>
 bnd (aG 6 v3 v2 h3) fun _ h4 =>
 bnd (aK 6 v3 h4) fun v5 h5 =>
 bnd (r 140 [(env 0), v5] h5) fun v6 h6 =>
 bnd (aD .eql (env 24) (env 6) h6) fun v7 h7 =>
 bnd (gD v7 true (aB 0 v3 h7) h7) fun v8 h8 =>
 bnd (gD v7 true (aA v8 h8) h8) fun v9 h9 =>
 bnd (gD v7 true (aD .eql v9 (aE 10) h9) h9) fun v10 h10 =>
 bnd (aP v7 v10 (.b false) h10) fun v11 h11 =>
 aS v11 (
 some (.t [], h11)) (
 bnd (aD .eql (env 24) (env 6) h11) fun v12 h12 =>
 bnd (gD v12 true (some ((env 2), h12)) h12) fun v13 h13 =>
 bnd (aP v12 v13 (.b false) h13) fun v14 h14 =>
 aS v14 (
 bnd (r 141 [(env 0), (aE 20), (aE 0), (aE 0)] h14) fun v15 h15 =>
 some (.t [], h15)) (
 bnd (aB 0 v3 h14) fun v16 h16 =>
 bnd (aA v16 h16) fun v17 h17 =>
 bnd (aD .eql v17 (aE 10) h17) fun v18 h18 =>
 aS v18 (
     kQ r n kk8 (env 0) (env 2) (env 6) (env 22) (env 23) (env 24) h18) (
 bnd (r 141 [(env 0), (aE 12), (aE 0), (aE 0)] h18) fun v19 h19 =>
     kQ r n kk8 (env 0) (env 2) (env 6) (env 22) (env 23) (env 24) h19)))) = (K6 (sN r n kk8) 0 2 6 22 23 24) := by kernel_rfl
theorem bUb (kk8 : fE) : D123 r n sV (xs x0 0 (K2 (cO r n) 0 2)) (K6 kk8 0 2 6 22 23 24) = (K6 (sN r n kk8) 0 2 6 22 23 24) :=
 (bFv r n kk8).trans
 ((bFk r n kk8 (kQ r n kk8) (cO r n)).trans (aNz r n kk8))
theorem bYu (kk8 : fE) : D123 r n uL (xs x0 0 (K2 (cO r n) 0 2)) (K6 kk8 0 2 6 22 23 24) = D123 r n aVu (xs x0 0 (K2 (cO r n) 0 2)) (K6 (sN r n kk8) 0 2 6 22 23 24) :=
 congrArg (fun k => D123 r n aVu (xs x0 0 (K2 (cO r n) 0 2)) k) (bUb r n kk8)
theorem cHp (kk8 : fE) : D123 r n uL (xs x0 0 (K2 (cO r n) 0 2)) (K6 kk8 0 2 6 22 23 24) = (K7 (aQo r n kk8) 0 2 6 22 23 24 25) :=
 (bYu r n kk8).trans
 ((by kernel_rfl))
theorem bYr (kk8 : fE) : D123 r n iB (xs x0 0 (K2 (cO r n) 0 2)) (K6 kk8 0 2 6 22 23 24) = D123 r n bBz (xs x0 0 (K2 (cO r n) 0 2)) (K7 (aQo r n kk8) 0 2 6 22 23 24 25) :=
 congrArg (fun k => D123 r n bBz (xs x0 0 (K2 (cO r n) 0 2)) k) (cHp r n kk8)
theorem bJz (kk8 : fE) : D123 r n iB (xs x0 0 (K2 (cO r n) 0 2)) (K6 kk8 0 2 6 22 23 24) = (K6 (aYn r n kk8) 0 2 6 22 23 24) :=
 (bYr r n kk8).trans
 ((by kernel_rfl))
theorem bTc (m : Nat) : aO (fun kk => D123 r n iB (xs x0 0 (K2 (cO r n) 0 2)) kk) m = (K6 (tY r n m) 0 2 6 22 23 24) := by
 induction m with
 | zero => exact (by kernel_rfl : aO (fun kk => D123 r n iB (xs x0 0 (K2 (cO r n) 0 2)) kk) 0 = (K6 (tY r n 0) 0 2 6 22 23 24))
 | succ m ih =>
  refine (by kernel_rfl : aO (fun kk => D123 r n iB (xs x0 0 (K2 (cO r n) 0 2)) kk) (m + 1) = D123 r n iB (xs x0 0 (K2 (cO r n) 0 2)) (aO (fun kk => D123 r n iB (xs x0 0 (K2 (cO r n) 0 2)) kk) m)).trans ?_
  rw [ih]
  exact (bJz r n (tY r n m)).trans (by kernel_rfl)
theorem cDk : D123 r n tU (xs x0 0 (K2 (cO r n) 0 2)) (K2 (cO r n) 0 2) = (K6 (bNa r n) 0 2 6 22 23 24) :=
 (by kernel_rfl : D123 r n tU (xs x0 0 (K2 (cO r n) 0 2)) (K2 (cO r n) 0 2) = aO (fun kk => D123 r n iB (xs x0 0 (K2 (cO r n) 0 2)) kk) n).trans ((bTc r n n).trans (by kernel_rfl))
theorem cHo : D123 r n aTp x0 (K2 (cO r n) 0 2) = (K6 (aTn r n) 0 2 6 22 23 24) :=
 (by kernel_rfl : D123 r n aTp x0 (K2 (cO r n) 0 2) = D123 r n tU (xs x0 0 (K2 (cO r n) 0 2)) (K2 (cO r n) 0 2)).trans
 ((cDk r n).trans (by kernel_rfl))
theorem bKx : D123 r n aJw x0 r123 = D123 r n xS x0 (K2 (cO r n) 0 2) :=
 congrArg (fun k => D123 r n xS x0 k) (cCj r n)
theorem bSz : D123 r n xS x0 (K2 (cO r n) 0 2) = D123 r n aXu x0 (K6 (aTn r n) 0 2 6 22 23 24) :=
 congrArg (fun k => D123 r n aXu x0 k) (cHo r n)
theorem cDu : D123 r n aJw x0 r123 = (K4 (aPh r n) 0 2 4 6) :=
 (bKx r n).trans
 ((bSz r n).trans
 ((by kernel_rfl)))
theorem bQo : D123 r n aJz x0 r123 = D123 r n bAd x0 (K4 (aPh r n) 0 2 4 6) :=
 congrArg (fun k => D123 r n bAd x0 k) (cDu r n)
theorem cDz : D123 r n aJz x0 r123 = (K3 (aQm r n) 0 2 4) :=
 (bQo r n).trans
 ((by kernel_rfl))
theorem bId : D123 r n aBl x0 r123 = D123 r n aVn x0 (K3 (aQm r n) 0 2 4) :=
 congrArg (fun k => D123 r n aVn x0 k) (cDz r n)
theorem cMz : D123 r n aBl x0 r123 = (K3 (aTx r n) 0 2 4) :=
 (bId r n).trans
 ((by kernel_rfl))
theorem bCw : D123 r n aCk x0 r123 = D123 r n aXt x0 (K3 (aTx r n) 0 2 4) :=
 congrArg (fun k => D123 r n aXt x0 k) (cMz r n)
theorem cMh : D123 r n aCk x0 r123 = (K3 (xM r n) 0 2 4) :=
 (bCw r n).trans
 ((by kernel_rfl))
theorem cAy : D123 r n c123 x0 r123 = D123 r n aEc x0 (K3 (xM r n) 0 2 4) :=
 congrArg (fun k => D123 r n aEc x0 k) (cMh r n)
theorem cEt (q0 : mL) : D123 r n aEc x0 (K3 q0 0 2 4) = fun (env : aW) (h : Hp) =>
 bnd (bQ (env 1) h) fun v1 h1 =>
  q0 (env 0) (env 2) v1 h1 := by kernel_rfl
theorem bUd : (fun (env : aW) (h : Hp) =>
 bnd (bQ (env 1) h) fun v1 h1 =>
  xM r n (env 0) (env 2) v1 h1) = (K3 (s123 r n) 0 1 2) := by kernel_rfl
theorem dKu : D123 r n c123 x0 r123 = (K3 (s123 r n) 0 1 2) :=
 (cAy r n).trans
 ((cEt r n (xM r n)).trans (bUd r n))
theorem cTq : aF CF r n 123 args h = s123 r n (aT args 0) (aT args 1) (aT args 2) h :=
 (by kernel_rfl : aF CF r n 123 args h = D123 r n c123 x0 r123 (aI args) h).trans ((congrFun (congrFun (dKu r n) (aI args)) h).trans (by kernel_rfl))
noncomputable def s124 (r : RT) (n : Nat) (x0 : DV) (h0 : Hp) : aH :=
 bnd (bQ x0 h0) fun v1 h1 =>
 bnd (aB 0 v1 h1) fun v2 h2 =>
 bnd (aA v2 h2) fun v3 h3 =>
 bnd (r 142 [v3] h3) fun v4 h4 =>
 bnd (aC 0 v4 h4) fun v5 h5 =>
 bnd (aC 1 v4 h5) fun v6 h6 =>
 bnd (aB 0 v1 h6) fun v7 h7 =>
 bnd (aA v7 h7) fun v8 h8 =>
 bnd (aD .geq v8 (aE 1) h8) fun v9 h9 =>
 bnd (gD v9 true (aB 0 v1 h9) h9) fun v10 h10 =>
 bnd (gD v9 true (aA v10 h10) h10) fun v11 h11 =>
 bnd (gD v9 true (aD .leq v11 (aE 20) h11) h11) fun v12 h12 =>
 bnd (aP v9 v12 (.b false) h12) fun v13 h13 =>
 bnd (gD v13 true (aB 1 v1 h13) h13) fun v14 h14 =>
 bnd (gD v13 true (aA v14 h14) h14) fun v15 h15 =>
 bnd (gD v13 true (some (v5, h15)) h15) fun v16 h16 =>
 bnd (gD v13 true (r 143 [v15, v16] h16) h16) fun v17 h17 =>
 bnd (aP v13 v17 (.b false) h17) fun v18 h18 =>
 bnd (gD v18 true (aB 2 v1 h18) h18) fun v19 h19 =>
 bnd (gD v18 true (aA v19 h19) h19) fun v20 h20 =>
 bnd (gD v18 true (some (v6, h20)) h20) fun v21 h21 =>
 bnd (gD v18 true (r 143 [v20, v21] h21) h21) fun v22 h22 =>
 bnd (aP v18 v22 (.b false) h22) fun v23 h23 =>
 some (v23, h23)
noncomputable abbrev c124 : Code := cf Tryz.f124
noncomputable abbrev r124 : K := aQ CF Tryz.f124
noncomputable def D124 (r : RT) (n : Nat) (c : Code) (X : Nat → K) (k : K) : K := aM CF r 31 n c X r124 k
theorem dGh : D124 r n c124 x0 r124 = (K1 (s124 r n) 0) :=
 (by kernel_rfl)
theorem cSg : aF CF r n 124 args h = s124 r n (aT args 0) h :=
 (by kernel_rfl : aF CF r n 124 args h = D124 r n c124 x0 r124 (aI args) h).trans ((congrFun (congrFun (dGh r n) (aI args)) h).trans (by kernel_rfl))
noncomputable def s125 (r : RT) (n : Nat) (x0 x1 : DV) (h0 : Hp) : aH :=
 bnd (bQ x0 h0) fun v1 h1 =>
 bnd (aK 6 v1 h1) fun v2 h2 =>
 bnd (r 144 [v2, x1] h2) fun v3 h3 =>
 bnd (aC 0 v3 h3) fun v4 h4 =>
 bnd (aC 1 v3 h4) fun v5 h5 =>
 some (v5, h5)
noncomputable abbrev c125 : Code := cf Tryz.f125
noncomputable abbrev r125 : K := aQ CF Tryz.f125
noncomputable def D125 (r : RT) (n : Nat) (c : Code) (X : Nat → K) (k : K) : K := aM CF r 14 n c X r125 k
theorem dIb : D125 r n c125 x0 r125 = (K2 (s125 r n) 0 1) :=
 (by kernel_rfl)
theorem cTw : aF CF r n 125 args h = s125 r n (aT args 0) (aT args 1) h :=
 (by kernel_rfl : aF CF r n 125 args h = D125 r n c125 x0 r125 (aI args) h).trans ((congrFun (congrFun (dIb r n) (aI args)) h).trans (by kernel_rfl))
noncomputable def eB (r : RT) (n : Nat) (x0 x6 : DV) (h0 : Hp) : aH :=
 bnd (r 46 [x0, x6] h0) fun v1 h1 =>
 bnd (aC 0 v1 h1) fun v2 h2 =>
 bnd (aC 1 v1 h2) fun v3 h3 =>
 some (.t [v2, v3], h3)
noncomputable def aEh (r : RT) (n : Nat) (kk6 : cD) (x0 x6 x38 x39 x40 : DV) (h0 : Hp) : aH :=
 bnd (aD .lss x40 x39 h0) fun v1 h1 =>
 aS v1 (
 bnd (aJ 4 x38 x40 h1) fun v2 h2 =>
 bnd (aK 4 v2 h2) fun v3 h3 =>
 bnd (bL [(aE 0), (.s []), (aE 0), .l0] h3) fun v4 h4 =>
 bnd (aG 4 v4 v3 h4) fun _ h5 =>
 bnd (aK 4 v4 h5) fun v6 h6 =>
 bnd (r 126 [x0, v6] h6) fun v7 h7 =>
 bnd (aC 0 v7 h7) fun v8 h8 =>
 bnd (aC 1 v7 h8) fun v9 h9 =>
 bnd (aD .neq v9 (aE 0) h9) fun v10 h10 =>
 aS v10 (
 some (.t [(aE 0), v9], h10)) (
 bnd (aL [(aE 0)] 1 [(0, 1, v8)] h10) fun v11 h11 =>
 bnd (bA 1 8 x6 v11 h11) fun v12 h12 =>
 bnd (aD .add x40 (aE 1) h12) fun v13 h13 =>
    kk6 x0 v12 x38 x39 v13 h13)) (
      eB r n x0 x6 h1)
noncomputable def uJ (r : RT) (n : Nat) (m : Nat) : cD :=
 Nat.rec (motive := fun _ => cD) (fun _ _ _ _ _ _ => none) (fun _ ih => aEh r n ih) m
noncomputable def bWo (r : RT) (n : Nat) : cD := uJ r n n
noncomputable def aTz (r : RT) (n : Nat) (x0 x6 x38 x39 x40 : DV) (h0 : Hp) : aH :=
 bWo r n x0 x6 x38 x39 x40 h0
noncomputable def aSu (r : RT) (n : Nat) (x0 x3 x6 : DV) (h0 : Hp) : aH :=
 bnd (aB 3 x3 h0) fun v1 h1 =>
 bnd (aA v1 h1) fun v2 h2 =>
 bnd (bX v2 h2) fun v3 h3 =>
  aTz r n x0 x6 v2 v3 (aE 0) h3
noncomputable def aQi (r : RT) (n : Nat) (x0 x3 : DV) (h0 : Hp) : aH :=
 aSu r n x0 x3 .l0 h0
noncomputable def vF (r : RT) (n : Nat) (x0 x3 : DV) (h0 : Hp) : aH :=
 bnd (aB 0 x3 h0) fun v1 h1 =>
 bnd (aA v1 h1) fun v2 h2 =>
 bnd (aD .eql v2 (aE 1) h2) fun v3 h3 =>
 aS v3 (
 bnd (aB 2 x3 h3) fun v4 h4 =>
 bnd (aA v4 h4) fun v5 h5 =>
 bnd (r 42 [x0, v5] h5) fun v6 h6 =>
 bnd (aC 0 v6 h6) fun v7 h7 =>
 bnd (aC 1 v6 h7) fun v8 h8 =>
 some (.t [v7, v8], h8)) (
 bnd (aD .eql v2 (aE 2) h3) fun v9 h9 =>
 aS v9 (
 bnd (aB 1 x3 h9) fun v10 h10 =>
 bnd (aA v10 h10) fun v11 h11 =>
 bnd (r 43 [x0, v11] h11) fun v12 h12 =>
 bnd (aC 0 v12 h12) fun v13 h13 =>
 bnd (aC 1 v12 h13) fun v14 h14 =>
 some (.t [v13, v14], h14)) (
 bnd (aD .eql v2 (aE 3) h9) fun v15 h15 =>
 aS v15 (
 bnd (aB 1 x3 h15) fun v16 h16 =>
 bnd (aA v16 h16) fun v17 h17 =>
 bnd (r 44 [x0, v17] h17) fun v18 h18 =>
 bnd (aC 0 v18 h18) fun v19 h19 =>
 bnd (aC 1 v18 h19) fun v20 h20 =>
 some (.t [v19, v20], h20)) (
    aQi r n x0 x3 h15)))
noncomputable def s126 (r : RT) (n : Nat) (x0 x1 : DV) (h0 : Hp) : aH :=
 bnd (bQ x1 h0) fun v1 h1 =>
  vF r n x0 v1 h1
noncomputable abbrev c126 : Code := cf Tryz.f126
noncomputable abbrev aFy : Code := cR c126
noncomputable abbrev aHj : Code := cR aFy
noncomputable abbrev aDg : Code := cR aHj
noncomputable abbrev cXu : Code := cR aDg
noncomputable abbrev vI : Code := cL aDg
noncomputable abbrev aTy : Code := cR vI
noncomputable abbrev aIb : Code := cL aTy
noncomputable abbrev lU : Code := cL aIb
noncomputable abbrev bQd : Code := cL vI
noncomputable abbrev aYd : Code := cL aHj
noncomputable abbrev aUp : Code := cL aFy
noncomputable abbrev aJl : Code := cL c126
noncomputable abbrev r126 : K := aQ CF Tryz.f126
noncomputable def D126 (r : RT) (n : Nat) (c : Code) (X : Nat → K) (k : K) : K := aM CF r 63 n c X r126 k
theorem cOq : D126 r n cXu x0 r126 = (K2 (eB r n) 0 6) :=
 (by kernel_rfl)
theorem cAu (kk6 : cD) (q0 : oL) : D126 r n lU (xs x0 1 (K2 q0 0 6)) (K5 kk6 0 6 38 39 40) = fun (env : aW) (h : Hp) =>
 bnd (aD .lss (env 40) (env 39) h) fun v1 h1 =>
 aS v1 (
 bnd (aJ 4 (env 38) (env 40) h1) fun v2 h2 =>
 bnd (aK 4 v2 h2) fun v3 h3 =>
 bnd (bL [(aE 0), (.s []), (aE 0), .l0] h3) fun v4 h4 =>
 bnd (aG 4 v4 v3 h4) fun _ h5 =>
 bnd (aK 4 v4 h5) fun v6 h6 =>
 bnd (r 126 [(env 0), v6] h6) fun v7 h7 =>
 bnd (aC 0 v7 h7) fun v8 h8 =>
 bnd (aC 1 v7 h8) fun v9 h9 =>
 bnd (aD .neq v9 (aE 0) h9) fun v10 h10 =>
 aS v10 (
 some (.t [(aE 0), v9], h10)) (
 bnd (aL [(aE 0)] 1 [(0, 1, v8)] h10) fun v11 h11 =>
 bnd (bA 1 8 (env 6) v11 h11) fun v12 h12 =>
 bnd (aD .add (env 40) (aE 1) h12) fun v13 h13 =>
    kk6 (env 0) v12 (env 38) (env 39) v13 h13)) (
      q0 (env 0) (env 6) h1) := by kernel_rfl
theorem bGj (kk6 : cD) : (fun (env : aW) (h : Hp) =>
 bnd (aD .lss (env 40) (env 39) h) fun v1 h1 =>
 aS v1 (
 bnd (aJ 4 (env 38) (env 40) h1) fun v2 h2 =>
 bnd (aK 4 v2 h2) fun v3 h3 =>
 bnd (bL [(aE 0), (.s []), (aE 0), .l0] h3) fun v4 h4 =>
 bnd (aG 4 v4 v3 h4) fun _ h5 =>
 bnd (aK 4 v4 h5) fun v6 h6 =>
 bnd (r 126 [(env 0), v6] h6) fun v7 h7 =>
 bnd (aC 0 v7 h7) fun v8 h8 =>
 bnd (aC 1 v7 h8) fun v9 h9 =>
 bnd (aD .neq v9 (aE 0) h9) fun v10 h10 =>
 aS v10 (
 some (.t [(aE 0), v9], h10)) (
 bnd (aL [(aE 0)] 1 [(0, 1, v8)] h10) fun v11 h11 =>
 bnd (bA 1 8 (env 6) v11 h11) fun v12 h12 =>
 bnd (aD .add (env 40) (aE 1) h12) fun v13 h13 =>
    kk6 (env 0) v12 (env 38) (env 39) v13 h13)) (
      eB r n (env 0) (env 6) h1)) = (K5 (aEh r n kk6) 0 6 38 39 40) := by kernel_rfl
theorem bOu (kk6 : cD) : D126 r n lU (xs x0 1 (K2 (eB r n) 0 6)) (K5 kk6 0 6 38 39 40) = (K5 (aEh r n kk6) 0 6 38 39 40) :=
 (cAu r n kk6 (eB r n)).trans (bGj r n kk6)
theorem bWa (m : Nat) : aO (fun kk => D126 r n lU (xs x0 1 (K2 (eB r n) 0 6)) kk) m = (K5 (uJ r n m) 0 6 38 39 40) := by
 induction m with
 | zero => exact (by kernel_rfl : aO (fun kk => D126 r n lU (xs x0 1 (K2 (eB r n) 0 6)) kk) 0 = (K5 (uJ r n 0) 0 6 38 39 40))
 | succ m ih =>
  refine (by kernel_rfl : aO (fun kk => D126 r n lU (xs x0 1 (K2 (eB r n) 0 6)) kk) (m + 1) = D126 r n lU (xs x0 1 (K2 (eB r n) 0 6)) (aO (fun kk => D126 r n lU (xs x0 1 (K2 (eB r n) 0 6)) kk) m)).trans ?_
  rw [ih]
  exact (bOu r n (uJ r n m)).trans (by kernel_rfl)
theorem cGu : D126 r n aIb (xs x0 1 (K2 (eB r n) 0 6)) (K2 (eB r n) 0 6) = (K5 (bWo r n) 0 6 38 39 40) :=
 (by kernel_rfl : D126 r n aIb (xs x0 1 (K2 (eB r n) 0 6)) (K2 (eB r n) 0 6) = aO (fun kk => D126 r n lU (xs x0 1 (K2 (eB r n) 0 6)) kk) n).trans ((bWa r n n).trans (by kernel_rfl))
theorem cMp : D126 r n aTy x0 (K2 (eB r n) 0 6) = (K5 (aTz r n) 0 6 38 39 40) :=
 (by kernel_rfl : D126 r n aTy x0 (K2 (eB r n) 0 6) = D126 r n aIb (xs x0 1 (K2 (eB r n) 0 6)) (K2 (eB r n) 0 6)).trans
 ((cGu r n).trans (by kernel_rfl))
theorem bUr : D126 r n aDg x0 r126 = D126 r n vI x0 (K2 (eB r n) 0 6) :=
 congrArg (fun k => D126 r n vI x0 k) (cOq r n)
theorem bZx : D126 r n vI x0 (K2 (eB r n) 0 6) = D126 r n bQd x0 (K5 (aTz r n) 0 6 38 39 40) :=
 congrArg (fun k => D126 r n bQd x0 k) (cMp r n)
theorem cDx : D126 r n aDg x0 r126 = (K3 (aSu r n) 0 3 6) :=
 (bUr r n).trans
 ((bZx r n).trans
 ((by kernel_rfl)))
theorem bXa : D126 r n aHj x0 r126 = D126 r n aYd x0 (K3 (aSu r n) 0 3 6) :=
 congrArg (fun k => D126 r n aYd x0 k) (cDx r n)
theorem cKr : D126 r n aHj x0 r126 = (K2 (aQi r n) 0 3) :=
 (bXa r n).trans
 ((by kernel_rfl))
theorem bVt : D126 r n aFy x0 r126 = D126 r n aUp x0 (K2 (aQi r n) 0 3) :=
 congrArg (fun k => D126 r n aUp x0 k) (cKr r n)
theorem cPz : D126 r n aFy x0 r126 = (K2 (vF r n) 0 3) :=
 (bVt r n).trans
 ((by kernel_rfl))
theorem cYk : D126 r n c126 x0 r126 = D126 r n aJl x0 (K2 (vF r n) 0 3) :=
 congrArg (fun k => D126 r n aJl x0 k) (cPz r n)
theorem dDa (q0 : oL) : D126 r n aJl x0 (K2 q0 0 3) = fun (env : aW) (h : Hp) =>
 bnd (bQ (env 1) h) fun v1 h1 =>
  q0 (env 0) v1 h1 := by kernel_rfl
theorem cDi : (fun (env : aW) (h : Hp) =>
 bnd (bQ (env 1) h) fun v1 h1 =>
  vF r n (env 0) v1 h1) = (K2 (s126 r n) 0 1) := by kernel_rfl
theorem dIn : D126 r n c126 x0 r126 = (K2 (s126 r n) 0 1) :=
 (cYk r n).trans
 ((dDa r n (vF r n)).trans (cDi r n))
theorem cZk : aF CF r n 126 args h = s126 r n (aT args 0) (aT args 1) h :=
 (by kernel_rfl : aF CF r n 126 args h = D126 r n c126 x0 r126 (aI args) h).trans ((congrFun (congrFun (dIn r n) (aI args)) h).trans (by kernel_rfl))
noncomputable def eE (r : RT) (n : Nat) (x4 : DV) (h0 : Hp) : aH :=
 some (.t [x4, (aE 0)], h0)
noncomputable def aGy (r : RT) (n : Nat) (kk6 : dL) (x4 x10 x11 x12 : DV) (h0 : Hp) : aH :=
 bnd (aD .lss x12 x11 h0) fun v1 h1 =>
 aS v1 (
 bnd (aJ 3 x10 x12 h1) fun v2 h2 =>
 bnd (aK 3 v2 h2) fun v3 h3 =>
 bnd (bL [(aE 0), (aE 0), (aE 0)] h3) fun v4 h4 =>
 bnd (aG 3 v4 v3 h4) fun _ h5 =>
 bnd (aK 3 v4 h5) fun v6 h6 =>
 bnd (r 124 [v6] h6) fun v7 h7 =>
 bnd (gU .not v7 h7) fun v8 h8 =>
 aS v8 (
 some (.t [.l0, (aE 19)], h8)) (
 bnd (aB 0 v4 h8) fun v9 h9 =>
 bnd (aA v9 h9) fun v10 h10 =>
 bnd (dU .u8 v10 h10) fun v11 h11 =>
 bnd (aB 1 v4 h11) fun v12 h12 =>
 bnd (aA v12 h12) fun v13 h13 =>
 bnd (dU .u8 v13 h13) fun v14 h14 =>
 bnd (aB 2 v4 h14) fun v15 h15 =>
 bnd (aA v15 h15) fun v16 h16 =>
 bnd (dU .u8 v16 h16) fun v17 h17 =>
 bnd (aL [(.i .u8 (Int.ofNat 0)), (.i .u8 (Int.ofNat 0)), (.i .u8 (Int.ofNat 0))] 3 [(0, 1, v11), (1, 1, v14), (2, 1, v17)] h17) fun v18 h18 =>
 bnd (bA 1 1 x4 v18 h18) fun v19 h19 =>
 bnd (aD .add x12 (aE 1) h19) fun v20 h20 =>
    kk6 v19 x10 x11 v20 h20)) (
      eE r n x4 h1)
noncomputable def sX (r : RT) (n : Nat) (m : Nat) : dL :=
 Nat.rec (motive := fun _ => dL) (fun _ _ _ _ _ => none) (fun _ ih => aGy r n ih) m
noncomputable def bKi (r : RT) (n : Nat) : dL := sX r n n
noncomputable def aSs (r : RT) (n : Nat) (x4 x10 x11 x12 : DV) (h0 : Hp) : aH :=
 bKi r n x4 x10 x11 x12 h0
noncomputable def aRg (r : RT) (n : Nat) (x0 x4 : DV) (h0 : Hp) : aH :=
 bnd (bX x0 h0) fun v1 h1 =>
  aSs r n x4 x0 v1 (aE 0) h1
noncomputable def aQb (r : RT) (n : Nat) (x0 : DV) (h0 : Hp) : aH :=
 aRg r n x0 .l0 h0
noncomputable def aOc (r : RT) (n : Nat) (x0 : DV) (h0 : Hp) : aH :=
 bnd (bX x0 h0) fun v1 h1 =>
 bnd (aD .gtr v1 (aE 400) h1) fun v2 h2 =>
 aS v2 (
 some (.t [.l0, (aE 19)], h2)) (
  aQb r n x0 h2)
noncomputable def s127 (r : RT) (n : Nat) (x0 : DV) (h0 : Hp) : aH :=
 aOc r n x0 h0
noncomputable abbrev c127 : Code := cf Tryz.f127
noncomputable abbrev aGd : Code := cR c127
noncomputable abbrev aCd : Code := cR aGd
noncomputable abbrev aDt : Code := cR aCd
noncomputable abbrev dDs : Code := cR aDt
noncomputable abbrev yT : Code := cL aDt
noncomputable abbrev aNt : Code := cR yT
noncomputable abbrev aHo : Code := cL aNt
noncomputable abbrev mD : Code := cL aHo
noncomputable abbrev bVg : Code := cL yT
noncomputable abbrev aWh : Code := cL aCd
noncomputable abbrev aWo : Code := cL aGd
noncomputable abbrev aWt : Code := cL c127
noncomputable abbrev r127 : K := aQ CF Tryz.f127
noncomputable def D127 (r : RT) (n : Nat) (c : Code) (X : Nat → K) (k : K) : K := aM CF r 33 n c X r127 k
theorem cJn : D127 r n dDs x0 r127 = (K1 (eE r n) 4) :=
 (by kernel_rfl)
theorem bLz (kk6 : dL) (q0 : TT1) : D127 r n mD (xs x0 0 (K1 q0 4)) (K4 kk6 4 10 11 12) = fun (env : aW) (h : Hp) =>
 bnd (aD .lss (env 12) (env 11) h) fun v1 h1 =>
 aS v1 (
 bnd (aJ 3 (env 10) (env 12) h1) fun v2 h2 =>
 bnd (aK 3 v2 h2) fun v3 h3 =>
 bnd (bL [(aE 0), (aE 0), (aE 0)] h3) fun v4 h4 =>
 bnd (aG 3 v4 v3 h4) fun _ h5 =>
 bnd (aK 3 v4 h5) fun v6 h6 =>
 bnd (r 124 [v6] h6) fun v7 h7 =>
 bnd (gU .not v7 h7) fun v8 h8 =>
 aS v8 (
 some (.t [.l0, (aE 19)], h8)) (
 bnd (aB 0 v4 h8) fun v9 h9 =>
 bnd (aA v9 h9) fun v10 h10 =>
 bnd (dU .u8 v10 h10) fun v11 h11 =>
 bnd (aB 1 v4 h11) fun v12 h12 =>
 bnd (aA v12 h12) fun v13 h13 =>
 bnd (dU .u8 v13 h13) fun v14 h14 =>
 bnd (aB 2 v4 h14) fun v15 h15 =>
 bnd (aA v15 h15) fun v16 h16 =>
 bnd (dU .u8 v16 h16) fun v17 h17 =>
 bnd (aL [(.i .u8 (Int.ofNat 0)), (.i .u8 (Int.ofNat 0)), (.i .u8 (Int.ofNat 0))] 3 [(0, 1, v11), (1, 1, v14), (2, 1, v17)] h17) fun v18 h18 =>
 bnd (bA 1 1 (env 4) v18 h18) fun v19 h19 =>
 bnd (aD .add (env 12) (aE 1) h19) fun v20 h20 =>
    kk6 v19 (env 10) (env 11) v20 h20)) (
      q0 (env 4) h1) := by kernel_rfl
theorem bCn (kk6 : dL) : (fun (env : aW) (h : Hp) =>
 bnd (aD .lss (env 12) (env 11) h) fun v1 h1 =>
 aS v1 (
 bnd (aJ 3 (env 10) (env 12) h1) fun v2 h2 =>
 bnd (aK 3 v2 h2) fun v3 h3 =>
 bnd (bL [(aE 0), (aE 0), (aE 0)] h3) fun v4 h4 =>
 bnd (aG 3 v4 v3 h4) fun _ h5 =>
 bnd (aK 3 v4 h5) fun v6 h6 =>
 bnd (r 124 [v6] h6) fun v7 h7 =>
 bnd (gU .not v7 h7) fun v8 h8 =>
 aS v8 (
 some (.t [.l0, (aE 19)], h8)) (
 bnd (aB 0 v4 h8) fun v9 h9 =>
 bnd (aA v9 h9) fun v10 h10 =>
 bnd (dU .u8 v10 h10) fun v11 h11 =>
 bnd (aB 1 v4 h11) fun v12 h12 =>
 bnd (aA v12 h12) fun v13 h13 =>
 bnd (dU .u8 v13 h13) fun v14 h14 =>
 bnd (aB 2 v4 h14) fun v15 h15 =>
 bnd (aA v15 h15) fun v16 h16 =>
 bnd (dU .u8 v16 h16) fun v17 h17 =>
 bnd (aL [(.i .u8 (Int.ofNat 0)), (.i .u8 (Int.ofNat 0)), (.i .u8 (Int.ofNat 0))] 3 [(0, 1, v11), (1, 1, v14), (2, 1, v17)] h17) fun v18 h18 =>
 bnd (bA 1 1 (env 4) v18 h18) fun v19 h19 =>
 bnd (aD .add (env 12) (aE 1) h19) fun v20 h20 =>
    kk6 v19 (env 10) (env 11) v20 h20)) (
      eE r n (env 4) h1)) = (K4 (aGy r n kk6) 4 10 11 12) := by kernel_rfl
theorem cAk (kk6 : dL) : D127 r n mD (xs x0 0 (K1 (eE r n) 4)) (K4 kk6 4 10 11 12) = (K4 (aGy r n kk6) 4 10 11 12) :=
 (bLz r n kk6 (eE r n)).trans (bCn r n kk6)
theorem bHn (m : Nat) : aO (fun kk => D127 r n mD (xs x0 0 (K1 (eE r n) 4)) kk) m = (K4 (sX r n m) 4 10 11 12) := by
 induction m with
 | zero => exact (by kernel_rfl : aO (fun kk => D127 r n mD (xs x0 0 (K1 (eE r n) 4)) kk) 0 = (K4 (sX r n 0) 4 10 11 12))
 | succ m ih =>
  refine (by kernel_rfl : aO (fun kk => D127 r n mD (xs x0 0 (K1 (eE r n) 4)) kk) (m + 1) = D127 r n mD (xs x0 0 (K1 (eE r n) 4)) (aO (fun kk => D127 r n mD (xs x0 0 (K1 (eE r n) 4)) kk) m)).trans ?_
  rw [ih]
  exact (cAk r n (sX r n m)).trans (by kernel_rfl)
theorem cGa : D127 r n aHo (xs x0 0 (K1 (eE r n) 4)) (K1 (eE r n) 4) = (K4 (bKi r n) 4 10 11 12) :=
 (by kernel_rfl : D127 r n aHo (xs x0 0 (K1 (eE r n) 4)) (K1 (eE r n) 4) = aO (fun kk => D127 r n mD (xs x0 0 (K1 (eE r n) 4)) kk) n).trans ((bHn r n n).trans (by kernel_rfl))
theorem cPd : D127 r n aNt x0 (K1 (eE r n) 4) = (K4 (aSs r n) 4 10 11 12) :=
 (by kernel_rfl : D127 r n aNt x0 (K1 (eE r n) 4) = D127 r n aHo (xs x0 0 (K1 (eE r n) 4)) (K1 (eE r n) 4)).trans
 ((cGa r n).trans (by kernel_rfl))
theorem bOc : D127 r n aDt x0 r127 = D127 r n yT x0 (K1 (eE r n) 4) :=
 congrArg (fun k => D127 r n yT x0 k) (cJn r n)
theorem bWn : D127 r n yT x0 (K1 (eE r n) 4) = D127 r n bVg x0 (K4 (aSs r n) 4 10 11 12) :=
 congrArg (fun k => D127 r n bVg x0 k) (cPd r n)
theorem cBs : D127 r n aDt x0 r127 = (K2 (aRg r n) 0 4) :=
 (bOc r n).trans
 ((bWn r n).trans
 ((by kernel_rfl)))
theorem bYw : D127 r n aCd x0 r127 = D127 r n aWh x0 (K2 (aRg r n) 0 4) :=
 congrArg (fun k => D127 r n aWh x0 k) (cBs r n)
theorem cIe : D127 r n aCd x0 r127 = (K1 (aQb r n) 0) :=
 (bYw r n).trans
 ((by kernel_rfl))
theorem bXp : D127 r n aGd x0 r127 = D127 r n aWo x0 (K1 (aQb r n) 0) :=
 congrArg (fun k => D127 r n aWo x0 k) (cIe r n)
theorem cKt : D127 r n aGd x0 r127 = (K1 (aOc r n) 0) :=
 (bXp r n).trans
 ((by kernel_rfl))
theorem cZu : D127 r n c127 x0 r127 = D127 r n aWt x0 (K1 (aOc r n) 0) :=
 congrArg (fun k => D127 r n aWt x0 k) (cKt r n)
theorem dFn : D127 r n c127 x0 r127 = (K1 (s127 r n) 0) :=
 (cZu r n).trans
 ((by kernel_rfl))
theorem cXw : aF CF r n 127 args h = s127 r n (aT args 0) h :=
 (by kernel_rfl : aF CF r n 127 args h = D127 r n c127 x0 r127 (aI args) h).trans ((congrFun (congrFun (dFn r n) (aI args)) h).trans (by kernel_rfl))
noncomputable def eS (r : RT) (n : Nat) (x0 x6 : DV) (h0 : Hp) : aH :=
 bnd (r 46 [x0, x6] h0) fun v1 h1 =>
 bnd (aC 0 v1 h1) fun v2 h2 =>
 bnd (aC 1 v1 h2) fun v3 h3 =>
 some (.t [v2, v3], h3)
noncomputable def aEv (r : RT) (n : Nat) (kk4 : mL) (x0 x1 x6 : DV) (h0 : Hp) : aH :=
 bnd (bX x1 h0) fun v1 h1 =>
 bnd (aD .gtr v1 (aE 0) h1) fun v2 h2 =>
 aS v2 (
 bnd (bX x1 h2) fun v3 h3 =>
 bnd (aTg v3 (aE 240) h3) fun v4 h4 =>
 bnd (r 30 [x0, (aE 10)] h4) fun v5 h5 =>
 bnd (cS 1 x1 none (some v4) h5) fun v6 h6 =>
 cnd (bI (cS 1 x1 none (some v4) h4) v6 && true) (
 bnd (fV v6 h6) fun v7 h7 =>
 cnd (bI (fV v6 h4) v7 && true) (
 bnd (r 83 [x0, v5, v7] h7) fun v8 h8 =>
 bnd (aC 0 v8 h8) fun v9 h9 =>
 bnd (aC 1 v8 h9) fun v10 h10 =>
 bnd (aD .neq v10 (aE 0) h10) fun v11 h11 =>
 aS v11 (
 some (.t [(aE 0), v10], h11)) (
 bnd (bK (bW 0 h11.next) [(aE 0)] 1 [(0, 1, v9)] (resv 1 h11)) fun v12 h12 =>
 bnd (bA 1 8 x6 v12 h12) fun v13 h13 =>
 bnd (cS 1 x1 (some v4) none h13) fun v14 h14 =>
 cnd (bI (cS 1 x1 (some v4) none (resv 1 h11)) v14 && true) (
    kk4 x0 v14 v13 h14))))) (
      eS r n x0 x6 h2)
noncomputable def sZ (r : RT) (n : Nat) (m : Nat) : mL :=
 Nat.rec (motive := fun _ => mL) (fun _ _ _ _ => none) (fun _ ih => aEv r n ih) m
noncomputable def bOi (r : RT) (n : Nat) : mL := sZ r n n
noncomputable def aTd (r : RT) (n : Nat) (x0 x1 x6 : DV) (h0 : Hp) : aH :=
 bOi r n x0 x1 x6 h0
noncomputable def aOk (r : RT) (n : Nat) (x0 x1 : DV) (h0 : Hp) : aH :=
 aTd r n x0 x1 .l0 h0
noncomputable def s128 (r : RT) (n : Nat) (x0 x1 : DV) (h0 : Hp) : aH :=
 aOk r n x0 x1 h0
noncomputable abbrev c128 : Code := cf Tryz.f128
noncomputable abbrev aGv : Code := cR c128
noncomputable abbrev aAz : Code := cR aGv
noncomputable abbrev cSq : Code := cR aAz
noncomputable abbrev aIv : Code := cL aAz
noncomputable abbrev aCj : Code := cL aIv
noncomputable abbrev mG : Code := cL aCj
noncomputable abbrev bXx : Code := cL aGv
noncomputable abbrev bQg : Code := cL c128
noncomputable abbrev r128 : K := aQ CF Tryz.f128
noncomputable def D128 (r : RT) (n : Nat) (c : Code) (X : Nat → K) (k : K) : K := aM CF r 42 n c X r128 k
theorem cMb : D128 r n cSq x0 r128 = (K2 (eS r n) 0 6) :=
 (by kernel_rfl)
theorem bTu (kk4 : mL) (q0 : oL) : D128 r n mG (xs x0 0 (K2 q0 0 6)) (K3 kk4 0 1 6) = fun (env : aW) (h : Hp) =>
 bnd (bX (env 1) h) fun v1 h1 =>
 bnd (aD .gtr v1 (aE 0) h1) fun v2 h2 =>
 aS v2 (
 bnd (bX (env 1) h2) fun v3 h3 =>
 bnd (aTg v3 (aE 240) h3) fun v4 h4 =>
 bnd (r 30 [(env 0), (aE 10)] h4) fun v5 h5 =>
 bnd (cS 1 (env 1) none (some v4) h5) fun v6 h6 =>
 cnd (bI (cS 1 (env 1) none (some v4) h4) v6 && true) (
 bnd (fV v6 h6) fun v7 h7 =>
 cnd (bI (fV v6 h4) v7 && true) (
 bnd (r 83 [(env 0), v5, v7] h7) fun v8 h8 =>
 bnd (aC 0 v8 h8) fun v9 h9 =>
 bnd (aC 1 v8 h9) fun v10 h10 =>
 bnd (aD .neq v10 (aE 0) h10) fun v11 h11 =>
 aS v11 (
 some (.t [(aE 0), v10], h11)) (
 bnd (bK (bW 0 h11.next) [(aE 0)] 1 [(0, 1, v9)] (resv 1 h11)) fun v12 h12 =>
 bnd (bA 1 8 (env 6) v12 h12) fun v13 h13 =>
 bnd (cS 1 (env 1) (some v4) none h13) fun v14 h14 =>
 cnd (bI (cS 1 (env 1) (some v4) none (resv 1 h11)) v14 && true) (
    kk4 (env 0) v14 v13 h14))))) (
      q0 (env 0) (env 6) h2) := by kernel_rfl
theorem bDg (kk4 : mL) : (fun (env : aW) (h : Hp) =>
 bnd (bX (env 1) h) fun v1 h1 =>
 bnd (aD .gtr v1 (aE 0) h1) fun v2 h2 =>
 aS v2 (
 bnd (bX (env 1) h2) fun v3 h3 =>
 bnd (aTg v3 (aE 240) h3) fun v4 h4 =>
 bnd (r 30 [(env 0), (aE 10)] h4) fun v5 h5 =>
 bnd (cS 1 (env 1) none (some v4) h5) fun v6 h6 =>
 cnd (bI (cS 1 (env 1) none (some v4) h4) v6 && true) (
 bnd (fV v6 h6) fun v7 h7 =>
 cnd (bI (fV v6 h4) v7 && true) (
 bnd (r 83 [(env 0), v5, v7] h7) fun v8 h8 =>
 bnd (aC 0 v8 h8) fun v9 h9 =>
 bnd (aC 1 v8 h9) fun v10 h10 =>
 bnd (aD .neq v10 (aE 0) h10) fun v11 h11 =>
 aS v11 (
 some (.t [(aE 0), v10], h11)) (
 bnd (bK (bW 0 h11.next) [(aE 0)] 1 [(0, 1, v9)] (resv 1 h11)) fun v12 h12 =>
 bnd (bA 1 8 (env 6) v12 h12) fun v13 h13 =>
 bnd (cS 1 (env 1) (some v4) none h13) fun v14 h14 =>
 cnd (bI (cS 1 (env 1) (some v4) none (resv 1 h11)) v14 && true) (
    kk4 (env 0) v14 v13 h14))))) (
      eS r n (env 0) (env 6) h2)) = (K3 (aEv r n kk4) 0 1 6) := by kernel_rfl
theorem bOl (kk4 : mL) : D128 r n mG (xs x0 0 (K2 (eS r n) 0 6)) (K3 kk4 0 1 6) = (K3 (aEv r n kk4) 0 1 6) :=
 (bTu r n kk4 (eS r n)).trans (bDg r n kk4)
theorem bQc (m : Nat) : aO (fun kk => D128 r n mG (xs x0 0 (K2 (eS r n) 0 6)) kk) m = (K3 (sZ r n m) 0 1 6) := by
 induction m with
 | zero => exact (by kernel_rfl : aO (fun kk => D128 r n mG (xs x0 0 (K2 (eS r n) 0 6)) kk) 0 = (K3 (sZ r n 0) 0 1 6))
 | succ m ih =>
  refine (by kernel_rfl : aO (fun kk => D128 r n mG (xs x0 0 (K2 (eS r n) 0 6)) kk) (m + 1) = D128 r n mG (xs x0 0 (K2 (eS r n) 0 6)) (aO (fun kk => D128 r n mG (xs x0 0 (K2 (eS r n) 0 6)) kk) m)).trans ?_
  rw [ih]
  exact (bOl r n (sZ r n m)).trans (by kernel_rfl)
theorem cLn : D128 r n aCj (xs x0 0 (K2 (eS r n) 0 6)) (K2 (eS r n) 0 6) = (K3 (bOi r n) 0 1 6) :=
 (by kernel_rfl : D128 r n aCj (xs x0 0 (K2 (eS r n) 0 6)) (K2 (eS r n) 0 6) = aO (fun kk => D128 r n mG (xs x0 0 (K2 (eS r n) 0 6)) kk) n).trans ((bQc r n n).trans (by kernel_rfl))
theorem bZm : D128 r n aAz x0 r128 = D128 r n aIv x0 (K2 (eS r n) 0 6) :=
 congrArg (fun k => D128 r n aIv x0 k) (cMb r n)
theorem cGf : D128 r n aAz x0 r128 = (K3 (aTd r n) 0 1 6) :=
 (bZm r n).trans
 ((by kernel_rfl : D128 r n aIv x0 (K2 (eS r n) 0 6) = D128 r n aCj (xs x0 0 (K2 (eS r n) 0 6)) (K2 (eS r n) 0 6)).trans
 ((cLn r n).trans (by kernel_rfl)))
theorem bPq : D128 r n aGv x0 r128 = D128 r n bXx x0 (K3 (aTd r n) 0 1 6) :=
 congrArg (fun k => D128 r n bXx x0 k) (cGf r n)
theorem cMw : D128 r n aGv x0 r128 = (K2 (aOk r n) 0 1) :=
 (bPq r n).trans
 ((by kernel_rfl))
theorem cZo : D128 r n c128 x0 r128 = D128 r n bQg x0 (K2 (aOk r n) 0 1) :=
 congrArg (fun k => D128 r n bQg x0 k) (cMw r n)
theorem dFs : D128 r n c128 x0 r128 = (K2 (s128 r n) 0 1) :=
 (cZo r n).trans
 ((by kernel_rfl))
theorem cZt : aF CF r n 128 args h = s128 r n (aT args 0) (aT args 1) h :=
 (by kernel_rfl : aF CF r n 128 args h = D128 r n c128 x0 r128 (aI args) h).trans ((congrFun (congrFun (dFs r n) (aI args)) h).trans (by kernel_rfl))
noncomputable def fI (r : RT) (n : Nat) (x0 x7 : DV) (h0 : Hp) : aH :=
 bnd (aN x0 h0) fun v1 h1 =>
 bnd (aB 0 v1 h1) fun v2 h2 =>
 bnd (aA v2 h2) fun v3 h3 =>
 bnd (aN x0 h3) fun v4 h4 =>
 bnd (aB 1 v4 h4) fun v5 h5 =>
 bnd (aA v5 h5) fun v6 h6 =>
 bnd (fC v3 (some x7) (some v6) h6) fun v7 h7 =>
 some (v7, h7)
noncomputable def aYi (r : RT) (n : Nat) (kk4 : dL) (x0 x1 x2 x7 : DV) (h0 : Hp) : aH :=
 bnd (aN x0 h0) fun v1 h1 =>
 bnd (aB 1 v1 h1) fun v2 h2 =>
 bnd (aA v2 h2) fun v3 h3 =>
 bnd (aN x0 h3) fun v4 h4 =>
 bnd (aB 0 v4 h4) fun v5 h5 =>
 bnd (aA v5 h5) fun v6 h6 =>
 bnd (dH v6 h6) fun v7 h7 =>
 bnd (aD .lss v3 v7 h7) fun v8 h8 =>
 bnd (gD v8 true (some (x0, h8)) h8) fun v9 h9 =>
 bnd (gD v8 true (aN v9 h9) h9) fun v10 h10 =>
 bnd (gD v8 true (aB 1 v10 h10) h10) fun v11 h11 =>
 bnd (gD v8 true (aA v11 h11) h11) fun v12 h12 =>
 bnd (gD v8 true (some (x7, h12)) h12) fun v13 h13 =>
 bnd (gD v8 true (aD .sub v12 v13 h13) h13) fun v14 h14 =>
 bnd (gD v8 true (some (x2, h14)) h14) fun v15 h15 =>
 bnd (gD v8 true (aD .lss v14 v15 h15) h15) fun v16 h16 =>
 bnd (aP v8 v16 (.b false) h16) fun v17 h17 =>
 bnd (gD v17 true (some (x1, h17)) h17) fun v18 h18 =>
 bnd (gD v17 true (some (x0, h18)) h18) fun v19 h19 =>
 bnd (gD v17 true (aN v19 h19) h19) fun v20 h20 =>
 bnd (gD v17 true (aB 0 v20 h20) h20) fun v21 h21 =>
 bnd (gD v17 true (aA v21 h21) h21) fun v22 h22 =>
 bnd (gD v17 true (some (x0, h22)) h22) fun v23 h23 =>
 bnd (gD v17 true (aN v23 h23) h23) fun v24 h24 =>
 bnd (gD v17 true (aB 1 v24 h24) h24) fun v25 h25 =>
 bnd (gD v17 true (aA v25 h25) h25) fun v26 h26 =>
 bnd (gD v17 true (fB v22 v26 h26) h26) fun v27 h27 =>
 bnd (gD v17 true (cV CF r v18 [v27] h27) h27) fun v28 h28 =>
 bnd (aP v17 v28 (.b false) h28) fun v29 h29 =>
 aS v29 (
 bnd (aN x0 h29) fun v30 h30 =>
 bnd (aB 1 v30 h30) fun v31 h31 =>
 bnd (aA v31 h31) fun v32 h32 =>
 bnd (aD .add v32 (aE 1) h32) fun v33 h33 =>
 bnd (aN x0 h33) fun v34 h34 =>
 bnd (aB 1 v34 h34) fun v35 h35 =>
 bnd (aG 1 v35 v33 h35) fun _ h36 =>
      kk4 x0 x1 x2 x7 h36) (
      fI r n x0 x7 h29)
noncomputable def sQ (r : RT) (n : Nat) (m : Nat) : dL :=
 Nat.rec (motive := fun _ => dL) (fun _ _ _ _ _ => none) (fun _ ih => aYi r n ih) m
noncomputable def bMd (r : RT) (n : Nat) : dL := sQ r n n
noncomputable def aQu (r : RT) (n : Nat) (x0 x1 x2 x7 : DV) (h0 : Hp) : aH :=
 bMd r n x0 x1 x2 x7 h0
noncomputable def aQa (r : RT) (n : Nat) (x0 x1 x2 : DV) (h0 : Hp) : aH :=
 bnd (aN x0 h0) fun v1 h1 =>
 bnd (aB 1 v1 h1) fun v2 h2 =>
 bnd (aA v2 h2) fun v3 h3 =>
  aQu r n x0 x1 x2 v3 h3
noncomputable def s129 (r : RT) (n : Nat) (x0 x1 x2 : DV) (h0 : Hp) : aH :=
 aQa r n x0 x1 x2 h0
noncomputable abbrev c129 : Code := cf Tryz.f129
noncomputable abbrev aJe : Code := cR c129
noncomputable abbrev aIx : Code := cR aJe
noncomputable abbrev dDr : Code := cR aIx
noncomputable abbrev aJv : Code := cL aIx
noncomputable abbrev aBh : Code := cL aJv
noncomputable abbrev oI : Code := cL aBh
noncomputable abbrev bUf : Code := cL aJe
noncomputable abbrev bPl : Code := cL c129
noncomputable abbrev r129 : K := aQ CF Tryz.f129
noncomputable def D129 (r : RT) (n : Nat) (c : Code) (X : Nat → K) (k : K) : K := aM CF r 62 n c X r129 k
theorem cKj : D129 r n dDr x0 r129 = (K2 (fI r n) 0 7) :=
 (by kernel_rfl)
theorem bYk (kk4 : dL) : D129 r n oI (xs x0 0 (K2 (fI r n) 0 7)) (K4 kk4 0 1 2 7) = (K4 (aYi r n kk4) 0 1 2 7) :=
 (by kernel_rfl)
theorem bKe (m : Nat) : aO (fun kk => D129 r n oI (xs x0 0 (K2 (fI r n) 0 7)) kk) m = (K4 (sQ r n m) 0 1 2 7) := by
 induction m with
 | zero => exact (by kernel_rfl : aO (fun kk => D129 r n oI (xs x0 0 (K2 (fI r n) 0 7)) kk) 0 = (K4 (sQ r n 0) 0 1 2 7))
 | succ m ih =>
  refine (by kernel_rfl : aO (fun kk => D129 r n oI (xs x0 0 (K2 (fI r n) 0 7)) kk) (m + 1) = D129 r n oI (xs x0 0 (K2 (fI r n) 0 7)) (aO (fun kk => D129 r n oI (xs x0 0 (K2 (fI r n) 0 7)) kk) m)).trans ?_
  rw [ih]
  exact (bYk r n (sQ r n m)).trans (by kernel_rfl)
theorem cFj : D129 r n aBh (xs x0 0 (K2 (fI r n) 0 7)) (K2 (fI r n) 0 7) = (K4 (bMd r n) 0 1 2 7) :=
 (by kernel_rfl : D129 r n aBh (xs x0 0 (K2 (fI r n) 0 7)) (K2 (fI r n) 0 7) = aO (fun kk => D129 r n oI (xs x0 0 (K2 (fI r n) 0 7)) kk) n).trans ((bKe r n n).trans (by kernel_rfl))
theorem bTe : D129 r n aIx x0 r129 = D129 r n aJv x0 (K2 (fI r n) 0 7) :=
 congrArg (fun k => D129 r n aJv x0 k) (cKj r n)
theorem cDq : D129 r n aIx x0 r129 = (K4 (aQu r n) 0 1 2 7) :=
 (bTe r n).trans
 ((by kernel_rfl : D129 r n aJv x0 (K2 (fI r n) 0 7) = D129 r n aBh (xs x0 0 (K2 (fI r n) 0 7)) (K2 (fI r n) 0 7)).trans
 ((cFj r n).trans (by kernel_rfl)))
theorem bTp : D129 r n aJe x0 r129 = D129 r n bUf x0 (K4 (aQu r n) 0 1 2 7) :=
 congrArg (fun k => D129 r n bUf x0 k) (cDq r n)
theorem cGk : D129 r n aJe x0 r129 = (K3 (aQa r n) 0 1 2) :=
 (bTp r n).trans
 ((by kernel_rfl))
theorem dAt : D129 r n c129 x0 r129 = D129 r n bPl x0 (K3 (aQa r n) 0 1 2) :=
 congrArg (fun k => D129 r n bPl x0 k) (cGk r n)
theorem dGe : D129 r n c129 x0 r129 = (K3 (s129 r n) 0 1 2) :=
 (dAt r n).trans
 ((by kernel_rfl))
theorem cUt : aF CF r n 129 args h = s129 r n (aT args 0) (aT args 1) (aT args 2) h :=
 (by kernel_rfl : aF CF r n 129 args h = D129 r n c129 x0 r129 (aI args) h).trans ((congrFun (congrFun (dGe r n) (aI args)) h).trans (by kernel_rfl))
noncomputable def s130 (r : RT) (n : Nat) (x0 : DV) (h0 : Hp) : aH :=
 bnd (bQ x0 h0) fun v1 h1 =>
 some ((.f 145 [] [v1]), h1)
noncomputable abbrev c130 : Code := cf Tryz.f130
noncomputable abbrev r130 : K := aQ CF Tryz.f130
noncomputable def D130 (r : RT) (n : Nat) (c : Code) (X : Nat → K) (k : K) : K := aM CF r 4 n c X r130 k
theorem dHd : D130 r n c130 x0 r130 = (K1 (s130 r n) 0) :=
 (by kernel_rfl)
theorem dAy : aF CF r n 130 args h = s130 r n (aT args 0) h :=
 (by kernel_rfl : aF CF r n 130 args h = D130 r n c130 x0 r130 (aI args) h).trans ((congrFun (congrFun (dHd r n) (aI args)) h).trans (by kernel_rfl))
noncomputable def s131 (r : RT) (n : Nat) (x0 x1 : DV) (h0 : Hp) : aH :=
 bnd (r 146 [x0, x1] h0) fun v1 h1 =>
 some (v1, h1)
noncomputable abbrev c131 : Code := cf Tryz.f131
noncomputable abbrev r131 : K := aQ CF Tryz.f131
noncomputable def D131 (r : RT) (n : Nat) (c : Code) (X : Nat → K) (k : K) : K := aM CF r 8 n c X r131 k
theorem dFf : D131 r n c131 x0 r131 = (K2 (s131 r n) 0 1) :=
 (by kernel_rfl)
theorem dBr : aF CF r n 131 args h = s131 r n (aT args 0) (aT args 1) h :=
 (by kernel_rfl : aF CF r n 131 args h = D131 r n c131 x0 r131 (aI args) h).trans ((congrFun (congrFun (dFf r n) (aI args)) h).trans (by kernel_rfl))
end Go.Dd

namespace Go.Dd
open Go.Proofs
variable (r : RT) (n : Nat) (args : List DV) (h : Hp)
noncomputable def hY (r : RT) (n : Nat) (x2 x4 x5 : DV) (h0 : Hp) : aH :=
 bnd (aK 4 x4 h0) fun v1 h1 =>
 bnd (aG 4 x2 v1 h1) fun _ h2 =>
 bnd (aK 4 x2 h2) fun v3 _ =>
 some (.t [v3, x5], h2)
noncomputable def aOt (r : RT) (n : Nat) (x0 x2 x4 x5 x6 : DV) (h0 : Hp) : aH :=
 bnd (r 148 [x6] h0) fun v1 h1 =>
 aS v1 (
 bnd (aB 0 x4 h1) fun v2 h2 =>
 bnd (aG 1 v2 (aE 1) h2) fun _ h3 =>
 bnd (r 149 [x0] h3) fun v4 h4 =>
 bnd (aC 0 v4 h4) fun v5 h5 =>
 bnd (aC 1 v4 h5) fun v6 h6 =>
 bnd (aB 1 x4 h6) fun v7 h7 =>
 bnd (aG 1 v7 v5 h7) fun _ h8 =>
 bnd (aD .eql v6 (aE 0) h8) fun v9 h9 =>
 bnd (gD v9 true (some (x0, h9)) h9) fun v10 h10 =>
 bnd (gD v9 true (r 150 [v10] h10) h10) fun v11 h11 =>
 bnd (aP v9 v11 (.b false) h11) fun v12 h12 =>
 aS v12 (
 bnd (aB 1 x4 h12) fun v13 h13 =>
 bnd (aA v13 h13) fun v14 h14 =>
 bnd (eG .add v14 (.s [58]) h14) fun v15 h15 =>
 bnd (aB 0 x4 h15) fun v16 h16 =>
 bnd (aG 1 v16 (aE 2) h16) fun _ h17 =>
 bnd (aB 1 x4 h17) fun v18 h18 =>
 bnd (aG 1 v18 v15 h18) fun _ h19 =>
      hY r n x2 x4 v6 h19) (
      hY r n x2 x4 v6 h12)) (
 bnd (r 151 [x6] h1) fun v20 h20 =>
 aS v20 (
 bnd (aB 0 x4 h20) fun v21 h21 =>
 bnd (aG 1 v21 (aE 4) h21) fun _ h22 =>
 bnd (r 152 [x0] h22) fun v23 h23 =>
 bnd (aC 0 v23 h23) fun v24 h24 =>
 bnd (aC 1 v23 h24) fun v25 h25 =>
 bnd (aB 2 x4 h25) fun v26 h26 =>
 bnd (aG 1 v26 v24 h26) fun _ h27 =>
      hY r n x2 x4 v25 h27) (
 bnd (aD .eql x6 (.i .u8 (Int.ofNat 39)) h20) fun v28 h28 =>
 aS v28 (
 bnd (aN x0 h28) fun v29 h29 =>
 bnd (aB 1 v29 h29) fun v30 h30 =>
 bnd (aA v30 h30) fun v31 h31 =>
 bnd (aD .add v31 (aE 1) h31) fun v32 h32 =>
 bnd (aN x0 h32) fun v33 h33 =>
 bnd (aB 1 v33 h33) fun v34 h34 =>
 bnd (aG 1 v34 v32 h34) fun _ h35 =>
 bnd (aB 0 x4 h35) fun v36 h36 =>
 bnd (aG 1 v36 (aE 5) h36) fun _ h37 =>
 bnd (r 153 [x0] h37) fun v38 h38 =>
 bnd (aC 0 v38 h38) fun v39 h39 =>
 bnd (aC 1 v38 h39) fun v40 h40 =>
 bnd (aB 1 x4 h40) fun v41 h41 =>
 bnd (aG 1 v41 v39 h41) fun _ h42 =>
    hY r n x2 x4 v40 h42) (
 bnd (aD .eql x6 (.i .u8 (Int.ofNat 35)) h28) fun v43 h43 =>
 bnd (gD v43 true (some (x0, h43)) h43) fun v44 h44 =>
 bnd (gD v43 true (r 147 [v44, (aE 1)] h44) h44) fun v45 h45 =>
 bnd (gD v43 true (aD .eql v45 (.i .u8 (Int.ofNat 40)) h45) h45) fun v46 h46 =>
 bnd (aP v43 v46 (.b false) h46) fun v47 h47 =>
 aS v47 (
 bnd (aN x0 h47) fun v48 h48 =>
 bnd (aB 1 v48 h48) fun v49 h49 =>
 bnd (aA v49 h49) fun v50 h50 =>
 bnd (aD .add v50 (aE 2) h50) fun v51 h51 =>
 bnd (aN x0 h51) fun v52 h52 =>
 bnd (aB 1 v52 h52) fun v53 h53 =>
 bnd (aG 1 v53 v51 h53) fun _ h54 =>
 bnd (aB 0 x4 h54) fun v55 h55 =>
 bnd (aG 1 v55 (aE 7) h55) fun _ h56 =>
     hY r n x2 x4 x5 h56) (
 bnd (aD .eql x6 (.i .u8 (Int.ofNat 35)) h47) fun v57 h57 =>
 aS v57 (
 bnd (aN x0 h57) fun v58 h58 =>
 bnd (aB 1 v58 h58) fun v59 h59 =>
 bnd (aA v59 h59) fun v60 h60 =>
 bnd (aD .add v60 (aE 1) h60) fun v61 h61 =>
 bnd (aN x0 h61) fun v62 h62 =>
 bnd (aB 1 v62 h62) fun v63 h63 =>
 bnd (aG 1 v63 v61 h63) fun _ h64 =>
 bnd (aB 0 x4 h64) fun v65 h65 =>
 bnd (aG 1 v65 (aE 6) h65) fun _ h66 =>
 bnd (r 154 [x0] h66) fun v67 h67 =>
 bnd (aC 0 v67 h67) fun v68 h68 =>
 bnd (aC 1 v67 h68) fun v69 h69 =>
 bnd (aB 1 x4 h69) fun v70 h70 =>
 bnd (aG 1 v70 v68 h70) fun _ h71 =>
      hY r n x2 x4 v69 h71) (
 bnd (aD .eql x6 (.i .u8 (Int.ofNat 58)) h57) fun v72 h72 =>
 bnd (gD v72 true (some (x0, h72)) h72) fun v73 h73 =>
 bnd (gD v72 true (r 147 [v73, (aE 1)] h73) h73) fun v74 h74 =>
 bnd (gD v72 true (aD .eql v74 (.i .u8 (Int.ofNat 61)) h74) h74) fun v75 h75 =>
 bnd (aP v72 v75 (.b false) h75) fun v76 h76 =>
 aS v76 (
 bnd (aN x0 h76) fun v77 h77 =>
 bnd (aB 1 v77 h77) fun v78 h78 =>
 bnd (aA v78 h78) fun v79 h79 =>
 bnd (aD .add v79 (aE 2) h79) fun v80 h80 =>
 bnd (aN x0 h80) fun v81 h81 =>
 bnd (aB 1 v81 h81) fun v82 h82 =>
 bnd (aG 1 v82 v80 h82) fun _ h83 =>
 bnd (aB 0 x4 h83) fun v84 h84 =>
 bnd (aG 1 v84 (aE 9) h84) fun _ h85 =>
       hY r n x2 x4 x5 h85) (
 bnd (aD .eql x6 (.i .u8 (Int.ofNat 58)) h76) fun v86 h86 =>
 bnd (gD v86 true (some (x0, h86)) h86) fun v87 h87 =>
 bnd (gD v86 true (r 147 [v87, (aE 1)] h87) h87) fun v88 h88 =>
 bnd (gD v86 true (r 148 [v88] h88) h88) fun v89 h89 =>
 bnd (aP v86 v89 (.b false) h89) fun v90 h90 =>
 aS v90 (
 bnd (aN x0 h90) fun v91 h91 =>
 bnd (aB 1 v91 h91) fun v92 h92 =>
 bnd (aA v92 h92) fun v93 h93 =>
 bnd (aD .add v93 (aE 1) h93) fun v94 h94 =>
 bnd (aN x0 h94) fun v95 h95 =>
 bnd (aB 1 v95 h95) fun v96 h96 =>
 bnd (aG 1 v96 v94 h96) fun _ h97 =>
 bnd (aB 0 x4 h97) fun v98 h98 =>
 bnd (aG 1 v98 (aE 8) h98) fun _ h99 =>
 bnd (r 149 [x0] h99) fun v100 h100 =>
 bnd (aC 0 v100 h100) fun v101 h101 =>
 bnd (aC 1 v100 h101) fun v102 h102 =>
 bnd (aB 1 x4 h102) fun v103 h103 =>
 bnd (aG 1 v103 v101 h103) fun _ h104 =>
        hY r n x2 x4 v102 h104) (
 bnd (r 130 [(.s [43, 45, 42, 47, 60, 62, 61, 126, 44, 64, 38, 37])] h90) fun v105 h105 =>
 bnd (cV CF r v105 [x6] h105) fun v106 h106 =>
 aS v106 (
 bnd (r 130 [(.s [43, 45, 42, 47, 60, 62, 61, 126, 44, 64, 38, 37])] h106) fun v107 h107 =>
 bnd (r 129 [x0, v107, (aE 2)] h107) fun v108 h108 =>
 bnd (aB 0 x4 h108) fun v109 h109 =>
 bnd (aG 1 v109 (aE 3) h109) fun _ h110 =>
 bnd (aB 1 x4 h110) fun v111 h111 =>
 bnd (aG 1 v111 v108 h111) fun _ h112 =>
         hY r n x2 x4 x5 h112) (
 bnd (r 130 [(.s [94, 46, 59, 40, 41, 91, 93, 124])] h106) fun v113 h113 =>
 bnd (cV CF r v113 [x6] h113) fun v114 h114 =>
 aS v114 (
 bnd (r 130 [(.s [94, 46, 59, 40, 41, 91, 93, 124])] h114) fun v115 h115 =>
 bnd (r 129 [x0, v115, (aE 1)] h115) fun v116 h116 =>
 bnd (aB 0 x4 h116) fun v117 h117 =>
 bnd (aG 1 v117 (aE 10) h117) fun _ h118 =>
 bnd (aB 1 x4 h118) fun v119 h119 =>
 bnd (aG 1 v119 v116 h119) fun _ h120 =>
          hY r n x2 x4 x5 h120) (
          hY r n x2 x4 (aE 10) h114)))))))))
noncomputable def aRq (r : RT) (n : Nat) (x0 x2 x4 x5 : DV) (h0 : Hp) : aH :=
 bnd (r 147 [x0, (aE 0)] h0) fun v1 h1 =>
  aOt r n x0 x2 x4 x5 v1 h1
noncomputable def uT (r : RT) (n : Nat) (x0 x2 x4 : DV) (h0 : Hp) : aH :=
 aRq r n x0 x2 x4 (aE 0) h0
noncomputable def qW (r : RT) (n : Nat) (x0 x2 : DV) (h0 : Hp) : aH :=
 bnd (aN x0 h0) fun v1 h1 =>
 bnd (aB 1 v1 h1) fun v2 h2 =>
 bnd (aA v2 h2) fun v3 h3 =>
 bnd (bC [(aE 0), (.s []), (aE 0), (aE 0)] [(3, 1, v3)] h3) fun v4 h4 =>
 bnd (bL [(aE 0), (.s []), (aE 0), (aE 0)] h4) fun v5 h5 =>
 bnd (aG 4 v5 v4 h5) fun _ h6 =>
  uT r n x0 x2 v5 h6
noncomputable def s132 (r : RT) (n : Nat) (x0 : DV) (h0 : Hp) : aH :=
 bnd (bL [(aE 0), (.s []), (aE 0), (aE 0)] h0) fun v1 h1 =>
  qW r n x0 v1 h1
noncomputable abbrev c132 : Code := cf Tryz.f132
noncomputable abbrev aFg : Code := cR c132
noncomputable abbrev aGn : Code := cR aFg
noncomputable abbrev aGi : Code := cR aGn
noncomputable abbrev aBy : Code := cR aGi
noncomputable abbrev cSk : Code := cR aBy
noncomputable abbrev bWy : Code := cL aBy
noncomputable abbrev bZk : Code := cL aGi
noncomputable abbrev bSm : Code := cL aGn
noncomputable abbrev aSq : Code := cL aFg
noncomputable abbrev aCs : Code := cL c132
noncomputable abbrev r132 : K := aQ CF Tryz.f132
noncomputable def D132 (r : RT) (n : Nat) (c : Code) (X : Nat → K) (k : K) : K := aM CF r 153 n c X r132 k
theorem cNs : D132 r n cSk x0 r132 = (K3 (hY r n) 2 4 5) :=
 (by kernel_rfl)
theorem bSx : D132 r n aBy x0 r132 = D132 r n bWy x0 (K3 (hY r n) 2 4 5) :=
 congrArg (fun k => D132 r n bWy x0 k) (cNs r n)
theorem cGp : D132 r n aBy x0 r132 = (K5 (aOt r n) 0 2 4 5 6) :=
 (bSx r n).trans
 ((by kernel_rfl))
theorem bNx : D132 r n aGi x0 r132 = D132 r n bZk x0 (K5 (aOt r n) 0 2 4 5 6) :=
 congrArg (fun k => D132 r n bZk x0 k) (cGp r n)
theorem cJa : D132 r n aGi x0 r132 = (K4 (aRq r n) 0 2 4 5) :=
 (bNx r n).trans
 ((by kernel_rfl))
theorem bXj : D132 r n aGn x0 r132 = D132 r n bSm x0 (K4 (aRq r n) 0 2 4 5) :=
 congrArg (fun k => D132 r n bSm x0 k) (cJa r n)
theorem cHk : D132 r n aGn x0 r132 = (K3 (uT r n) 0 2 4) :=
 (bXj r n).trans
 ((by kernel_rfl))
theorem bWz : D132 r n aFg x0 r132 = D132 r n aSq x0 (K3 (uT r n) 0 2 4) :=
 congrArg (fun k => D132 r n aSq x0 k) (cHk r n)
theorem bMx (q0 : mL) : D132 r n aSq x0 (K3 q0 0 2 4) = fun (env : aW) (h : Hp) =>
 bnd (aN (env 0) h) fun v1 h1 =>
 bnd (aB 1 v1 h1) fun v2 h2 =>
 bnd (aA v2 h2) fun v3 h3 =>
 bnd (bC [(aE 0), (.s []), (aE 0), (aE 0)] [(3, 1, v3)] h3) fun v4 h4 =>
 bnd (bL [(aE 0), (.s []), (aE 0), (aE 0)] h4) fun v5 h5 =>
 bnd (aG 4 v5 v4 h5) fun _ h6 =>
  q0 (env 0) (env 2) v5 h6 := by kernel_rfl
theorem bEu : (fun (env : aW) (h : Hp) =>
 bnd (aN (env 0) h) fun v1 h1 =>
 bnd (aB 1 v1 h1) fun v2 h2 =>
 bnd (aA v2 h2) fun v3 h3 =>
 bnd (bC [(aE 0), (.s []), (aE 0), (aE 0)] [(3, 1, v3)] h3) fun v4 h4 =>
 bnd (bL [(aE 0), (.s []), (aE 0), (aE 0)] h4) fun v5 h5 =>
 bnd (aG 4 v5 v4 h5) fun _ h6 =>
  uT r n (env 0) (env 2) v5 h6) = (K2 (qW r n) 0 2) := by kernel_rfl
theorem cMk : D132 r n aFg x0 r132 = (K2 (qW r n) 0 2) :=
 (bWz r n).trans
 ((bMx r n (uT r n)).trans (bEu r n))
theorem cTz : D132 r n c132 x0 r132 = D132 r n aCs x0 (K2 (qW r n) 0 2) :=
 congrArg (fun k => D132 r n aCs x0 k) (cMk r n)
theorem cTd (q0 : oL) : D132 r n aCs x0 (K2 q0 0 2) = fun (env : aW) (h : Hp) =>
 bnd (bL [(aE 0), (.s []), (aE 0), (aE 0)] h) fun v1 h1 =>
  q0 (env 0) v1 h1 := by kernel_rfl
theorem cEi : (fun (env : aW) (h : Hp) =>
 bnd (bL [(aE 0), (.s []), (aE 0), (aE 0)] h) fun v1 h1 =>
  qW r n (env 0) v1 h1) = (K1 (s132 r n) 0) := by kernel_rfl
theorem dGk : D132 r n c132 x0 r132 = (K1 (s132 r n) 0) :=
 (cTz r n).trans
 ((cTd r n (qW r n)).trans (cEi r n))
theorem cVz : aF CF r n 132 args h = s132 r n (aT args 0) h :=
 (by kernel_rfl : aF CF r n 132 args h = D132 r n c132 x0 r132 (aI args) h).trans ((congrFun (congrFun (dGk r n) (aI args)) h).trans (by kernel_rfl))
noncomputable def s133 (r : RT) (n : Nat) (x0 x1 x2 : DV) (h0 : Hp) : aH :=
 bnd (r 137 [x0, (aE 0)] h0) fun v1 h1 =>
 bnd (bL [(aE 0), (.s []), (aE 0), (aE 0)] h1) fun v2 h2 =>
 bnd (aG 4 v2 v1 h2) fun _ h3 =>
 bnd (aN x0 h3) fun v4 h4 =>
 bnd (aB 3 v4 h4) fun v5 h5 =>
 bnd (aA v5 h5) fun v6 h6 =>
 bnd (aD .eql v6 (aE 0) h6) fun v7 h7 =>
 bnd (gD v7 true (aB 0 v2 h7) h7) fun v8 h8 =>
 bnd (gD v7 true (aA v8 h8) h8) fun v9 h9 =>
 bnd (gD v7 true (some (x1, h9)) h9) fun v10 h10 =>
 bnd (gD v7 true (aD .eql v9 v10 h10) h10) fun v11 h11 =>
 bnd (aP v7 v11 (.b false) h11) fun v12 h12 =>
 bnd (gD v12 true (some (x2, h12)) h12) fun v13 h13 =>
 bnd (gD v12 true (eG .eql v13 (.s []) h13) h13) fun v14 h14 =>
 bnd (gD v12 true (some (v14, h14)) h14) fun v15 h15 =>
 bnd (gD v15 false (aB 1 v2 h15) h15) fun v16 h16 =>
 bnd (gD v15 false (aA v16 h16) h16) fun v17 h17 =>
 bnd (gD v15 false (some (x2, h17)) h17) fun v18 h18 =>
 bnd (gD v15 false (eG .eql v17 v18 h18) h18) fun v19 h19 =>
 bnd (gD v12 true (aP v15 (.b true) v19 h19) h19) fun v20 h20 =>
 bnd (aP v12 v20 (.b false) h20) fun v21 h21 =>
 some (v21, h21)
noncomputable abbrev c133 : Code := cf Tryz.f133
noncomputable abbrev r133 : K := aQ CF Tryz.f133
noncomputable def D133 (r : RT) (n : Nat) (c : Code) (X : Nat → K) (k : K) : K := aM CF r 31 n c X r133 k
theorem dEc : D133 r n c133 x0 r133 = (K3 (s133 r n) 0 1 2) :=
 (by kernel_rfl)
theorem cTl : aF CF r n 133 args h = s133 r n (aT args 0) (aT args 1) (aT args 2) h :=
 (by kernel_rfl : aF CF r n 133 args h = D133 r n c133 x0 r133 (aI args) h).trans ((congrFun (congrFun (dEc r n) (aI args)) h).trans (by kernel_rfl))
noncomputable def aDj (r : RT) (n : Nat) (x2 x3 : DV) (h0 : Hp) : aH :=
 bnd (aK 4 x3 h0) fun v1 h1 =>
 bnd (aG 4 x2 v1 h1) fun _ h2 =>
 bnd (aK 4 x2 h2) fun v3 _ =>
 some (v3, h2)
noncomputable def vH (r : RT) (n : Nat) (x0 x2 x3 : DV) (h0 : Hp) : aH :=
 bnd (aB 0 x3 h0) fun v1 h1 =>
 bnd (aA v1 h1) fun v2 h2 =>
 bnd (aD .neq v2 (aE 0) h2) fun v3 h3 =>
 aS v3 (
 bnd (aN x0 h3) fun v4 h4 =>
 bnd (aB 0 v4 h4) fun v5 h5 =>
 bnd (aA v5 h5) fun v6 h6 =>
 bnd (cS 4 v6 (some (aE 1)) none h6) fun v7 h7 =>
 bnd (aN x0 h7) fun v8 h8 =>
 bnd (aB 0 v8 h8) fun v9 h9 =>
 bnd (aG 1 v9 v7 h9) fun _ h10 =>
  aDj r n x2 x3 h10) (
  aDj r n x2 x3 h3)
noncomputable def qR (r : RT) (n : Nat) (x0 x2 : DV) (h0 : Hp) : aH :=
 bnd (r 137 [x0, (aE 0)] h0) fun v1 h1 =>
 bnd (bL [(aE 0), (.s []), (aE 0), (aE 0)] h1) fun v2 h2 =>
 bnd (aG 4 v2 v1 h2) fun _ h3 =>
  vH r n x0 x2 v2 h3
noncomputable def s134 (r : RT) (n : Nat) (x0 : DV) (h0 : Hp) : aH :=
 bnd (bL [(aE 0), (.s []), (aE 0), (aE 0)] h0) fun v1 h1 =>
  qR r n x0 v1 h1
noncomputable abbrev c134 : Code := cf Tryz.f134
noncomputable abbrev aHz : Code := cR c134
noncomputable abbrev aFc : Code := cR aHz
noncomputable abbrev cYb : Code := cR aFc
noncomputable abbrev bTa : Code := cL aFc
noncomputable abbrev aPx : Code := cL aHz
noncomputable abbrev aTt : Code := cL c134
noncomputable abbrev r134 : K := aQ CF Tryz.f134
noncomputable def D134 (r : RT) (n : Nat) (c : Code) (X : Nat → K) (k : K) : K := aM CF r 18 n c X r134 k
theorem cHf : D134 r n cYb x0 r134 = (K2 (aDj r n) 2 3) :=
 (by kernel_rfl)
theorem bWm : D134 r n aFc x0 r134 = D134 r n bTa x0 (K2 (aDj r n) 2 3) :=
 congrArg (fun k => D134 r n bTa x0 k) (cHf r n)
theorem cPn : D134 r n aFc x0 r134 = (K3 (vH r n) 0 2 3) :=
 (bWm r n).trans
 ((by kernel_rfl))
theorem bHv : D134 r n aHz x0 r134 = D134 r n aPx x0 (K3 (vH r n) 0 2 3) :=
 congrArg (fun k => D134 r n aPx x0 k) (cPn r n)
theorem bGu (q0 : mL) : D134 r n aPx x0 (K3 q0 0 2 3) = fun (env : aW) (h : Hp) =>
 bnd (r 137 [(env 0), (aE 0)] h) fun v1 h1 =>
 bnd (bL [(aE 0), (.s []), (aE 0), (aE 0)] h1) fun v2 h2 =>
 bnd (aG 4 v2 v1 h2) fun _ h3 =>
  q0 (env 0) (env 2) v2 h3 := by kernel_rfl
theorem bFx : (fun (env : aW) (h : Hp) =>
 bnd (r 137 [(env 0), (aE 0)] h) fun v1 h1 =>
 bnd (bL [(aE 0), (.s []), (aE 0), (aE 0)] h1) fun v2 h2 =>
 bnd (aG 4 v2 v1 h2) fun _ h3 =>
  vH r n (env 0) (env 2) v2 h3) = (K2 (qR r n) 0 2) := by kernel_rfl
theorem cLc : D134 r n aHz x0 r134 = (K2 (qR r n) 0 2) :=
 (bHv r n).trans
 ((bGu r n (vH r n)).trans (bFx r n))
theorem cZa : D134 r n c134 x0 r134 = D134 r n aTt x0 (K2 (qR r n) 0 2) :=
 congrArg (fun k => D134 r n aTt x0 k) (cLc r n)
theorem cXo (q0 : oL) : D134 r n aTt x0 (K2 q0 0 2) = fun (env : aW) (h : Hp) =>
 bnd (bL [(aE 0), (.s []), (aE 0), (aE 0)] h) fun v1 h1 =>
  q0 (env 0) v1 h1 := by kernel_rfl
theorem cLd : (fun (env : aW) (h : Hp) =>
 bnd (bL [(aE 0), (.s []), (aE 0), (aE 0)] h) fun v1 h1 =>
  qR r n (env 0) v1 h1) = (K1 (s134 r n) 0) := by kernel_rfl
theorem dKo : D134 r n c134 x0 r134 = (K1 (s134 r n) 0) :=
 (cZa r n).trans
 ((cXo r n (qR r n)).trans (cLd r n))
theorem dBg : aF CF r n 134 args h = s134 r n (aT args 0) h :=
 (by kernel_rfl : aF CF r n 134 args h = D134 r n c134 x0 r134 (aI args) h).trans ((congrFun (congrFun (dKo r n) (aI args)) h).trans (by kernel_rfl))
noncomputable def s135 (r : RT) (n : Nat) (x0 : DV) (h0 : Hp) : aH :=
 bnd (bL jY h0) fun v1 h1 =>
 bnd (r 133 [x0, (aE 1), (.s [])] h1) fun v2 h2 =>
 bnd (gD v2 true (some (x0, h2)) h2) fun v3 h3 =>
 bnd (gD v2 true (r 137 [v3, (aE 1)] h3) h3) fun v4 h4 =>
 bnd (gD v2 true (fJ 0 v4 h4) h4) fun v5 h5 =>
 bnd (gD v2 true (aD .eql v5 (aE 9) h5) h5) fun v6 h6 =>
 bnd (aP v2 v6 (.b false) h6) fun v7 h7 =>
 aS v7 (
 bnd (r 134 [x0] h7) fun v8 h8 =>
 bnd (fJ 1 v8 h8) fun v9 h9 =>
 bnd (bC jY [(0, 1, (aE 6)), (1, 1, v9)] h9) fun v10 h10 =>
 bnd (bL jY h10) fun v11 h11 =>
 bnd (aG 6 v11 v10 h11) fun _ h12 =>
 bnd (r 134 [x0] h12) fun v13 h13 =>
 bnd (r 135 [x0] h13) fun v14 h14 =>
 bnd (aL jY 1 [(0, 6, v14)] h14) fun v15 h15 =>
 bnd (aB 5 v11 h15) fun v16 h16 =>
 bnd (aG 1 v16 v15 h16) fun _ h17 =>
 bnd (aK 6 v11 h17) fun v18 h18 =>
 bnd (aG 6 v1 v18 h18) fun _ h19 =>
 bnd (aK 6 v1 h19) fun v20 _ =>
 some (v20, h19)) (
 bnd (r 155 [x0] h7) fun v21 h21 =>
 bnd (aG 6 v1 v21 h21) fun _ h22 =>
 bnd (aK 6 v1 h22) fun v23 _ =>
 some (v23, h22))
noncomputable abbrev c135 : Code := cf Tryz.f135
noncomputable abbrev r135 : K := aQ CF Tryz.f135
noncomputable def D135 (r : RT) (n : Nat) (c : Code) (X : Nat → K) (k : K) : K := aM CF r 25 n c X r135 k
theorem dJn : D135 r n c135 x0 r135 = (K1 (s135 r n) 0) :=
 (by kernel_rfl)
theorem dBp : aF CF r n 135 args h = s135 r n (aT args 0) h :=
 (by kernel_rfl : aF CF r n 135 args h = D135 r n c135 x0 r135 (aI args) h).trans ((congrFun (congrFun (dJn r n) (aI args)) h).trans (by kernel_rfl))
noncomputable def s137 (r : RT) (n : Nat) (x0 x1 : DV) (h0 : Hp) : aH :=
 bnd (bL [(aE 0), (.s []), (aE 0), (aE 0)] h0) fun v1 h1 =>
 bnd (aN x0 h1) fun v2 h2 =>
 bnd (aB 0 v2 h2) fun v3 h3 =>
 bnd (aA v3 h3) fun v4 h4 =>
 bnd (aN x0 h4) fun v5 h5 =>
 bnd (aB 0 v5 h5) fun v6 h6 =>
 bnd (aA v6 h6) fun v7 h7 =>
 bnd (bX v7 h7) fun v8 h8 =>
 bnd (aD .sub v8 (aE 1) h8) fun v9 h9 =>
 bnd (aTg x1 v9 h9) fun v10 h10 =>
 bnd (aJ 4 v4 v10 h10) fun v11 h11 =>
 bnd (aK 4 v11 h11) fun v12 h12 =>
 bnd (aG 4 v1 v12 h12) fun v13 h13 =>
 bnd (aK 4 v1 h13) fun v14 _ =>
 some (v14, h13)
noncomputable abbrev c137 : Code := cf Tryz.f137
noncomputable abbrev r137 : K := aQ CF Tryz.f137
noncomputable def D137 (r : RT) (n : Nat) (c : Code) (X : Nat → K) (k : K) : K := aM CF r 19 n c X r137 k
theorem dHc : D137 r n c137 x0 r137 = (K2 (s137 r n) 0 1) :=
 (by kernel_rfl)
theorem cUc : aF CF r n 137 args h = s137 r n (aT args 0) (aT args 1) h :=
 (by kernel_rfl : aF CF r n 137 args h = D137 r n c137 x0 r137 (aI args) h).trans ((congrFun (congrFun (dHc r n) (aI args)) h).trans (by kernel_rfl))
noncomputable def aCa (r : RT) (n : Nat) (x7 : DV) (h0 : Hp) : aH :=
 bnd (aB 1 x7 h0) fun v1 h1 =>
 bnd (aA v1 h1) fun v2 h2 =>
 some (v2, h2)
noncomputable def xO (r : RT) (n : Nat) (x0 x2 x7 : DV) (h0 : Hp) : aH :=
 bnd (bX x2 h0) fun v1 h1 =>
 bnd (aD .eql v1 (aE 4) h1) fun v2 h2 =>
 aS v2 (
 bnd (aK 4 x7 h2) fun v3 h3 =>
 bnd (r 136 [x0, v3, (aE 18)] h3) fun v4 h4 =>
  aCa r n x7 h4) (
  aCa r n x7 h2)
noncomputable def aDs (r : RT) (n : Nat) (x0 x1 x2 : DV) (h0 : Hp) : aH :=
 bnd (r 120 [x0, x1, (.s [])] h0) fun v1 h1 =>
 bnd (bL [(aE 0), (.s []), (aE 0), (aE 0)] h1) fun v2 h2 =>
 bnd (aG 4 v2 v1 h2) fun _ h3 =>
  xO r n x0 x2 v2 h3
noncomputable def s138 (r : RT) (n : Nat) (x0 x1 x2 : DV) (h0 : Hp) : aH :=
 aDs r n x0 x1 x2 h0
noncomputable abbrev c138 : Code := cf Tryz.f138
noncomputable abbrev aDx : Code := cR c138
noncomputable abbrev aEg : Code := cR aDx
noncomputable abbrev cWz : Code := cR aEg
noncomputable abbrev bQe : Code := cL aEg
noncomputable abbrev aPq : Code := cL aDx
noncomputable abbrev bRm : Code := cL c138
noncomputable abbrev r138 : K := aQ CF Tryz.f138
noncomputable def D138 (r : RT) (n : Nat) (c : Code) (X : Nat → K) (k : K) : K := aM CF r 19 n c X r138 k
theorem cPj : D138 r n cWz x0 r138 = (K1 (aCa r n) 7) :=
 (by kernel_rfl)
theorem bIe : D138 r n aEg x0 r138 = D138 r n bQe x0 (K1 (aCa r n) 7) :=
 congrArg (fun k => D138 r n bQe x0 k) (cPj r n)
theorem cGz : D138 r n aEg x0 r138 = (K3 (xO r n) 0 2 7) :=
 (bIe r n).trans
 ((by kernel_rfl))
theorem bKg : D138 r n aDx x0 r138 = D138 r n aPq x0 (K3 (xO r n) 0 2 7) :=
 congrArg (fun k => D138 r n aPq x0 k) (cGz r n)
theorem bUp (q0 : mL) : D138 r n aPq x0 (K3 q0 0 2 7) = fun (env : aW) (h : Hp) =>
 bnd (r 120 [(env 0), (env 1), (.s [])] h) fun v1 h1 =>
 bnd (bL [(aE 0), (.s []), (aE 0), (aE 0)] h1) fun v2 h2 =>
 bnd (aG 4 v2 v1 h2) fun _ h3 =>
  q0 (env 0) (env 2) v2 h3 := by kernel_rfl
theorem bDo : (fun (env : aW) (h : Hp) =>
 bnd (r 120 [(env 0), (env 1), (.s [])] h) fun v1 h1 =>
 bnd (bL [(aE 0), (.s []), (aE 0), (aE 0)] h1) fun v2 h2 =>
 bnd (aG 4 v2 v1 h2) fun _ h3 =>
  xO r n (env 0) (env 2) v2 h3) = (K3 (aDs r n) 0 1 2) := by kernel_rfl
theorem cHv : D138 r n aDx x0 r138 = (K3 (aDs r n) 0 1 2) :=
 (bKg r n).trans
 ((bUp r n (xO r n)).trans (bDo r n))
theorem cUa : D138 r n c138 x0 r138 = D138 r n bRm x0 (K3 (aDs r n) 0 1 2) :=
 congrArg (fun k => D138 r n bRm x0 k) (cHv r n)
theorem dHj : D138 r n c138 x0 r138 = (K3 (s138 r n) 0 1 2) :=
 (cUa r n).trans
 ((by kernel_rfl))
theorem cVr : aF CF r n 138 args h = s138 r n (aT args 0) (aT args 1) (aT args 2) h :=
 (by kernel_rfl : aF CF r n 138 args h = D138 r n c138 x0 r138 (aI args) h).trans ((congrFun (congrFun (dHj r n) (aI args)) h).trans (by kernel_rfl))
noncomputable def dC (r : RT) (n : Nat) (kk2 : cD) (x0 x2 x10 x11 x12 : DV) (h0 : Hp) : aH :=
 bnd (aD .add x12 (aE 1) h0) fun v1 h1 =>
  kk2 x0 x2 x10 x11 v1 h1
noncomputable def xF (r : RT) (n : Nat) (kk2 : cD) (x0 x2 x7 x10 x11 x12 : DV) (h0 : Hp) : aH :=
 bnd (aN x0 h0) fun v1 h1 =>
 bnd (aB 8 v1 h1) fun v2 h2 =>
 bnd (aA v2 h2) fun v3 h3 =>
 bnd (aD .neq v3 (aE 0) h3) fun v4 h4 =>
 aS v4 (
 some (.t [], h4)) (
 bnd (aN x0 (resv 1 h4)) fun v5 h5 =>
 bnd (aB 6 v5 h5) fun v6 h6 =>
 bnd (aA v6 h6) fun v7 h7 =>
 bnd (aN x0 h7) fun v8 h8 =>
 bnd (aB 0 v8 h8) fun v9 h9 =>
 bnd (aB 2 v9 h9) fun v10 h10 =>
 bnd (aA v10 h10) fun v11 h11 =>
 bnd (bC [(.s []), (.b false), (.b false), (aE 0)] [(0, 1, x7), (1, 1, (.b false)), (2, 1, x2), (3, 1, v11)] h11) fun v12 h12 =>
 bnd (bK (bW 0 h4.next) [(.s []), (.b false), (.b false), (aE 0)] 1 [(0, 4, v12)] h12) fun v13 h13 =>
 bnd (bA 4 32 v7 v13 h13) fun v14 h14 =>
 bnd (aN x0 h14) fun v15 h15 =>
 bnd (aB 6 v15 h15) fun v16 h16 =>
 bnd (aG 1 v16 v14 h16) fun v17 h17 =>
 bnd (aN x0 h17) fun v18 h18 =>
 bnd (aB 0 v18 h18) fun v19 h19 =>
 bnd (aB 2 v19 h19) fun v20 h20 =>
 bnd (aA v20 h20) fun v21 h21 =>
 bnd (aD .add v21 (aE 1) h21) fun v22 h22 =>
 bnd (aN x0 h22) fun v23 h23 =>
 bnd (aB 0 v23 h23) fun v24 h24 =>
 bnd (aB 2 v24 h24) fun v25 h25 =>
 bnd (aG 1 v25 v22 h25) fun _ h26 =>
  dC r n kk2 x0 x2 x10 x11 x12 h26)
noncomputable def oD (r : RT) (n : Nat) (kk2 : cD) (x0 x2 x7 x10 x11 x12 : DV) (h0 : Hp) : aH :=
 bnd (aN x0 h0) fun v1 h1 =>
 bnd (aB 0 v1 h1) fun v2 h2 =>
 bnd (aB 2 v2 h2) fun v3 h3 =>
 bnd (aA v3 h3) fun v4 h4 =>
 bnd (aD .eql v4 (aE 24) h4) fun v5 h5 =>
 aS v5 (
 bnd (r 158 [x0, x7, (aE 18)] h5) fun v6 h6 =>
  xF r n kk2 x0 x2 x7 x10 x11 x12 h6) (
  xF r n kk2 x0 x2 x7 x10 x11 x12 h5)
noncomputable def aBx (r : RT) (n : Nat) (kk2 : cD) (x0 x2 x7 x10 x11 x12 : DV) (h0 : Hp) : aH :=
 bnd (r 156 [x0, x7] h0) fun v1 h1 =>
 bnd (aC 0 v1 h1) fun v2 h2 =>
 bnd (aC 1 v1 h2) fun v3 h3 =>
 bnd (bL [(.s []), (.b false), (.b false), (aE 0)] h3) fun v4 h4 =>
 bnd (aG 4 v4 v2 h4) fun _ h5 =>
 bnd (gD v3 false (some (x7, h5)) h5) fun v6 h6 =>
 bnd (gD v3 false (r 157 [v6] h6) h6) fun v7 h7 =>
 bnd (aP v3 (.b true) v7 h7) fun v8 h8 =>
 aS v8 (
 bnd (r 158 [x0, x7, (aE 16)] h8) fun v9 h9 =>
  oD r n kk2 x0 x2 x7 x10 x11 x12 h9) (
  oD r n kk2 x0 x2 x7 x10 x11 x12 h8)
noncomputable def aQk (r : RT) (n : Nat) (kk2 : cD) (x0 x2 x10 x11 x12 : DV) (h0 : Hp) : aH :=
 bnd (aJ 1 x10 x12 h0) fun v1 h1 =>
 bnd (aA v1 h1) fun v2 h2 =>
  aBx r n kk2 x0 x2 v2 x10 x11 x12 h2
noncomputable def aPw (r : RT) (n : Nat) (kk2 : cD) (x0 x2 x10 x11 x12 x13 : DV) (h0 : Hp) : aH :=
 aS x13 (
  aQk r n kk2 x0 x2 x10 x11 x12 h0) (
 some (.t [], h0))
noncomputable def aVm (r : RT) (n : Nat) (kk2 : cD) (x0 x2 x10 x11 x12 : DV) (h0 : Hp) : aH :=
 bnd (aD .lss x12 x11 h0) fun v1 h1 =>
  aPw r n kk2 x0 x2 x10 x11 x12 v1 h1
noncomputable def sI (r : RT) (n : Nat) (m : Nat) : cD :=
 Nat.rec (motive := fun _ => cD) (fun _ _ _ _ _ _ => none) (fun _ ih => aVm r n ih) m
noncomputable def bIt (r : RT) (n : Nat) : cD := sI r n n
noncomputable def aOd (r : RT) (n : Nat) (x0 x2 x10 x11 x12 : DV) (h0 : Hp) : aH :=
 bIt r n x0 x2 x10 x11 x12 h0
noncomputable def s139 (r : RT) (n : Nat) (x0 x1 x2 : DV) (h0 : Hp) : aH :=
 bnd (bX x1 h0) fun v1 h1 =>
  aOd r n x0 x2 x1 v1 (aE 0) h1
noncomputable abbrev c139 : Code := cf Tryz.f139
noncomputable abbrev aPu : Code := cR c139
noncomputable abbrev aFi : Code := cL aPu
noncomputable abbrev jV : Code := cL aFi
noncomputable abbrev aIn : Code := cR jV
noncomputable abbrev aEo : Code := cR aIn
noncomputable abbrev dDl : Code := cR aEo
noncomputable abbrev aCf : Code := cL aEo
noncomputable abbrev aIz : Code := cL aCf
noncomputable abbrev aDr : Code := cR aIz
noncomputable abbrev sP : Code := cR aDr
noncomputable abbrev aZq : Code := cR sP
noncomputable abbrev aZk : Code := cL sP
noncomputable abbrev aFz : Code := cL aDr
noncomputable abbrev bAt : Code := cL aIz
noncomputable abbrev bAo : Code := cL aIn
noncomputable abbrev aVe : Code := cL jV
noncomputable abbrev aYl : Code := cL c139
noncomputable abbrev r139 : K := aQ CF Tryz.f139
noncomputable def D139 (r : RT) (n : Nat) (c : Code) (X : Nat → K) (k : K) : K := aM CF r 71 n c X r139 k
theorem cCt (kk2 : cD) : D139 r n dDl (xs x0 0 r139) (K5 kk2 0 2 10 11 12) = (K5 (dC r n kk2) 0 2 10 11 12) :=
 (by kernel_rfl)
theorem bSu (kk2 : cD) (q0 : cD) : D139 r n aZq (xs (xs x0 0 r139) 1 (K5 q0 0 2 10 11 12)) (K5 q0 0 2 10 11 12) = fun (env : aW) (h : Hp) =>
 bnd (aN (env 0) h) fun v1 h1 =>
 bnd (aB 8 v1 h1) fun v2 h2 =>
 bnd (aA v2 h2) fun v3 h3 =>
 bnd (aD .neq v3 (aE 0) h3) fun v4 h4 =>
 aS v4 (
 some (.t [], h4)) (
 bnd (aN (env 0) (resv 1 h4)) fun v5 h5 =>
 bnd (aB 6 v5 h5) fun v6 h6 =>
 bnd (aA v6 h6) fun v7 h7 =>
 bnd (aN (env 0) h7) fun v8 h8 =>
 bnd (aB 0 v8 h8) fun v9 h9 =>
 bnd (aB 2 v9 h9) fun v10 h10 =>
 bnd (aA v10 h10) fun v11 h11 =>
 bnd (bC [(.s []), (.b false), (.b false), (aE 0)] [(0, 1, (env 7)), (1, 1, (.b false)), (2, 1, (env 2)), (3, 1, v11)] h11) fun v12 h12 =>
 bnd (bK (bW 0 h4.next) [(.s []), (.b false), (.b false), (aE 0)] 1 [(0, 4, v12)] h12) fun v13 h13 =>
 bnd (bA 4 32 v7 v13 h13) fun v14 h14 =>
 bnd (aN (env 0) h14) fun v15 h15 =>
 bnd (aB 6 v15 h15) fun v16 h16 =>
 bnd (aG 1 v16 v14 h16) fun v17 h17 =>
 bnd (aN (env 0) h17) fun v18 h18 =>
 bnd (aB 0 v18 h18) fun v19 h19 =>
 bnd (aB 2 v19 h19) fun v20 h20 =>
 bnd (aA v20 h20) fun v21 h21 =>
 bnd (aD .add v21 (aE 1) h21) fun v22 h22 =>
 bnd (aN (env 0) h22) fun v23 h23 =>
 bnd (aB 0 v23 h23) fun v24 h24 =>
 bnd (aB 2 v24 h24) fun v25 h25 =>
 bnd (aG 1 v25 v22 h25) fun _ h26 =>
      q0 (env 0) (env 2) (env 10) (env 11) (env 12) h26) := by kernel_rfl
theorem bEk (kk2 : cD) : (fun (env : aW) (h : Hp) =>
 bnd (aN (env 0) h) fun v1 h1 =>
 bnd (aB 8 v1 h1) fun v2 h2 =>
 bnd (aA v2 h2) fun v3 h3 =>
 bnd (aD .neq v3 (aE 0) h3) fun v4 h4 =>
 aS v4 (
 some (.t [], h4)) (
 bnd (aN (env 0) (resv 1 h4)) fun v5 h5 =>
 bnd (aB 6 v5 h5) fun v6 h6 =>
 bnd (aA v6 h6) fun v7 h7 =>
 bnd (aN (env 0) h7) fun v8 h8 =>
 bnd (aB 0 v8 h8) fun v9 h9 =>
 bnd (aB 2 v9 h9) fun v10 h10 =>
 bnd (aA v10 h10) fun v11 h11 =>
 bnd (bC [(.s []), (.b false), (.b false), (aE 0)] [(0, 1, (env 7)), (1, 1, (.b false)), (2, 1, (env 2)), (3, 1, v11)] h11) fun v12 h12 =>
 bnd (bK (bW 0 h4.next) [(.s []), (.b false), (.b false), (aE 0)] 1 [(0, 4, v12)] h12) fun v13 h13 =>
 bnd (bA 4 32 v7 v13 h13) fun v14 h14 =>
 bnd (aN (env 0) h14) fun v15 h15 =>
 bnd (aB 6 v15 h15) fun v16 h16 =>
 bnd (aG 1 v16 v14 h16) fun v17 h17 =>
 bnd (aN (env 0) h17) fun v18 h18 =>
 bnd (aB 0 v18 h18) fun v19 h19 =>
 bnd (aB 2 v19 h19) fun v20 h20 =>
 bnd (aA v20 h20) fun v21 h21 =>
 bnd (aD .add v21 (aE 1) h21) fun v22 h22 =>
 bnd (aN (env 0) h22) fun v23 h23 =>
 bnd (aB 0 v23 h23) fun v24 h24 =>
 bnd (aB 2 v24 h24) fun v25 h25 =>
 bnd (aG 1 v25 v22 h25) fun _ h26 =>
      dC r n kk2 (env 0) (env 2) (env 10) (env 11) (env 12) h26)) = (K6 (xF r n kk2) 0 2 7 10 11 12) := by kernel_rfl
theorem cDt (kk2 : cD) : D139 r n aZq (xs (xs x0 0 r139) 1 (K5 (dC r n kk2) 0 2 10 11 12)) (K5 (dC r n kk2) 0 2 10 11 12) = (K6 (xF r n kk2) 0 2 7 10 11 12) :=
 (bSu r n kk2 (dC r n kk2)).trans (bEk r n kk2)
theorem bOb (kk2 : cD) : D139 r n sP (xs (xs x0 0 r139) 1 (K5 (dC r n kk2) 0 2 10 11 12)) (K5 (dC r n kk2) 0 2 10 11 12) = D139 r n aZk (xs (xs x0 0 r139) 1 (K5 (dC r n kk2) 0 2 10 11 12)) (K6 (xF r n kk2) 0 2 7 10 11 12) :=
 congrArg (fun k => D139 r n aZk (xs (xs x0 0 r139) 1 (K5 (dC r n kk2) 0 2 10 11 12)) k) (cDt r n kk2)
theorem cKh (kk2 : cD) : D139 r n sP (xs (xs x0 0 r139) 1 (K5 (dC r n kk2) 0 2 10 11 12)) (K5 (dC r n kk2) 0 2 10 11 12) = (K6 (oD r n kk2) 0 2 7 10 11 12) :=
 (bOb r n kk2).trans
 ((by kernel_rfl))
theorem bVj (kk2 : cD) : D139 r n aDr (xs (xs x0 0 r139) 1 (K5 (dC r n kk2) 0 2 10 11 12)) (K5 (dC r n kk2) 0 2 10 11 12) = D139 r n aFz (xs (xs x0 0 r139) 1 (K5 (dC r n kk2) 0 2 10 11 12)) (K6 (oD r n kk2) 0 2 7 10 11 12) :=
 congrArg (fun k => D139 r n aFz (xs (xs x0 0 r139) 1 (K5 (dC r n kk2) 0 2 10 11 12)) k) (cKh r n kk2)
theorem bRk (kk2 : cD) (q0 : fE) (q1 : cD) : D139 r n aFz (xs (xs x0 0 r139) 1 (K5 q1 0 2 10 11 12)) (K6 q0 0 2 7 10 11 12) = fun (env : aW) (h : Hp) =>
 bnd (r 156 [(env 0), (env 7)] h) fun v1 h1 =>
 bnd (aC 0 v1 h1) fun v2 h2 =>
 bnd (aC 1 v1 h2) fun v3 h3 =>
 bnd (bL [(.s []), (.b false), (.b false), (aE 0)] h3) fun v4 h4 =>
 bnd (aG 4 v4 v2 h4) fun _ h5 =>
 bnd (gD v3 false (some ((env 7), h5)) h5) fun v6 h6 =>
 bnd (gD v3 false (r 157 [v6] h6) h6) fun v7 h7 =>
 bnd (aP v3 (.b true) v7 h7) fun v8 h8 =>
 aS v8 (
 bnd (r 158 [(env 0), (env 7), (aE 16)] h8) fun v9 h9 =>
      q0 (env 0) (env 2) (env 7) (env 10) (env 11) (env 12) h9) (
      q0 (env 0) (env 2) (env 7) (env 10) (env 11) (env 12) h8) := by kernel_rfl
theorem bCi (kk2 : cD) : (fun (env : aW) (h : Hp) =>
 bnd (r 156 [(env 0), (env 7)] h) fun v1 h1 =>
 bnd (aC 0 v1 h1) fun v2 h2 =>
 bnd (aC 1 v1 h2) fun v3 h3 =>
 bnd (bL [(.s []), (.b false), (.b false), (aE 0)] h3) fun v4 h4 =>
 bnd (aG 4 v4 v2 h4) fun _ h5 =>
 bnd (gD v3 false (some ((env 7), h5)) h5) fun v6 h6 =>
 bnd (gD v3 false (r 157 [v6] h6) h6) fun v7 h7 =>
 bnd (aP v3 (.b true) v7 h7) fun v8 h8 =>
 aS v8 (
 bnd (r 158 [(env 0), (env 7), (aE 16)] h8) fun v9 h9 =>
      oD r n kk2 (env 0) (env 2) (env 7) (env 10) (env 11) (env 12) h9) (
      oD r n kk2 (env 0) (env 2) (env 7) (env 10) (env 11) (env 12) h8)) = (K6 (aBx r n kk2) 0 2 7 10 11 12) := by kernel_rfl
theorem cOu (kk2 : cD) : D139 r n aDr (xs (xs x0 0 r139) 1 (K5 (dC r n kk2) 0 2 10 11 12)) (K5 (dC r n kk2) 0 2 10 11 12) = (K6 (aBx r n kk2) 0 2 7 10 11 12) :=
 (bVj r n kk2).trans
 ((bRk r n kk2 (oD r n kk2) (dC r n kk2)).trans (bCi r n kk2))
theorem bPs (kk2 : cD) : D139 r n aEo (xs x0 0 r139) (K5 kk2 0 2 10 11 12) = D139 r n aCf (xs x0 0 r139) (K5 (dC r n kk2) 0 2 10 11 12) :=
 congrArg (fun k => D139 r n aCf (xs x0 0 r139) k) (cCt r n kk2)
theorem bSp (kk2 : cD) : D139 r n aIz (xs (xs x0 0 r139) 1 (K5 (dC r n kk2) 0 2 10 11 12)) (K5 (dC r n kk2) 0 2 10 11 12) = D139 r n bAt (xs (xs x0 0 r139) 1 (K5 (dC r n kk2) 0 2 10 11 12)) (K6 (aBx r n kk2) 0 2 7 10 11 12) :=
 congrArg (fun k => D139 r n bAt (xs (xs x0 0 r139) 1 (K5 (dC r n kk2) 0 2 10 11 12)) k) (cOu r n kk2)
theorem cQa (kk2 : cD) : D139 r n aEo (xs x0 0 r139) (K5 kk2 0 2 10 11 12) = (K5 (aQk r n kk2) 0 2 10 11 12) :=
 (bPs r n kk2).trans
 ((by kernel_rfl : D139 r n aCf (xs x0 0 r139) (K5 (dC r n kk2) 0 2 10 11 12) = D139 r n aIz (xs (xs x0 0 r139) 1 (K5 (dC r n kk2) 0 2 10 11 12)) (K5 (dC r n kk2) 0 2 10 11 12)).trans
 ((bSp r n kk2).trans
 ((by kernel_rfl))))
theorem bRz (kk2 : cD) : D139 r n aIn (xs x0 0 r139) (K5 kk2 0 2 10 11 12) = D139 r n bAo (xs x0 0 r139) (K5 (aQk r n kk2) 0 2 10 11 12) :=
 congrArg (fun k => D139 r n bAo (xs x0 0 r139) k) (cQa r n kk2)
theorem cFg (kk2 : cD) : D139 r n aIn (xs x0 0 r139) (K5 kk2 0 2 10 11 12) = (K6 (aPw r n kk2) 0 2 10 11 12 13) :=
 (bRz r n kk2).trans
 ((by kernel_rfl))
theorem bUq (kk2 : cD) : D139 r n jV (xs x0 0 r139) (K5 kk2 0 2 10 11 12) = D139 r n aVe (xs x0 0 r139) (K6 (aPw r n kk2) 0 2 10 11 12 13) :=
 congrArg (fun k => D139 r n aVe (xs x0 0 r139) k) (cFg r n kk2)
theorem bMi (kk2 : cD) : D139 r n jV (xs x0 0 r139) (K5 kk2 0 2 10 11 12) = (K5 (aVm r n kk2) 0 2 10 11 12) :=
 (bUq r n kk2).trans
 ((by kernel_rfl))
theorem bRj (m : Nat) : aO (fun kk => D139 r n jV (xs x0 0 r139) kk) m = (K5 (sI r n m) 0 2 10 11 12) := by
 induction m with
 | zero => exact (by kernel_rfl : aO (fun kk => D139 r n jV (xs x0 0 r139) kk) 0 = (K5 (sI r n 0) 0 2 10 11 12))
 | succ m ih =>
  refine (by kernel_rfl : aO (fun kk => D139 r n jV (xs x0 0 r139) kk) (m + 1) = D139 r n jV (xs x0 0 r139) (aO (fun kk => D139 r n jV (xs x0 0 r139) kk) m)).trans ?_
  rw [ih]
  exact (bMi r n (sI r n m)).trans (by kernel_rfl)
theorem cCo : D139 r n aFi (xs x0 0 r139) r139 = (K5 (bIt r n) 0 2 10 11 12) :=
 (by kernel_rfl : D139 r n aFi (xs x0 0 r139) r139 = aO (fun kk => D139 r n jV (xs x0 0 r139) kk) n).trans ((bRj r n n).trans (by kernel_rfl))
theorem cEc : D139 r n aPu x0 r139 = (K5 (aOd r n) 0 2 10 11 12) :=
 (by kernel_rfl : D139 r n aPu x0 r139 = D139 r n aFi (xs x0 0 r139) r139).trans
 ((cCo r n).trans (by kernel_rfl))
theorem cVh : D139 r n c139 x0 r139 = D139 r n aYl x0 (K5 (aOd r n) 0 2 10 11 12) :=
 congrArg (fun k => D139 r n aYl x0 k) (cEc r n)
theorem dEf : D139 r n c139 x0 r139 = (K3 (s139 r n) 0 1 2) :=
 (cVh r n).trans
 ((by kernel_rfl))
theorem dAu : aF CF r n 139 args h = s139 r n (aT args 0) (aT args 1) (aT args 2) h :=
 (by kernel_rfl : aF CF r n 139 args h = D139 r n c139 x0 r139 (aI args) h).trans ((congrFun (congrFun (dEf r n) (aI args)) h).trans (by kernel_rfl))
noncomputable def qI (r : RT) (n : Nat) (x0 x3 x11 x14 : DV) (h0 : Hp) : aH :=
 aS x14 (
 bnd (aK 6 x3 h0) fun v1 h1 =>
 bnd (r 160 [x0, v1] h1) fun v2 h2 =>
 bnd (lC [x0, v2] h2) fun v3 h3 =>
 bnd (r 141 [x0, (aE 6), v3, (aE 0)] h3) fun v4 h4 =>
 some (.t [], h4)) (
 bnd (aD .eql x11 (aE 5) h0) fun v5 h5 =>
 aS v5 (
 bnd (aB 1 x3 h5) fun v6 h6 =>
 bnd (aA v6 h6) fun v7 h7 =>
 bnd (r 161 [x0, v7] h7) fun v8 h8 =>
 some (.t [], h8)) (
 bnd (aD .eql x11 (aE 6) h5) fun v9 h9 =>
 aS v9 (
 bnd (aK 6 x3 h9) fun v10 h10 =>
 bnd (r 162 [x0, v10] h10) fun v11 h11 =>
 some (.t [], h11)) (
 bnd (aD .eql x11 (aE 7) h9) fun v12 h12 =>
 aS v12 (
 bnd (aK 6 x3 h12) fun v13 h13 =>
 bnd (r 163 [x0, v13] h13) fun v14 h14 =>
 some (.t [], h14)) (
 bnd (aD .eql x11 (aE 8) h12) fun v15 h15 =>
 aS v15 (
 bnd (aK 6 x3 h15) fun v16 h16 =>
 bnd (r 164 [x0, v16] h16) fun v17 h17 =>
 some (.t [], h17)) (
 bnd (aD .eql x11 (aE 9) h15) fun v18 h18 =>
 aS v18 (
 bnd (aN x0 h18) fun v19 h19 =>
 bnd (aB 0 v19 h19) fun v20 h20 =>
 bnd (aB 2 v20 h20) fun v21 h21 =>
 bnd (aA v21 h21) fun v22 h22 =>
 bnd (aB 3 x3 h22) fun v23 h23 =>
 bnd (aA v23 h23) fun v24 h24 =>
 bnd (bX v24 h24) fun v25 h25 =>
 bnd (r 141 [x0, (aE 18), v22, v25] h25) fun v26 h26 =>
 bnd (r 165 [x0, (aE 16)] h26) fun v27 h27 =>
 bnd (aK 6 x3 h27) fun v28 h28 =>
 bnd (r 166 [x0, v28] h28) fun v29 h29 =>
 bnd (r 141 [x0, (aE 19), (aE 0), (aE 0)] h29) fun v30 h30 =>
 bnd (cV CF r v27 [] h30) fun v31 h31 =>
 some (.t [], h31)) (
 bnd (aD .eql x11 (aE 10) h18) fun v32 h32 =>
 aS v32 (
 bnd (aK 6 x3 h32) fun v33 h33 =>
 bnd (r 167 [x0, v33] h33) fun v34 h34 =>
 aS v34 (
 bnd (aB 5 x3 h34) fun v35 h35 =>
 bnd (aA v35 h35) fun v36 h36 =>
 bnd (aJ 6 v36 (aE 0) h36) fun v37 h37 =>
 bnd (aK 6 v37 h37) fun v38 h38 =>
 bnd (r 140 [x0, v38] h38) fun v39 h39 =>
 bnd (r 141 [x0, (aE 20), (aE 0), (aE 0)] h39) fun v40 h40 =>
 some (.t [], h40)) (
 some (.t [], h34))) (
 bnd (r 158 [x0, (.s []), (aE 1)] h32) fun v41 h41 =>
 some (.t [], h41))))))))
noncomputable def aUa (r : RT) (n : Nat) (x0 x3 x11 : DV) (h0 : Hp) : aH :=
 bnd (aD .eql x11 (aE 1) h0) fun v1 h1 =>
 aS v1 (
  qI r n x0 x3 x11 v1 h1) (
 bnd (aD .eql x11 (aE 2) h1) fun v2 h2 =>
 aS v2 (
   qI r n x0 x3 x11 v2 h2) (
 bnd (aD .eql x11 (aE 3) h2) fun v3 h3 =>
 aS v3 (
    qI r n x0 x3 x11 v3 h3) (
 bnd (aD .eql x11 (aE 4) h3) fun v4 h4 =>
    qI r n x0 x3 x11 v4 h4)))
noncomputable def aRu (r : RT) (n : Nat) (x0 x3 : DV) (h0 : Hp) : aH :=
 bnd (aB 0 x3 h0) fun v1 h1 =>
 bnd (aA v1 h1) fun v2 h2 =>
  aUa r n x0 x3 v2 h2
noncomputable def vO (r : RT) (n : Nat) (x0 x3 : DV) (h0 : Hp) : aH :=
 bnd (aN x0 h0) fun v1 h1 =>
 bnd (aB 8 v1 h1) fun v2 h2 =>
 bnd (aA v2 h2) fun v3 h3 =>
 bnd (aD .neq v3 (aE 0) h3) fun v4 h4 =>
 aS v4 (
 some (.t [], h4)) (
  aRu r n x0 x3 h4)
noncomputable def s140 (r : RT) (n : Nat) (x0 x1 : DV) (h0 : Hp) : aH :=
 bnd (bQ x1 h0) fun v1 h1 =>
  vO r n x0 v1 h1
noncomputable abbrev c140 : Code := cf Tryz.f140
noncomputable abbrev aAr : Code := cR c140
noncomputable abbrev aBn : Code := cR aAr
noncomputable abbrev aOh : Code := cR aBn
noncomputable abbrev aBr : Code := cL aOh
noncomputable abbrev dAc : Code := cR aBr
noncomputable abbrev bMa : Code := cL aBr
noncomputable abbrev bJw : Code := cL aBn
noncomputable abbrev bTb : Code := cL aAr
noncomputable abbrev aOp : Code := cL c140
noncomputable abbrev r140 : K := aQ CF Tryz.f140
noncomputable def D140 (r : RT) (n : Nat) (c : Code) (X : Nat → K) (k : K) : K := aM CF r 81 n c X r140 k
theorem cFy : D140 r n dAc (xs x0 0 r140) r140 = (K4 (qI r n) 0 3 11 14) :=
 (by kernel_rfl)
theorem bVo : D140 r n aBr (xs x0 0 r140) r140 = D140 r n bMa (xs x0 0 r140) (K4 (qI r n) 0 3 11 14) :=
 congrArg (fun k => D140 r n bMa (xs x0 0 r140) k) (cFy r n)
theorem cLp : D140 r n aOh x0 r140 = (K3 (aUa r n) 0 3 11) :=
 (by kernel_rfl : D140 r n aOh x0 r140 = D140 r n aBr (xs x0 0 r140) r140).trans
 ((bVo r n).trans
 ((by kernel_rfl)))
theorem bKs : D140 r n aBn x0 r140 = D140 r n bJw x0 (K3 (aUa r n) 0 3 11) :=
 congrArg (fun k => D140 r n bJw x0 k) (cLp r n)
theorem cPa : D140 r n aBn x0 r140 = (K2 (aRu r n) 0 3) :=
 (bKs r n).trans
 ((by kernel_rfl))
theorem bVp : D140 r n aAr x0 r140 = D140 r n bTb x0 (K2 (aRu r n) 0 3) :=
 congrArg (fun k => D140 r n bTb x0 k) (cPa r n)
theorem cMj : D140 r n aAr x0 r140 = (K2 (vO r n) 0 3) :=
 (bVp r n).trans
 ((by kernel_rfl))
theorem cSs : D140 r n c140 x0 r140 = D140 r n aOp x0 (K2 (vO r n) 0 3) :=
 congrArg (fun k => D140 r n aOp x0 k) (cMj r n)
theorem dAn (q0 : oL) : D140 r n aOp x0 (K2 q0 0 3) = fun (env : aW) (h : Hp) =>
 bnd (bQ (env 1) h) fun v1 h1 =>
  q0 (env 0) v1 h1 := by kernel_rfl
theorem cKg : (fun (env : aW) (h : Hp) =>
 bnd (bQ (env 1) h) fun v1 h1 =>
  vO r n (env 0) v1 h1) = (K2 (s140 r n) 0 1) := by kernel_rfl
theorem dIx : D140 r n c140 x0 r140 = (K2 (s140 r n) 0 1) :=
 (cSs r n).trans
 ((dAn r n (vO r n)).trans (cKg r n))
theorem cZg : aF CF r n 140 args h = s140 r n (aT args 0) (aT args 1) h :=
 (by kernel_rfl : aF CF r n 140 args h = D140 r n c140 x0 r140 (aI args) h).trans ((congrFun (congrFun (dIx r n) (aI args)) h).trans (by kernel_rfl))
noncomputable def s141 (r : RT) (n : Nat) (x0 x1 x2 x3 : DV) (h0 : Hp) : aH :=
 bnd (aN x0 h0) fun v1 h1 =>
 bnd (aB 0 v1 h1) fun v2 h2 =>
 bnd (aB 5 v2 h2) fun v3 h3 =>
 bnd (aA v3 h3) fun v4 h4 =>
 bnd (bC [(aE 0), (aE 0), (aE 0)] [(0, 1, x1), (1, 1, x2), (2, 1, x3)] h4) fun v5 h5 =>
 bnd (aL [(aE 0), (aE 0), (aE 0)] 1 [(0, 3, v5)] h5) fun v6 h6 =>
 bnd (bA 3 24 v4 v6 h6) fun v7 h7 =>
 bnd (aN x0 h7) fun v8 h8 =>
 bnd (aB 0 v8 h8) fun v9 h9 =>
 bnd (aB 5 v9 h9) fun v10 h10 =>
 bnd (aG 1 v10 v7 h10) fun _ h11 =>
 some (.t [], h11)
noncomputable abbrev c141 : Code := cf Tryz.f141
noncomputable abbrev r141 : K := aQ CF Tryz.f141
noncomputable def D141 (r : RT) (n : Nat) (c : Code) (X : Nat → K) (k : K) : K := aM CF r 23 n c X r141 k
theorem dJx : D141 r n c141 x0 r141 = (K4 (s141 r n) 0 1 2 3) :=
 (by kernel_rfl)
theorem cXj : aF CF r n 141 args h = s141 r n (aT args 0) (aT args 1) (aT args 2) (aT args 3) h :=
 (by kernel_rfl : aF CF r n 141 args h = D141 r n c141 x0 r141 (aI args) h).trans ((congrFun (congrFun (dJx r n) (aI args)) h).trans (by kernel_rfl))
noncomputable def cG (r : RT) (n : Nat) (x2 x3 : DV) (h0 : Hp) : aH :=
 some (.t [x2, x3], h0)
noncomputable def cQ (r : RT) (n : Nat) (x3 : DV) (h0 : Hp) : aH :=
 cG r n (.b true) x3 h0
noncomputable def dN (r : RT) (n : Nat) (h0 : Hp) : aH :=
 cQ r n (.b true) h0
noncomputable def nY (r : RT) (n : Nat) (x2 x3 : DV) (h0 : Hp) : aH :=
 cG r n x2 x3 h0
noncomputable def lP (r : RT) (n : Nat) (x2 x3 x11 : DV) (h0 : Hp) : aH :=
 aS x11 (
  cQ r n x3 h0) (
  nY r n x2 x3 h0)
noncomputable def wM (r : RT) (n : Nat) (x2 x3 x4 : DV) (h0 : Hp) : aH :=
 bnd (aD .eql x4 (aE 6) h0) fun v1 h1 =>
 aS v1 (
  lP r n x2 x3 v1 h1) (
 bnd (aD .eql x4 (aE 7) h1) fun v2 h2 =>
 aS v2 (
   lP r n x2 x3 v2 h2) (
 bnd (aD .eql x4 (aE 8) h2) fun v3 h3 =>
 aS v3 (
    lP r n x2 x3 v3 h3) (
 bnd (aD .eql x4 (aE 9) h3) fun v4 h4 =>
 aS v4 (
     lP r n x2 x3 v4 h4) (
 bnd (aD .eql x4 (aE 10) h4) fun v5 h5 =>
 aS v5 (
      lP r n x2 x3 v5 h5) (
 bnd (aD .eql x4 (aE 11) h5) fun v6 h6 =>
      lP r n x2 x3 v6 h6)))))
noncomputable def nM (r : RT) (n : Nat) (x2 x3 x4 x5 : DV) (h0 : Hp) : aH :=
 aS x5 (
  dN r n h0) (
  wM r n x2 x3 x4 h0)
noncomputable def aRo (r : RT) (n : Nat) (x2 x3 x4 : DV) (h0 : Hp) : aH :=
 bnd (aD .eql x4 (aE 14) h0) fun v1 h1 =>
 aS v1 (
  nM r n x2 x3 x4 v1 h1) (
 bnd (aD .eql x4 (aE 15) h1) fun v2 h2 =>
 aS v2 (
   nM r n x2 x3 x4 v2 h2) (
 bnd (aD .eql x4 (aE 16) h2) fun v3 h3 =>
 aS v3 (
    nM r n x2 x3 x4 v3 h3) (
 bnd (aD .eql x4 (aE 17) h3) fun v4 h4 =>
 aS v4 (
     nM r n x2 x3 x4 v4 h4) (
 bnd (aD .eql x4 (aE 18) h4) fun v5 h5 =>
     nM r n x2 x3 x4 v5 h5))))
noncomputable def aUf (r : RT) (n : Nat) (x0 x2 x3 : DV) (h0 : Hp) : aH :=
 aRo r n x2 x3 x0 h0
noncomputable def s142 (r : RT) (n : Nat) (x0 : DV) (h0 : Hp) : aH :=
 aUf r n x0 (.b false) (.b false) h0
noncomputable abbrev c142 : Code := cf Tryz.f142
noncomputable abbrev aDw : Code := cR c142
noncomputable abbrev cYp : Code := cR aDw
noncomputable abbrev vL : Code := cL aDw
noncomputable abbrev aTs : Code := cR vL
noncomputable abbrev aJp : Code := cL aTs
noncomputable abbrev dBv : Code := cR aJp
noncomputable abbrev aBw : Code := cL aJp
noncomputable abbrev aJf : Code := cL aBw
noncomputable abbrev cYf : Code := cR aJf
noncomputable abbrev sK : Code := cL aJf
noncomputable abbrev tN : Code := cL sK
noncomputable abbrev cEa : Code := cR tN
noncomputable abbrev oS : Code := cL tN
noncomputable abbrev sF : Code := cR oS
noncomputable abbrev cIy : Code := cR sF
noncomputable abbrev aWy : Code := cL sF
noncomputable abbrev pP : Code := cL oS
noncomputable abbrev cOf : Code := cR pP
noncomputable abbrev bAq : Code := cL pP
noncomputable abbrev bAg : Code := cL vL
noncomputable abbrev bAs : Code := cL c142
noncomputable abbrev r142 : K := aQ CF Tryz.f142
noncomputable def D142 (r : RT) (n : Nat) (c : Code) (X : Nat → K) (k : K) : K := aM CF r 20 n c X r142 k
theorem cKo : D142 r n cYp x0 r142 = (K2 (cG r n) 2 3) :=
 (by kernel_rfl)
theorem cBt : D142 r n dBv (xs x0 0 (K2 (cG r n) 2 3)) (K2 (cG r n) 2 3) = (K1 (cQ r n) 3) :=
 (by kernel_rfl)
theorem cJp : D142 r n cYf (xs (xs x0 0 (K2 (cG r n) 2 3)) 2 (K1 (cQ r n) 3)) (K1 (cQ r n) 3) = (K0 (dN r n)) :=
 (by kernel_rfl)
theorem cDn : D142 r n cEa (xs (xs (xs x0 0 (K2 (cG r n) 2 3)) 2 (K1 (cQ r n) 3)) 1 (K0 (dN r n))) (K0 (dN r n)) = (K2 (nY r n) 2 3) :=
 (by kernel_rfl)
theorem cHg : D142 r n cIy (xs (xs (xs x0 0 (K2 (cG r n) 2 3)) 2 (K1 (cQ r n) 3)) 1 (K0 (dN r n))) (K2 (nY r n) 2 3) = (K3 (lP r n) 2 3 11) :=
 (by kernel_rfl)
theorem bLs : D142 r n sF (xs (xs (xs x0 0 (K2 (cG r n) 2 3)) 2 (K1 (cQ r n) 3)) 1 (K0 (dN r n))) (K2 (nY r n) 2 3) = D142 r n aWy (xs (xs (xs x0 0 (K2 (cG r n) 2 3)) 2 (K1 (cQ r n) 3)) 1 (K0 (dN r n))) (K3 (lP r n) 2 3 11) :=
 congrArg (fun k => D142 r n aWy (xs (xs (xs x0 0 (K2 (cG r n) 2 3)) 2 (K1 (cQ r n) 3)) 1 (K0 (dN r n))) k) (cHg r n)
theorem cDb : D142 r n sF (xs (xs (xs x0 0 (K2 (cG r n) 2 3)) 2 (K1 (cQ r n) 3)) 1 (K0 (dN r n))) (K2 (nY r n) 2 3) = (K3 (wM r n) 2 3 4) :=
 (bLs r n).trans
 ((by kernel_rfl))
theorem cMc : D142 r n cOf (xs (xs (xs x0 0 (K2 (cG r n) 2 3)) 2 (K1 (cQ r n) 3)) 1 (K0 (dN r n))) (K3 (wM r n) 2 3 4) = (K4 (nM r n) 2 3 4 5) :=
 (by kernel_rfl)
theorem bLo : D142 r n aJp (xs x0 0 (K2 (cG r n) 2 3)) (K2 (cG r n) 2 3) = D142 r n aBw (xs x0 0 (K2 (cG r n) 2 3)) (K1 (cQ r n) 3) :=
 congrArg (fun k => D142 r n aBw (xs x0 0 (K2 (cG r n) 2 3)) k) (cBt r n)
theorem bYc : D142 r n aJf (xs (xs x0 0 (K2 (cG r n) 2 3)) 2 (K1 (cQ r n) 3)) (K1 (cQ r n) 3) = D142 r n sK (xs (xs x0 0 (K2 (cG r n) 2 3)) 2 (K1 (cQ r n) 3)) (K0 (dN r n)) :=
 congrArg (fun k => D142 r n sK (xs (xs x0 0 (K2 (cG r n) 2 3)) 2 (K1 (cQ r n) 3)) k) (cJp r n)
theorem bHf : D142 r n tN (xs (xs (xs x0 0 (K2 (cG r n) 2 3)) 2 (K1 (cQ r n) 3)) 1 (K0 (dN r n))) (K0 (dN r n)) = D142 r n oS (xs (xs (xs x0 0 (K2 (cG r n) 2 3)) 2 (K1 (cQ r n) 3)) 1 (K0 (dN r n))) (K2 (nY r n) 2 3) :=
 congrArg (fun k => D142 r n oS (xs (xs (xs x0 0 (K2 (cG r n) 2 3)) 2 (K1 (cQ r n) 3)) 1 (K0 (dN r n))) k) (cDn r n)
theorem bNz : D142 r n oS (xs (xs (xs x0 0 (K2 (cG r n) 2 3)) 2 (K1 (cQ r n) 3)) 1 (K0 (dN r n))) (K2 (nY r n) 2 3) = D142 r n pP (xs (xs (xs x0 0 (K2 (cG r n) 2 3)) 2 (K1 (cQ r n) 3)) 1 (K0 (dN r n))) (K3 (wM r n) 2 3 4) :=
 congrArg (fun k => D142 r n pP (xs (xs (xs x0 0 (K2 (cG r n) 2 3)) 2 (K1 (cQ r n) 3)) 1 (K0 (dN r n))) k) (cDb r n)
theorem bXr : D142 r n pP (xs (xs (xs x0 0 (K2 (cG r n) 2 3)) 2 (K1 (cQ r n) 3)) 1 (K0 (dN r n))) (K3 (wM r n) 2 3 4) = D142 r n bAq (xs (xs (xs x0 0 (K2 (cG r n) 2 3)) 2 (K1 (cQ r n) 3)) 1 (K0 (dN r n))) (K4 (nM r n) 2 3 4 5) :=
 congrArg (fun k => D142 r n bAq (xs (xs (xs x0 0 (K2 (cG r n) 2 3)) 2 (K1 (cQ r n) 3)) 1 (K0 (dN r n))) k) (cMc r n)
theorem cBv : D142 r n aTs x0 (K2 (cG r n) 2 3) = (K3 (aRo r n) 2 3 4) :=
 (by kernel_rfl : D142 r n aTs x0 (K2 (cG r n) 2 3) = D142 r n aJp (xs x0 0 (K2 (cG r n) 2 3)) (K2 (cG r n) 2 3)).trans
 ((bLo r n).trans
 ((by kernel_rfl : D142 r n aBw (xs x0 0 (K2 (cG r n) 2 3)) (K1 (cQ r n) 3) = D142 r n aJf (xs (xs x0 0 (K2 (cG r n) 2 3)) 2 (K1 (cQ r n) 3)) (K1 (cQ r n) 3)).trans
 ((bYc r n).trans
 ((by kernel_rfl : D142 r n sK (xs (xs x0 0 (K2 (cG r n) 2 3)) 2 (K1 (cQ r n) 3)) (K0 (dN r n)) = D142 r n tN (xs (xs (xs x0 0 (K2 (cG r n) 2 3)) 2 (K1 (cQ r n) 3)) 1 (K0 (dN r n))) (K0 (dN r n))).trans
 ((bHf r n).trans
 ((bNz r n).trans
 ((bXr r n).trans
 ((by kernel_rfl)))))))))
theorem bJb : D142 r n aDw x0 r142 = D142 r n vL x0 (K2 (cG r n) 2 3) :=
 congrArg (fun k => D142 r n vL x0 k) (cKo r n)
theorem bSo : D142 r n vL x0 (K2 (cG r n) 2 3) = D142 r n bAg x0 (K3 (aRo r n) 2 3 4) :=
 congrArg (fun k => D142 r n bAg x0 k) (cBv r n)
theorem cHm : D142 r n aDw x0 r142 = (K3 (aUf r n) 0 2 3) :=
 (bJb r n).trans
 ((bSo r n).trans
 ((by kernel_rfl)))
theorem cWr : D142 r n c142 x0 r142 = D142 r n bAs x0 (K3 (aUf r n) 0 2 3) :=
 congrArg (fun k => D142 r n bAs x0 k) (cHm r n)
theorem dHv : D142 r n c142 x0 r142 = (K1 (s142 r n) 0) :=
 (cWr r n).trans
 ((by kernel_rfl))
theorem cSc : aF CF r n 142 args h = s142 r n (aT args 0) h :=
 (by kernel_rfl : aF CF r n 142 args h = D142 r n c142 x0 r142 (aI args) h).trans ((congrFun (congrFun (dHv r n) (aI args)) h).trans (by kernel_rfl))
noncomputable def s143 (r : RT) (n : Nat) (x0 x1 : DV) (h0 : Hp) : aH :=
 bnd (aD .eql x0 (aE 0) h0) fun v1 h1 =>
 bnd (gD v1 false (some (x1, h1)) h1) fun v2 h2 =>
 bnd (gD v1 false (some (v2, h2)) h2) fun v3 h3 =>
 bnd (gD v3 true (some (x0, h3)) h3) fun v4 h4 =>
 bnd (gD v3 true (aD .gtr v4 (aE 0) h4) h4) fun v5 h5 =>
 bnd (gD v1 false (aP v3 v5 (.b false) h5) h5) fun v6 h6 =>
 bnd (gD v1 false (some (v6, h6)) h6) fun v7 h7 =>
 bnd (gD v7 true (some (x0, h7)) h7) fun v8 h8 =>
 bnd (gD v7 true (aD .leq v8 (aE 255) h8) h8) fun v9 h9 =>
 bnd (gD v1 false (aP v7 v9 (.b false) h9) h9) fun v10 h10 =>
 bnd (aP v1 (.b true) v10 h10) fun v11 h11 =>
 some (v11, h11)
noncomputable abbrev c143 : Code := cf Tryz.f143
noncomputable abbrev r143 : K := aQ CF Tryz.f143
noncomputable def D143 (r : RT) (n : Nat) (c : Code) (X : Nat → K) (k : K) : K := aM CF r 18 n c X r143 k
theorem dGi : D143 r n c143 x0 r143 = (K2 (s143 r n) 0 1) :=
 (by kernel_rfl)
theorem cVi : aF CF r n 143 args h = s143 r n (aT args 0) (aT args 1) h :=
 (by kernel_rfl : aF CF r n 143 args h = D143 r n c143 x0 r143 (aI args) h).trans ((congrFun (congrFun (dGi r n) (aI args)) h).trans (by kernel_rfl))
noncomputable def eD (r : RT) (n : Nat) (x2 : DV) (h0 : Hp) : aH :=
 bnd (aB 5 x2 h0) fun v1 h1 =>
 bnd (aA v1 h1) fun v2 h2 =>
 bnd (r 173 [v2] h2) fun v3 h3 =>
 bnd (aB 5 x2 h3) fun v4 h4 =>
 bnd (aA v4 h4) fun v5 h5 =>
 bnd (r 174 [v5, v3] h5) fun v6 h6 =>
 bnd (gU .not v6 h6) fun v7 h7 =>
 aS v7 (
 some (.t [.l0, (aE 19)], h7)) (
 bnd (aB 5 x2 h7) fun v8 h8 =>
 bnd (aA v8 h8) fun v9 h9 =>
 bnd (r 175 [v9, v3] h9) fun v10 h10 =>
 bnd (aC 0 v10 h10) fun v11 h11 =>
 bnd (aC 1 v10 h11) fun v12 h12 =>
 bnd (gU .not v12 h12) fun v13 h13 =>
 aS v13 (
 some (.t [.l0, (aE 19)], h13)) (
 some (.t [v11, (aE 0)], h13)))
noncomputable def aHb (r : RT) (n : Nat) (kk7 : cD) (x1 x2 x60 x61 x62 : DV) (h0 : Hp) : aH :=
 bnd (aD .lss x62 x61 h0) fun v1 h1 =>
 aS v1 (
 bnd (aJ 3 x60 x62 h1) fun v2 h2 =>
 bnd (aK 3 v2 h2) fun v3 h3 =>
 bnd (bL [(aE 0), (aE 0), (aE 0)] h3) fun v4 h4 =>
 bnd (aG 3 v4 v3 h4) fun _ h5 =>
 bnd (aK 3 v4 h5) fun v6 h6 =>
 bnd (r 124 [v6] h6) fun v7 h7 =>
 bnd (gU .not v7 h7) fun v8 h8 =>
 bnd (gD v8 false (aK 6 x2 h8) h8) fun v9 h9 =>
 bnd (gD v8 false (aK 3 v4 h9) h9) fun v10 h10 =>
 bnd (gD v8 false (some (x1, h10)) h10) fun v11 h11 =>
 bnd (gD v8 false (r 172 [v9, v10, v11] h11) h11) fun v12 h12 =>
 bnd (gD v8 false (gU .not v12 h12) h12) fun v13 h13 =>
 bnd (aP v8 (.b true) v13 h13) fun v14 h14 =>
 aS v14 (
 some (.t [.l0, (aE 19)], h14)) (
 bnd (aD .add x62 (aE 1) h14) fun v15 h15 =>
    kk7 x1 x2 x60 x61 v15 h15)) (
      eD r n x2 h1)
noncomputable def tQ (r : RT) (n : Nat) (m : Nat) : cD :=
 Nat.rec (motive := fun _ => cD) (fun _ _ _ _ _ _ => none) (fun _ ih => aHb r n ih) m
noncomputable def bRg (r : RT) (n : Nat) : cD := tQ r n n
noncomputable def aRb (r : RT) (n : Nat) (x1 x2 x60 x61 x62 : DV) (h0 : Hp) : aH :=
 bRg r n x1 x2 x60 x61 x62 h0
noncomputable def aOu (r : RT) (n : Nat) (x1 x2 : DV) (h0 : Hp) : aH :=
 bnd (aB 5 x2 h0) fun v1 h1 =>
 bnd (aA v1 h1) fun v2 h2 =>
 bnd (bX v2 h2) fun v3 h3 =>
  aRb r n x1 x2 v2 v3 (aE 0) h3
noncomputable def aSf (r : RT) (n : Nat) (x1 x2 x6 x7 : DV) (h0 : Hp) : aH :=
 bnd (gU .not x6 h0) fun v1 h1 =>
 bnd (gD v1 false (some (x7, h1)) h1) fun v2 h2 =>
 bnd (aP v1 (.b true) v2 h2) fun v3 h3 =>
 bnd (gD v3 false (aB 4 x2 h3) h3) fun v4 h4 =>
 bnd (gD v3 false (aA v4 h4) h4) fun v5 h5 =>
 bnd (gD v3 false (bX v5 h5) h5) fun v6 h6 =>
 bnd (gD v3 false (aD .gtr v6 (aE 60) h6) h6) fun v7 h7 =>
 bnd (aP v3 (.b true) v7 h7) fun v8 h8 =>
 bnd (gD v8 false (aB 5 x2 h8) h8) fun v9 h9 =>
 bnd (gD v8 false (aA v9 h9) h9) fun v10 h10 =>
 bnd (gD v8 false (bX v10 h10) h10) fun v11 h11 =>
 bnd (gD v8 false (r 168 [v11, (aE 1), (aE 400)] h11) h11) fun v12 h12 =>
 bnd (gD v8 false (gU .not v12 h12) h12) fun v13 h13 =>
 bnd (aP v8 (.b true) v13 h13) fun v14 h14 =>
 aS v14 (
 some (.t [.l0, (aE 19)], h14)) (
  aOu r n x1 x2 h14)
noncomputable def aSd (r : RT) (n : Nat) (x1 x2 x6 : DV) (h0 : Hp) : aH :=
 bnd (aB 4 x2 h0) fun v1 h1 =>
 bnd (aA v1 h1) fun v2 h2 =>
 bnd (r 169 [v2, (.f 170 [] [])] h2) fun v3 h3 =>
  aSf r n x1 x2 x6 v3 h3
noncomputable def yQ (r : RT) (n : Nat) (x1 x2 : DV) (h0 : Hp) : aH :=
 bnd (r 168 [x1, (aE 0), (aE 8)] h0) fun v1 h1 =>
 bnd (gD v1 true (aB 0 x2 h1) h1) fun v2 h2 =>
 bnd (gD v1 true (aA v2 h2) h2) fun v3 h3 =>
 bnd (gD v1 true (dH v3 h3) h3) fun v4 h4 =>
 bnd (gD v1 true (r 168 [v4, (aE 1), (aE 60)] h4) h4) fun v5 h5 =>
 bnd (aP v1 v5 (.b false) h5) fun v6 h6 =>
 bnd (gD v6 true (aB 1 x2 h6) h6) fun v7 h7 =>
 bnd (gD v6 true (aA v7 h7) h7) fun v8 h8 =>
 bnd (gD v6 true (r 168 [v8, (aE 0), (aE 4)] h8) h8) fun v9 h9 =>
 bnd (aP v6 v9 (.b false) h9) fun v10 h10 =>
 bnd (gD v10 true (aB 2 x2 h10) h10) fun v11 h11 =>
 bnd (gD v10 true (aA v11 h11) h11) fun v12 h12 =>
 bnd (gD v10 true (aB 1 x2 h12) h12) fun v13 h13 =>
 bnd (gD v10 true (aA v13 h13) h13) fun v14 h14 =>
 bnd (gD v10 true (r 168 [v12, v14, (aE 24)] h14) h14) fun v15 h15 =>
 bnd (aP v10 v15 (.b false) h15) fun v16 h16 =>
 bnd (gD v16 true (aB 3 x2 h16) h16) fun v17 h17 =>
 bnd (gD v16 true (aA v17 h17) h17) fun v18 h18 =>
 bnd (gD v16 true (r 168 [v18, (aE 0), (aE 255)] h18) h18) fun v19 h19 =>
 bnd (aP v16 v19 (.b false) h19) fun v20 h20 =>
  aSd r n x1 x2 v20 h20
noncomputable def s144 (r : RT) (n : Nat) (x0 x1 : DV) (h0 : Hp) : aH :=
 bnd (bQ x0 h0) fun v1 h1 =>
  yQ r n x1 v1 h1
noncomputable abbrev c144 : Code := cf Tryz.f144
noncomputable abbrev aEr : Code := cR c144
noncomputable abbrev aDe : Code := cR aEr
noncomputable abbrev aBa : Code := cR aDe
noncomputable abbrev aEl : Code := cR aBa
noncomputable abbrev cTp : Code := cR aEl
noncomputable abbrev xP : Code := cL aEl
noncomputable abbrev aOo : Code := cR xP
noncomputable abbrev aGw : Code := cL aOo
noncomputable abbrev mB : Code := cL aGw
noncomputable abbrev aZe : Code := cL xP
noncomputable abbrev aZs : Code := cL aBa
noncomputable abbrev bAb : Code := cL aDe
noncomputable abbrev aVr : Code := cL aEr
noncomputable abbrev aHi : Code := cL c144
noncomputable abbrev r144 : K := aQ CF Tryz.f144
noncomputable def D144 (r : RT) (n : Nat) (c : Code) (X : Nat → K) (k : K) : K := aM CF r 95 n c X r144 k
theorem cMm : D144 r n cTp x0 r144 = (K1 (eD r n) 2) :=
 (by kernel_rfl)
theorem bVf (kk7 : cD) (q0 : TT1) : D144 r n mB (xs x0 0 (K1 q0 2)) (K5 kk7 1 2 60 61 62) = fun (env : aW) (h : Hp) =>
 bnd (aD .lss (env 62) (env 61) h) fun v1 h1 =>
 aS v1 (
 bnd (aJ 3 (env 60) (env 62) h1) fun v2 h2 =>
 bnd (aK 3 v2 h2) fun v3 h3 =>
 bnd (bL [(aE 0), (aE 0), (aE 0)] h3) fun v4 h4 =>
 bnd (aG 3 v4 v3 h4) fun _ h5 =>
 bnd (aK 3 v4 h5) fun v6 h6 =>
 bnd (r 124 [v6] h6) fun v7 h7 =>
 bnd (gU .not v7 h7) fun v8 h8 =>
 bnd (gD v8 false (aK 6 (env 2) h8) h8) fun v9 h9 =>
 bnd (gD v8 false (aK 3 v4 h9) h9) fun v10 h10 =>
 bnd (gD v8 false (some ((env 1), h10)) h10) fun v11 h11 =>
 bnd (gD v8 false (r 172 [v9, v10, v11] h11) h11) fun v12 h12 =>
 bnd (gD v8 false (gU .not v12 h12) h12) fun v13 h13 =>
 bnd (aP v8 (.b true) v13 h13) fun v14 h14 =>
 aS v14 (
 some (.t [.l0, (aE 19)], h14)) (
 bnd (aD .add (env 62) (aE 1) h14) fun v15 h15 =>
    kk7 (env 1) (env 2) (env 60) (env 61) v15 h15)) (
      q0 (env 2) h1) := by kernel_rfl
theorem bFc (kk7 : cD) : (fun (env : aW) (h : Hp) =>
 bnd (aD .lss (env 62) (env 61) h) fun v1 h1 =>
 aS v1 (
 bnd (aJ 3 (env 60) (env 62) h1) fun v2 h2 =>
 bnd (aK 3 v2 h2) fun v3 h3 =>
 bnd (bL [(aE 0), (aE 0), (aE 0)] h3) fun v4 h4 =>
 bnd (aG 3 v4 v3 h4) fun _ h5 =>
 bnd (aK 3 v4 h5) fun v6 h6 =>
 bnd (r 124 [v6] h6) fun v7 h7 =>
 bnd (gU .not v7 h7) fun v8 h8 =>
 bnd (gD v8 false (aK 6 (env 2) h8) h8) fun v9 h9 =>
 bnd (gD v8 false (aK 3 v4 h9) h9) fun v10 h10 =>
 bnd (gD v8 false (some ((env 1), h10)) h10) fun v11 h11 =>
 bnd (gD v8 false (r 172 [v9, v10, v11] h11) h11) fun v12 h12 =>
 bnd (gD v8 false (gU .not v12 h12) h12) fun v13 h13 =>
 bnd (aP v8 (.b true) v13 h13) fun v14 h14 =>
 aS v14 (
 some (.t [.l0, (aE 19)], h14)) (
 bnd (aD .add (env 62) (aE 1) h14) fun v15 h15 =>
    kk7 (env 1) (env 2) (env 60) (env 61) v15 h15)) (
      eD r n (env 2) h1)) = (K5 (aHb r n kk7) 1 2 60 61 62) := by kernel_rfl
theorem bOk (kk7 : cD) : D144 r n mB (xs x0 0 (K1 (eD r n) 2)) (K5 kk7 1 2 60 61 62) = (K5 (aHb r n kk7) 1 2 60 61 62) :=
 (bVf r n kk7 (eD r n)).trans (bFc r n kk7)
theorem bJs (m : Nat) : aO (fun kk => D144 r n mB (xs x0 0 (K1 (eD r n) 2)) kk) m = (K5 (tQ r n m) 1 2 60 61 62) := by
 induction m with
 | zero => exact (by kernel_rfl : aO (fun kk => D144 r n mB (xs x0 0 (K1 (eD r n) 2)) kk) 0 = (K5 (tQ r n 0) 1 2 60 61 62))
 | succ m ih =>
  refine (by kernel_rfl : aO (fun kk => D144 r n mB (xs x0 0 (K1 (eD r n) 2)) kk) (m + 1) = D144 r n mB (xs x0 0 (K1 (eD r n) 2)) (aO (fun kk => D144 r n mB (xs x0 0 (K1 (eD r n) 2)) kk) m)).trans ?_
  rw [ih]
  exact (bOk r n (tQ r n m)).trans (by kernel_rfl)
theorem cFr : D144 r n aGw (xs x0 0 (K1 (eD r n) 2)) (K1 (eD r n) 2) = (K5 (bRg r n) 1 2 60 61 62) :=
 (by kernel_rfl : D144 r n aGw (xs x0 0 (K1 (eD r n) 2)) (K1 (eD r n) 2) = aO (fun kk => D144 r n mB (xs x0 0 (K1 (eD r n) 2)) kk) n).trans ((bJs r n n).trans (by kernel_rfl))
theorem cFh : D144 r n aOo x0 (K1 (eD r n) 2) = (K5 (aRb r n) 1 2 60 61 62) :=
 (by kernel_rfl : D144 r n aOo x0 (K1 (eD r n) 2) = D144 r n aGw (xs x0 0 (K1 (eD r n) 2)) (K1 (eD r n) 2)).trans
 ((cFr r n).trans (by kernel_rfl))
theorem bUh : D144 r n aEl x0 r144 = D144 r n xP x0 (K1 (eD r n) 2) :=
 congrArg (fun k => D144 r n xP x0 k) (cMm r n)
theorem bHi : D144 r n xP x0 (K1 (eD r n) 2) = D144 r n aZe x0 (K5 (aRb r n) 1 2 60 61 62) :=
 congrArg (fun k => D144 r n aZe x0 k) (cFh r n)
theorem cLb : D144 r n aEl x0 r144 = (K2 (aOu r n) 1 2) :=
 (bUh r n).trans
 ((bHi r n).trans
 ((by kernel_rfl)))
theorem bIh : D144 r n aBa x0 r144 = D144 r n aZs x0 (K2 (aOu r n) 1 2) :=
 congrArg (fun k => D144 r n aZs x0 k) (cLb r n)
theorem cJl : D144 r n aBa x0 r144 = (K4 (aSf r n) 1 2 6 7) :=
 (bIh r n).trans
 ((by kernel_rfl))
theorem bYq : D144 r n aDe x0 r144 = D144 r n bAb x0 (K4 (aSf r n) 1 2 6 7) :=
 congrArg (fun k => D144 r n bAb x0 k) (cJl r n)
theorem cLs : D144 r n aDe x0 r144 = (K3 (aSd r n) 1 2 6) :=
 (bYq r n).trans
 ((by kernel_rfl))
theorem bZh : D144 r n aEr x0 r144 = D144 r n aVr x0 (K3 (aSd r n) 1 2 6) :=
 congrArg (fun k => D144 r n aVr x0 k) (cLs r n)
theorem cHh : D144 r n aEr x0 r144 = (K2 (yQ r n) 1 2) :=
 (bZh r n).trans
 ((by kernel_rfl))
theorem cXx : D144 r n c144 x0 r144 = D144 r n aHi x0 (K2 (yQ r n) 1 2) :=
 congrArg (fun k => D144 r n aHi x0 k) (cHh r n)
theorem dBm (q0 : oL) : D144 r n aHi x0 (K2 q0 1 2) = fun (env : aW) (h : Hp) =>
 bnd (bQ (env 0) h) fun v1 h1 =>
  q0 (env 1) v1 h1 := by kernel_rfl
theorem cHl : (fun (env : aW) (h : Hp) =>
 bnd (bQ (env 0) h) fun v1 h1 =>
  yQ r n (env 1) v1 h1) = (K2 (s144 r n) 0 1) := by kernel_rfl
theorem dHs : D144 r n c144 x0 r144 = (K2 (s144 r n) 0 1) :=
 (cXx r n).trans
 ((dBm r n (yQ r n)).trans (cHl r n))
theorem cZv : aF CF r n 144 args h = s144 r n (aT args 0) (aT args 1) h :=
 (by kernel_rfl : aF CF r n 144 args h = D144 r n c144 x0 r144 (aI args) h).trans ((congrFun (congrFun (dHs r n) (aI args)) h).trans (by kernel_rfl))
noncomputable def s145 (r : RT) (n : Nat) (x0 x1 : DV) (h0 : Hp) : aH :=
 bnd (aA x1 h0) fun v1 h1 =>
 bnd (r 131 [v1, x0] h1) fun v2 h2 =>
 bnd (aD .geq v2 (aE 0) h2) fun v3 h3 =>
 some (v3, h3)
noncomputable abbrev c145 : Code := cf Tryz.f145
noncomputable abbrev r145 : K := aQ CF Tryz.f145
noncomputable def D145 (r : RT) (n : Nat) (c : Code) (X : Nat → K) (k : K) : K := aM CF r 8 n c X r145 k
theorem dKq : D145 r n c145 x0 r145 = (K2 (s145 r n) 0 1) :=
 (by kernel_rfl)
theorem dBx : aF CF r n 145 args h = s145 r n (aT args 0) (aT args 1) h :=
 (by kernel_rfl : aF CF r n 145 args h = D145 r n c145 x0 r145 (aI args) h).trans ((congrFun (congrFun (dKq r n) (aI args)) h).trans (by kernel_rfl))
noncomputable def s146 (r : RT) (n : Nat) (x0 x1 : DV) (h0 : Hp) : aH :=
 bnd (lM [x0, x1] h0) fun v1 h1 =>
 some (v1, h1)
noncomputable abbrev c146 : Code := cf Tryz.f146
noncomputable abbrev r146 : K := aQ CF Tryz.f146
noncomputable def D146 (r : RT) (n : Nat) (c : Code) (X : Nat → K) (k : K) : K := aM CF r 8 n c X r146 k
theorem dJb : D146 r n c146 x0 r146 = (K2 (s146 r n) 0 1) :=
 (by kernel_rfl)
theorem cYv : aF CF r n 146 args h = s146 r n (aT args 0) (aT args 1) h :=
 (by kernel_rfl : aF CF r n 146 args h = D146 r n c146 x0 r146 (aI args) h).trans ((congrFun (congrFun (dJb r n) (aI args)) h).trans (by kernel_rfl))
noncomputable def s147 (r : RT) (n : Nat) (x0 x1 : DV) (h0 : Hp) : aH :=
 bnd (aN x0 h0) fun v1 h1 =>
 bnd (aB 1 v1 h1) fun v2 h2 =>
 bnd (aA v2 h2) fun v3 h3 =>
 bnd (aD .add v3 x1 h3) fun v4 h4 =>
 bnd (aN x0 h4) fun v5 h5 =>
 bnd (aB 0 v5 h5) fun v6 h6 =>
 bnd (aA v6 h6) fun v7 h7 =>
 bnd (dH v7 h7) fun v8 h8 =>
 bnd (aD .geq v4 v8 h8) fun v9 h9 =>
 aS v9 (
 some ((.i .u8 (Int.ofNat 0)), h9)) (
 bnd (aN x0 h9) fun v10 h10 =>
 bnd (aB 0 v10 h10) fun v11 h11 =>
 bnd (aA v11 h11) fun v12 h12 =>
 bnd (aN x0 h12) fun v13 h13 =>
 bnd (aB 1 v13 h13) fun v14 h14 =>
 bnd (aA v14 h14) fun v15 h15 =>
 bnd (aD .add v15 x1 h15) fun v16 h16 =>
 bnd (fB v12 v16 h16) fun v17 h17 =>
 some (v17, h17))
noncomputable abbrev c147 : Code := cf Tryz.f147
noncomputable abbrev r147 : K := aQ CF Tryz.f147
noncomputable def D147 (r : RT) (n : Nat) (c : Code) (X : Nat → K) (k : K) : K := aM CF r 28 n c X r147 k
theorem dJz : D147 r n c147 x0 r147 = (K2 (s147 r n) 0 1) :=
 (by kernel_rfl)
theorem cZx : aF CF r n 147 args h = s147 r n (aT args 0) (aT args 1) h :=
 (by kernel_rfl : aF CF r n 147 args h = D147 r n c147 x0 r147 (aI args) h).trans ((congrFun (congrFun (dJz r n) (aI args)) h).trans (by kernel_rfl))
noncomputable def s148 (r : RT) (n : Nat) (x0 : DV) (h0 : Hp) : aH :=
 bnd (aD .geq x0 (.i .u8 (Int.ofNat 97)) h0) fun v1 h1 =>
 bnd (gD v1 true (some (x0, h1)) h1) fun v2 h2 =>
 bnd (gD v1 true (aD .leq v2 (.i .u8 (Int.ofNat 122)) h2) h2) fun v3 h3 =>
 bnd (aP v1 v3 (.b false) h3) fun v4 h4 =>
 bnd (gD v4 false (some (x0, h4)) h4) fun v5 h5 =>
 bnd (gD v4 false (aD .geq v5 (.i .u8 (Int.ofNat 65)) h5) h5) fun v6 h6 =>
 bnd (gD v4 false (some (v6, h6)) h6) fun v7 h7 =>
 bnd (gD v7 true (some (x0, h7)) h7) fun v8 h8 =>
 bnd (gD v7 true (aD .leq v8 (.i .u8 (Int.ofNat 90)) h8) h8) fun v9 h9 =>
 bnd (gD v4 false (aP v7 v9 (.b false) h9) h9) fun v10 h10 =>
 bnd (aP v4 (.b true) v10 h10) fun v11 h11 =>
 some (v11, h11)
noncomputable abbrev c148 : Code := cf Tryz.f148
noncomputable abbrev r148 : K := aQ CF Tryz.f148
noncomputable def D148 (r : RT) (n : Nat) (c : Code) (X : Nat → K) (k : K) : K := aM CF r 17 n c X r148 k
theorem dIr : D148 r n c148 x0 r148 = (K1 (s148 r n) 0) :=
 (by kernel_rfl)
theorem cYn : aF CF r n 148 args h = s148 r n (aT args 0) h :=
 (by kernel_rfl : aF CF r n 148 args h = D148 r n c148 x0 r148 (aI args) h).trans ((congrFun (congrFun (dIr r n) (aI args)) h).trans (by kernel_rfl))
noncomputable def s149 (r : RT) (n : Nat) (x0 : DV) (h0 : Hp) : aH :=
 bnd (aN x0 h0) fun v1 h1 =>
 bnd (aB 0 v1 h1) fun v2 h2 =>
 bnd (aA v2 h2) fun v3 h3 =>
 bnd (dH v3 h3) fun v4 h4 =>
 bnd (r 129 [x0, (.f 177 [] []), v4] h4) fun v5 h5 =>
 bnd (dH v5 h5) fun v6 h6 =>
 bnd (aD .gtr v6 (aE 24) h6) fun v7 h7 =>
 aS v7 (
 some (.t [(.s []), (aE 12)], h7)) (
 some (.t [v5, (aE 0)], h7))
noncomputable abbrev c149 : Code := cf Tryz.f149
noncomputable abbrev r149 : K := aQ CF Tryz.f149
noncomputable def D149 (r : RT) (n : Nat) (c : Code) (X : Nat → K) (k : K) : K := aM CF r 16 n c X r149 k
theorem dEa : D149 r n c149 x0 r149 = (K1 (s149 r n) 0) :=
 (by kernel_rfl)
theorem dCa : aF CF r n 149 args h = s149 r n (aT args 0) h :=
 (by kernel_rfl : aF CF r n 149 args h = D149 r n c149 x0 r149 (aI args) h).trans ((congrFun (congrFun (dEa r n) (aI args)) h).trans (by kernel_rfl))
noncomputable def s150 (r : RT) (n : Nat) (x0 : DV) (h0 : Hp) : aH :=
 bnd (r 147 [x0, (aE 0)] h0) fun v1 h1 =>
 bnd (aD .neq v1 (.i .u8 (Int.ofNat 58)) h1) fun v2 h2 =>
 bnd (gD v2 false (some (x0, h2)) h2) fun v3 h3 =>
 bnd (gD v2 false (r 147 [v3, (aE 1)] h3) h3) fun v4 h4 =>
 bnd (gD v2 false (aD .eql v4 (.i .u8 (Int.ofNat 61)) h4) h4) fun v5 h5 =>
 bnd (aP v2 (.b true) v5 h5) fun v6 h6 =>
 aS v6 (
 some ((.b false), h6)) (
 bnd (aN x0 h6) fun v7 h7 =>
 bnd (aB 1 v7 h7) fun v8 h8 =>
 bnd (aA v8 h8) fun v9 h9 =>
 bnd (aD .add v9 (aE 1) h9) fun v10 h10 =>
 bnd (aN x0 h10) fun v11 h11 =>
 bnd (aB 1 v11 h11) fun v12 h12 =>
 bnd (aG 1 v12 v10 h12) fun _ h13 =>
 some ((.b true), h13))
noncomputable abbrev c150 : Code := cf Tryz.f150
noncomputable abbrev r150 : K := aQ CF Tryz.f150
noncomputable def D150 (r : RT) (n : Nat) (c : Code) (X : Nat → K) (k : K) : K := aM CF r 18 n c X r150 k
theorem dIf : D150 r n c150 x0 r150 = (K1 (s150 r n) 0) :=
 (by kernel_rfl)
theorem dBu : aF CF r n 150 args h = s150 r n (aT args 0) h :=
 (by kernel_rfl : aF CF r n 150 args h = D150 r n c150 x0 r150 (aI args) h).trans ((congrFun (congrFun (dIf r n) (aI args)) h).trans (by kernel_rfl))
noncomputable def s151 (r : RT) (n : Nat) (x0 : DV) (h0 : Hp) : aH :=
 bnd (aD .geq x0 (.i .u8 (Int.ofNat 48)) h0) fun v1 h1 =>
 bnd (gD v1 true (some (x0, h1)) h1) fun v2 h2 =>
 bnd (gD v1 true (aD .leq v2 (.i .u8 (Int.ofNat 57)) h2) h2) fun v3 h3 =>
 bnd (aP v1 v3 (.b false) h3) fun v4 h4 =>
 some (v4, h4)
noncomputable abbrev c151 : Code := cf Tryz.f151
noncomputable abbrev r151 : K := aQ CF Tryz.f151
noncomputable def D151 (r : RT) (n : Nat) (c : Code) (X : Nat → K) (k : K) : K := aM CF r 9 n c X r151 k
theorem dFg : D151 r n c151 x0 r151 = (K1 (s151 r n) 0) :=
 (by kernel_rfl)
theorem cTb : aF CF r n 151 args h = s151 r n (aT args 0) h :=
 (by kernel_rfl : aF CF r n 151 args h = D151 r n c151 x0 r151 (aI args) h).trans ((congrFun (congrFun (dFg r n) (aI args)) h).trans (by kernel_rfl))
noncomputable def eQ (r : RT) (n : Nat) (x4 : DV) (h0 : Hp) : aH :=
 some (.t [x4, (aE 0)], h0)
noncomputable def bBe (r : RT) (n : Nat) (kk5 : oL) (x4 x14 : DV) (h0 : Hp) : aH :=
 bnd (vP x14 h0) fun v1 h1 =>
 bnd (aC 0 v1 h1) fun v2 h2 =>
 aS v2 (
 bnd (aC 2 v1 h2) fun v3 h3 =>
 bnd (aD .gtr x4 (aE 115292150460684697) h3) fun v4 h4 =>
 aS v4 (
 some (.t [(aE 0), (aE 2)], h4)) (
 bnd (aD .mul x4 (aE 10) h4) fun v5 h5 =>
 bnd (aD .sub v3 (.i .i32 (Int.ofNat 48)) h5) fun v6 h6 =>
 bnd (dU .i64 v6 h6) fun v7 h7 =>
 bnd (aD .add v5 v7 h7) fun v8 h8 =>
 bnd (aD .gtr v8 (aE 1152921504606846976) h8) fun v9 h9 =>
 aS v9 (
 some (.t [(aE 0), (aE 2)], h9)) (
     kk5 v8 x14 h9))) (
   eQ r n x4 h2)
noncomputable def sM (r : RT) (n : Nat) (m : Nat) : oL :=
 Nat.rec (motive := fun _ => oL) (fun _ _ _ => none) (fun _ ih => bBe r n ih) m
noncomputable def bXb (r : RT) (n : Nat) : oL := sM r n n
noncomputable def aQg (r : RT) (n : Nat) (x4 x14 : DV) (h0 : Hp) : aH :=
 bXb r n x4 x14 h0
noncomputable def aQr (r : RT) (n : Nat) (x0 x4 : DV) (h0 : Hp) : aH :=
 bnd (aN x0 h0) fun v1 h1 =>
 bnd (aB 0 v1 h1) fun v2 h2 =>
 bnd (aA v2 h2) fun v3 h3 =>
 bnd (dH v3 h3) fun v4 h4 =>
 bnd (r 129 [x0, (.f 151 [] []), v4] h4) fun v5 h5 =>
 bnd (nR v5 h5) fun v6 h6 =>
  aQg r n x4 v6 h6
noncomputable def aRr (r : RT) (n : Nat) (x0 : DV) (h0 : Hp) : aH :=
 aQr r n x0 (aE 0) h0
noncomputable def s152 (r : RT) (n : Nat) (x0 : DV) (h0 : Hp) : aH :=
 aRr r n x0 h0
noncomputable abbrev c152 : Code := cf Tryz.f152
noncomputable abbrev aHd : Code := cR c152
noncomputable abbrev aHc : Code := cR aHd
noncomputable abbrev cZn : Code := cR aHc
noncomputable abbrev yD : Code := cL aHc
noncomputable abbrev aPs : Code := cR yD
noncomputable abbrev aCw : Code := cL aPs
noncomputable abbrev nQ : Code := cL aCw
noncomputable abbrev bJd : Code := cL yD
noncomputable abbrev bYl : Code := cL aHd
noncomputable abbrev bCa : Code := cL c152
noncomputable abbrev r152 : K := aQ CF Tryz.f152
noncomputable def D152 (r : RT) (n : Nat) (c : Code) (X : Nat → K) (k : K) : K := aM CF r 29 n c X r152 k
theorem cBh : D152 r n cZn x0 r152 = (K1 (eQ r n) 4) :=
 (by kernel_rfl)
theorem bLt (kk5 : oL) : D152 r n nQ (xs x0 0 (K1 (eQ r n) 4)) (K2 kk5 4 14) = (K2 (bBe r n kk5) 4 14) :=
 (by kernel_rfl)
theorem bWd (m : Nat) : aO (fun kk => D152 r n nQ (xs x0 0 (K1 (eQ r n) 4)) kk) m = (K2 (sM r n m) 4 14) := by
 induction m with
 | zero => exact (by kernel_rfl : aO (fun kk => D152 r n nQ (xs x0 0 (K1 (eQ r n) 4)) kk) 0 = (K2 (sM r n 0) 4 14))
 | succ m ih =>
  refine (by kernel_rfl : aO (fun kk => D152 r n nQ (xs x0 0 (K1 (eQ r n) 4)) kk) (m + 1) = D152 r n nQ (xs x0 0 (K1 (eQ r n) 4)) (aO (fun kk => D152 r n nQ (xs x0 0 (K1 (eQ r n) 4)) kk) m)).trans ?_
  rw [ih]
  exact (bLt r n (sM r n m)).trans (by kernel_rfl)
theorem cMi : D152 r n aCw (xs x0 0 (K1 (eQ r n) 4)) (K1 (eQ r n) 4) = (K2 (bXb r n) 4 14) :=
 (by kernel_rfl : D152 r n aCw (xs x0 0 (K1 (eQ r n) 4)) (K1 (eQ r n) 4) = aO (fun kk => D152 r n nQ (xs x0 0 (K1 (eQ r n) 4)) kk) n).trans ((bWd r n n).trans (by kernel_rfl))
theorem cIv : D152 r n aPs x0 (K1 (eQ r n) 4) = (K2 (aQg r n) 4 14) :=
 (by kernel_rfl : D152 r n aPs x0 (K1 (eQ r n) 4) = D152 r n aCw (xs x0 0 (K1 (eQ r n) 4)) (K1 (eQ r n) 4)).trans
 ((cMi r n).trans (by kernel_rfl))
theorem bTi : D152 r n aHc x0 r152 = D152 r n yD x0 (K1 (eQ r n) 4) :=
 congrArg (fun k => D152 r n yD x0 k) (cBh r n)
theorem bXy : D152 r n yD x0 (K1 (eQ r n) 4) = D152 r n bJd x0 (K2 (aQg r n) 4 14) :=
 congrArg (fun k => D152 r n bJd x0 k) (cIv r n)
theorem cPe : D152 r n aHc x0 r152 = (K2 (aQr r n) 0 4) :=
 (bTi r n).trans
 ((bXy r n).trans
 ((by kernel_rfl)))
theorem bPu : D152 r n aHd x0 r152 = D152 r n bYl x0 (K2 (aQr r n) 0 4) :=
 congrArg (fun k => D152 r n bYl x0 k) (cPe r n)
theorem cJq : D152 r n aHd x0 r152 = (K1 (aRr r n) 0) :=
 (bPu r n).trans
 ((by kernel_rfl))
theorem cUk : D152 r n c152 x0 r152 = D152 r n bCa x0 (K1 (aRr r n) 0) :=
 congrArg (fun k => D152 r n bCa x0 k) (cJq r n)
theorem dDw : D152 r n c152 x0 r152 = (K1 (s152 r n) 0) :=
 (cUk r n).trans
 ((by kernel_rfl))
theorem cXs : aF CF r n 152 args h = s152 r n (aT args 0) h :=
 (by kernel_rfl : aF CF r n 152 args h = D152 r n c152 x0 r152 (aI args) h).trans ((congrFun (congrFun (dDw r n) (aI args)) h).trans (by kernel_rfl))
end Go.Dd

namespace Go.Dd
open Go.Proofs
variable (r : RT) (n : Nat) (args : List DV) (h : Hp)
noncomputable def s156 (r : RT) (n : Nat) (x0 x1 : DV) (h0 : Hp) : aH :=
 bnd (bQ x1 h0) fun v1 h1 =>
 bnd (bL [(.s []), (.b false), (.b false), (aE 0)] h1) fun v2 h2 =>
 bnd (aN x0 h2) fun v3 h3 =>
 bnd (aB 6 v3 h3) fun v4 h4 =>
 bnd (aA v4 h4) fun v5 h5 =>
 bnd (r 185 [v5, (.f 186 [] [v1])] h5) fun v6 h6 =>
 bnd (aD .lss v6 (aE 0) h6) fun v7 h7 =>
 aS v7 (
 bnd (bC [(.s []), (.b false), (.b false), (aE 0)] [] h7) fun v8 h8 =>
 bnd (aG 4 v2 v8 h8) fun _ h9 =>
 bnd (aK 4 v2 h9) fun v10 _ =>
 some (.t [v10, (.b false)], h9)) (
 bnd (aN x0 h7) fun v11 h11 =>
 bnd (aB 6 v11 h11) fun v12 h12 =>
 bnd (aA v12 h12) fun v13 h13 =>
 bnd (aJ 4 v13 v6 h13) fun v14 h14 =>
 bnd (aK 4 v14 h14) fun v15 h15 =>
 bnd (aG 4 v2 v15 h15) fun _ h16 =>
 bnd (aK 4 v2 h16) fun v17 _ =>
 some (.t [v17, (.b true)], h16))
noncomputable abbrev c156 : Code := cf Tryz.f156
noncomputable abbrev r156 : K := aQ CF Tryz.f156
noncomputable def D156 (r : RT) (n : Nat) (c : Code) (X : Nat → K) (k : K) : K := aM CF r 23 n c X r156 k
theorem dGc : D156 r n c156 x0 r156 = (K2 (s156 r n) 0 1) :=
 (by kernel_rfl)
theorem dDg : aF CF r n 156 args h = s156 r n (aT args 0) (aT args 1) h :=
 (by kernel_rfl : aF CF r n 156 args h = D156 r n c156 x0 r156 (aI args) h).trans ((congrFun (congrFun (dGc r n) (aI args)) h).trans (by kernel_rfl))
noncomputable def gJ (r : RT) (n : Nat) (h0 : Hp) : aH :=
 some ((.b false), h0)
noncomputable def lV (r : RT) (n : Nat) (x4 : DV) (h0 : Hp) : aH :=
 aS x4 (
 some ((.b true), h0)) (
  gJ r n h0)
noncomputable def aOn (r : RT) (n : Nat) (x3 : DV) (h0 : Hp) : aH :=
 bnd (eG .eql x3 (.s [115, 101, 108, 102]) h0) fun v1 h1 =>
 aS v1 (
  lV r n v1 h1) (
 bnd (eG .eql x3 (.s [115, 117, 112, 101, 114]) h1) fun v2 h2 =>
 aS v2 (
   lV r n v2 h2) (
 bnd (eG .eql x3 (.s [110, 105, 108]) h2) fun v3 h3 =>
 aS v3 (
    lV r n v3 h3) (
 bnd (eG .eql x3 (.s [116, 114, 117, 101]) h3) fun v4 h4 =>
 aS v4 (
     lV r n v4 h4) (
 bnd (eG .eql x3 (.s [102, 97, 108, 115, 101]) h4) fun v5 h5 =>
 aS v5 (
      lV r n v5 h5) (
 bnd (eG .eql x3 (.s [116, 104, 105, 115, 67, 111, 110, 116, 101, 120, 116]) h5) fun v6 h6 =>
      lV r n v6 h6)))))
noncomputable def aOf (r : RT) (n : Nat) (x0 : DV) (h0 : Hp) : aH :=
 aOn r n x0 h0
noncomputable def s157 (r : RT) (n : Nat) (x0 : DV) (h0 : Hp) : aH :=
 aOf r n x0 h0
noncomputable abbrev c157 : Code := cf Tryz.f157
noncomputable abbrev aEs : Code := cR c157
noncomputable abbrev cWq : Code := cR aEs
noncomputable abbrev yA : Code := cL aEs
noncomputable abbrev aQt : Code := cR yA
noncomputable abbrev aGm : Code := cL aQt
noncomputable abbrev dAh : Code := cR aGm
noncomputable abbrev bVn : Code := cL aGm
noncomputable abbrev bVa : Code := cL yA
noncomputable abbrev bVu : Code := cL c157
noncomputable abbrev r157 : K := aQ CF Tryz.f157
noncomputable def D157 (r : RT) (n : Nat) (c : Code) (X : Nat → K) (k : K) : K := aM CF r 11 n c X r157 k
theorem cNd : D157 r n cWq x0 r157 = (K0 (gJ r n)) :=
 (by kernel_rfl)
theorem cEp : D157 r n dAh (xs x0 0 (K0 (gJ r n))) (K0 (gJ r n)) = (K1 (lV r n) 4) :=
 (by kernel_rfl)
theorem bRu : D157 r n aGm (xs x0 0 (K0 (gJ r n))) (K0 (gJ r n)) = D157 r n bVn (xs x0 0 (K0 (gJ r n))) (K1 (lV r n) 4) :=
 congrArg (fun k => D157 r n bVn (xs x0 0 (K0 (gJ r n))) k) (cEp r n)
theorem cIa : D157 r n aQt x0 (K0 (gJ r n)) = (K1 (aOn r n) 3) :=
 (by kernel_rfl : D157 r n aQt x0 (K0 (gJ r n)) = D157 r n aGm (xs x0 0 (K0 (gJ r n))) (K0 (gJ r n))).trans
 ((bRu r n).trans
 ((by kernel_rfl)))
theorem bLb : D157 r n aEs x0 r157 = D157 r n yA x0 (K0 (gJ r n)) :=
 congrArg (fun k => D157 r n yA x0 k) (cNd r n)
theorem bIi : D157 r n yA x0 (K0 (gJ r n)) = D157 r n bVa x0 (K1 (aOn r n) 3) :=
 congrArg (fun k => D157 r n bVa x0 k) (cIa r n)
theorem cIf : D157 r n aEs x0 r157 = (K1 (aOf r n) 0) :=
 (bLb r n).trans
 ((bIi r n).trans
 ((by kernel_rfl)))
theorem cXn : D157 r n c157 x0 r157 = D157 r n bVu x0 (K1 (aOf r n) 0) :=
 congrArg (fun k => D157 r n bVu x0 k) (cIf r n)
theorem dFz : D157 r n c157 x0 r157 = (K1 (s157 r n) 0) :=
 (cXn r n).trans
 ((by kernel_rfl))
theorem cZz : aF CF r n 157 args h = s157 r n (aT args 0) h :=
 (by kernel_rfl : aF CF r n 157 args h = D157 r n c157 x0 r157 (aI args) h).trans ((congrFun (congrFun (dFz r n) (aI args)) h).trans (by kernel_rfl))
noncomputable def aDk (r : RT) (n : Nat) (x0 x1 : DV) (h0 : Hp) : aH :=
 bnd (r 156 [x0, x1] h0) fun v1 h1 =>
 bnd (aC 0 v1 h1) fun v2 h2 =>
 bnd (aC 1 v1 h2) fun v3 h3 =>
 bnd (bL [(.s []), (.b false), (.b false), (aE 0)] h3) fun v4 h4 =>
 bnd (aG 4 v4 v2 h4) fun _ h5 =>
 bnd (gD v3 true (aB 1 v4 h5) h5) fun v6 h6 =>
 bnd (gD v3 true (aA v6 h6) h6) fun v7 h7 =>
 bnd (aP v3 v7 (.b false) h7) fun v8 h8 =>
 aS v8 (
 bnd (aB 3 v4 h8) fun v9 h9 =>
 bnd (aA v9 h9) fun v10 h10 =>
 bnd (r 141 [x0, (aE 8), v10, (aE 0)] h10) fun v11 h11 =>
 some (.t [], h11)) (
 aS v3 (
 bnd (aB 3 v4 h8) fun v12 h12 =>
 bnd (aA v12 h12) fun v13 h13 =>
 bnd (r 141 [x0, (aE 7), v13, (aE 0)] h13) fun v14 h14 =>
 some (.t [], h14)) (
 bnd (r 190 [x1] h8) fun v15 h15 =>
 aS v15 (
 bnd (r 191 [x0, x1] h15) fun v16 h16 =>
 bnd (r 141 [x0, (aE 9), v16, (aE 0)] h16) fun v17 h17 =>
 some (.t [], h17)) (
 bnd (r 158 [x0, x1, (aE 15)] h15) fun v18 h18 =>
 some (.t [], h18))))
noncomputable def s161 (r : RT) (n : Nat) (x0 x1 : DV) (h0 : Hp) : aH :=
 bnd (eG .eql x1 (.s [115, 101, 108, 102]) h0) fun v1 h1 =>
 aS v1 (
 bnd (r 141 [x0, (aE 1), (aE 0), (aE 0)] h1) fun v2 h2 =>
 some (.t [], h2)) (
 bnd (eG .eql x1 (.s [110, 105, 108]) h1) fun v3 h3 =>
 aS v3 (
 bnd (r 141 [x0, (aE 2), (aE 0), (aE 0)] h3) fun v4 h4 =>
 some (.t [], h4)) (
 bnd (eG .eql x1 (.s [116, 114, 117, 101]) h3) fun v5 h5 =>
 aS v5 (
 bnd (r 141 [x0, (aE 3), (aE 0), (aE 0)] h5) fun v6 h6 =>
 some (.t [], h6)) (
 bnd (eG .eql x1 (.s [102, 97, 108, 115, 101]) h5) fun v7 h7 =>
 aS v7 (
 bnd (r 141 [x0, (aE 4), (aE 0), (aE 0)] h7) fun v8 h8 =>
 some (.t [], h8)) (
 bnd (eG .eql x1 (.s [116, 104, 105, 115, 67, 111, 110, 116, 101, 120, 116]) h7) fun v9 h9 =>
 aS v9 (
 bnd (r 141 [x0, (aE 5), (aE 0), (aE 0)] h9) fun v10 h10 =>
 some (.t [], h10)) (
 bnd (eG .eql x1 (.s [115, 117, 112, 101, 114]) h9) fun v11 h11 =>
 aS v11 (
 bnd (r 158 [x0, x1, (aE 15)] h11) fun v12 h12 =>
       aDk r n x0 x1 h12) (
       aDk r n x0 x1 h11))))))
noncomputable abbrev c161 : Code := cf Tryz.f161
noncomputable abbrev cRw : Code := cR c161
noncomputable abbrev bSh : Code := cL c161
noncomputable abbrev r161 : K := aQ CF Tryz.f161
noncomputable def D161 (r : RT) (n : Nat) (c : Code) (X : Nat → K) (k : K) : K := aM CF r 65 n c X r161 k
theorem cMn : D161 r n cRw x0 r161 = (K2 (aDk r n) 0 1) :=
 (by kernel_rfl)
theorem cWe : D161 r n c161 x0 r161 = D161 r n bSh x0 (K2 (aDk r n) 0 1) :=
 congrArg (fun k => D161 r n bSh x0 k) (cMn r n)
theorem dKp : D161 r n c161 x0 r161 = (K2 (s161 r n) 0 1) :=
 (cWe r n).trans
 ((by kernel_rfl))
theorem dCz : aF CF r n 161 args h = s161 r n (aT args 0) (aT args 1) h :=
 (by kernel_rfl : aF CF r n 161 args h = D161 r n c161 x0 r161 (aI args) h).trans ((congrFun (congrFun (dKp r n) (aI args)) h).trans (by kernel_rfl))
noncomputable def s163 (r : RT) (n : Nat) (x0 x1 : DV) (h0 : Hp) : aH :=
 bnd (bQ x1 h0) fun v1 h1 =>
 bnd (aB 5 v1 h1) fun v2 h2 =>
 bnd (aA v2 h2) fun v3 h3 =>
 bnd (bX v3 h3) fun v4 h4 =>
 bnd (aD .eql v4 (aE 0) h4) fun v5 h5 =>
 aS v5 (
 bnd (r 158 [x0, (.s []), (aE 1)] h5) fun v6 h6 =>
 some (.t [], h6)) (
 bnd (aK 6 v1 h5) fun v7 h7 =>
 bnd (r 192 [x0, v7] h7) fun v8 h8 =>
 bnd (gD v8 false (some (x0, h8)) h8) fun v9 h9 =>
 bnd (gD v8 false (aK 6 v1 h9) h9) fun v10 h10 =>
 bnd (gD v8 false (r 193 [v9, v10] h10) h10) fun v11 h11 =>
 bnd (aP v8 (.b true) v11 h11) fun v12 h12 =>
 aS v12 (
 some (.t [], h12)) (
 bnd (aB 5 v1 h12) fun v13 h13 =>
 bnd (aA v13 h13) fun v14 h14 =>
 bnd (aJ 6 v14 (aE 0) h14) fun v15 h15 =>
 bnd (aK 6 v15 h15) fun v16 h16 =>
 bnd (r 195 [x0, v16] h16) fun v17 h17 =>
 bnd (aB 1 v1 h17) fun v18 h18 =>
 bnd (aA v18 h18) fun v19 h19 =>
 cnd (bI (aA v18 h12) v19 && true) (
 bnd (aB 5 v1 h19) fun v20 h20 =>
 bnd (aA v20 h20) fun v21 h21 =>
 cnd (bI (aA v20 h12) v21 && true) (
 bnd (cS 6 v21 (some (aE 1)) none h21) fun v22 h22 =>
 cnd (bI (cS 6 v21 (some (aE 1)) none h12) v22 && true) (
 bnd (r 194 [x0, v17, v19, v22] h22) fun v23 h23 =>
 some (.t [], h23))))))
noncomputable abbrev c163 : Code := cf Tryz.f163
noncomputable abbrev r163 : K := aQ CF Tryz.f163
noncomputable def D163 (r : RT) (n : Nat) (c : Code) (X : Nat → K) (k : K) : K := aM CF r 31 n c X r163 k
theorem dJk : D163 r n c163 x0 r163 = (K2 (s163 r n) 0 1) :=
 (by kernel_rfl)
theorem cVm : aF CF r n 163 args h = s163 r n (aT args 0) (aT args 1) h :=
 (by kernel_rfl : aF CF r n 163 args h = D163 r n c163 x0 r163 (aI args) h).trans ((congrFun (congrFun (dJk r n) (aI args)) h).trans (by kernel_rfl))
noncomputable def aBg (r : RT) (n : Nat) (x3 : DV) (h0 : Hp) : aH :=
 bnd (aB 5 x3 h0) fun v1 h1 =>
 bnd (aA v1 h1) fun v2 h2 =>
 bnd (bX v2 h2) fun v3 h3 =>
 bnd (aD .eql v3 (aE 1) h3) fun v4 h4 =>
 some (v4, h4)
noncomputable def zE (r : RT) (n : Nat) (x0 x3 : DV) (h0 : Hp) : aH :=
 bnd (aB 5 x3 h0) fun v1 h1 =>
 bnd (aA v1 h1) fun v2 h2 =>
 bnd (bX v2 h2) fun v3 h3 =>
 bnd (aD .neq v3 (aE 1) h3) fun v4 h4 =>
 aS v4 (
 bnd (r 158 [x0, (.s []), (aE 1)] h4) fun v5 h5 =>
  aBg r n x3 h5) (
  aBg r n x3 h4)
noncomputable def s167 (r : RT) (n : Nat) (x0 x1 : DV) (h0 : Hp) : aH :=
 bnd (bQ x1 h0) fun v1 h1 =>
  zE r n x0 v1 h1
noncomputable abbrev c167 : Code := cf Tryz.f167
noncomputable abbrev aCe : Code := cR c167
noncomputable abbrev cXi : Code := cR aCe
noncomputable abbrev bPa : Code := cL aCe
noncomputable abbrev aNy : Code := cL c167
noncomputable abbrev r167 : K := aQ CF Tryz.f167
noncomputable def D167 (r : RT) (n : Nat) (c : Code) (X : Nat → K) (k : K) : K := aM CF r 15 n c X r167 k
theorem cIw : D167 r n cXi x0 r167 = (K1 (aBg r n) 3) :=
 (by kernel_rfl)
theorem bLg : D167 r n aCe x0 r167 = D167 r n bPa x0 (K1 (aBg r n) 3) :=
 congrArg (fun k => D167 r n bPa x0 k) (cIw r n)
theorem cEn : D167 r n aCe x0 r167 = (K2 (zE r n) 0 3) :=
 (bLg r n).trans
 ((by kernel_rfl))
theorem cYi : D167 r n c167 x0 r167 = D167 r n aNy x0 (K2 (zE r n) 0 3) :=
 congrArg (fun k => D167 r n aNy x0 k) (cEn r n)
theorem cTj (q0 : oL) : D167 r n aNy x0 (K2 q0 0 3) = fun (env : aW) (h : Hp) =>
 bnd (bQ (env 1) h) fun v1 h1 =>
  q0 (env 0) v1 h1 := by kernel_rfl
theorem cOm : (fun (env : aW) (h : Hp) =>
 bnd (bQ (env 1) h) fun v1 h1 =>
  zE r n (env 0) v1 h1) = (K2 (s167 r n) 0 1) := by kernel_rfl
theorem dEh : D167 r n c167 x0 r167 = (K2 (s167 r n) 0 1) :=
 (cYi r n).trans
 ((cTj r n (zE r n)).trans (cOm r n))
theorem dBb : aF CF r n 167 args h = s167 r n (aT args 0) (aT args 1) h :=
 (by kernel_rfl : aF CF r n 167 args h = D167 r n c167 x0 r167 (aI args) h).trans ((congrFun (congrFun (dEh r n) (aI args)) h).trans (by kernel_rfl))
noncomputable def s168 (r : RT) (n : Nat) (x0 x1 x2 : DV) (h0 : Hp) : aH :=
 bnd (aD .geq x0 x1 h0) fun v1 h1 =>
 bnd (gD v1 true (some (x0, h1)) h1) fun v2 h2 =>
 bnd (gD v1 true (some (x2, h2)) h2) fun v3 h3 =>
 bnd (gD v1 true (aD .leq v2 v3 h3) h3) fun v4 h4 =>
 bnd (aP v1 v4 (.b false) h4) fun v5 h5 =>
 some (v5, h5)
noncomputable abbrev c168 : Code := cf Tryz.f168
noncomputable abbrev r168 : K := aQ CF Tryz.f168
noncomputable def D168 (r : RT) (n : Nat) (c : Code) (X : Nat → K) (k : K) : K := aM CF r 15 n c X r168 k
theorem dEw : D168 r n c168 x0 r168 = (K3 (s168 r n) 0 1 2) :=
 (by kernel_rfl)
theorem cZf : aF CF r n 168 args h = s168 r n (aT args 0) (aT args 1) (aT args 2) h :=
 (by kernel_rfl : aF CF r n 168 args h = D168 r n c168 x0 r168 (aI args) h).trans ((congrFun (congrFun (dEw r n) (aI args)) h).trans (by kernel_rfl))
noncomputable def s169 (r : RT) (n : Nat) (x0 x1 : DV) (h0 : Hp) : aH :=
 bnd (r 187 [x0, x1] h0) fun v1 h1 =>
 bnd (aD .geq v1 (aE 0) h1) fun v2 h2 =>
 some (v2, h2)
noncomputable abbrev c169 : Code := cf Tryz.f169
noncomputable abbrev r169 : K := aQ CF Tryz.f169
noncomputable def D169 (r : RT) (n : Nat) (c : Code) (X : Nat → K) (k : K) : K := aM CF r 9 n c X r169 k
theorem dFd : D169 r n c169 x0 r169 = (K2 (s169 r n) 0 1) :=
 (by kernel_rfl)
theorem cWs : aF CF r n 169 args h = s169 r n (aT args 0) (aT args 1) h :=
 (by kernel_rfl : aF CF r n 169 args h = D169 r n c169 x0 r169 (aI args) h).trans ((congrFun (congrFun (dFd r n) (aI args)) h).trans (by kernel_rfl))
noncomputable def s170 (r : RT) (n : Nat) (x0 : DV) (h0 : Hp) : aH :=
 bnd (bQ x0 h0) fun v1 h1 =>
 bnd (aK 4 v1 h1) fun v2 h2 =>
 bnd (r 171 [v2, (aE 20)] h2) fun v3 h3 =>
 bnd (gU .not v3 h3) fun v4 h4 =>
 some (v4, h4)
noncomputable abbrev c170 : Code := cf Tryz.f170
noncomputable abbrev r170 : K := aQ CF Tryz.f170
noncomputable def D170 (r : RT) (n : Nat) (c : Code) (X : Nat → K) (k : K) : K := aM CF r 6 n c X r170 k
theorem dFy : D170 r n c170 x0 r170 = (K1 (s170 r n) 0) :=
 (by kernel_rfl)
theorem cUi : aF CF r n 170 args h = s170 r n (aT args 0) h :=
 (by kernel_rfl : aF CF r n 170 args h = D170 r n c170 x0 r170 (aI args) h).trans ((congrFun (congrFun (dFy r n) (aI args)) h).trans (by kernel_rfl))
noncomputable def s171 (r : RT) (n : Nat) (x0 x1 : DV) (h0 : Hp) : aH :=
 bnd (bQ x0 h0) fun v1 h1 =>
 bnd (bQ x1 h1) fun v2 h2 =>
 bnd (aB 0 v1 h2) fun v3 h3 =>
 bnd (aA v3 h3) fun v4 h4 =>
 bnd (aD .eql v4 (aE 1) h4) fun v5 h5 =>
 aS v5 (
 bnd (aB 1 v1 h5) fun v6 h6 =>
 bnd (aA v6 h6) fun v7 h7 =>
 bnd (eG .eql v7 (.s []) h7) fun v8 h8 =>
 bnd (gD v8 true (aB 3 v1 h8) h8) fun v9 h9 =>
 bnd (gD v8 true (aA v9 h9) h9) fun v10 h10 =>
 bnd (gD v8 true (bX v10 h10) h10) fun v11 h11 =>
 bnd (gD v8 true (aD .eql v11 (aE 0) h11) h11) fun v12 h12 =>
 bnd (aP v8 v12 (.b false) h12) fun v13 h13 =>
 bnd (gD v13 true (aB 2 v1 h13) h13) fun v14 h14 =>
 bnd (gD v13 true (aA v14 h14) h14) fun v15 h15 =>
 bnd (gD v13 true (r 168 [v15, (.i .i64 (Int.negSucc 1152921504606846975)), (aE 1152921504606846976)] h15) h15) fun v16 h16 =>
 bnd (aP v13 v16 (.b false) h16) fun v17 h17 =>
 some (v17, h17)) (
 bnd (aD .eql v4 (aE 2) h5) fun v18 h18 =>
 aS v18 (
 bnd (aB 2 v1 h18) fun v19 h19 =>
 bnd (aA v19 h19) fun v20 h20 =>
 bnd (aD .eql v20 (aE 0) h20) fun v21 h21 =>
 bnd (gD v21 true (aB 3 v1 h21) h21) fun v22 h22 =>
 bnd (gD v21 true (aA v22 h22) h22) fun v23 h23 =>
 bnd (gD v21 true (bX v23 h23) h23) fun v24 h24 =>
 bnd (gD v21 true (aD .eql v24 (aE 0) h24) h24) fun v25 h25 =>
 bnd (aP v21 v25 (.b false) h25) fun v26 h26 =>
 bnd (gD v26 true (aB 1 v1 h26) h26) fun v27 h27 =>
 bnd (gD v26 true (aA v27 h27) h27) fun v28 h28 =>
 bnd (gD v26 true (dH v28 h28) h28) fun v29 h29 =>
 bnd (gD v26 true (aD .leq v29 (aE 250) h29) h29) fun v30 h30 =>
 bnd (aP v26 v30 (.b false) h30) fun v31 h31 =>
 some (v31, h31)) (
 bnd (aD .eql v4 (aE 3) h18) fun v32 h32 =>
 aS v32 (
 bnd (aB 2 v1 h32) fun v33 h33 =>
 bnd (aA v33 h33) fun v34 h34 =>
 bnd (aD .eql v34 (aE 0) h34) fun v35 h35 =>
 bnd (gD v35 true (aB 3 v1 h35) h35) fun v36 h36 =>
 bnd (gD v35 true (aA v36 h36) h36) fun v37 h37 =>
 bnd (gD v35 true (bX v37 h37) h37) fun v38 h38 =>
 bnd (gD v35 true (aD .eql v38 (aE 0) h38) h38) fun v39 h39 =>
 bnd (aP v35 v39 (.b false) h39) fun v40 h40 =>
 bnd (gD v40 true (aB 1 v1 h40) h40) fun v41 h41 =>
 bnd (gD v40 true (aA v41 h41) h41) fun v42 h42 =>
 bnd (gD v40 true (dH v42 h42) h42) fun v43 h43 =>
 bnd (gD v40 true (r 168 [v43, (aE 1), (aE 60)] h43) h43) fun v44 h44 =>
 bnd (aP v40 v44 (.b false) h44) fun v45 h45 =>
 some (v45, h45)) (
 bnd (aD .eql v4 (aE 4) h32) fun v46 h46 =>
 aS v46 (
 bnd (aB 3 v1 h46) fun v47 h47 =>
 bnd (aA v47 h47) fun v48 h48 =>
 bnd (r 169 [v48, (.f 199 [] [v2])] h48) fun v49 h49 =>
 bnd (aB 2 v1 h49) fun v50 h50 =>
 bnd (aA v50 h50) fun v51 h51 =>
 bnd (aD .eql v51 (aE 0) h51) fun v52 h52 =>
 bnd (gD v52 true (aB 1 v1 h52) h52) fun v53 h53 =>
 bnd (gD v52 true (aA v53 h53) h53) fun v54 h54 =>
 bnd (gD v52 true (eG .eql v54 (.s []) h54) h54) fun v55 h55 =>
 bnd (aP v52 v55 (.b false) h55) fun v56 h56 =>
 bnd (gD v56 true (aA v2 h56) h56) fun v57 h57 =>
 bnd (gD v56 true (aD .gtr v57 (aE 0) h57) h57) fun v58 h58 =>
 bnd (aP v56 v58 (.b false) h58) fun v59 h59 =>
 bnd (gD v59 true (aB 3 v1 h59) h59) fun v60 h60 =>
 bnd (gD v59 true (aA v60 h60) h60) fun v61 h61 =>
 bnd (gD v59 true (bX v61 h61) h61) fun v62 h62 =>
 bnd (gD v59 true (aD .leq v62 (aE 250) h62) h62) fun v63 h63 =>
 bnd (aP v59 v63 (.b false) h63) fun v64 h64 =>
 bnd (gD v64 true (some (v49, h64)) h64) fun v65 h65 =>
 bnd (gD v64 true (gU .not v65 h65) h65) fun v66 h66 =>
 bnd (aP v64 v66 (.b false) h66) fun v67 h67 =>
 some (v67, h67)) (
 some ((.b false), h46)))))
noncomputable abbrev c171 : Code := cf Tryz.f171
noncomputable abbrev r171 : K := aQ CF Tryz.f171
noncomputable def D171 (r : RT) (n : Nat) (c : Code) (X : Nat → K) (k : K) : K := aM CF r 86 n c X r171 k
theorem dKc : D171 r n c171 x0 r171 = (K2 (s171 r n) 0 1) :=
 (by kernel_rfl)
theorem cXq : aF CF r n 171 args h = s171 r n (aT args 0) (aT args 1) h :=
 (by kernel_rfl : aF CF r n 171 args h = D171 r n c171 x0 r171 (aI args) h).trans ((congrFun (congrFun (dKc r n) (aI args)) h).trans (by kernel_rfl))
end Go.Dd

namespace Go.Dd
open Go.Proofs
variable (r : RT) (n : Nat) (args : List DV) (h : Hp)
noncomputable def bD (r : RT) (n : Nat) (h0 : Hp) : aH :=
 some ((.b true), h0)
noncomputable def tZ (r : RT) (n : Nat) (x2 x3 x4 x27 x51 : DV) (h0 : Hp) : aH :=
 aS x51 (
 bnd (aB 1 x4 h0) fun v1 h1 =>
 bnd (aA v1 h1) fun v2 h2 =>
 bnd (aD .lss v2 x2 h2) fun v3 h3 =>
 some (v3, h3)) (
 bnd (aD .eql x27 (aE 18) h0) fun v4 h4 =>
 aS v4 (
 bnd (aB 2 x4 h4) fun v5 h5 =>
 bnd (aA v5 h5) fun v6 h6 =>
 bnd (aD .leq v6 (aE 4) h6) fun v7 h7 =>
 bnd (gD v7 true (aB 1 x4 h7) h7) fun v8 h8 =>
 bnd (gD v7 true (aA v8 h8) h8) fun v9 h9 =>
 bnd (gD v7 true (aB 2 x4 h9) h9) fun v10 h10 =>
 bnd (gD v7 true (aA v10 h10) h10) fun v11 h11 =>
 bnd (gD v7 true (aD .add v9 v11 h11) h11) fun v12 h12 =>
 bnd (gD v7 true (aB 2 x3 h12) h12) fun v13 h13 =>
 bnd (gD v7 true (aA v13 h13) h13) fun v14 h14 =>
 bnd (gD v7 true (aD .leq v12 v14 h14) h14) fun v15 h15 =>
 bnd (aP v7 v15 (.b false) h15) fun v16 h16 =>
 some (v16, h16)) (
   bD r n h4))
noncomputable def aVi (r : RT) (n : Nat) (x2 x3 x4 x27 : DV) (h0 : Hp) : aH :=
 bnd (aD .eql x27 (aE 8) h0) fun v1 h1 =>
 aS v1 (
  tZ r n x2 x3 x4 x27 v1 h1) (
 bnd (aD .eql x27 (aE 11) h1) fun v2 h2 =>
  tZ r n x2 x3 x4 x27 v2 h2)
noncomputable def sY (r : RT) (n : Nat) (x2 x3 x4 x27 x43 : DV) (h0 : Hp) : aH :=
 aS x43 (
 bnd (aB 1 x4 h0) fun v1 h1 =>
 bnd (aA v1 h1) fun v2 h2 =>
 bnd (aB 2 x3 h2) fun v3 h3 =>
 bnd (aA v3 h3) fun v4 h4 =>
 bnd (aD .lss v2 v4 h4) fun v5 h5 =>
 some (v5, h5)) (
  aVi r n x2 x3 x4 x27 h0)
noncomputable def aXw (r : RT) (n : Nat) (x2 x3 x4 x27 : DV) (h0 : Hp) : aH :=
 bnd (aD .eql x27 (aE 7) h0) fun v1 h1 =>
 aS v1 (
  sY r n x2 x3 x4 x27 v1 h1) (
 bnd (aD .eql x27 (aE 10) h1) fun v2 h2 =>
  sY r n x2 x3 x4 x27 v2 h2)
noncomputable def tW (r : RT) (n : Nat) (x2 x3 x4 x8 x27 x34 : DV) (h0 : Hp) : aH :=
 aS x34 (
 bnd (gD x8 true (aB 2 x4 h0) h0) fun v1 h1 =>
 bnd (gD x8 true (aA v1 h1) h1) fun v2 h2 =>
 bnd (gD x8 true (aD .leq v2 (aE 4) h2) h2) fun v3 h3 =>
 bnd (aP x8 v3 (.b false) h3) fun v4 h4 =>
 some (v4, h4)) (
  aXw r n x2 x3 x4 x27 h0)
noncomputable def bQx (r : RT) (n : Nat) (x2 x3 x4 x8 x27 : DV) (h0 : Hp) : aH :=
 bnd (aD .eql x27 (aE 14) h0) fun v1 h1 =>
 aS v1 (
  tW r n x2 x3 x4 x8 x27 v1 h1) (
 bnd (aD .eql x27 (aE 15) h1) fun v2 h2 =>
  tW r n x2 x3 x4 x8 x27 v2 h2)
noncomputable def aSt (r : RT) (n : Nat) (x2 x3 x4 x8 x27 x31 : DV) (h0 : Hp) : aH :=
 aS x31 (
 some (x8, h0)) (
  bQx r n x2 x3 x4 x8 x27 h0)
noncomputable def bJv (r : RT) (n : Nat) (x2 x3 x4 x8 x27 : DV) (h0 : Hp) : aH :=
 bnd (aD .eql x27 (aE 9) h0) fun v1 h1 =>
  aSt r n x2 x3 x4 x8 x27 v1 h1
noncomputable def aPp (r : RT) (n : Nat) (x2 x3 x4 x7 x8 x27 x28 : DV) (h0 : Hp) : aH :=
 aS x28 (
 some (x7, h0)) (
  bJv r n x2 x3 x4 x8 x27 h0)
noncomputable def aUb (r : RT) (n : Nat) (x2 x3 x4 x7 x8 x27 : DV) (h0 : Hp) : aH :=
 bnd (aD .eql x27 (aE 6) h0) fun v1 h1 =>
  aPp r n x2 x3 x4 x7 x8 x27 v1 h1
noncomputable def aNw (r : RT) (n : Nat) (x2 x3 x4 x7 x8 : DV) (h0 : Hp) : aH :=
 bnd (aB 0 x4 h0) fun v1 h1 =>
 bnd (aA v1 h1) fun v2 h2 =>
  aUb r n x2 x3 x4 x7 x8 v2 h2
noncomputable def aOj (r : RT) (n : Nat) (x2 x3 x4 x7 : DV) (h0 : Hp) : aH :=
 bnd (gD x7 true (aB 4 x3 h0) h0) fun v1 h1 =>
 bnd (gD x7 true (aA v1 h1) h1) fun v2 h2 =>
 bnd (gD x7 true (aB 1 x4 h2) h2) fun v3 h3 =>
 bnd (gD x7 true (aA v3 h3) h3) fun v4 h4 =>
 bnd (gD x7 true (aJ 4 v2 v4 h4) h4) fun v5 h5 =>
 bnd (gD x7 true (aB 0 v5 h5) h5) fun v6 h6 =>
 bnd (gD x7 true (aA v6 h6) h6) fun v7 h7 =>
 bnd (gD x7 true (aD .eql v7 (aE 3) h7) h7) fun v8 h8 =>
 bnd (aP x7 v8 (.b false) h8) fun v9 h9 =>
  aNw r n x2 x3 x4 x7 v9 h9
noncomputable def wQ (r : RT) (n : Nat) (x2 x3 x4 : DV) (h0 : Hp) : aH :=
 bnd (aB 1 x4 h0) fun v1 h1 =>
 bnd (aA v1 h1) fun v2 h2 =>
 bnd (aB 4 x3 h2) fun v3 h3 =>
 bnd (aA v3 h3) fun v4 h4 =>
 bnd (bX v4 h4) fun v5 h5 =>
 bnd (aD .lss v2 v5 h5) fun v6 h6 =>
  aOj r n x2 x3 x4 v6 h6
noncomputable def s172 (r : RT) (n : Nat) (x0 x1 x2 : DV) (h0 : Hp) : aH :=
 bnd (bQ x0 h0) fun v1 h1 =>
 bnd (bQ x1 h1) fun v2 h2 =>
  wQ r n x2 v1 v2 h2
noncomputable abbrev c172 : Code := cf Tryz.f172
noncomputable abbrev aFt : Code := cR c172
noncomputable abbrev aAy : Code := cR aFt
noncomputable abbrev aJt : Code := cR aAy
noncomputable abbrev cVw : Code := cR aJt
noncomputable abbrev vM : Code := cL aJt
noncomputable abbrev aNr : Code := cR vM
noncomputable abbrev aEj : Code := cL aNr
noncomputable abbrev xW : Code := cR aEj
noncomputable abbrev xR : Code := cR xW
noncomputable abbrev pN : Code := cR xR
noncomputable abbrev oU : Code := cR pN
noncomputable abbrev pQ : Code := cR oU
noncomputable abbrev pH : Code := cR pQ
noncomputable abbrev pJ : Code := cR pH
noncomputable abbrev pD : Code := cR pJ
noncomputable abbrev cPx : Code := cR pD
noncomputable abbrev aWp : Code := cL pD
noncomputable abbrev cNq : Code := cL pJ
noncomputable abbrev aYw : Code := cL pH
noncomputable abbrev cOc : Code := cL pQ
noncomputable abbrev aVk : Code := cL oU
noncomputable abbrev cJb : Code := cL pN
noncomputable abbrev aUo : Code := cL xR
noncomputable abbrev cFu : Code := cL xW
noncomputable abbrev aZo : Code := cL aEj
noncomputable abbrev aVx : Code := cL vM
noncomputable abbrev aWa : Code := cL aAy
noncomputable abbrev bBi : Code := cL aFt
noncomputable abbrev aEa : Code := cL c172
noncomputable abbrev r172 : K := aQ CF Tryz.f172
noncomputable def D172 (r : RT) (n : Nat) (c : Code) (X : Nat → K) (k : K) : K := aM CF r 73 n c X r172 k
theorem cKz : D172 r n cVw x0 r172 = (K0 (bD r n)) :=
 (by kernel_rfl)
theorem bPn : D172 r n cPx (xs x0 0 (K0 (bD r n))) (K0 (bD r n)) = (K5 (tZ r n) 2 3 4 27 51) :=
 (by kernel_rfl)
theorem bDc : D172 r n pD (xs x0 0 (K0 (bD r n))) (K0 (bD r n)) = D172 r n aWp (xs x0 0 (K0 (bD r n))) (K5 (tZ r n) 2 3 4 27 51) :=
 congrArg (fun k => D172 r n aWp (xs x0 0 (K0 (bD r n))) k) (bPn r n)
theorem bWx : D172 r n pD (xs x0 0 (K0 (bD r n))) (K0 (bD r n)) = (K4 (aVi r n) 2 3 4 27) :=
 (bDc r n).trans
 ((by kernel_rfl))
theorem bIp : D172 r n pJ (xs x0 0 (K0 (bD r n))) (K0 (bD r n)) = (K5 (sY r n) 2 3 4 27 43) :=
 (by kernel_rfl : D172 r n pJ (xs x0 0 (K0 (bD r n))) (K0 (bD r n)) = (fun (env : aW) (h : Hp) => aS (opr env (cC pJ)) (D172 r n cNq (xs x0 0 (K0 (bD r n))) (K0 (bD r n)) env h) (D172 r n pD (xs x0 0 (K0 (bD r n))) (K0 (bD r n)) env h))).trans (by rw [bWx r n]; kernel_rfl)
theorem bCo : D172 r n pH (xs x0 0 (K0 (bD r n))) (K0 (bD r n)) = D172 r n aYw (xs x0 0 (K0 (bD r n))) (K5 (sY r n) 2 3 4 27 43) :=
 congrArg (fun k => D172 r n aYw (xs x0 0 (K0 (bD r n))) k) (bIp r n)
theorem bXw : D172 r n pH (xs x0 0 (K0 (bD r n))) (K0 (bD r n)) = (K4 (aXw r n) 2 3 4 27) :=
 (bCo r n).trans
 ((by kernel_rfl))
theorem bNc : D172 r n pQ (xs x0 0 (K0 (bD r n))) (K0 (bD r n)) = (K6 (tW r n) 2 3 4 8 27 34) :=
 (by kernel_rfl : D172 r n pQ (xs x0 0 (K0 (bD r n))) (K0 (bD r n)) = (fun (env : aW) (h : Hp) => aS (opr env (cC pQ)) (D172 r n cOc (xs x0 0 (K0 (bD r n))) (K0 (bD r n)) env h) (D172 r n pH (xs x0 0 (K0 (bD r n))) (K0 (bD r n)) env h))).trans (by rw [bXw r n]; kernel_rfl)
theorem bLc : D172 r n oU (xs x0 0 (K0 (bD r n))) (K0 (bD r n)) = D172 r n aVk (xs x0 0 (K0 (bD r n))) (K6 (tW r n) 2 3 4 8 27 34) :=
 congrArg (fun k => D172 r n aVk (xs x0 0 (K0 (bD r n))) k) (bNc r n)
theorem cBu : D172 r n oU (xs x0 0 (K0 (bD r n))) (K0 (bD r n)) = (K5 (bQx r n) 2 3 4 8 27) :=
 (bLc r n).trans
 ((by kernel_rfl))
theorem cEm : D172 r n pN (xs x0 0 (K0 (bD r n))) (K0 (bD r n)) = (K6 (aSt r n) 2 3 4 8 27 31) :=
 (by kernel_rfl : D172 r n pN (xs x0 0 (K0 (bD r n))) (K0 (bD r n)) = (fun (env : aW) (h : Hp) => aS (opr env (cC pN)) (D172 r n cJb (xs x0 0 (K0 (bD r n))) (K0 (bD r n)) env h) (D172 r n oU (xs x0 0 (K0 (bD r n))) (K0 (bD r n)) env h))).trans (by rw [cBu r n]; kernel_rfl)
theorem bTo : D172 r n xR (xs x0 0 (K0 (bD r n))) (K0 (bD r n)) = D172 r n aUo (xs x0 0 (K0 (bD r n))) (K6 (aSt r n) 2 3 4 8 27 31) :=
 congrArg (fun k => D172 r n aUo (xs x0 0 (K0 (bD r n))) k) (cEm r n)
theorem cBl : D172 r n xR (xs x0 0 (K0 (bD r n))) (K0 (bD r n)) = (K5 (bJv r n) 2 3 4 8 27) :=
 (bTo r n).trans
 ((by kernel_rfl))
theorem cCk : D172 r n xW (xs x0 0 (K0 (bD r n))) (K0 (bD r n)) = (K7 (aPp r n) 2 3 4 7 8 27 28) :=
 (by kernel_rfl : D172 r n xW (xs x0 0 (K0 (bD r n))) (K0 (bD r n)) = (fun (env : aW) (h : Hp) => aS (opr env (cC xW)) (D172 r n cFu (xs x0 0 (K0 (bD r n))) (K0 (bD r n)) env h) (D172 r n xR (xs x0 0 (K0 (bD r n))) (K0 (bD r n)) env h))).trans (by rw [cBl r n]; kernel_rfl)
theorem bQa : D172 r n aEj (xs x0 0 (K0 (bD r n))) (K0 (bD r n)) = D172 r n aZo (xs x0 0 (K0 (bD r n))) (K7 (aPp r n) 2 3 4 7 8 27 28) :=
 congrArg (fun k => D172 r n aZo (xs x0 0 (K0 (bD r n))) k) (cCk r n)
theorem cGo : D172 r n aNr x0 (K0 (bD r n)) = (K6 (aUb r n) 2 3 4 7 8 27) :=
 (by kernel_rfl : D172 r n aNr x0 (K0 (bD r n)) = D172 r n aEj (xs x0 0 (K0 (bD r n))) (K0 (bD r n))).trans
 ((bQa r n).trans
 ((by kernel_rfl)))
theorem bOr : D172 r n aJt x0 r172 = D172 r n vM x0 (K0 (bD r n)) :=
 congrArg (fun k => D172 r n vM x0 k) (cKz r n)
theorem bKt : D172 r n vM x0 (K0 (bD r n)) = D172 r n aVx x0 (K6 (aUb r n) 2 3 4 7 8 27) :=
 congrArg (fun k => D172 r n aVx x0 k) (cGo r n)
theorem cLu : D172 r n aJt x0 r172 = (K5 (aNw r n) 2 3 4 7 8) :=
 (bOr r n).trans
 ((bKt r n).trans
 ((by kernel_rfl)))
theorem bYp : D172 r n aAy x0 r172 = D172 r n aWa x0 (K5 (aNw r n) 2 3 4 7 8) :=
 congrArg (fun k => D172 r n aWa x0 k) (cLu r n)
theorem cEq : D172 r n aAy x0 r172 = (K4 (aOj r n) 2 3 4 7) :=
 (bYp r n).trans
 ((by kernel_rfl))
theorem bUi : D172 r n aFt x0 r172 = D172 r n bBi x0 (K4 (aOj r n) 2 3 4 7) :=
 congrArg (fun k => D172 r n bBi x0 k) (cEq r n)
theorem cNo : D172 r n aFt x0 r172 = (K3 (wQ r n) 2 3 4) :=
 (bUi r n).trans
 ((by kernel_rfl))
theorem cPh : D172 r n c172 x0 r172 = D172 r n aEa x0 (K3 (wQ r n) 2 3 4) :=
 congrArg (fun k => D172 r n aEa x0 k) (cNo r n)
theorem cNw (q0 : mL) : D172 r n aEa x0 (K3 q0 2 3 4) = fun (env : aW) (h : Hp) =>
 bnd (bQ (env 0) h) fun v1 h1 =>
 bnd (bQ (env 1) h1) fun v2 h2 =>
  q0 (env 2) v1 v2 h2 := by kernel_rfl
theorem bSk : (fun (env : aW) (h : Hp) =>
 bnd (bQ (env 0) h) fun v1 h1 =>
 bnd (bQ (env 1) h1) fun v2 h2 =>
  wQ r n (env 2) v1 v2 h2) = (K3 (s172 r n) 0 1 2) := by kernel_rfl
theorem dIk : D172 r n c172 x0 r172 = (K3 (s172 r n) 0 1 2) :=
 (cPh r n).trans
 ((cNw r n (wQ r n)).trans (bSk r n))
theorem dCq : aF CF r n 172 args h = s172 r n (aT args 0) (aT args 1) (aT args 2) h :=
 (by kernel_rfl : aF CF r n 172 args h = D172 r n c172 x0 r172 (aI args) h).trans ((congrFun (congrFun (dIk r n) (aI args)) h).trans (by kernel_rfl))
noncomputable def eP (r : RT) (n : Nat) (x3 : DV) (h0 : Hp) : aH :=
 some (x3, h0)
noncomputable def bBh (r : RT) (n : Nat) (kk6 : dL) (x3 x4 x11 x12 : DV) (h0 : Hp) : aH :=
 bnd (aD .lss x12 x11 h0) fun v1 h1 =>
 aS v1 (
 bnd (cV CF r x4 [x12] h1) fun v2 h2 =>
 bnd (aJ 1 x3 x12 h2) fun v3 h3 =>
 bnd (aG 1 v3 v2 h3) fun _ h4 =>
 bnd (aD .add x12 (aE 1) h4) fun v5 h5 =>
      kk6 x3 x4 x11 v5 h5) (
      eP r n x3 h1)
noncomputable def tS (r : RT) (n : Nat) (m : Nat) : dL :=
 Nat.rec (motive := fun _ => dL) (fun _ _ _ _ _ => none) (fun _ ih => bBh r n ih) m
noncomputable def bMk (r : RT) (n : Nat) : dL := tS r n n
noncomputable def aQz (r : RT) (n : Nat) (x3 x4 x11 x12 : DV) (h0 : Hp) : aH :=
 bMk r n x3 x4 x11 x12 h0
noncomputable def aSe (r : RT) (n : Nat) (x1 x3 x4 : DV) (h0 : Hp) : aH :=
 bnd (aA x1 h0) fun v1 h1 =>
 bnd (bX v1 h1) fun v2 h2 =>
  aQz r n x3 x4 v2 (aE 0) h2
noncomputable def wP (r : RT) (n : Nat) (x1 x3 : DV) (h0 : Hp) : aH :=
 aSe r n x1 x3 (.f 200 [] [x1]) h0
noncomputable def qX (r : RT) (n : Nat) (x1 : DV) (h0 : Hp) : aH :=
 bnd (aA x1 h0) fun v1 h1 =>
 bnd (bX v1 h1) fun v2 h2 =>
 bnd (cI 1 8 [(aE 0)] v2 v2 h2) fun v3 h3 =>
  wP r n x1 v3 h3
noncomputable def s173 (r : RT) (n : Nat) (x0 : DV) (h0 : Hp) : aH :=
 bnd (bQ x0 h0) fun v1 h1 =>
  qX r n v1 h1
noncomputable abbrev c173 : Code := cf Tryz.f173
noncomputable abbrev aIq : Code := cR c173
noncomputable abbrev aCb : Code := cR aIq
noncomputable abbrev aBj : Code := cR aCb
noncomputable abbrev dAw : Code := cR aBj
noncomputable abbrev vA : Code := cL aBj
noncomputable abbrev aSa : Code := cR vA
noncomputable abbrev aFa : Code := cL aSa
noncomputable abbrev nV : Code := cL aFa
noncomputable abbrev bJt : Code := cL vA
noncomputable abbrev aVb : Code := cL aCb
noncomputable abbrev aBt : Code := cL aIq
noncomputable abbrev aFo : Code := cL c173
noncomputable abbrev r173 : K := aQ CF Tryz.f173
noncomputable def D173 (r : RT) (n : Nat) (c : Code) (X : Nat → K) (k : K) : K := aM CF r 23 n c X r173 k
theorem cLe : D173 r n dAw x0 r173 = (K1 (eP r n) 3) :=
 (by kernel_rfl)
theorem bWs (kk6 : dL) : D173 r n nV (xs x0 0 (K1 (eP r n) 3)) (K4 kk6 3 4 11 12) = (K4 (bBh r n kk6) 3 4 11 12) :=
 (by kernel_rfl)
theorem bIn (m : Nat) : aO (fun kk => D173 r n nV (xs x0 0 (K1 (eP r n) 3)) kk) m = (K4 (tS r n m) 3 4 11 12) := by
 induction m with
 | zero => exact (by kernel_rfl : aO (fun kk => D173 r n nV (xs x0 0 (K1 (eP r n) 3)) kk) 0 = (K4 (tS r n 0) 3 4 11 12))
 | succ m ih =>
  refine (by kernel_rfl : aO (fun kk => D173 r n nV (xs x0 0 (K1 (eP r n) 3)) kk) (m + 1) = D173 r n nV (xs x0 0 (K1 (eP r n) 3)) (aO (fun kk => D173 r n nV (xs x0 0 (K1 (eP r n) 3)) kk) m)).trans ?_
  rw [ih]
  exact (bWs r n (tS r n m)).trans (by kernel_rfl)
theorem cBn : D173 r n aFa (xs x0 0 (K1 (eP r n) 3)) (K1 (eP r n) 3) = (K4 (bMk r n) 3 4 11 12) :=
 (by kernel_rfl : D173 r n aFa (xs x0 0 (K1 (eP r n) 3)) (K1 (eP r n) 3) = aO (fun kk => D173 r n nV (xs x0 0 (K1 (eP r n) 3)) kk) n).trans ((bIn r n n).trans (by kernel_rfl))
theorem cGq : D173 r n aSa x0 (K1 (eP r n) 3) = (K4 (aQz r n) 3 4 11 12) :=
 (by kernel_rfl : D173 r n aSa x0 (K1 (eP r n) 3) = D173 r n aFa (xs x0 0 (K1 (eP r n) 3)) (K1 (eP r n) 3)).trans
 ((cBn r n).trans (by kernel_rfl))
theorem bIy : D173 r n aBj x0 r173 = D173 r n vA x0 (K1 (eP r n) 3) :=
 congrArg (fun k => D173 r n vA x0 k) (cLe r n)
theorem bZq : D173 r n vA x0 (K1 (eP r n) 3) = D173 r n bJt x0 (K4 (aQz r n) 3 4 11 12) :=
 congrArg (fun k => D173 r n bJt x0 k) (cGq r n)
theorem cNv : D173 r n aBj x0 r173 = (K3 (aSe r n) 1 3 4) :=
 (bIy r n).trans
 ((bZq r n).trans
 ((by kernel_rfl)))
theorem bRp : D173 r n aCb x0 r173 = D173 r n aVb x0 (K3 (aSe r n) 1 3 4) :=
 congrArg (fun k => D173 r n aVb x0 k) (cNv r n)
theorem cId : D173 r n aCb x0 r173 = (K2 (wP r n) 1 3) :=
 (bRp r n).trans
 ((by kernel_rfl))
theorem bTj : D173 r n aIq x0 r173 = D173 r n aBt x0 (K2 (wP r n) 1 3) :=
 congrArg (fun k => D173 r n aBt x0 k) (cId r n)
theorem bOy (q0 : oL) : D173 r n aBt x0 (K2 q0 1 3) = fun (env : aW) (h : Hp) =>
 bnd (aA (env 1) h) fun v1 h1 =>
 bnd (bX v1 h1) fun v2 h2 =>
 bnd (cI 1 8 [(aE 0)] v2 v2 h2) fun v3 h3 =>
  q0 (env 1) v3 h3 := by kernel_rfl
theorem bDm : (fun (env : aW) (h : Hp) =>
 bnd (aA (env 1) h) fun v1 h1 =>
 bnd (bX v1 h1) fun v2 h2 =>
 bnd (cI 1 8 [(aE 0)] v2 v2 h2) fun v3 h3 =>
  wP r n (env 1) v3 h3) = (K1 (qX r n) 1) := by kernel_rfl
theorem cFe : D173 r n aIq x0 r173 = (K1 (qX r n) 1) :=
 (bTj r n).trans
 ((bOy r n (wP r n)).trans (bDm r n))
theorem cXy : D173 r n c173 x0 r173 = D173 r n aFo x0 (K1 (qX r n) 1) :=
 congrArg (fun k => D173 r n aFo x0 k) (cFe r n)
theorem cWg (q0 : TT1) : D173 r n aFo x0 (K1 q0 1) = fun (env : aW) (h : Hp) =>
 bnd (bQ (env 0) h) fun v1 h1 =>
  q0 v1 h1 := by kernel_rfl
theorem cFk : (fun (env : aW) (h : Hp) =>
 bnd (bQ (env 0) h) fun v1 h1 =>
  qX r n v1 h1) = (K1 (s173 r n) 0) := by kernel_rfl
theorem dFq : D173 r n c173 x0 r173 = (K1 (s173 r n) 0) :=
 (cXy r n).trans
 ((cWg r n (qX r n)).trans (cFk r n))
theorem cYs : aF CF r n 173 args h = s173 r n (aT args 0) h :=
 (by kernel_rfl : aF CF r n 173 args h = D173 r n c173 x0 r173 (aI args) h).trans ((congrFun (congrFun (dFq r n) (aI args)) h).trans (by kernel_rfl))
noncomputable def bH (r : RT) (n : Nat) (h0 : Hp) : aH :=
 some ((.b true), h0)
noncomputable def cH (r : RT) (n : Nat) (kk4 : cD) (x0 x1 x11 x12 x13 : DV) (h0 : Hp) : aH :=
 bnd (aD .add x13 (aE 1) h0) fun v1 h1 =>
  kk4 x0 x1 x11 x12 v1 h1
noncomputable def fS (r : RT) (n : Nat) (kk4 : cD) (x0 x1 x5 x6 x11 x12 x13 : DV) (h0 : Hp) : aH :=
 bnd (aK 3 x6 h0) fun v1 h1 =>
 bnd (r 202 [v1] h1) fun v2 h2 =>
 bnd (aD .geq v2 (aE 0) h2) fun v3 h3 =>
 bnd (gD v3 true (some (v2, h3)) h3) fun v4 h4 =>
 bnd (gD v3 true (some (x0, h4)) h4) fun v5 h5 =>
 bnd (gD v3 true (bX v5 h5) h5) fun v6 h6 =>
 bnd (gD v3 true (aD .geq v4 v6 h6) h6) fun v7 h7 =>
 bnd (gD v3 true (some (v7, h7)) h7) fun v8 h8 =>
 bnd (gD v8 false (some (x1, h8)) h8) fun v9 h9 =>
 bnd (gD v8 false (some (v2, h9)) h9) fun v10 h10 =>
 bnd (gD v8 false (aJ 1 v9 v10 h10) h10) fun v11 h11 =>
 bnd (gD v8 false (aA v11 h11) h11) fun v12 h12 =>
 bnd (gD v8 false (some (x1, h12)) h12) fun v13 h13 =>
 bnd (gD v8 false (some (x5, h13)) h13) fun v14 h14 =>
 bnd (gD v8 false (aJ 1 v13 v14 h14) h14) fun v15 h15 =>
 bnd (gD v8 false (aA v15 h15) h15) fun v16 h16 =>
 bnd (gD v8 false (aD .neq v12 v16 h16) h16) fun v17 h17 =>
 bnd (gD v3 true (aP v8 (.b true) v17 h17) h17) fun v18 h18 =>
 bnd (aP v3 v18 (.b false) h18) fun v19 h19 =>
 aS v19 (
 some ((.b false), h19)) (
  cH r n kk4 x0 x1 x11 x12 x13 h19)
noncomputable def uE (r : RT) (n : Nat) (kk4 : cD) (x0 x1 x5 x6 x7 x8 x9 x11 x12 x13 : DV) (h0 : Hp) : aH :=
 bnd (gU .not x8 h0) fun v1 h1 =>
 bnd (gD v1 false (some (x7, h1)) h1) fun v2 h2 =>
 bnd (gD v1 false (some (x9, h2)) h2) fun v3 h3 =>
 bnd (gD v1 false (aD .gtr v2 v3 h3) h3) fun v4 h4 =>
 bnd (aP v1 (.b true) v4 h4) fun v5 h5 =>
 aS v5 (
 some ((.b false), h5)) (
  fS r n kk4 x0 x1 x5 x6 x11 x12 x13 h5)
noncomputable def aEz (r : RT) (n : Nat) (kk4 : cD) (x0 x1 x5 x6 x7 x8 x9 x11 x12 x13 : DV) (h0 : Hp) : aH :=
 bnd (aJ 1 x1 x5 h0) fun v1 h1 =>
 bnd (aA v1 h1) fun v2 h2 =>
 bnd (aD .geq v2 (aE 0) h2) fun v3 h3 =>
 aS v3 (
 bnd (aJ 1 x1 x5 h3) fun v4 h4 =>
 bnd (aA v4 h4) fun v5 h5 =>
 bnd (r 201 [x0, v5] h5) fun v6 h6 =>
 bnd (aC 0 v6 h6) fun v7 h7 =>
 bnd (aC 1 v6 h7) fun v8 h8 =>
  uE r n kk4 x0 x1 x5 x6 x7 x8 v7 x11 x12 x13 h8) (
  uE r n kk4 x0 x1 x5 x6 x7 x8 x9 x11 x12 x13 h3)
noncomputable def aJq (r : RT) (n : Nat) (kk4 : cD) (x0 x1 x5 x6 x7 x8 x11 x12 x13 : DV) (h0 : Hp) : aH :=
 bnd (bX x0 h0) fun v1 h1 =>
  aEz r n kk4 x0 x1 x5 x6 x7 x8 v1 x11 x12 x13 h1
noncomputable def aVp (r : RT) (n : Nat) (kk4 : cD) (x0 x1 x5 x6 x11 x12 x13 : DV) (h0 : Hp) : aH :=
 bnd (r 201 [x0, x5] h0) fun v1 h1 =>
 bnd (aC 0 v1 h1) fun v2 h2 =>
 bnd (aC 1 v1 h2) fun v3 h3 =>
  aJq r n kk4 x0 x1 x5 x6 v2 v3 x11 x12 x13 h3
noncomputable def aIr (r : RT) (n : Nat) (kk4 : cD) (x0 x1 x5 x6 x11 x12 x13 x20 : DV) (h0 : Hp) : aH :=
 aS x20 (
  aVp r n kk4 x0 x1 x5 x6 x11 x12 x13 h0) (
  fS r n kk4 x0 x1 x5 x6 x11 x12 x13 h0)
noncomputable def wT (r : RT) (n : Nat) (kk4 : cD) (x0 x1 x5 x6 x11 x12 x13 : DV) (h0 : Hp) : aH :=
 bnd (aB 0 x6 h0) fun v1 h1 =>
 bnd (aA v1 h1) fun v2 h2 =>
 bnd (aD .eql v2 (aE 18) h2) fun v3 h3 =>
  aIr r n kk4 x0 x1 x5 x6 x11 x12 x13 v3 h3
noncomputable def aHh (r : RT) (n : Nat) (kk4 : cD) (x0 x1 x11 x12 x13 : DV) (h0 : Hp) : aH :=
 bnd (aJ 3 x11 x13 h0) fun v1 h1 =>
 bnd (aK 3 v1 h1) fun v2 h2 =>
 bnd (bL [(aE 0), (aE 0), (aE 0)] h2) fun v3 h3 =>
 bnd (aG 3 v3 v2 h3) fun _ h4 =>
  wT r n kk4 x0 x1 x13 v3 x11 x12 x13 h4
noncomputable def aQl (r : RT) (n : Nat) (kk4 : cD) (x0 x1 x11 x12 x13 x14 : DV) (h0 : Hp) : aH :=
 aS x14 (
  aHh r n kk4 x0 x1 x11 x12 x13 h0) (
  bH r n h0)
noncomputable def bAj (r : RT) (n : Nat) (kk4 : cD) (x0 x1 x11 x12 x13 : DV) (h0 : Hp) : aH :=
 bnd (aD .lss x13 x12 h0) fun v1 h1 =>
  aQl r n kk4 x0 x1 x11 x12 x13 v1 h1
noncomputable def tM (r : RT) (n : Nat) (m : Nat) : cD :=
 Nat.rec (motive := fun _ => cD) (fun _ _ _ _ _ _ => none) (fun _ ih => bAj r n ih) m
noncomputable def bYx (r : RT) (n : Nat) : cD := tM r n n
noncomputable def aNs (r : RT) (n : Nat) (x0 x1 x11 x12 x13 : DV) (h0 : Hp) : aH :=
 bYx r n x0 x1 x11 x12 x13 h0
noncomputable def aPj (r : RT) (n : Nat) (x0 x1 : DV) (h0 : Hp) : aH :=
 bnd (bX x0 h0) fun v1 h1 =>
  aNs r n x0 x1 x0 v1 (aE 0) h1
noncomputable def s174 (r : RT) (n : Nat) (x0 x1 : DV) (h0 : Hp) : aH :=
 aPj r n x0 x1 h0
noncomputable abbrev c174 : Code := cf Tryz.f174
noncomputable abbrev aHt : Code := cR c174
noncomputable abbrev cZy : Code := cR aHt
noncomputable abbrev yH : Code := cL aHt
noncomputable abbrev aRm : Code := cR yH
noncomputable abbrev aHf : Code := cL aRm
noncomputable abbrev kB : Code := cL aHf
noncomputable abbrev aFb : Code := cR kB
noncomputable abbrev aKa : Code := cR aFb
noncomputable abbrev cYh : Code := cR aKa
noncomputable abbrev uK : Code := cL aKa
noncomputable abbrev sE : Code := cL uK
noncomputable abbrev uH : Code := cR sE
noncomputable abbrev cKm : Code := cR uH
noncomputable abbrev oW : Code := cL uH
noncomputable abbrev pR : Code := cR oW
noncomputable abbrev oX : Code := cL pR
noncomputable abbrev uC : Code := cR oX
noncomputable abbrev tC : Code := cR uC
noncomputable abbrev cKe : Code := cR tC
noncomputable abbrev bBp : Code := cL tC
noncomputable abbrev aZp : Code := cL uC
noncomputable abbrev aZn : Code := cL oX
noncomputable abbrev cDp : Code := cR pR
noncomputable abbrev aYu : Code := cL oW
noncomputable abbrev aGx : Code := cL sE
noncomputable abbrev bBg : Code := cL aFb
noncomputable abbrev aZv : Code := cL kB
noncomputable abbrev aVt : Code := cL yH
noncomputable abbrev aUu : Code := cL c174
noncomputable abbrev r174 : K := aQ CF Tryz.f174
noncomputable def D174 (r : RT) (n : Nat) (c : Code) (X : Nat → K) (k : K) : K := aM CF r 72 n c X r174 k
theorem cDv : D174 r n cZy x0 r174 = (K0 (bH r n)) :=
 (by kernel_rfl)
theorem cCg (kk4 : cD) : D174 r n cYh (xs x0 0 (K0 (bH r n))) (K5 kk4 0 1 11 12 13) = (K5 (cH r n kk4) 0 1 11 12 13) :=
 (by kernel_rfl)
theorem cOs (kk4 : cD) : D174 r n cKm (xs (xs x0 0 (K0 (bH r n))) 1 (K5 (cH r n kk4) 0 1 11 12 13)) (K5 (cH r n kk4) 0 1 11 12 13) = (K7 (fS r n kk4) 0 1 5 6 11 12 13) :=
 (by kernel_rfl)
theorem cAf (kk4 : cD) : D174 r n cKe (xs (xs x0 0 (K0 (bH r n))) 1 (K5 (cH r n kk4) 0 1 11 12 13)) (K7 (fS r n kk4) 0 1 5 6 11 12 13) = (K10 (uE r n kk4) 0 1 5 6 7 8 9 11 12 13) :=
 (by kernel_rfl)
theorem bFz (kk4 : cD) : D174 r n tC (xs (xs x0 0 (K0 (bH r n))) 1 (K5 (cH r n kk4) 0 1 11 12 13)) (K7 (fS r n kk4) 0 1 5 6 11 12 13) = D174 r n bBp (xs (xs x0 0 (K0 (bH r n))) 1 (K5 (cH r n kk4) 0 1 11 12 13)) (K10 (uE r n kk4) 0 1 5 6 7 8 9 11 12 13) :=
 congrArg (fun k => D174 r n bBp (xs (xs x0 0 (K0 (bH r n))) 1 (K5 (cH r n kk4) 0 1 11 12 13)) k) (cAf r n kk4)
theorem bXc (kk4 : cD) : D174 r n tC (xs (xs x0 0 (K0 (bH r n))) 1 (K5 (cH r n kk4) 0 1 11 12 13)) (K7 (fS r n kk4) 0 1 5 6 11 12 13) = (K10 (aEz r n kk4) 0 1 5 6 7 8 9 11 12 13) :=
 (bFz r n kk4).trans
 ((by kernel_rfl))
theorem bDq (kk4 : cD) : D174 r n uC (xs (xs x0 0 (K0 (bH r n))) 1 (K5 (cH r n kk4) 0 1 11 12 13)) (K7 (fS r n kk4) 0 1 5 6 11 12 13) = D174 r n aZp (xs (xs x0 0 (K0 (bH r n))) 1 (K5 (cH r n kk4) 0 1 11 12 13)) (K10 (aEz r n kk4) 0 1 5 6 7 8 9 11 12 13) :=
 congrArg (fun k => D174 r n aZp (xs (xs x0 0 (K0 (bH r n))) 1 (K5 (cH r n kk4) 0 1 11 12 13)) k) (bXc r n kk4)
theorem bNw (kk4 : cD) : D174 r n uC (xs (xs x0 0 (K0 (bH r n))) 1 (K5 (cH r n kk4) 0 1 11 12 13)) (K7 (fS r n kk4) 0 1 5 6 11 12 13) = (K9 (aJq r n kk4) 0 1 5 6 7 8 11 12 13) :=
 (bDq r n kk4).trans
 ((by kernel_rfl))
theorem bDj (kk4 : cD) : D174 r n oX (xs (xs x0 0 (K0 (bH r n))) 1 (K5 (cH r n kk4) 0 1 11 12 13)) (K7 (fS r n kk4) 0 1 5 6 11 12 13) = D174 r n aZn (xs (xs x0 0 (K0 (bH r n))) 1 (K5 (cH r n kk4) 0 1 11 12 13)) (K9 (aJq r n kk4) 0 1 5 6 7 8 11 12 13) :=
 congrArg (fun k => D174 r n aZn (xs (xs x0 0 (K0 (bH r n))) 1 (K5 (cH r n kk4) 0 1 11 12 13)) k) (bNw r n kk4)
theorem cAr (kk4 : cD) : D174 r n oX (xs (xs x0 0 (K0 (bH r n))) 1 (K5 (cH r n kk4) 0 1 11 12 13)) (K7 (fS r n kk4) 0 1 5 6 11 12 13) = (K7 (aVp r n kk4) 0 1 5 6 11 12 13) :=
 (bDj r n kk4).trans
 ((by kernel_rfl))
theorem bQr (kk4 : cD) : D174 r n pR (xs (xs x0 0 (K0 (bH r n))) 1 (K5 (cH r n kk4) 0 1 11 12 13)) (K7 (fS r n kk4) 0 1 5 6 11 12 13) = (K8 (aIr r n kk4) 0 1 5 6 11 12 13 20) :=
 (by kernel_rfl : D174 r n pR (xs (xs x0 0 (K0 (bH r n))) 1 (K5 (cH r n kk4) 0 1 11 12 13)) (K7 (fS r n kk4) 0 1 5 6 11 12 13) = (fun (env : aW) (h : Hp) => aS (opr env (cC pR)) (D174 r n oX (xs (xs x0 0 (K0 (bH r n))) 1 (K5 (cH r n kk4) 0 1 11 12 13)) (K7 (fS r n kk4) 0 1 5 6 11 12 13) env h) (D174 r n cDp (xs (xs x0 0 (K0 (bH r n))) 1 (K5 (cH r n kk4) 0 1 11 12 13)) (K7 (fS r n kk4) 0 1 5 6 11 12 13) env h))).trans (by rw [cAr r n kk4]; kernel_rfl)
theorem bRd (kk4 : cD) : D174 r n uH (xs (xs x0 0 (K0 (bH r n))) 1 (K5 (cH r n kk4) 0 1 11 12 13)) (K5 (cH r n kk4) 0 1 11 12 13) = D174 r n oW (xs (xs x0 0 (K0 (bH r n))) 1 (K5 (cH r n kk4) 0 1 11 12 13)) (K7 (fS r n kk4) 0 1 5 6 11 12 13) :=
 congrArg (fun k => D174 r n oW (xs (xs x0 0 (K0 (bH r n))) 1 (K5 (cH r n kk4) 0 1 11 12 13)) k) (cOs r n kk4)
theorem bZe (kk4 : cD) : D174 r n oW (xs (xs x0 0 (K0 (bH r n))) 1 (K5 (cH r n kk4) 0 1 11 12 13)) (K7 (fS r n kk4) 0 1 5 6 11 12 13) = D174 r n aYu (xs (xs x0 0 (K0 (bH r n))) 1 (K5 (cH r n kk4) 0 1 11 12 13)) (K8 (aIr r n kk4) 0 1 5 6 11 12 13 20) :=
 congrArg (fun k => D174 r n aYu (xs (xs x0 0 (K0 (bH r n))) 1 (K5 (cH r n kk4) 0 1 11 12 13)) k) (bQr r n kk4)
theorem cPt (kk4 : cD) : D174 r n uH (xs (xs x0 0 (K0 (bH r n))) 1 (K5 (cH r n kk4) 0 1 11 12 13)) (K5 (cH r n kk4) 0 1 11 12 13) = (K7 (wT r n kk4) 0 1 5 6 11 12 13) :=
 (bRd r n kk4).trans
 ((bZe r n kk4).trans
 ((by kernel_rfl)))
theorem bHp (kk4 : cD) : D174 r n aKa (xs x0 0 (K0 (bH r n))) (K5 kk4 0 1 11 12 13) = D174 r n uK (xs x0 0 (K0 (bH r n))) (K5 (cH r n kk4) 0 1 11 12 13) :=
 congrArg (fun k => D174 r n uK (xs x0 0 (K0 (bH r n))) k) (cCg r n kk4)
theorem bJe (kk4 : cD) : D174 r n sE (xs (xs x0 0 (K0 (bH r n))) 1 (K5 (cH r n kk4) 0 1 11 12 13)) (K5 (cH r n kk4) 0 1 11 12 13) = D174 r n aGx (xs (xs x0 0 (K0 (bH r n))) 1 (K5 (cH r n kk4) 0 1 11 12 13)) (K7 (wT r n kk4) 0 1 5 6 11 12 13) :=
 congrArg (fun k => D174 r n aGx (xs (xs x0 0 (K0 (bH r n))) 1 (K5 (cH r n kk4) 0 1 11 12 13)) k) (cPt r n kk4)
theorem bWr (kk4 : cD) (q0 : TT7) (q1 : Hp → aH) (q2 : cD) : D174 r n aGx (xs (xs x0 0 (K0 q1)) 1 (K5 q2 0 1 11 12 13)) (K7 q0 0 1 5 6 11 12 13) = fun (env : aW) (h : Hp) =>
 bnd (aJ 3 (env 11) (env 13) h) fun v1 h1 =>
 bnd (aK 3 v1 h1) fun v2 h2 =>
 bnd (bL [(aE 0), (aE 0), (aE 0)] h2) fun v3 h3 =>
 bnd (aG 3 v3 v2 h3) fun _ h4 =>
  q0 (env 0) (env 1) (env 13) v3 (env 11) (env 12) (env 13) h4 := by kernel_rfl
theorem bGh (kk4 : cD) : (fun (env : aW) (h : Hp) =>
 bnd (aJ 3 (env 11) (env 13) h) fun v1 h1 =>
 bnd (aK 3 v1 h1) fun v2 h2 =>
 bnd (bL [(aE 0), (aE 0), (aE 0)] h2) fun v3 h3 =>
 bnd (aG 3 v3 v2 h3) fun _ h4 =>
  wT r n kk4 (env 0) (env 1) (env 13) v3 (env 11) (env 12) (env 13) h4) = (K5 (aHh r n kk4) 0 1 11 12 13) := by kernel_rfl
theorem cPs (kk4 : cD) : D174 r n aKa (xs x0 0 (K0 (bH r n))) (K5 kk4 0 1 11 12 13) = (K5 (aHh r n kk4) 0 1 11 12 13) :=
 (bHp r n kk4).trans
 ((by kernel_rfl : D174 r n uK (xs x0 0 (K0 (bH r n))) (K5 (cH r n kk4) 0 1 11 12 13) = D174 r n sE (xs (xs x0 0 (K0 (bH r n))) 1 (K5 (cH r n kk4) 0 1 11 12 13)) (K5 (cH r n kk4) 0 1 11 12 13)).trans
 ((bJe r n kk4).trans
 ((bWr r n kk4 (wT r n kk4) (bH r n) (cH r n kk4)).trans (bGh r n kk4))))
theorem bPr (kk4 : cD) : D174 r n aFb (xs x0 0 (K0 (bH r n))) (K5 kk4 0 1 11 12 13) = D174 r n bBg (xs x0 0 (K0 (bH r n))) (K5 (aHh r n kk4) 0 1 11 12 13) :=
 congrArg (fun k => D174 r n bBg (xs x0 0 (K0 (bH r n))) k) (cPs r n kk4)
theorem cHr (kk4 : cD) : D174 r n aFb (xs x0 0 (K0 (bH r n))) (K5 kk4 0 1 11 12 13) = (K6 (aQl r n kk4) 0 1 11 12 13 14) :=
 (bPr r n kk4).trans
 ((by kernel_rfl))
theorem bGk (kk4 : cD) : D174 r n kB (xs x0 0 (K0 (bH r n))) (K5 kk4 0 1 11 12 13) = D174 r n aZv (xs x0 0 (K0 (bH r n))) (K6 (aQl r n kk4) 0 1 11 12 13 14) :=
 congrArg (fun k => D174 r n aZv (xs x0 0 (K0 (bH r n))) k) (cHr r n kk4)
theorem bLu (kk4 : cD) : D174 r n kB (xs x0 0 (K0 (bH r n))) (K5 kk4 0 1 11 12 13) = (K5 (bAj r n kk4) 0 1 11 12 13) :=
 (bGk r n kk4).trans
 ((by kernel_rfl))
theorem bHk (m : Nat) : aO (fun kk => D174 r n kB (xs x0 0 (K0 (bH r n))) kk) m = (K5 (tM r n m) 0 1 11 12 13) := by
 induction m with
 | zero => exact (by kernel_rfl : aO (fun kk => D174 r n kB (xs x0 0 (K0 (bH r n))) kk) 0 = (K5 (tM r n 0) 0 1 11 12 13))
 | succ m ih =>
  refine (by kernel_rfl : aO (fun kk => D174 r n kB (xs x0 0 (K0 (bH r n))) kk) (m + 1) = D174 r n kB (xs x0 0 (K0 (bH r n))) (aO (fun kk => D174 r n kB (xs x0 0 (K0 (bH r n))) kk) m)).trans ?_
  rw [ih]
  exact (bLu r n (tM r n m)).trans (by kernel_rfl)
theorem cIx : D174 r n aHf (xs x0 0 (K0 (bH r n))) (K0 (bH r n)) = (K5 (bYx r n) 0 1 11 12 13) :=
 (by kernel_rfl : D174 r n aHf (xs x0 0 (K0 (bH r n))) (K0 (bH r n)) = aO (fun kk => D174 r n kB (xs x0 0 (K0 (bH r n))) kk) n).trans ((bHk r n n).trans (by kernel_rfl))
theorem cMf : D174 r n aRm x0 (K0 (bH r n)) = (K5 (aNs r n) 0 1 11 12 13) :=
 (by kernel_rfl : D174 r n aRm x0 (K0 (bH r n)) = D174 r n aHf (xs x0 0 (K0 (bH r n))) (K0 (bH r n))).trans
 ((cIx r n).trans (by kernel_rfl))
theorem bGe : D174 r n aHt x0 r174 = D174 r n yH x0 (K0 (bH r n)) :=
 congrArg (fun k => D174 r n yH x0 k) (cDv r n)
theorem bEx : D174 r n yH x0 (K0 (bH r n)) = D174 r n aVt x0 (K5 (aNs r n) 0 1 11 12 13) :=
 congrArg (fun k => D174 r n aVt x0 k) (cMf r n)
theorem cFb : D174 r n aHt x0 r174 = (K2 (aPj r n) 0 1) :=
 (bGe r n).trans
 ((bEx r n).trans
 ((by kernel_rfl)))
theorem cLo : D174 r n c174 x0 r174 = D174 r n aUu x0 (K2 (aPj r n) 0 1) :=
 congrArg (fun k => D174 r n aUu x0 k) (cFb r n)
theorem dLa : D174 r n c174 x0 r174 = (K2 (s174 r n) 0 1) :=
 (cLo r n).trans
 ((by kernel_rfl))
theorem cSo : aF CF r n 174 args h = s174 r n (aT args 0) (aT args 1) h :=
 (by kernel_rfl : aF CF r n 174 args h = D174 r n c174 x0 r174 (aI args) h).trans ((congrFun (congrFun (dLa r n) (aI args)) h).trans (by kernel_rfl))
noncomputable def bT (r : RT) (n : Nat) (x6 x9 : DV) (h0 : Hp) : aH :=
 bnd (aA x6 h0) fun v1 h1 =>
 bnd (aA x9 h1) fun v2 h2 =>
 some (.t [v1, v2], h2)
noncomputable def uF (r : RT) (n : Nat) (kk9 : fE) (x2 x3 x6 x7 x9 x10 x11 x14 : DV) (h0 : Hp) : aH :=
 bnd (aD .add x11 (aE 1) h0) fun v1 h1 =>
 bnd (aA x3 h1) fun v2 h2 =>
 bnd (aJ 1 v2 x11 h2) fun v3 h3 =>
 bnd (aA v3 h3) fun v4 h4 =>
 bnd (cV CF r x10 [v1, v4, x14] h4) fun v5 h5 =>
  kk9 x2 x3 x6 x7 x9 x10 h5
noncomputable def aFx (r : RT) (n : Nat) (kk9 : fE) (x2 x3 x6 x7 x9 x10 x11 x12 x13 x14 : DV) (h0 : Hp) : aH :=
 bnd (aB 0 x12 h0) fun v1 h1 =>
 bnd (aA v1 h1) fun v2 h2 =>
 bnd (aD .eql v2 (aE 19) h2) fun v3 h3 =>
 aS v3 (
 bnd (aD .neq x13 (aE 1) h3) fun v4 h4 =>
 bnd (gD v4 false (aA x3 h4) h4) fun v5 h5 =>
 bnd (gD v4 false (some (x11, h5)) h5) fun v6 h6 =>
 bnd (gD v4 false (aJ 1 v5 v6 h6) h6) fun v7 h7 =>
 bnd (gD v4 false (aA v7 h7) h7) fun v8 h8 =>
 bnd (gD v4 false (aD .lss v8 (aE 0) h8) h8) fun v9 h9 =>
 bnd (aP v4 (.b true) v9 h9) fun v10 h10 =>
 aS v10 (
 some (.t [.l0, (.b false)], h10)) (
   kk9 x2 x3 x6 x7 x9 x10 h10)) (
 bnd (aD .eql v2 (aE 20) h3) fun v11 h11 =>
 aS v11 (
   kk9 x2 x3 x6 x7 x9 x10 h11) (
 bnd (aD .eql v2 (aE 16) h11) fun v12 h12 =>
 aS v12 (
 bnd (aK 3 x12 h12) fun v13 h13 =>
 bnd (r 202 [v13] h13) fun v14 h14 =>
 bnd (aA x3 h14) fun v15 h15 =>
 cnd (bI (aA x3 h12) v15 && true) (
 bnd (aJ 1 v15 x11 h15) fun v16 h16 =>
 bnd (aA v16 h16) fun v17 h17 =>
 cnd (bI (aA v16 h12) v17 && true) (
 bnd (cV CF r x10 [v14, v17, x14] h17) fun v18 h18 =>
    kk9 x2 x3 x6 x7 x9 x10 h18))) (
 bnd (aD .eql v2 (aE 17) h12) fun v19 h19 =>
 aS v19 (
 bnd (aK 3 x12 h19) fun v20 h20 =>
 bnd (r 202 [v20] h20) fun v21 h21 =>
 bnd (aA x3 h21) fun v22 h22 =>
 cnd (bI (aA x3 h19) v22 && true) (
 bnd (aJ 1 v22 x11 h22) fun v23 h23 =>
 bnd (aA v23 h23) fun v24 h24 =>
 cnd (bI (aA v23 h19) v24 && true) (
 bnd (cV CF r x10 [v21, v24, x14] h24) fun v25 h25 =>
     uF r n kk9 x2 x3 x6 x7 x9 x10 x11 x14 h25))) (
     uF r n kk9 x2 x3 x6 x7 x9 x10 x11 x14 h19))))
noncomputable def aDp (r : RT) (n : Nat) (kk9 : fE) (x2 x3 x6 x7 x9 x10 x11 x12 x13 x14 : DV) (h0 : Hp) : aH :=
 bnd (aK 3 x12 h0) fun v1 h1 =>
 bnd (r 205 [v1] h1) fun v2 h2 =>
 bnd (aD .lss x13 v2 h2) fun v3 h3 =>
 bnd (gD v3 false (some (x14, h3)) h3) fun v4 h4 =>
 bnd (gD v3 false (aD .gtr v4 (aE 24) h4) h4) fun v5 h5 =>
 bnd (aP v3 (.b true) v5 h5) fun v6 h6 =>
 aS v6 (
 some (.t [.l0, (.b false)], h6)) (
  aFx r n kk9 x2 x3 x6 x7 x9 x10 x11 x12 x13 x14 h6)
noncomputable def aBp (r : RT) (n : Nat) (kk9 : fE) (x2 x3 x6 x7 x9 x10 x11 x12 x13 : DV) (h0 : Hp) : aH :=
 bnd (aK 3 x12 h0) fun v1 h1 =>
 bnd (r 204 [v1] h1) fun v2 h2 =>
 bnd (aD .add x13 v2 h2) fun v3 h3 =>
  aDp r n kk9 x2 x3 x6 x7 x9 x10 x11 x12 x13 v3 h3
noncomputable def aGl (r : RT) (n : Nat) (kk9 : fE) (x2 x3 x6 x7 x9 x10 x11 : DV) (h0 : Hp) : aH :=
 bnd (aA x2 (resv 1 h0)) fun v1 h1 =>
 bnd (aJ 3 v1 x11 h1) fun v2 h2 =>
 bnd (aK 3 v2 h2) fun v3 h3 =>
 bnd (aA x6 h3) fun v4 h4 =>
 bnd (aJ 1 v4 x11 h4) fun v5 h5 =>
 bnd (aA v5 h5) fun v6 h6 =>
 bnd (jW (bW 0 h0.next) [(aE 0), (aE 0), (aE 0)] h6) fun v7 h7 =>
 bnd (aG 3 v7 v3 h7) fun v8 h8 =>
 cnd (bI (aA v5 h8) v6 && (bI (aA x6 h8) v4 && true)) (
  aBp r n kk9 x2 x3 x6 x7 x9 x10 x11 v7 v6 h8)
noncomputable def aGr (r : RT) (n : Nat) (kk9 : fE) (x2 x3 x6 x7 x9 x10 x11 : DV) (h0 : Hp) : aH :=
 bnd (aA x7 h0) fun v1 h1 =>
 bnd (aA x7 h1) fun v2 h2 =>
 bnd (bX v2 h2) fun v3 h3 =>
 bnd (aD .sub v3 (aE 1) h3) fun v4 h4 =>
 bnd (cS 1 v1 none (some v4) h4) fun v5 h5 =>
 bnd (aG 1 x7 v5 h5) fun _ h6 =>
  aGl r n kk9 x2 x3 x6 x7 x9 x10 x11 h6
noncomputable def aEd (r : RT) (n : Nat) (kk9 : fE) (x2 x3 x6 x7 x9 x10 : DV) (h0 : Hp) : aH :=
 bnd (aA x7 h0) fun v1 h1 =>
 bnd (aA x7 h1) fun v2 h2 =>
 bnd (bX v2 h2) fun v3 h3 =>
 bnd (aD .sub v3 (aE 1) h3) fun v4 h4 =>
 bnd (aJ 1 v1 v4 h4) fun v5 h5 =>
 bnd (aA v5 h5) fun v6 h6 =>
  aGr r n kk9 x2 x3 x6 x7 x9 x10 v6 h6
noncomputable def aXf (r : RT) (n : Nat) (kk9 : fE) (x2 x3 x6 x7 x9 x10 : DV) (h0 : Hp) : aH :=
 bnd (aA x7 h0) fun v1 h1 =>
 bnd (bX v1 h1) fun v2 h2 =>
 bnd (aD .gtr v2 (aE 0) h2) fun v3 h3 =>
 bnd (gD v3 true (aA x9 h3) h3) fun v4 h4 =>
 bnd (aP v3 v4 (.b false) h4) fun v5 h5 =>
 aS v5 (
   aEd r n kk9 x2 x3 x6 x7 x9 x10 h5) (
   bT r n x6 x9 h5)
noncomputable def tR (r : RT) (n : Nat) (m : Nat) : fE :=
 Nat.rec (motive := fun _ => fE) (fun _ _ _ _ _ _ _ => none) (fun _ ih => aXf r n ih) m
noncomputable def bPg (r : RT) (n : Nat) : fE := tR r n n
noncomputable def aSg (r : RT) (n : Nat) (x2 x3 x6 x7 x9 x10 : DV) (h0 : Hp) : aH :=
 bPg r n x2 x3 x6 x7 x9 x10 h0
noncomputable def aPa (r : RT) (n : Nat) (x2 x3 x6 x7 x9 x10 : DV) (h0 : Hp) : aH :=
 aSg r n x2 x3 x6 x7 x9 x10 h0
noncomputable def yZ (r : RT) (n : Nat) (x2 x3 x6 x7 x9 : DV) (h0 : Hp) : aH :=
 aPa r n x2 x3 x6 x7 x9 (.f 203 [] [x2, x3, x6, x9, x7]) h0
noncomputable def cN (r : RT) (n : Nat) (x2 x3 x6 x7 : DV) (h0 : Hp) : aH :=
 bnd (bL [(.b false)] h0) fun v1 h1 =>
 bnd (aG 1 v1 (.b true) h1) fun _ h2 =>
  yZ r n x2 x3 x6 x7 v1 h2
noncomputable def lE (r : RT) (n : Nat) (kk18 : fE) (x2 x3 x6 x7 x19 x20 : DV) (h0 : Hp) : aH :=
 bnd (aD .add x20 (aE 1) h0) fun v1 h1 =>
  kk18 x2 x3 x6 x7 x19 v1 h1
noncomputable def uR (r : RT) (n : Nat) (kk18 : fE) (x2 x3 x6 x7 x19 x20 : DV) (h0 : Hp) : aH :=
 bnd (aA x6 h0) fun v1 h1 =>
 bnd (aJ 1 v1 x20 h1) fun v2 h2 =>
 bnd (aG 1 v2 (.i .i64 (Int.negSucc 0)) h2) fun _ h3 =>
 bnd (aD .eql x20 (aE 0) h3) fun v4 h4 =>
 bnd (gD v4 false (some (x20, h4)) h4) fun v5 h5 =>
 bnd (gD v4 false (aD .gtr v5 (aE 1) h5) h5) fun v6 h6 =>
 bnd (gD v4 false (some (v6, h6)) h6) fun v7 h7 =>
 bnd (gD v7 true (aA x2 h7) h7) fun v8 h8 =>
 bnd (gD v7 true (some (x20, h8)) h8) fun v9 h9 =>
 bnd (gD v7 true (aD .sub v9 (aE 2) h9) h9) fun v10 h10 =>
 bnd (gD v7 true (aJ 3 v8 v10 h10) h10) fun v11 h11 =>
 bnd (gD v7 true (aB 0 v11 h11) h11) fun v12 h12 =>
 bnd (gD v7 true (aA v12 h12) h12) fun v13 h13 =>
 bnd (gD v7 true (aD .eql v13 (aE 18) h13) h13) fun v14 h14 =>
 bnd (gD v4 false (aP v7 v14 (.b false) h14) h14) fun v15 h15 =>
 bnd (gD v4 false (some (v15, h15)) h15) fun v16 h16 =>
 bnd (gD v16 true (aA x3 h16) h16) fun v17 h17 =>
 bnd (gD v16 true (some (x20, h17)) h17) fun v18 h18 =>
 bnd (gD v16 true (aJ 1 v17 v18 h18) h18) fun v19 h19 =>
 bnd (gD v16 true (aA v19 h19) h19) fun v20 h20 =>
 bnd (gD v16 true (some (x20, h20)) h20) fun v21 h21 =>
 bnd (gD v16 true (aD .sub v21 (aE 2) h21) h21) fun v22 h22 =>
 bnd (gD v16 true (aD .eql v20 v22 h22) h22) fun v23 h23 =>
 bnd (gD v4 false (aP v16 v23 (.b false) h23) h23) fun v24 h24 =>
 bnd (aP v4 (.b true) v24 h24) fun v25 h25 =>
 aS v25 (
 bnd (aA x6 h25) fun v26 h26 =>
 bnd (aJ 1 v26 x20 h26) fun v27 h27 =>
 bnd (aG 1 v27 (aE 0) h27) fun _ h28 =>
 bnd (aA x7 h28) fun v29 h29 =>
 bnd (aL [(aE 0)] 1 [(0, 1, x20)] h29) fun v30 h30 =>
 bnd (bA 1 8 v29 v30 h30) fun v31 h31 =>
 bnd (aG 1 x7 v31 h31) fun _ h32 =>
  lE r n kk18 x2 x3 x6 x7 x19 x20 h32) (
  lE r n kk18 x2 x3 x6 x7 x19 x20 h25)
noncomputable def aIj (r : RT) (n : Nat) (kk18 : fE) (x2 x3 x6 x7 x19 x20 x21 : DV) (h0 : Hp) : aH :=
 aS x21 (
  uR r n kk18 x2 x3 x6 x7 x19 x20 h0) (
  cN r n x2 x3 x6 x7 h0)
noncomputable def aKw (r : RT) (n : Nat) (kk18 : fE) (x2 x3 x6 x7 x19 x20 : DV) (h0 : Hp) : aH :=
 bnd (aD .lss x20 x19 h0) fun v1 h1 =>
  aIj r n kk18 x2 x3 x6 x7 x19 x20 v1 h1
noncomputable def pA (r : RT) (n : Nat) (m : Nat) : fE :=
 Nat.rec (motive := fun _ => fE) (fun _ _ _ _ _ _ _ => none) (fun _ ih => aKw r n ih) m
noncomputable def aUt (r : RT) (n : Nat) : fE := pA r n n
noncomputable def aAx (r : RT) (n : Nat) (x2 x3 x6 x7 x19 x20 : DV) (h0 : Hp) : aH :=
 aUt r n x2 x3 x6 x7 x19 x20 h0
noncomputable def wD (r : RT) (n : Nat) (x2 x3 x6 x7 : DV) (h0 : Hp) : aH :=
 bnd (aA x6 h0) fun v1 h1 =>
 bnd (bX v1 h1) fun v2 h2 =>
  aAx r n x2 x3 x6 x7 v2 (aE 0) h2
noncomputable def qU (r : RT) (n : Nat) (x2 x3 x6 : DV) (h0 : Hp) : aH :=
 bnd (bL [.l0] h0) fun v1 h1 =>
  wD r n x2 x3 x6 v1 h1
noncomputable def qY (r : RT) (n : Nat) (x2 x3 : DV) (h0 : Hp) : aH :=
 bnd (aA x2 h0) fun v1 h1 =>
 bnd (bX v1 h1) fun v2 h2 =>
 bnd (cI 1 8 [(aE 0)] v2 v2 h2) fun v3 h3 =>
 bnd (bL [.l0] h3) fun v4 h4 =>
 bnd (aG 1 v4 v3 h4) fun _ h5 =>
  qU r n x2 x3 v4 h5
noncomputable def s175 (r : RT) (n : Nat) (x0 x1 : DV) (h0 : Hp) : aH :=
 bnd (bQ x0 h0) fun v1 h1 =>
 bnd (bQ x1 h1) fun v2 h2 =>
  qY r n v1 v2 h2
noncomputable abbrev c175 : Code := cf Tryz.f175
noncomputable abbrev aOi : Code := cR c175
noncomputable abbrev aJi : Code := cL aOi
noncomputable abbrev aCo : Code := cR aJi
noncomputable abbrev aFl : Code := cR aCo
noncomputable abbrev aEt : Code := cR aFl
noncomputable abbrev aDm : Code := cR aEt
noncomputable abbrev aBb : Code := cR aDm
noncomputable abbrev aEf : Code := cR aBb
noncomputable abbrev cXc : Code := cR aEf
noncomputable abbrev uQ : Code := cL aEf
noncomputable abbrev sS : Code := cL uQ
noncomputable abbrev iE : Code := cL sS
noncomputable abbrev aGp : Code := cR iE
noncomputable abbrev sR : Code := cL aGp
noncomputable abbrev uI : Code := cR sR
noncomputable abbrev uB : Code := cR uI
noncomputable abbrev tG : Code := cR uB
noncomputable abbrev tA : Code := cR tG
noncomputable abbrev uA : Code := cR tA
noncomputable abbrev cMa : Code := cR uA
noncomputable abbrev aXe : Code := cL uA
noncomputable abbrev aXq : Code := cL tA
noncomputable abbrev aZy : Code := cL tG
noncomputable abbrev aWv : Code := cL uB
noncomputable abbrev aWl : Code := cL uI
noncomputable abbrev aXo : Code := cL sR
noncomputable abbrev aVf : Code := cL iE
noncomputable abbrev aUh : Code := cL aBb
noncomputable abbrev aZi : Code := cL aDm
noncomputable abbrev aDv : Code := cL aEt
noncomputable abbrev oP : Code := cL aFl
noncomputable abbrev aJa : Code := cR oP
noncomputable abbrev tX : Code := cL aJa
noncomputable abbrev iA : Code := cL tX
noncomputable abbrev tF : Code := cR iA
noncomputable abbrev tT : Code := cR tF
noncomputable abbrev cEe : Code := cR tT
noncomputable abbrev aHp : Code := cL tT
noncomputable abbrev aXk : Code := cL tF
noncomputable abbrev aZc : Code := cL iA
noncomputable abbrev aUr : Code := cL oP
noncomputable abbrev aCv : Code := cL aCo
noncomputable abbrev aGj : Code := cL aJi
noncomputable abbrev aBu : Code := cL c175
noncomputable abbrev r175 : K := aQ CF Tryz.f175
noncomputable def D175 (r : RT) (n : Nat) (c : Code) (X : Nat → K) (k : K) : K := aM CF r 144 n c X r175 k
theorem cFn : D175 r n cXc x0 r175 = (K2 (bT r n) 6 9) :=
 (by kernel_rfl)
theorem bKo (kk9 : fE) : D175 r n cMa (xs (xs x0 2 (K2 (bT r n) 6 9)) 3 (K6 kk9 2 3 6 7 9 10)) (K6 kk9 2 3 6 7 9 10) = (K8 (uF r n kk9) 2 3 6 7 9 10 11 14) :=
 (by kernel_rfl)
theorem bCz (kk9 : fE) : D175 r n uA (xs (xs x0 2 (K2 (bT r n) 6 9)) 3 (K6 kk9 2 3 6 7 9 10)) (K6 kk9 2 3 6 7 9 10) = D175 r n aXe (xs (xs x0 2 (K2 (bT r n) 6 9)) 3 (K6 kk9 2 3 6 7 9 10)) (K8 (uF r n kk9) 2 3 6 7 9 10 11 14) :=
 congrArg (fun k => D175 r n aXe (xs (xs x0 2 (K2 (bT r n) 6 9)) 3 (K6 kk9 2 3 6 7 9 10)) k) (bKo r n kk9)
theorem bGv (kk9 : fE) : D175 r n uA (xs (xs x0 2 (K2 (bT r n) 6 9)) 3 (K6 kk9 2 3 6 7 9 10)) (K6 kk9 2 3 6 7 9 10) = (K10 (aFx r n kk9) 2 3 6 7 9 10 11 12 13 14) :=
 (bCz r n kk9).trans
 ((by kernel_rfl))
theorem bFp (kk9 : fE) : D175 r n tA (xs (xs x0 2 (K2 (bT r n) 6 9)) 3 (K6 kk9 2 3 6 7 9 10)) (K6 kk9 2 3 6 7 9 10) = D175 r n aXq (xs (xs x0 2 (K2 (bT r n) 6 9)) 3 (K6 kk9 2 3 6 7 9 10)) (K10 (aFx r n kk9) 2 3 6 7 9 10 11 12 13 14) :=
 congrArg (fun k => D175 r n aXq (xs (xs x0 2 (K2 (bT r n) 6 9)) 3 (K6 kk9 2 3 6 7 9 10)) k) (bGv r n kk9)
theorem bOv (kk9 : fE) : D175 r n tA (xs (xs x0 2 (K2 (bT r n) 6 9)) 3 (K6 kk9 2 3 6 7 9 10)) (K6 kk9 2 3 6 7 9 10) = (K10 (aDp r n kk9) 2 3 6 7 9 10 11 12 13 14) :=
 (bFp r n kk9).trans
 ((by kernel_rfl))
theorem bCy (kk9 : fE) : D175 r n tG (xs (xs x0 2 (K2 (bT r n) 6 9)) 3 (K6 kk9 2 3 6 7 9 10)) (K6 kk9 2 3 6 7 9 10) = D175 r n aZy (xs (xs x0 2 (K2 (bT r n) 6 9)) 3 (K6 kk9 2 3 6 7 9 10)) (K10 (aDp r n kk9) 2 3 6 7 9 10 11 12 13 14) :=
 congrArg (fun k => D175 r n aZy (xs (xs x0 2 (K2 (bT r n) 6 9)) 3 (K6 kk9 2 3 6 7 9 10)) k) (bOv r n kk9)
theorem bNj (kk9 : fE) : D175 r n tG (xs (xs x0 2 (K2 (bT r n) 6 9)) 3 (K6 kk9 2 3 6 7 9 10)) (K6 kk9 2 3 6 7 9 10) = (K9 (aBp r n kk9) 2 3 6 7 9 10 11 12 13) :=
 (bCy r n kk9).trans
 ((by kernel_rfl))
theorem bCh (kk9 : fE) : D175 r n uB (xs (xs x0 2 (K2 (bT r n) 6 9)) 3 (K6 kk9 2 3 6 7 9 10)) (K6 kk9 2 3 6 7 9 10) = D175 r n aWv (xs (xs x0 2 (K2 (bT r n) 6 9)) 3 (K6 kk9 2 3 6 7 9 10)) (K9 (aBp r n kk9) 2 3 6 7 9 10 11 12 13) :=
 congrArg (fun k => D175 r n aWv (xs (xs x0 2 (K2 (bT r n) 6 9)) 3 (K6 kk9 2 3 6 7 9 10)) k) (bNj r n kk9)
theorem bIj (kk9 : fE) : D175 r n uB (xs (xs x0 2 (K2 (bT r n) 6 9)) 3 (K6 kk9 2 3 6 7 9 10)) (K6 kk9 2 3 6 7 9 10) = (K7 (aGl r n kk9) 2 3 6 7 9 10 11) :=
 (bCh r n kk9).trans
 ((by kernel_rfl))
theorem bGf (kk9 : fE) : D175 r n uI (xs (xs x0 2 (K2 (bT r n) 6 9)) 3 (K6 kk9 2 3 6 7 9 10)) (K6 kk9 2 3 6 7 9 10) = D175 r n aWl (xs (xs x0 2 (K2 (bT r n) 6 9)) 3 (K6 kk9 2 3 6 7 9 10)) (K7 (aGl r n kk9) 2 3 6 7 9 10 11) :=
 congrArg (fun k => D175 r n aWl (xs (xs x0 2 (K2 (bT r n) 6 9)) 3 (K6 kk9 2 3 6 7 9 10)) k) (bIj r n kk9)
theorem bYf (kk9 : fE) : D175 r n uI (xs (xs x0 2 (K2 (bT r n) 6 9)) 3 (K6 kk9 2 3 6 7 9 10)) (K6 kk9 2 3 6 7 9 10) = (K7 (aGr r n kk9) 2 3 6 7 9 10 11) :=
 (bGf r n kk9).trans
 ((by kernel_rfl))
theorem bDd (kk9 : fE) : D175 r n sR (xs (xs x0 2 (K2 (bT r n) 6 9)) 3 (K6 kk9 2 3 6 7 9 10)) (K6 kk9 2 3 6 7 9 10) = D175 r n aXo (xs (xs x0 2 (K2 (bT r n) 6 9)) 3 (K6 kk9 2 3 6 7 9 10)) (K7 (aGr r n kk9) 2 3 6 7 9 10 11) :=
 congrArg (fun k => D175 r n aXo (xs (xs x0 2 (K2 (bT r n) 6 9)) 3 (K6 kk9 2 3 6 7 9 10)) k) (bYf r n kk9)
theorem bOe (kk9 : fE) : D175 r n aGp (xs x0 2 (K2 (bT r n) 6 9)) (K6 kk9 2 3 6 7 9 10) = (K6 (aEd r n kk9) 2 3 6 7 9 10) :=
 (by kernel_rfl : D175 r n aGp (xs x0 2 (K2 (bT r n) 6 9)) (K6 kk9 2 3 6 7 9 10) = D175 r n sR (xs (xs x0 2 (K2 (bT r n) 6 9)) 3 (K6 kk9 2 3 6 7 9 10)) (K6 kk9 2 3 6 7 9 10)).trans
 ((bDd r n kk9).trans
 ((by kernel_rfl)))
theorem bJf (kk9 : fE) : D175 r n iE (xs x0 2 (K2 (bT r n) 6 9)) (K6 kk9 2 3 6 7 9 10) = D175 r n aVf (xs x0 2 (K2 (bT r n) 6 9)) (K6 (aEd r n kk9) 2 3 6 7 9 10) :=
 congrArg (fun k => D175 r n aVf (xs x0 2 (K2 (bT r n) 6 9)) k) (bOe r n kk9)
theorem bIx (kk9 : fE) : D175 r n iE (xs x0 2 (K2 (bT r n) 6 9)) (K6 kk9 2 3 6 7 9 10) = (K6 (aXf r n kk9) 2 3 6 7 9 10) :=
 (bJf r n kk9).trans
 ((by kernel_rfl))
theorem bHw (m : Nat) : aO (fun kk => D175 r n iE (xs x0 2 (K2 (bT r n) 6 9)) kk) m = (K6 (tR r n m) 2 3 6 7 9 10) := by
 induction m with
 | zero => exact (by kernel_rfl : aO (fun kk => D175 r n iE (xs x0 2 (K2 (bT r n) 6 9)) kk) 0 = (K6 (tR r n 0) 2 3 6 7 9 10))
 | succ m ih =>
  refine (by kernel_rfl : aO (fun kk => D175 r n iE (xs x0 2 (K2 (bT r n) 6 9)) kk) (m + 1) = D175 r n iE (xs x0 2 (K2 (bT r n) 6 9)) (aO (fun kk => D175 r n iE (xs x0 2 (K2 (bT r n) 6 9)) kk) m)).trans ?_
  rw [ih]
  exact (bIx r n (tR r n m)).trans (by kernel_rfl)
theorem cHe : D175 r n sS (xs x0 2 (K2 (bT r n) 6 9)) (K2 (bT r n) 6 9) = (K6 (bPg r n) 2 3 6 7 9 10) :=
 (by kernel_rfl : D175 r n sS (xs x0 2 (K2 (bT r n) 6 9)) (K2 (bT r n) 6 9) = aO (fun kk => D175 r n iE (xs x0 2 (K2 (bT r n) 6 9)) kk) n).trans ((bHw r n n).trans (by kernel_rfl))
theorem bKh : D175 r n aEf x0 r175 = D175 r n uQ x0 (K2 (bT r n) 6 9) :=
 congrArg (fun k => D175 r n uQ x0 k) (cFn r n)
theorem cMl : D175 r n aEf x0 r175 = (K6 (aSg r n) 2 3 6 7 9 10) :=
 (bKh r n).trans
 ((by kernel_rfl : D175 r n uQ x0 (K2 (bT r n) 6 9) = D175 r n sS (xs x0 2 (K2 (bT r n) 6 9)) (K2 (bT r n) 6 9)).trans
 ((cHe r n).trans (by kernel_rfl)))
theorem bLe : D175 r n aBb x0 r175 = D175 r n aUh x0 (K6 (aSg r n) 2 3 6 7 9 10) :=
 congrArg (fun k => D175 r n aUh x0 k) (cMl r n)
theorem cNn : D175 r n aBb x0 r175 = (K6 (aPa r n) 2 3 6 7 9 10) :=
 (bLe r n).trans
 ((by kernel_rfl))
theorem bFm : D175 r n aDm x0 r175 = D175 r n aZi x0 (K6 (aPa r n) 2 3 6 7 9 10) :=
 congrArg (fun k => D175 r n aZi x0 k) (cNn r n)
theorem cJu : D175 r n aDm x0 r175 = (K5 (yZ r n) 2 3 6 7 9) :=
 (bFm r n).trans
 ((by kernel_rfl))
theorem bGb : D175 r n aEt x0 r175 = D175 r n aDv x0 (K5 (yZ r n) 2 3 6 7 9) :=
 congrArg (fun k => D175 r n aDv x0 k) (cJu r n)
theorem bDe (q0 : cD) : D175 r n aDv x0 (K5 q0 2 3 6 7 9) = fun (env : aW) (h : Hp) =>
 bnd (bL [(.b false)] h) fun v1 h1 =>
 bnd (aG 1 v1 (.b true) h1) fun _ h2 =>
  q0 (env 2) (env 3) (env 6) (env 7) v1 h2 := by kernel_rfl
theorem aTr : (fun (env : aW) (h : Hp) =>
 bnd (bL [(.b false)] h) fun v1 h1 =>
 bnd (aG 1 v1 (.b true) h1) fun _ h2 =>
  yZ r n (env 2) (env 3) (env 6) (env 7) v1 h2) = (K4 (cN r n) 2 3 6 7) := by kernel_rfl
theorem cPw : D175 r n aEt x0 r175 = (K4 (cN r n) 2 3 6 7) :=
 (bGb r n).trans
 ((bDe r n (yZ r n)).trans (aTr r n))
theorem bXq (kk18 : fE) : D175 r n cEe (xs x0 0 (K4 (cN r n) 2 3 6 7)) (K6 kk18 2 3 6 7 19 20) = (K6 (lE r n kk18) 2 3 6 7 19 20) :=
 (by kernel_rfl)
theorem aPe (kk18 : fE) : D175 r n tT (xs x0 0 (K4 (cN r n) 2 3 6 7)) (K6 kk18 2 3 6 7 19 20) = D175 r n aHp (xs x0 0 (K4 (cN r n) 2 3 6 7)) (K6 (lE r n kk18) 2 3 6 7 19 20) :=
 congrArg (fun k => D175 r n aHp (xs x0 0 (K4 (cN r n) 2 3 6 7)) k) (bXq r n kk18)
theorem aRx (kk18 : fE) (q0 : fE) (q1 : dL) : D175 r n aHp (xs x0 0 (K4 q1 2 3 6 7)) (K6 q0 2 3 6 7 19 20) = fun (env : aW) (h : Hp) =>
 bnd (aA (env 6) h) fun v1 h1 =>
 bnd (aJ 1 v1 (env 20) h1) fun v2 h2 =>
 bnd (aG 1 v2 (.i .i64 (Int.negSucc 0)) h2) fun _ h3 =>
 bnd (aD .eql (env 20) (aE 0) h3) fun v4 h4 =>
 bnd (gD v4 false (some ((env 20), h4)) h4) fun v5 h5 =>
 bnd (gD v4 false (aD .gtr v5 (aE 1) h5) h5) fun v6 h6 =>
 bnd (gD v4 false (some (v6, h6)) h6) fun v7 h7 =>
 bnd (gD v7 true (aA (env 2) h7) h7) fun v8 h8 =>
 bnd (gD v7 true (some ((env 20), h8)) h8) fun v9 h9 =>
 bnd (gD v7 true (aD .sub v9 (aE 2) h9) h9) fun v10 h10 =>
 bnd (gD v7 true (aJ 3 v8 v10 h10) h10) fun v11 h11 =>
 bnd (gD v7 true (aB 0 v11 h11) h11) fun v12 h12 =>
 bnd (gD v7 true (aA v12 h12) h12) fun v13 h13 =>
 bnd (gD v7 true (aD .eql v13 (aE 18) h13) h13) fun v14 h14 =>
 bnd (gD v4 false (aP v7 v14 (.b false) h14) h14) fun v15 h15 =>
 bnd (gD v4 false (some (v15, h15)) h15) fun v16 h16 =>
 bnd (gD v16 true (aA (env 3) h16) h16) fun v17 h17 =>
 bnd (gD v16 true (some ((env 20), h17)) h17) fun v18 h18 =>
 bnd (gD v16 true (aJ 1 v17 v18 h18) h18) fun v19 h19 =>
 bnd (gD v16 true (aA v19 h19) h19) fun v20 h20 =>
 bnd (gD v16 true (some ((env 20), h20)) h20) fun v21 h21 =>
 bnd (gD v16 true (aD .sub v21 (aE 2) h21) h21) fun v22 h22 =>
 bnd (gD v16 true (aD .eql v20 v22 h22) h22) fun v23 h23 =>
 bnd (gD v4 false (aP v16 v23 (.b false) h23) h23) fun v24 h24 =>
 bnd (aP v4 (.b true) v24 h24) fun v25 h25 =>
 aS v25 (
 bnd (aA (env 6) h25) fun v26 h26 =>
 bnd (aJ 1 v26 (env 20) h26) fun v27 h27 =>
 bnd (aG 1 v27 (aE 0) h27) fun _ h28 =>
 bnd (aA (env 7) h28) fun v29 h29 =>
 bnd (aL [(aE 0)] 1 [(0, 1, (env 20))] h29) fun v30 h30 =>
 bnd (bA 1 8 v29 v30 h30) fun v31 h31 =>
 bnd (aG 1 (env 7) v31 h31) fun _ h32 =>
      q0 (env 2) (env 3) (env 6) (env 7) (env 19) (env 20) h32) (
      q0 (env 2) (env 3) (env 6) (env 7) (env 19) (env 20) h25) := by kernel_rfl
theorem aNd (kk18 : fE) : (fun (env : aW) (h : Hp) =>
 bnd (aA (env 6) h) fun v1 h1 =>
 bnd (aJ 1 v1 (env 20) h1) fun v2 h2 =>
 bnd (aG 1 v2 (.i .i64 (Int.negSucc 0)) h2) fun _ h3 =>
 bnd (aD .eql (env 20) (aE 0) h3) fun v4 h4 =>
 bnd (gD v4 false (some ((env 20), h4)) h4) fun v5 h5 =>
 bnd (gD v4 false (aD .gtr v5 (aE 1) h5) h5) fun v6 h6 =>
 bnd (gD v4 false (some (v6, h6)) h6) fun v7 h7 =>
 bnd (gD v7 true (aA (env 2) h7) h7) fun v8 h8 =>
 bnd (gD v7 true (some ((env 20), h8)) h8) fun v9 h9 =>
 bnd (gD v7 true (aD .sub v9 (aE 2) h9) h9) fun v10 h10 =>
 bnd (gD v7 true (aJ 3 v8 v10 h10) h10) fun v11 h11 =>
 bnd (gD v7 true (aB 0 v11 h11) h11) fun v12 h12 =>
 bnd (gD v7 true (aA v12 h12) h12) fun v13 h13 =>
 bnd (gD v7 true (aD .eql v13 (aE 18) h13) h13) fun v14 h14 =>
 bnd (gD v4 false (aP v7 v14 (.b false) h14) h14) fun v15 h15 =>
 bnd (gD v4 false (some (v15, h15)) h15) fun v16 h16 =>
 bnd (gD v16 true (aA (env 3) h16) h16) fun v17 h17 =>
 bnd (gD v16 true (some ((env 20), h17)) h17) fun v18 h18 =>
 bnd (gD v16 true (aJ 1 v17 v18 h18) h18) fun v19 h19 =>
 bnd (gD v16 true (aA v19 h19) h19) fun v20 h20 =>
 bnd (gD v16 true (some ((env 20), h20)) h20) fun v21 h21 =>
 bnd (gD v16 true (aD .sub v21 (aE 2) h21) h21) fun v22 h22 =>
 bnd (gD v16 true (aD .eql v20 v22 h22) h22) fun v23 h23 =>
 bnd (gD v4 false (aP v16 v23 (.b false) h23) h23) fun v24 h24 =>
 bnd (aP v4 (.b true) v24 h24) fun v25 h25 =>
 aS v25 (
 bnd (aA (env 6) h25) fun v26 h26 =>
 bnd (aJ 1 v26 (env 20) h26) fun v27 h27 =>
 bnd (aG 1 v27 (aE 0) h27) fun _ h28 =>
 bnd (aA (env 7) h28) fun v29 h29 =>
 bnd (aL [(aE 0)] 1 [(0, 1, (env 20))] h29) fun v30 h30 =>
 bnd (bA 1 8 v29 v30 h30) fun v31 h31 =>
 bnd (aG 1 (env 7) v31 h31) fun _ h32 =>
      lE r n kk18 (env 2) (env 3) (env 6) (env 7) (env 19) (env 20) h32) (
      lE r n kk18 (env 2) (env 3) (env 6) (env 7) (env 19) (env 20) h25)) = (K6 (uR r n kk18) 2 3 6 7 19 20) := by kernel_rfl
theorem bIv (kk18 : fE) : D175 r n tT (xs x0 0 (K4 (cN r n) 2 3 6 7)) (K6 kk18 2 3 6 7 19 20) = (K6 (uR r n kk18) 2 3 6 7 19 20) :=
 (aPe r n kk18).trans
 ((aRx r n kk18 (lE r n kk18) (cN r n)).trans (aNd r n kk18))
theorem aRv (kk18 : fE) : D175 r n tF (xs x0 0 (K4 (cN r n) 2 3 6 7)) (K6 kk18 2 3 6 7 19 20) = D175 r n aXk (xs x0 0 (K4 (cN r n) 2 3 6 7)) (K6 (uR r n kk18) 2 3 6 7 19 20) :=
 congrArg (fun k => D175 r n aXk (xs x0 0 (K4 (cN r n) 2 3 6 7)) k) (bIv r n kk18)
theorem bOm (kk18 : fE) : D175 r n tF (xs x0 0 (K4 (cN r n) 2 3 6 7)) (K6 kk18 2 3 6 7 19 20) = (K7 (aIj r n kk18) 2 3 6 7 19 20 21) :=
 (aRv r n kk18).trans
 ((by kernel_rfl))
theorem aTe (kk18 : fE) : D175 r n iA (xs x0 0 (K4 (cN r n) 2 3 6 7)) (K6 kk18 2 3 6 7 19 20) = D175 r n aZc (xs x0 0 (K4 (cN r n) 2 3 6 7)) (K7 (aIj r n kk18) 2 3 6 7 19 20 21) :=
 congrArg (fun k => D175 r n aZc (xs x0 0 (K4 (cN r n) 2 3 6 7)) k) (bOm r n kk18)
theorem bEy (kk18 : fE) : D175 r n iA (xs x0 0 (K4 (cN r n) 2 3 6 7)) (K6 kk18 2 3 6 7 19 20) = (K6 (aKw r n kk18) 2 3 6 7 19 20) :=
 (aTe r n kk18).trans
 ((by kernel_rfl))
theorem bEr (m : Nat) : aO (fun kk => D175 r n iA (xs x0 0 (K4 (cN r n) 2 3 6 7)) kk) m = (K6 (pA r n m) 2 3 6 7 19 20) := by
 induction m with
 | zero => exact (by kernel_rfl : aO (fun kk => D175 r n iA (xs x0 0 (K4 (cN r n) 2 3 6 7)) kk) 0 = (K6 (pA r n 0) 2 3 6 7 19 20))
 | succ m ih =>
  refine (by kernel_rfl : aO (fun kk => D175 r n iA (xs x0 0 (K4 (cN r n) 2 3 6 7)) kk) (m + 1) = D175 r n iA (xs x0 0 (K4 (cN r n) 2 3 6 7)) (aO (fun kk => D175 r n iA (xs x0 0 (K4 (cN r n) 2 3 6 7)) kk) m)).trans ?_
  rw [ih]
  exact (bEy r n (pA r n m)).trans (by kernel_rfl)
theorem bRr : D175 r n tX (xs x0 0 (K4 (cN r n) 2 3 6 7)) (K4 (cN r n) 2 3 6 7) = (K6 (aUt r n) 2 3 6 7 19 20) :=
 (by kernel_rfl : D175 r n tX (xs x0 0 (K4 (cN r n) 2 3 6 7)) (K4 (cN r n) 2 3 6 7) = aO (fun kk => D175 r n iA (xs x0 0 (K4 (cN r n) 2 3 6 7)) kk) n).trans ((bEr r n n).trans (by kernel_rfl))
theorem bWu : D175 r n aJa x0 (K4 (cN r n) 2 3 6 7) = (K6 (aAx r n) 2 3 6 7 19 20) :=
 (by kernel_rfl : D175 r n aJa x0 (K4 (cN r n) 2 3 6 7) = D175 r n tX (xs x0 0 (K4 (cN r n) 2 3 6 7)) (K4 (cN r n) 2 3 6 7)).trans
 ((bRr r n).trans (by kernel_rfl))
theorem bCv : D175 r n aFl x0 r175 = D175 r n oP x0 (K4 (cN r n) 2 3 6 7) :=
 congrArg (fun k => D175 r n oP x0 k) (cPw r n)
theorem bFs : D175 r n oP x0 (K4 (cN r n) 2 3 6 7) = D175 r n aUr x0 (K6 (aAx r n) 2 3 6 7 19 20) :=
 congrArg (fun k => D175 r n aUr x0 k) (bWu r n)
theorem cGb : D175 r n aFl x0 r175 = (K4 (wD r n) 2 3 6 7) :=
 (bCv r n).trans
 ((bFs r n).trans
 ((by kernel_rfl)))
theorem bDk : D175 r n aCo x0 r175 = D175 r n aCv x0 (K4 (wD r n) 2 3 6 7) :=
 congrArg (fun k => D175 r n aCv x0 k) (cGb r n)
theorem bEf (q0 : dL) : D175 r n aCv x0 (K4 q0 2 3 6 7) = fun (env : aW) (h : Hp) =>
 bnd (bL [.l0] h) fun v1 h1 =>
  q0 (env 2) (env 3) (env 6) v1 h1 := by kernel_rfl
theorem aSy : (fun (env : aW) (h : Hp) =>
 bnd (bL [.l0] h) fun v1 h1 =>
  wD r n (env 2) (env 3) (env 6) v1 h1) = (K3 (qU r n) 2 3 6) := by kernel_rfl
theorem cLw : D175 r n aCo x0 r175 = (K3 (qU r n) 2 3 6) :=
 (bDk r n).trans
 ((bEf r n (wD r n)).trans (aSy r n))
theorem bEm : D175 r n aJi x0 r175 = D175 r n aGj x0 (K3 (qU r n) 2 3 6) :=
 congrArg (fun k => D175 r n aGj x0 k) (cLw r n)
theorem bFu (q0 : mL) : D175 r n aGj x0 (K3 q0 2 3 6) = fun (env : aW) (h : Hp) =>
 bnd (aA (env 2) h) fun v1 h1 =>
 bnd (bX v1 h1) fun v2 h2 =>
 bnd (cI 1 8 [(aE 0)] v2 v2 h2) fun v3 h3 =>
 bnd (bL [.l0] h3) fun v4 h4 =>
 bnd (aG 1 v4 v3 h4) fun _ h5 =>
  q0 (env 2) (env 3) v4 h5 := by kernel_rfl
theorem aRy : (fun (env : aW) (h : Hp) =>
 bnd (aA (env 2) h) fun v1 h1 =>
 bnd (bX v1 h1) fun v2 h2 =>
 bnd (cI 1 8 [(aE 0)] v2 v2 h2) fun v3 h3 =>
 bnd (bL [.l0] h3) fun v4 h4 =>
 bnd (aG 1 v4 v3 h4) fun _ h5 =>
  qU r n (env 2) (env 3) v4 h5) = (K2 (qY r n) 2 3) := by kernel_rfl
theorem cOn : D175 r n aOi x0 r175 = (K2 (qY r n) 2 3) :=
 (by kernel_rfl : D175 r n aOi x0 r175 = D175 r n aJi x0 r175).trans
 ((bEm r n).trans
 ((bFu r n (qU r n)).trans (aRy r n)))
theorem cFt : D175 r n c175 x0 r175 = D175 r n aBu x0 (K2 (qY r n) 2 3) :=
 congrArg (fun k => D175 r n aBu x0 k) (cOn r n)
theorem cOo (q0 : oL) : D175 r n aBu x0 (K2 q0 2 3) = fun (env : aW) (h : Hp) =>
 bnd (bQ (env 0) h) fun v1 h1 =>
 bnd (bQ (env 1) h1) fun v2 h2 =>
  q0 v1 v2 h2 := by kernel_rfl
theorem cAq : (fun (env : aW) (h : Hp) =>
 bnd (bQ (env 0) h) fun v1 h1 =>
 bnd (bQ (env 1) h1) fun v2 h2 =>
  qY r n v1 v2 h2) = (K2 (s175 r n) 0 1) := by kernel_rfl
theorem dHh : D175 r n c175 x0 r175 = (K2 (s175 r n) 0 1) :=
 (cFt r n).trans
 ((cOo r n (qY r n)).trans (cAq r n))
theorem cVo : aF CF r n 175 args h = s175 r n (aT args 0) (aT args 1) h :=
 (by kernel_rfl : aF CF r n 175 args h = D175 r n c175 x0 r175 (aI args) h).trans ((congrFun (congrFun (dHh r n) (aI args)) h).trans (by kernel_rfl))
noncomputable def s177 (r : RT) (n : Nat) (x0 : DV) (h0 : Hp) : aH :=
 bnd (r 148 [x0] h0) fun v1 h1 =>
 bnd (gD v1 false (some (x0, h1)) h1) fun v2 h2 =>
 bnd (gD v1 false (r 151 [v2] h2) h2) fun v3 h3 =>
 bnd (aP v1 (.b true) v3 h3) fun v4 h4 =>
 some (v4, h4)
noncomputable abbrev c177 : Code := cf Tryz.f177
noncomputable abbrev r177 : K := aQ CF Tryz.f177
noncomputable def D177 (r : RT) (n : Nat) (c : Code) (X : Nat → K) (k : K) : K := aM CF r 9 n c X r177 k
theorem dEi : D177 r n c177 x0 r177 = (K1 (s177 r n) 0) :=
 (by kernel_rfl)
theorem cVa : aF CF r n 177 args h = s177 r n (aT args 0) h :=
 (by kernel_rfl : aF CF r n 177 args h = D177 r n c177 x0 r177 (aI args) h).trans ((congrFun (congrFun (dEi r n) (aI args)) h).trans (by kernel_rfl))
end Go.Dd

namespace Go.Dd
open Go.Proofs
variable (r : RT) (n : Nat) (args : List DV) (h : Hp)
noncomputable def nT (r : RT) (n : Nat) (x2 : DV) (h0 : Hp) : aH :=
 bnd (bC jY [] h0) fun v1 h1 =>
 bnd (aG 6 x2 v1 h1) fun _ h2 =>
 bnd (aK 6 x2 h2) fun v3 _ =>
 some (v3, h2)
noncomputable def qT (r : RT) (n : Nat) (x0 x2 : DV) (h0 : Hp) : aH :=
 bnd (r 137 [x0, (aE 0)] h0) fun v1 h1 =>
 bnd (bL [(aE 0), (.s []), (aE 0), (aE 0)] h1) fun v2 h2 =>
 bnd (aG 4 v2 v1 h2) fun _ h3 =>
 bnd (aN x0 h3) fun v4 h4 =>
 bnd (aB 3 v4 h4) fun v5 h5 =>
 bnd (aA v5 h5) fun v6 h6 =>
 bnd (aD .neq v6 (aE 0) h6) fun v7 h7 =>
 aS v7 (
  nT r n x2 h7) (
 bnd (aB 0 v2 h7) fun v8 h8 =>
 bnd (aA v8 h8) fun v9 h9 =>
 bnd (aD .eql v9 (aE 1) h9) fun v10 h10 =>
 aS v10 (
 bnd (r 134 [x0] h10) fun v11 h11 =>
 bnd (fJ 1 v11 h11) fun v12 h12 =>
 bnd (bC jY [(0, 1, (aE 5)), (1, 1, v12)] h12) fun v13 h13 =>
 bnd (aG 6 x2 v13 h13) fun _ h14 =>
 bnd (aK 6 x2 h14) fun v15 _ =>
 some (v15, h14)) (
 bnd (aB 0 v2 h10) fun v16 h16 =>
 bnd (aA v16 h16) fun v17 h17 =>
 bnd (aD .eql v17 (aE 7) h17) fun v18 h18 =>
 aS v18 (
 bnd (r 208 [x0, (.f 209 [x0] [])] h18) fun v19 h19 =>
 bnd (aG 6 x2 v19 h19) fun _ h20 =>
 bnd (aK 6 x2 h20) fun v21 _ =>
 some (v21, h20)) (
 bnd (r 133 [x0, (aE 10), (.s [40])] h18) fun v22 h22 =>
 aS v22 (
 bnd (r 208 [x0, (.f 210 [x0] [])] h22) fun v23 h23 =>
 bnd (aG 6 x2 v23 h23) fun _ h24 =>
 bnd (aK 6 x2 h24) fun v25 _ =>
 some (v25, h24)) (
 bnd (r 133 [x0, (aE 10), (.s [91])] h22) fun v26 h26 =>
 aS v26 (
 bnd (r 208 [x0, (.f 211 [x0] [])] h26) fun v27 h27 =>
 bnd (aG 6 x2 v27 h27) fun _ h28 =>
 bnd (aK 6 x2 h28) fun v29 _ =>
 some (v29, h28)) (
 bnd (aK 4 v2 h26) fun v30 h30 =>
 bnd (r 136 [x0, v30, (aE 13)] h30) fun v31 h31 =>
      nT r n x2 h31)))))
noncomputable def rG (r : RT) (n : Nat) (x0 x2 : DV) (h0 : Hp) : aH :=
 bnd (r 207 [x0] h0) fun v1 h1 =>
 bnd (aC 0 v1 h1) fun v2 h2 =>
 bnd (aC 1 v1 h2) fun v3 h3 =>
 bnd (bL jY h3) fun v4 h4 =>
 bnd (aG 6 v4 v2 h4) fun _ h5 =>
 aS v3 (
 bnd (aK 6 v4 h5) fun v6 h6 =>
 bnd (aG 6 x2 v6 h6) fun _ h7 =>
 bnd (aK 6 x2 h7) fun v8 _ =>
 some (v8, h7)) (
  qT r n x0 x2 h5)
noncomputable def s182 (r : RT) (n : Nat) (x0 : DV) (h0 : Hp) : aH :=
 bnd (bL jY h0) fun v1 h1 =>
  rG r n x0 v1 h1
noncomputable abbrev c182 : Code := cf Tryz.f182
noncomputable abbrev aJx : Code := cR c182
noncomputable abbrev aHl : Code := cR aJx
noncomputable abbrev cRx : Code := cR aHl
noncomputable abbrev aPg : Code := cL aHl
noncomputable abbrev aNm : Code := cL aJx
noncomputable abbrev aPl : Code := cL c182
noncomputable abbrev r182 : K := aQ CF Tryz.f182
noncomputable def D182 (r : RT) (n : Nat) (c : Code) (X : Nat → K) (k : K) : K := aM CF r 55 n c X r182 k
theorem cMq : D182 r n cRx x0 r182 = (K1 (nT r n) 2) :=
 (by kernel_rfl)
theorem bNr : D182 r n aHl x0 r182 = D182 r n aPg x0 (K1 (nT r n) 2) :=
 congrArg (fun k => D182 r n aPg x0 k) (cMq r n)
theorem bSw (q0 : TT1) : D182 r n aPg x0 (K1 q0 2) = fun (env : aW) (h : Hp) =>
 bnd (r 137 [(env 0), (aE 0)] h) fun v1 h1 =>
 bnd (bL [(aE 0), (.s []), (aE 0), (aE 0)] h1) fun v2 h2 =>
 bnd (aG 4 v2 v1 h2) fun _ h3 =>
 bnd (aN (env 0) h3) fun v4 h4 =>
 bnd (aB 3 v4 h4) fun v5 h5 =>
 bnd (aA v5 h5) fun v6 h6 =>
 bnd (aD .neq v6 (aE 0) h6) fun v7 h7 =>
 aS v7 (
   q0 (env 2) h7) (
 bnd (aB 0 v2 h7) fun v8 h8 =>
 bnd (aA v8 h8) fun v9 h9 =>
 bnd (aD .eql v9 (aE 1) h9) fun v10 h10 =>
 aS v10 (
 bnd (r 134 [(env 0)] h10) fun v11 h11 =>
 bnd (fJ 1 v11 h11) fun v12 h12 =>
 bnd (bC jY [(0, 1, (aE 5)), (1, 1, v12)] h12) fun v13 h13 =>
 bnd (aG 6 (env 2) v13 h13) fun _ h14 =>
 bnd (aK 6 (env 2) h14) fun v15 _ =>
 some (v15, h14)) (
 bnd (aB 0 v2 h10) fun v16 h16 =>
 bnd (aA v16 h16) fun v17 h17 =>
 bnd (aD .eql v17 (aE 7) h17) fun v18 h18 =>
 aS v18 (
 bnd (r 208 [(env 0), (.f 209 [(env 0)] [])] h18) fun v19 h19 =>
 bnd (aG 6 (env 2) v19 h19) fun _ h20 =>
 bnd (aK 6 (env 2) h20) fun v21 _ =>
 some (v21, h20)) (
 bnd (r 133 [(env 0), (aE 10), (.s [40])] h18) fun v22 h22 =>
 aS v22 (
 bnd (r 208 [(env 0), (.f 210 [(env 0)] [])] h22) fun v23 h23 =>
 bnd (aG 6 (env 2) v23 h23) fun _ h24 =>
 bnd (aK 6 (env 2) h24) fun v25 _ =>
 some (v25, h24)) (
 bnd (r 133 [(env 0), (aE 10), (.s [91])] h22) fun v26 h26 =>
 aS v26 (
 bnd (r 208 [(env 0), (.f 211 [(env 0)] [])] h26) fun v27 h27 =>
 bnd (aG 6 (env 2) v27 h27) fun _ h28 =>
 bnd (aK 6 (env 2) h28) fun v29 _ =>
 some (v29, h28)) (
 bnd (aK 4 v2 h26) fun v30 h30 =>
 bnd (r 136 [(env 0), v30, (aE 13)] h30) fun v31 h31 =>
       q0 (env 2) h31))))) := by kernel_rfl
theorem bFg : (fun (env : aW) (h : Hp) =>
 bnd (r 137 [(env 0), (aE 0)] h) fun v1 h1 =>
 bnd (bL [(aE 0), (.s []), (aE 0), (aE 0)] h1) fun v2 h2 =>
 bnd (aG 4 v2 v1 h2) fun _ h3 =>
 bnd (aN (env 0) h3) fun v4 h4 =>
 bnd (aB 3 v4 h4) fun v5 h5 =>
 bnd (aA v5 h5) fun v6 h6 =>
 bnd (aD .neq v6 (aE 0) h6) fun v7 h7 =>
 aS v7 (
   nT r n (env 2) h7) (
 bnd (aB 0 v2 h7) fun v8 h8 =>
 bnd (aA v8 h8) fun v9 h9 =>
 bnd (aD .eql v9 (aE 1) h9) fun v10 h10 =>
 aS v10 (
 bnd (r 134 [(env 0)] h10) fun v11 h11 =>
 bnd (fJ 1 v11 h11) fun v12 h12 =>
 bnd (bC jY [(0, 1, (aE 5)), (1, 1, v12)] h12) fun v13 h13 =>
 bnd (aG 6 (env 2) v13 h13) fun _ h14 =>
 bnd (aK 6 (env 2) h14) fun v15 _ =>
 some (v15, h14)) (
 bnd (aB 0 v2 h10) fun v16 h16 =>
 bnd (aA v16 h16) fun v17 h17 =>
 bnd (aD .eql v17 (aE 7) h17) fun v18 h18 =>
 aS v18 (
 bnd (r 208 [(env 0), (.f 209 [(env 0)] [])] h18) fun v19 h19 =>
 bnd (aG 6 (env 2) v19 h19) fun _ h20 =>
 bnd (aK 6 (env 2) h20) fun v21 _ =>
 some (v21, h20)) (
 bnd (r 133 [(env 0), (aE 10), (.s [40])] h18) fun v22 h22 =>
 aS v22 (
 bnd (r 208 [(env 0), (.f 210 [(env 0)] [])] h22) fun v23 h23 =>
 bnd (aG 6 (env 2) v23 h23) fun _ h24 =>
 bnd (aK 6 (env 2) h24) fun v25 _ =>
 some (v25, h24)) (
 bnd (r 133 [(env 0), (aE 10), (.s [91])] h22) fun v26 h26 =>
 aS v26 (
 bnd (r 208 [(env 0), (.f 211 [(env 0)] [])] h26) fun v27 h27 =>
 bnd (aG 6 (env 2) v27 h27) fun _ h28 =>
 bnd (aK 6 (env 2) h28) fun v29 _ =>
 some (v29, h28)) (
 bnd (aK 4 v2 h26) fun v30 h30 =>
 bnd (r 136 [(env 0), v30, (aE 13)] h30) fun v31 h31 =>
       nT r n (env 2) h31)))))) = (K2 (qT r n) 0 2) := by kernel_rfl
theorem cHz : D182 r n aHl x0 r182 = (K2 (qT r n) 0 2) :=
 (bNr r n).trans
 ((bSw r n (nT r n)).trans (bFg r n))
theorem bKz : D182 r n aJx x0 r182 = D182 r n aNm x0 (K2 (qT r n) 0 2) :=
 congrArg (fun k => D182 r n aNm x0 k) (cHz r n)
theorem bVy (q0 : oL) : D182 r n aNm x0 (K2 q0 0 2) = fun (env : aW) (h : Hp) =>
 bnd (r 207 [(env 0)] h) fun v1 h1 =>
 bnd (aC 0 v1 h1) fun v2 h2 =>
 bnd (aC 1 v1 h2) fun v3 h3 =>
 bnd (bL jY h3) fun v4 h4 =>
 bnd (aG 6 v4 v2 h4) fun _ h5 =>
 aS v3 (
 bnd (aK 6 v4 h5) fun v6 h6 =>
 bnd (aG 6 (env 2) v6 h6) fun _ h7 =>
 bnd (aK 6 (env 2) h7) fun v8 _ =>
 some (v8, h7)) (
   q0 (env 0) (env 2) h5) := by kernel_rfl
theorem bEv : (fun (env : aW) (h : Hp) =>
 bnd (r 207 [(env 0)] h) fun v1 h1 =>
 bnd (aC 0 v1 h1) fun v2 h2 =>
 bnd (aC 1 v1 h2) fun v3 h3 =>
 bnd (bL jY h3) fun v4 h4 =>
 bnd (aG 6 v4 v2 h4) fun _ h5 =>
 aS v3 (
 bnd (aK 6 v4 h5) fun v6 h6 =>
 bnd (aG 6 (env 2) v6 h6) fun _ h7 =>
 bnd (aK 6 (env 2) h7) fun v8 _ =>
 some (v8, h7)) (
   qT r n (env 0) (env 2) h5)) = (K2 (rG r n) 0 2) := by kernel_rfl
theorem cLg : D182 r n aJx x0 r182 = (K2 (rG r n) 0 2) :=
 (bKz r n).trans
 ((bVy r n (qT r n)).trans (bEv r n))
theorem cWa : D182 r n c182 x0 r182 = D182 r n aPl x0 (K2 (rG r n) 0 2) :=
 congrArg (fun k => D182 r n aPl x0 k) (cLg r n)
theorem cVt (q0 : oL) : D182 r n aPl x0 (K2 q0 0 2) = fun (env : aW) (h : Hp) =>
 bnd (bL jY h) fun v1 h1 =>
  q0 (env 0) v1 h1 := by kernel_rfl
theorem cGg : (fun (env : aW) (h : Hp) =>
 bnd (bL jY h) fun v1 h1 =>
  rG r n (env 0) v1 h1) = (K1 (s182 r n) 0) := by kernel_rfl
theorem dLb : D182 r n c182 x0 r182 = (K1 (s182 r n) 0) :=
 (cWa r n).trans
 ((cVt r n (rG r n)).trans (cGg r n))
theorem dCf : aF CF r n 182 args h = s182 r n (aT args 0) h :=
 (by kernel_rfl : aF CF r n 182 args h = D182 r n c182 x0 r182 (aI args) h).trans ((congrFun (congrFun (dLb r n) (aI args)) h).trans (by kernel_rfl))
noncomputable def eO (r : RT) (n : Nat) (h0 : Hp) : aH :=
 some ((.i .i64 (Int.negSucc 0)), h0)
noncomputable def bBa (r : RT) (n : Nat) (kk4 : dL) (x0 x1 x7 x8 : DV) (h0 : Hp) : aH :=
 bnd (aD .lss x8 x7 h0) fun v1 h1 =>
 aS v1 (
 bnd (aJ 4 x0 x8 h1) fun v2 h2 =>
 bnd (aK 4 v2 h2) fun v3 h3 =>
 bnd (cV CF r x1 [v3] h3) fun v4 h4 =>
 aS v4 (
 some (x8, h4)) (
 bnd (aD .add x8 (aE 1) h4) fun v5 h5 =>
    kk4 x0 x1 x7 v5 h5)) (
      eO r n h1)
noncomputable def tV (r : RT) (n : Nat) (m : Nat) : dL :=
 Nat.rec (motive := fun _ => dL) (fun _ _ _ _ _ => none) (fun _ ih => bBa r n ih) m
noncomputable def bOz (r : RT) (n : Nat) : dL := tV r n n
noncomputable def aUg (r : RT) (n : Nat) (x0 x1 x7 x8 : DV) (h0 : Hp) : aH :=
 bOz r n x0 x1 x7 x8 h0
noncomputable def aOy (r : RT) (n : Nat) (x0 x1 : DV) (h0 : Hp) : aH :=
 bnd (bX x0 h0) fun v1 h1 =>
  aUg r n x0 x1 v1 (aE 0) h1
noncomputable def s185 (r : RT) (n : Nat) (x0 x1 : DV) (h0 : Hp) : aH :=
 aOy r n x0 x1 h0
noncomputable abbrev c185 : Code := cf Tryz.f185
noncomputable abbrev aHu : Code := cR c185
noncomputable abbrev dDe : Code := cR aHu
noncomputable abbrev xJ : Code := cL aHu
noncomputable abbrev aOr : Code := cR xJ
noncomputable abbrev aHn : Code := cL aOr
noncomputable abbrev nP : Code := cL aHn
noncomputable abbrev bLl : Code := cL xJ
noncomputable abbrev bZg : Code := cL c185
noncomputable abbrev r185 : K := aQ CF Tryz.f185
noncomputable def D185 (r : RT) (n : Nat) (c : Code) (X : Nat → K) (k : K) : K := aM CF r 19 n c X r185 k
theorem cGi : D185 r n dDe x0 r185 = (K0 (eO r n)) :=
 (by kernel_rfl)
theorem bWw (kk4 : dL) : D185 r n nP (xs x0 0 (K0 (eO r n))) (K4 kk4 0 1 7 8) = (K4 (bBa r n kk4) 0 1 7 8) :=
 (by kernel_rfl)
theorem bUl (m : Nat) : aO (fun kk => D185 r n nP (xs x0 0 (K0 (eO r n))) kk) m = (K4 (tV r n m) 0 1 7 8) := by
 induction m with
 | zero => exact (by kernel_rfl : aO (fun kk => D185 r n nP (xs x0 0 (K0 (eO r n))) kk) 0 = (K4 (tV r n 0) 0 1 7 8))
 | succ m ih =>
  refine (by kernel_rfl : aO (fun kk => D185 r n nP (xs x0 0 (K0 (eO r n))) kk) (m + 1) = D185 r n nP (xs x0 0 (K0 (eO r n))) (aO (fun kk => D185 r n nP (xs x0 0 (K0 (eO r n))) kk) m)).trans ?_
  rw [ih]
  exact (bWw r n (tV r n m)).trans (by kernel_rfl)
theorem cDc : D185 r n aHn (xs x0 0 (K0 (eO r n))) (K0 (eO r n)) = (K4 (bOz r n) 0 1 7 8) :=
 (by kernel_rfl : D185 r n aHn (xs x0 0 (K0 (eO r n))) (K0 (eO r n)) = aO (fun kk => D185 r n nP (xs x0 0 (K0 (eO r n))) kk) n).trans ((bUl r n n).trans (by kernel_rfl))
theorem cHc : D185 r n aOr x0 (K0 (eO r n)) = (K4 (aUg r n) 0 1 7 8) :=
 (by kernel_rfl : D185 r n aOr x0 (K0 (eO r n)) = D185 r n aHn (xs x0 0 (K0 (eO r n))) (K0 (eO r n))).trans
 ((cDc r n).trans (by kernel_rfl))
theorem bWp : D185 r n aHu x0 r185 = D185 r n xJ x0 (K0 (eO r n)) :=
 congrArg (fun k => D185 r n xJ x0 k) (cGi r n)
theorem bJh : D185 r n xJ x0 (K0 (eO r n)) = D185 r n bLl x0 (K4 (aUg r n) 0 1 7 8) :=
 congrArg (fun k => D185 r n bLl x0 k) (cHc r n)
theorem cOj : D185 r n aHu x0 r185 = (K2 (aOy r n) 0 1) :=
 (bWp r n).trans
 ((bJh r n).trans
 ((by kernel_rfl)))
theorem cWp : D185 r n c185 x0 r185 = D185 r n bZg x0 (K2 (aOy r n) 0 1) :=
 congrArg (fun k => D185 r n bZg x0 k) (cOj r n)
theorem dJu : D185 r n c185 x0 r185 = (K2 (s185 r n) 0 1) :=
 (cWp r n).trans
 ((by kernel_rfl))
theorem cTc : aF CF r n 185 args h = s185 r n (aT args 0) (aT args 1) h :=
 (by kernel_rfl : aF CF r n 185 args h = D185 r n c185 x0 r185 (aI args) h).trans ((congrFun (congrFun (dJu r n) (aI args)) h).trans (by kernel_rfl))
noncomputable def s186 (r : RT) (n : Nat) (x0 x1 : DV) (h0 : Hp) : aH :=
 bnd (bQ x0 h0) fun v1 h1 =>
 bnd (aB 0 v1 h1) fun v2 h2 =>
 bnd (aA v2 h2) fun v3 h3 =>
 bnd (aA x1 h3) fun v4 h4 =>
 bnd (eG .eql v3 v4 h4) fun v5 h5 =>
 some (v5, h5)
noncomputable abbrev c186 : Code := cf Tryz.f186
noncomputable abbrev r186 : K := aQ CF Tryz.f186
noncomputable def D186 (r : RT) (n : Nat) (c : Code) (X : Nat → K) (k : K) : K := aM CF r 8 n c X r186 k
theorem dGo : D186 r n c186 x0 r186 = (K2 (s186 r n) 0 1) :=
 (by kernel_rfl)
theorem cTr : aF CF r n 186 args h = s186 r n (aT args 0) (aT args 1) h :=
 (by kernel_rfl : aF CF r n 186 args h = D186 r n c186 x0 r186 (aI args) h).trans ((congrFun (congrFun (dGo r n) (aI args)) h).trans (by kernel_rfl))
noncomputable def eR (r : RT) (n : Nat) (h0 : Hp) : aH :=
 some ((.i .i64 (Int.negSucc 0)), h0)
noncomputable def aZl (r : RT) (n : Nat) (kk4 : dL) (x0 x1 x7 x8 : DV) (h0 : Hp) : aH :=
 bnd (aD .lss x8 x7 h0) fun v1 h1 =>
 aS v1 (
 bnd (aJ 4 x0 x8 h1) fun v2 h2 =>
 bnd (aK 4 v2 h2) fun v3 h3 =>
 bnd (cV CF r x1 [v3] h3) fun v4 h4 =>
 aS v4 (
 some (x8, h4)) (
 bnd (aD .add x8 (aE 1) h4) fun v5 h5 =>
    kk4 x0 x1 x7 v5 h5)) (
      eR r n h1)
noncomputable def uP (r : RT) (n : Nat) (m : Nat) : dL :=
 Nat.rec (motive := fun _ => dL) (fun _ _ _ _ _ => none) (fun _ ih => aZl r n ih) m
noncomputable def bNb (r : RT) (n : Nat) : dL := uP r n n
noncomputable def aSo (r : RT) (n : Nat) (x0 x1 x7 x8 : DV) (h0 : Hp) : aH :=
 bNb r n x0 x1 x7 x8 h0
noncomputable def aPt (r : RT) (n : Nat) (x0 x1 : DV) (h0 : Hp) : aH :=
 bnd (bX x0 h0) fun v1 h1 =>
  aSo r n x0 x1 v1 (aE 0) h1
noncomputable def s187 (r : RT) (n : Nat) (x0 x1 : DV) (h0 : Hp) : aH :=
 aPt r n x0 x1 h0
noncomputable abbrev c187 : Code := cf Tryz.f187
noncomputable abbrev aFu : Code := cR c187
noncomputable abbrev cWn : Code := cR aFu
noncomputable abbrev yW : Code := cL aFu
noncomputable abbrev aPf : Code := cR yW
noncomputable abbrev aCu : Code := cL aPf
noncomputable abbrev oE : Code := cL aCu
noncomputable abbrev bJp : Code := cL yW
noncomputable abbrev bRs : Code := cL c187
noncomputable abbrev r187 : K := aQ CF Tryz.f187
noncomputable def D187 (r : RT) (n : Nat) (c : Code) (X : Nat → K) (k : K) : K := aM CF r 19 n c X r187 k
theorem cFa : D187 r n cWn x0 r187 = (K0 (eR r n)) :=
 (by kernel_rfl)
theorem bZu (kk4 : dL) : D187 r n oE (xs x0 0 (K0 (eR r n))) (K4 kk4 0 1 7 8) = (K4 (aZl r n kk4) 0 1 7 8) :=
 (by kernel_rfl)
theorem bRl (m : Nat) : aO (fun kk => D187 r n oE (xs x0 0 (K0 (eR r n))) kk) m = (K4 (uP r n m) 0 1 7 8) := by
 induction m with
 | zero => exact (by kernel_rfl : aO (fun kk => D187 r n oE (xs x0 0 (K0 (eR r n))) kk) 0 = (K4 (uP r n 0) 0 1 7 8))
 | succ m ih =>
  refine (by kernel_rfl : aO (fun kk => D187 r n oE (xs x0 0 (K0 (eR r n))) kk) (m + 1) = D187 r n oE (xs x0 0 (K0 (eR r n))) (aO (fun kk => D187 r n oE (xs x0 0 (K0 (eR r n))) kk) m)).trans ?_
  rw [ih]
  exact (bZu r n (uP r n m)).trans (by kernel_rfl)
theorem cJm : D187 r n aCu (xs x0 0 (K0 (eR r n))) (K0 (eR r n)) = (K4 (bNb r n) 0 1 7 8) :=
 (by kernel_rfl : D187 r n aCu (xs x0 0 (K0 (eR r n))) (K0 (eR r n)) = aO (fun kk => D187 r n oE (xs x0 0 (K0 (eR r n))) kk) n).trans ((bRl r n n).trans (by kernel_rfl))
theorem cJj : D187 r n aPf x0 (K0 (eR r n)) = (K4 (aSo r n) 0 1 7 8) :=
 (by kernel_rfl : D187 r n aPf x0 (K0 (eR r n)) = D187 r n aCu (xs x0 0 (K0 (eR r n))) (K0 (eR r n))).trans
 ((cJm r n).trans (by kernel_rfl))
theorem bKr : D187 r n aFu x0 r187 = D187 r n yW x0 (K0 (eR r n)) :=
 congrArg (fun k => D187 r n yW x0 k) (cFa r n)
theorem bGp : D187 r n yW x0 (K0 (eR r n)) = D187 r n bJp x0 (K4 (aSo r n) 0 1 7 8) :=
 congrArg (fun k => D187 r n bJp x0 k) (cJj r n)
theorem cKc : D187 r n aFu x0 r187 = (K2 (aPt r n) 0 1) :=
 (bKr r n).trans
 ((bGp r n).trans
 ((by kernel_rfl)))
theorem cZe : D187 r n c187 x0 r187 = D187 r n bRs x0 (K2 (aPt r n) 0 1) :=
 congrArg (fun k => D187 r n bRs x0 k) (cKc r n)
theorem dJq : D187 r n c187 x0 r187 = (K2 (s187 r n) 0 1) :=
 (cZe r n).trans
 ((by kernel_rfl))
theorem cXz : aF CF r n 187 args h = s187 r n (aT args 0) (aT args 1) h :=
 (by kernel_rfl : aF CF r n 187 args h = D187 r n c187 x0 r187 (aI args) h).trans ((congrFun (congrFun (dJq r n) (aI args)) h).trans (by kernel_rfl))
noncomputable def s188 (r : RT) (n : Nat) (x0 x1 : DV) (h0 : Hp) : aH :=
 bnd (bQ x0 h0) fun v1 h1 =>
 bnd (aK 4 v1 h1) fun v2 h2 =>
 bnd (aK 4 x1 h2) fun v3 h3 =>
 bnd (r 189 [v2, v3] h3) fun v4 h4 =>
 some (v4, h4)
noncomputable abbrev c188 : Code := cf Tryz.f188
noncomputable abbrev r188 : K := aQ CF Tryz.f188
noncomputable def D188 (r : RT) (n : Nat) (c : Code) (X : Nat → K) (k : K) : K := aM CF r 7 n c X r188 k
theorem dJf : D188 r n c188 x0 r188 = (K2 (s188 r n) 0 1) :=
 (by kernel_rfl)
theorem dAa : aF CF r n 188 args h = s188 r n (aT args 0) (aT args 1) h :=
 (by kernel_rfl : aF CF r n 188 args h = D188 r n c188 x0 r188 (aI args) h).trans ((congrFun (congrFun (dJf r n) (aI args)) h).trans (by kernel_rfl))
noncomputable def s189 (r : RT) (n : Nat) (x0 x1 : DV) (h0 : Hp) : aH :=
 bnd (bQ x0 h0) fun v1 h1 =>
 bnd (bQ x1 h1) fun v2 h2 =>
 bnd (aB 0 v1 h2) fun v3 h3 =>
 bnd (aA v3 h3) fun v4 h4 =>
 bnd (aB 0 v2 h4) fun v5 h5 =>
 bnd (aA v5 h5) fun v6 h6 =>
 bnd (aD .eql v4 v6 h6) fun v7 h7 =>
 bnd (gD v7 true (aB 1 v1 h7) h7) fun v8 h8 =>
 bnd (gD v7 true (aA v8 h8) h8) fun v9 h9 =>
 bnd (gD v7 true (aB 1 v2 h9) h9) fun v10 h10 =>
 bnd (gD v7 true (aA v10 h10) h10) fun v11 h11 =>
 bnd (gD v7 true (eG .eql v9 v11 h11) h11) fun v12 h12 =>
 bnd (aP v7 v12 (.b false) h12) fun v13 h13 =>
 bnd (gD v13 true (aB 2 v1 h13) h13) fun v14 h14 =>
 bnd (gD v13 true (aA v14 h14) h14) fun v15 h15 =>
 bnd (gD v13 true (aB 2 v2 h15) h15) fun v16 h16 =>
 bnd (gD v13 true (aA v16 h16) h16) fun v17 h17 =>
 bnd (gD v13 true (aD .eql v15 v17 h17) h17) fun v18 h18 =>
 bnd (aP v13 v18 (.b false) h18) fun v19 h19 =>
 bnd (gD v19 true (aB 3 v1 h19) h19) fun v20 h20 =>
 bnd (gD v19 true (aA v20 h20) h20) fun v21 h21 =>
 bnd (gD v19 true (aB 3 v2 h21) h21) fun v22 h22 =>
 bnd (gD v19 true (aA v22 h22) h22) fun v23 h23 =>
 bnd (gD v19 true (r 213 [v21, v23, (.f 189 [] [])] h23) h23) fun v24 h24 =>
 bnd (aP v19 v24 (.b false) h24) fun v25 h25 =>
 some (v25, h25)
noncomputable abbrev c189 : Code := cf Tryz.f189
noncomputable abbrev r189 : K := aQ CF Tryz.f189
noncomputable def D189 (r : RT) (n : Nat) (c : Code) (X : Nat → K) (k : K) : K := aM CF r 31 n c X r189 k
theorem dEb : D189 r n c189 x0 r189 = (K2 (s189 r n) 0 1) :=
 (by kernel_rfl)
theorem cXr : aF CF r n 189 args h = s189 r n (aT args 0) (aT args 1) h :=
 (by kernel_rfl : aF CF r n 189 args h = D189 r n c189 x0 r189 (aI args) h).trans ((congrFun (congrFun (dEb r n) (aI args)) h).trans (by kernel_rfl))
noncomputable def s191 (r : RT) (n : Nat) (x0 x1 : DV) (h0 : Hp) : aH :=
 bnd (bC [(aE 0), (.s []), (aE 0), .l0] [(0, 1, (aE 3)), (1, 1, x1)] h0) fun v1 h1 =>
 bnd (lC [x0, v1] h1) fun v2 h2 =>
 some (v2, h2)
noncomputable abbrev c191 : Code := cf Tryz.f191
noncomputable abbrev r191 : K := aQ CF Tryz.f191
noncomputable def D191 (r : RT) (n : Nat) (c : Code) (X : Nat → K) (k : K) : K := aM CF r 9 n c X r191 k
theorem dIe : D191 r n c191 x0 r191 = (K2 (s191 r n) 0 1) :=
 (by kernel_rfl)
theorem dBe : aF CF r n 191 args h = s191 r n (aT args 0) (aT args 1) h :=
 (by kernel_rfl : aF CF r n 191 args h = D191 r n c191 x0 r191 (aI args) h).trans ((congrFun (congrFun (dIe r n) (aI args)) h).trans (by kernel_rfl))
noncomputable def mF (r : RT) (n : Nat) (x2 x3 x5 x6 x9 : DV) (h0 : Hp) : aH :=
 bnd (aB 5 x3 h0) fun v1 h1 =>
 bnd (aA v1 h1) fun v2 h2 =>
 bnd (bX v2 h2) fun v3 h3 =>
 bnd (aD .neq v3 x9 h3) fun v4 h4 =>
 bnd (gD v4 false (aB 5 x3 h4) h4) fun v5 h5 =>
 bnd (gD v4 false (aA v5 h5) h5) fun v6 h6 =>
 bnd (gD v4 false (cS 6 v6 (some (aE 1)) none h6) h6) fun v7 h7 =>
 bnd (gD v4 false (r 220 [v7, (.f 221 [] [])] h7) h7) fun v8 h8 =>
 bnd (aP v4 (.b true) v8 h8) fun v9 h9 =>
 aS v9 (
 some ((.b false), h9)) (
 bnd (aA x2 h9) fun v10 h10 =>
 bnd (aB 5 x3 h10) fun v11 h11 =>
 bnd (aA v11 h11) fun v12 h12 =>
 bnd (aJ 6 v12 (aE 0) h12) fun v13 h13 =>
 bnd (aK 6 v13 h13) fun v14 h14 =>
 bnd (r 140 [v10, v14] h14) fun v15 h15 =>
 bnd (aA x2 h15) fun v16 h16 =>
 bnd (r 165 [v16, (aE 17)] h16) fun v17 h17 =>
 bnd (cV CF r x5 [] h17) fun v18 h18 =>
 bnd (aA x2 h18) fun v19 h19 =>
 bnd (r 165 [v19, (aE 16)] h19) fun v20 h20 =>
 bnd (cV CF r v17 [] h20) fun v21 h21 =>
 bnd (cV CF r x6 [] h21) fun v22 h22 =>
 bnd (cV CF r v20 [] h22) fun v23 h23 =>
 some ((.b true), h23))
noncomputable def aNv (r : RT) (n : Nat) (x2 x3 x7 x8 x9 : DV) (h0 : Hp) : aH :=
 bnd (aB 1 x3 h0) fun v1 h1 =>
 bnd (aA v1 h1) fun v2 h2 =>
 bnd (eG .eql v2 (.s [105, 102, 84, 114, 117, 101, 58]) h2) fun v3 h3 =>
 aS v3 (
 bnd (cV CF r x7 [(aE 1)] h3) fun v4 h4 =>
 bnd (cV CF r x8 [(aE 2)] h4) fun v5 h5 =>
  mF r n x2 x3 v4 v5 x9 h5) (
 bnd (eG .eql v2 (.s [105, 102, 70, 97, 108, 115, 101, 58]) h3) fun v6 h6 =>
 aS v6 (
 bnd (cV CF r x8 [(aE 2)] h6) fun v7 h7 =>
 bnd (cV CF r x7 [(aE 1)] h7) fun v8 h8 =>
      mF r n x2 x3 v7 v8 x9 h8) (
 bnd (eG .eql v2 (.s [97, 110, 100, 58]) h6) fun v9 h9 =>
 aS v9 (
 bnd (cV CF r x7 [(aE 1)] h9) fun v10 h10 =>
 bnd (cV CF r x8 [(aE 4)] h10) fun v11 h11 =>
    mF r n x2 x3 v10 v11 x9 h11) (
 bnd (eG .eql v2 (.s [111, 114, 58]) h9) fun v12 h12 =>
 aS v12 (
 bnd (cV CF r x8 [(aE 3)] h12) fun v13 h13 =>
 bnd (cV CF r x7 [(aE 1)] h13) fun v14 h14 =>
     mF r n x2 x3 v13 v14 x9 h14) (
 bnd (eG .eql v2 (.s [105, 102, 84, 114, 117, 101, 58, 105, 102, 70, 97, 108, 115, 101, 58]) h12) fun v15 h15 =>
 aS v15 (
 bnd (cV CF r x7 [(aE 1)] h15) fun v16 h16 =>
 bnd (cV CF r x7 [(aE 2)] h16) fun v17 h17 =>
      mF r n x2 x3 v16 v17 (aE 3) h17) (
 bnd (eG .eql v2 (.s [105, 102, 70, 97, 108, 115, 101, 58, 105, 102, 84, 114, 117, 101, 58]) h15) fun v18 h18 =>
 aS v18 (
 bnd (cV CF r x7 [(aE 2)] h18) fun v19 h19 =>
 bnd (cV CF r x7 [(aE 1)] h19) fun v20 h20 =>
       mF r n x2 x3 v19 v20 (aE 3) h20) (
 some ((.b false), h18)))))))
noncomputable def aTo (r : RT) (n : Nat) (x2 x3 x7 x8 : DV) (h0 : Hp) : aH :=
 aNv r n x2 x3 x7 x8 (aE 2) h0
noncomputable def aRl (r : RT) (n : Nat) (x2 x3 x7 : DV) (h0 : Hp) : aH :=
 aTo r n x2 x3 x7 (.f 218 [] [x2]) h0
noncomputable def aQd (r : RT) (n : Nat) (x2 x3 : DV) (h0 : Hp) : aH :=
 aRl r n x2 x3 (.f 216 [] [x2, x3]) h0
noncomputable def xB (r : RT) (n : Nat) (x2 x3 : DV) (h0 : Hp) : aH :=
 aQd r n x2 x3 h0
noncomputable def s192 (r : RT) (n : Nat) (x0 x1 : DV) (h0 : Hp) : aH :=
 bnd (bQ x0 h0) fun v1 h1 =>
 bnd (bQ x1 h1) fun v2 h2 =>
  xB r n v1 v2 h2
noncomputable abbrev c192 : Code := cf Tryz.f192
noncomputable abbrev aEe : Code := cR c192
noncomputable abbrev aEy : Code := cR aEe
noncomputable abbrev aDn : Code := cR aEy
noncomputable abbrev aIp : Code := cR aDn
noncomputable abbrev aKd : Code := cR aIp
noncomputable abbrev cXm : Code := cR aKd
noncomputable abbrev bNu : Code := cL aKd
noncomputable abbrev bZt : Code := cL aIp
noncomputable abbrev bHt : Code := cL aDn
noncomputable abbrev bBq : Code := cL aEy
noncomputable abbrev bBc : Code := cL aEe
noncomputable abbrev aDo : Code := cL c192
noncomputable abbrev r192 : K := aQ CF Tryz.f192
noncomputable def D192 (r : RT) (n : Nat) (c : Code) (X : Nat → K) (k : K) : K := aM CF r 81 n c X r192 k
theorem cEv : D192 r n cXm x0 r192 = (K5 (mF r n) 2 3 5 6 9) :=
 (by kernel_rfl)
theorem bMm : D192 r n aKd x0 r192 = D192 r n bNu x0 (K5 (mF r n) 2 3 5 6 9) :=
 congrArg (fun k => D192 r n bNu x0 k) (cEv r n)
theorem cJe : D192 r n aKd x0 r192 = (K5 (aNv r n) 2 3 7 8 9) :=
 (bMm r n).trans
 ((by kernel_rfl))
theorem bPx : D192 r n aIp x0 r192 = D192 r n bZt x0 (K5 (aNv r n) 2 3 7 8 9) :=
 congrArg (fun k => D192 r n bZt x0 k) (cJe r n)
theorem cGt : D192 r n aIp x0 r192 = (K4 (aTo r n) 2 3 7 8) :=
 (bPx r n).trans
 ((by kernel_rfl))
theorem bMt : D192 r n aDn x0 r192 = D192 r n bHt x0 (K4 (aTo r n) 2 3 7 8) :=
 congrArg (fun k => D192 r n bHt x0 k) (cGt r n)
theorem cBc : D192 r n aDn x0 r192 = (K3 (aRl r n) 2 3 7) :=
 (bMt r n).trans
 ((by kernel_rfl))
theorem bUx : D192 r n aEy x0 r192 = D192 r n bBq x0 (K3 (aRl r n) 2 3 7) :=
 congrArg (fun k => D192 r n bBq x0 k) (cBc r n)
theorem cJw : D192 r n aEy x0 r192 = (K2 (aQd r n) 2 3) :=
 (bUx r n).trans
 ((by kernel_rfl))
theorem bZl : D192 r n aEe x0 r192 = D192 r n bBc x0 (K2 (aQd r n) 2 3) :=
 congrArg (fun k => D192 r n bBc x0 k) (cJw r n)
theorem cEy : D192 r n aEe x0 r192 = (K2 (xB r n) 2 3) :=
 (bZl r n).trans
 ((by kernel_rfl))
theorem dAj : D192 r n c192 x0 r192 = D192 r n aDo x0 (K2 (xB r n) 2 3) :=
 congrArg (fun k => D192 r n aDo x0 k) (cEy r n)
theorem cRu (q0 : oL) : D192 r n aDo x0 (K2 q0 2 3) = fun (env : aW) (h : Hp) =>
 bnd (bQ (env 0) h) fun v1 h1 =>
 bnd (bQ (env 1) h1) fun v2 h2 =>
  q0 v1 v2 h2 := by kernel_rfl
theorem cDm : (fun (env : aW) (h : Hp) =>
 bnd (bQ (env 0) h) fun v1 h1 =>
 bnd (bQ (env 1) h1) fun v2 h2 =>
  xB r n v1 v2 h2) = (K2 (s192 r n) 0 1) := by kernel_rfl
theorem dEy : D192 r n c192 x0 r192 = (K2 (s192 r n) 0 1) :=
 (dAj r n).trans
 ((cRu r n (xB r n)).trans (cDm r n))
theorem cUb : aF CF r n 192 args h = s192 r n (aT args 0) (aT args 1) h :=
 (by kernel_rfl : aF CF r n 192 args h = D192 r n c192 x0 r192 (aI args) h).trans ((congrFun (congrFun (dEy r n) (aI args)) h).trans (by kernel_rfl))
noncomputable def s195 (r : RT) (n : Nat) (x0 x1 : DV) (h0 : Hp) : aH :=
 bnd (bQ x1 h0) fun v1 h1 =>
 bnd (aK 6 v1 h1) fun v2 h2 =>
 bnd (r 223 [v2] h2) fun v3 h3 =>
 aS v3 (
 bnd (r 141 [x0, (aE 1), (aE 0), (aE 0)] h3) fun v4 h4 =>
 some ((aE 15), h4)) (
 bnd (aK 6 v1 h3) fun v5 h5 =>
 bnd (r 140 [x0, v5] h5) fun v6 h6 =>
 some ((aE 14), h6))
noncomputable abbrev c195 : Code := cf Tryz.f195
noncomputable abbrev r195 : K := aQ CF Tryz.f195
noncomputable def D195 (r : RT) (n : Nat) (c : Code) (X : Nat → K) (k : K) : K := aM CF r 12 n c X r195 k
theorem dKt : D195 r n c195 x0 r195 = (K2 (s195 r n) 0 1) :=
 (by kernel_rfl)
theorem dBa : aF CF r n 195 args h = s195 r n (aT args 0) (aT args 1) h :=
 (by kernel_rfl : aF CF r n 195 args h = D195 r n c195 x0 r195 (aI args) h).trans ((congrFun (congrFun (dKt r n) (aI args)) h).trans (by kernel_rfl))
noncomputable def s196 (r : RT) (n : Nat) (x0 : DV) (h0 : Hp) : aH :=
 bnd (aN x0 h0) fun v1 h1 =>
 bnd (aB 0 v1 h1) fun v2 h2 =>
 bnd (aB 5 v2 h2) fun v3 h3 =>
 bnd (aA v3 h3) fun v4 h4 =>
 bnd (bX v4 h4) fun v5 h5 =>
 some (v5, h5)
noncomputable abbrev c196 : Code := cf Tryz.f196
noncomputable abbrev r196 : K := aQ CF Tryz.f196
noncomputable def D196 (r : RT) (n : Nat) (c : Code) (X : Nat → K) (k : K) : K := aM CF r 9 n c X r196 k
theorem dHi : D196 r n c196 x0 r196 = (K1 (s196 r n) 0) :=
 (by kernel_rfl)
theorem cYm : aF CF r n 196 args h = s196 r n (aT args 0) h :=
 (by kernel_rfl : aF CF r n 196 args h = D196 r n c196 x0 r196 (aI args) h).trans ((congrFun (congrFun (dHi r n) (aI args)) h).trans (by kernel_rfl))
noncomputable def dA (r : RT) (n : Nat) (x4 : DV) (h0 : Hp) : aH :=
 some (x4, h0)
noncomputable def aCh (r : RT) (n : Nat) (kk5 : dL) (x0 x1 x4 x5 : DV) (h0 : Hp) : aH :=
 bnd (aD .add x5 (aE 1) h0) fun v1 h1 =>
  kk5 x0 x1 x4 v1 h1
noncomputable def aOv (r : RT) (n : Nat) (kk5 : dL) (x0 x1 x4 x5 : DV) (h0 : Hp) : aH :=
 bnd (aA x1 h0) fun v1 h1 =>
 bnd (r 201 [v1, x5] h1) fun v2 h2 =>
 bnd (aC 0 v2 h2) fun v3 h3 =>
 bnd (aC 1 v2 h3) fun v4 h4 =>
 bnd (gD v4 true (some (x0, h4)) h4) fun v5 h5 =>
 bnd (gD v4 true (some (v3, h5)) h5) fun v6 h6 =>
 bnd (gD v4 true (aD .lss v5 v6 h6) h6) fun v7 h7 =>
 bnd (aP v4 v7 (.b false) h7) fun v8 h8 =>
 aS v8 (
  aCh r n kk5 x0 x1 x5 x5 h8) (
  aCh r n kk5 x0 x1 x4 x5 h8)
noncomputable def aYs (r : RT) (n : Nat) (kk5 : dL) (x0 x1 x4 x5 : DV) (h0 : Hp) : aH :=
 bnd (aD .add x5 (aE 2) h0) fun v1 h1 =>
 bnd (aD .leq v1 x0 h1) fun v2 h2 =>
 aS v2 (
   aOv r n kk5 x0 x1 x4 x5 h2) (
   dA r n x4 h2)
noncomputable def tI (r : RT) (n : Nat) (m : Nat) : dL :=
 Nat.rec (motive := fun _ => dL) (fun _ _ _ _ _ => none) (fun _ ih => aYs r n ih) m
noncomputable def bOt (r : RT) (n : Nat) : dL := tI r n n
noncomputable def aNx (r : RT) (n : Nat) (x0 x1 x4 x5 : DV) (h0 : Hp) : aH :=
 bOt r n x0 x1 x4 x5 h0
noncomputable def aTq (r : RT) (n : Nat) (x0 x1 x4 : DV) (h0 : Hp) : aH :=
 aNx r n x0 x1 x4 (aE 0) h0
noncomputable def aSi (r : RT) (n : Nat) (x0 x1 : DV) (h0 : Hp) : aH :=
 aTq r n x0 x1 (.i .i64 (Int.negSucc 0)) h0
noncomputable def s200 (r : RT) (n : Nat) (x0 x1 : DV) (h0 : Hp) : aH :=
 aSi r n x0 x1 h0
noncomputable abbrev c200 : Code := cf Tryz.f200
noncomputable abbrev aCn : Code := cR c200
noncomputable abbrev aGb : Code := cR aCn
noncomputable abbrev dAm : Code := cR aGb
noncomputable abbrev xU : Code := cL aGb
noncomputable abbrev aRt : Code := cR xU
noncomputable abbrev aAt : Code := cL aRt
noncomputable abbrev jU : Code := cL aAt
noncomputable abbrev aHm : Code := cR jU
noncomputable abbrev cRq : Code := cR aHm
noncomputable abbrev aVl : Code := cL aHm
noncomputable abbrev bAc : Code := cL jU
noncomputable abbrev bBl : Code := cL xU
noncomputable abbrev aXa : Code := cL aCn
noncomputable abbrev aWg : Code := cL c200
noncomputable abbrev r200 : K := aQ CF Tryz.f200
noncomputable def D200 (r : RT) (n : Nat) (c : Code) (X : Nat → K) (k : K) : K := aM CF r 28 n c X r200 k
theorem cFf : D200 r n dAm x0 r200 = (K1 (dA r n) 4) :=
 (by kernel_rfl)
theorem cEb (kk5 : dL) : D200 r n cRq (xs x0 0 (K1 (dA r n) 4)) (K4 kk5 0 1 4 5) = (K4 (aCh r n kk5) 0 1 4 5) :=
 (by kernel_rfl)
theorem bKw (kk5 : dL) : D200 r n aHm (xs x0 0 (K1 (dA r n) 4)) (K4 kk5 0 1 4 5) = D200 r n aVl (xs x0 0 (K1 (dA r n) 4)) (K4 (aCh r n kk5) 0 1 4 5) :=
 congrArg (fun k => D200 r n aVl (xs x0 0 (K1 (dA r n) 4)) k) (cEb r n kk5)
theorem cOr (kk5 : dL) : D200 r n aHm (xs x0 0 (K1 (dA r n) 4)) (K4 kk5 0 1 4 5) = (K4 (aOv r n kk5) 0 1 4 5) :=
 (bKw r n kk5).trans
 ((by kernel_rfl))
theorem bJy (kk5 : dL) : D200 r n jU (xs x0 0 (K1 (dA r n) 4)) (K4 kk5 0 1 4 5) = D200 r n bAc (xs x0 0 (K1 (dA r n) 4)) (K4 (aOv r n kk5) 0 1 4 5) :=
 congrArg (fun k => D200 r n bAc (xs x0 0 (K1 (dA r n) 4)) k) (cOr r n kk5)
theorem bNf (kk5 : dL) : D200 r n jU (xs x0 0 (K1 (dA r n) 4)) (K4 kk5 0 1 4 5) = (K4 (aYs r n kk5) 0 1 4 5) :=
 (bJy r n kk5).trans
 ((by kernel_rfl))
theorem bZv (m : Nat) : aO (fun kk => D200 r n jU (xs x0 0 (K1 (dA r n) 4)) kk) m = (K4 (tI r n m) 0 1 4 5) := by
 induction m with
 | zero => exact (by kernel_rfl : aO (fun kk => D200 r n jU (xs x0 0 (K1 (dA r n) 4)) kk) 0 = (K4 (tI r n 0) 0 1 4 5))
 | succ m ih =>
  refine (by kernel_rfl : aO (fun kk => D200 r n jU (xs x0 0 (K1 (dA r n) 4)) kk) (m + 1) = D200 r n jU (xs x0 0 (K1 (dA r n) 4)) (aO (fun kk => D200 r n jU (xs x0 0 (K1 (dA r n) 4)) kk) m)).trans ?_
  rw [ih]
  exact (bNf r n (tI r n m)).trans (by kernel_rfl)
theorem cGs : D200 r n aAt (xs x0 0 (K1 (dA r n) 4)) (K1 (dA r n) 4) = (K4 (bOt r n) 0 1 4 5) :=
 (by kernel_rfl : D200 r n aAt (xs x0 0 (K1 (dA r n) 4)) (K1 (dA r n) 4) = aO (fun kk => D200 r n jU (xs x0 0 (K1 (dA r n) 4)) kk) n).trans ((bZv r n n).trans (by kernel_rfl))
theorem cLa : D200 r n aRt x0 (K1 (dA r n) 4) = (K4 (aNx r n) 0 1 4 5) :=
 (by kernel_rfl : D200 r n aRt x0 (K1 (dA r n) 4) = D200 r n aAt (xs x0 0 (K1 (dA r n) 4)) (K1 (dA r n) 4)).trans
 ((cGs r n).trans (by kernel_rfl))
theorem bNi : D200 r n aGb x0 r200 = D200 r n xU x0 (K1 (dA r n) 4) :=
 congrArg (fun k => D200 r n xU x0 k) (cFf r n)
theorem bHd : D200 r n xU x0 (K1 (dA r n) 4) = D200 r n bBl x0 (K4 (aNx r n) 0 1 4 5) :=
 congrArg (fun k => D200 r n bBl x0 k) (cLa r n)
theorem cPc : D200 r n aGb x0 r200 = (K3 (aTq r n) 0 1 4) :=
 (bNi r n).trans
 ((bHd r n).trans
 ((by kernel_rfl)))
theorem bZd : D200 r n aCn x0 r200 = D200 r n aXa x0 (K3 (aTq r n) 0 1 4) :=
 congrArg (fun k => D200 r n aXa x0 k) (cPc r n)
theorem cPu : D200 r n aCn x0 r200 = (K2 (aSi r n) 0 1) :=
 (bZd r n).trans
 ((by kernel_rfl))
theorem cUm : D200 r n c200 x0 r200 = D200 r n aWg x0 (K2 (aSi r n) 0 1) :=
 congrArg (fun k => D200 r n aWg x0 k) (cPu r n)
theorem dGs : D200 r n c200 x0 r200 = (K2 (s200 r n) 0 1) :=
 (cUm r n).trans
 ((by kernel_rfl))
theorem dBt : aF CF r n 200 args h = s200 r n (aT args 0) (aT args 1) h :=
 (by kernel_rfl : aF CF r n 200 args h = D200 r n c200 x0 r200 (aI args) h).trans ((congrFun (congrFun (dGs r n) (aI args)) h).trans (by kernel_rfl))
noncomputable def s201 (r : RT) (n : Nat) (x0 x1 : DV) (h0 : Hp) : aH :=
 bnd (aJ 3 x0 x1 h0) fun v1 h1 =>
 bnd (aB 0 v1 h1) fun v2 h2 =>
 bnd (aA v2 h2) fun v3 h3 =>
 bnd (aD .neq v3 (aE 18) h3) fun v4 h4 =>
 bnd (gD v4 false (some (x1, h4)) h4) fun v5 h5 =>
 bnd (gD v4 false (aD .add v5 (aE 1) h5) h5) fun v6 h6 =>
 bnd (gD v4 false (some (x0, h6)) h6) fun v7 h7 =>
 bnd (gD v4 false (bX v7 h7) h7) fun v8 h8 =>
 bnd (gD v4 false (aD .geq v6 v8 h8) h8) fun v9 h9 =>
 bnd (aP v4 (.b true) v9 h9) fun v10 h10 =>
 bnd (gD v10 false (some (x0, h10)) h10) fun v11 h11 =>
 bnd (gD v10 false (some (x1, h11)) h11) fun v12 h12 =>
 bnd (gD v10 false (aD .add v12 (aE 1) h12) h12) fun v13 h13 =>
 bnd (gD v10 false (aJ 3 v11 v13 h13) h13) fun v14 h14 =>
 bnd (gD v10 false (aB 0 v14 h14) h14) fun v15 h15 =>
 bnd (gD v10 false (aA v15 h15) h15) fun v16 h16 =>
 bnd (gD v10 false (aD .neq v16 (aE 16) h16) h16) fun v17 h17 =>
 bnd (aP v10 (.b true) v17 h17) fun v18 h18 =>
 aS v18 (
 some (.t [(aE 0), (.b false)], h18)) (
 bnd (aD .add x1 (aE 1) h18) fun v19 h19 =>
 bnd (aJ 3 x0 v19 h19) fun v20 h20 =>
 bnd (aK 3 v20 h20) fun v21 h21 =>
 bnd (r 202 [v21] h21) fun v22 h22 =>
 bnd (aD .add x1 (aE 2) h22) fun v23 h23 =>
 bnd (aD .gtr v22 v23 h23) fun v24 h24 =>
 some (.t [v22, v24], h24))
noncomputable abbrev c201 : Code := cf Tryz.f201
noncomputable abbrev r201 : K := aQ CF Tryz.f201
noncomputable def D201 (r : RT) (n : Nat) (c : Code) (X : Nat → K) (k : K) : K := aM CF r 40 n c X r201 k
theorem dFw : D201 r n c201 x0 r201 = (K2 (s201 r n) 0 1) :=
 (by kernel_rfl)
theorem cVj : aF CF r n 201 args h = s201 r n (aT args 0) (aT args 1) h :=
 (by kernel_rfl : aF CF r n 201 args h = D201 r n c201 x0 r201 (aI args) h).trans ((congrFun (congrFun (dFw r n) (aI args)) h).trans (by kernel_rfl))
noncomputable def s202 (r : RT) (n : Nat) (x0 : DV) (h0 : Hp) : aH :=
 bnd (bQ x0 h0) fun v1 h1 =>
 bnd (aB 0 v1 h1) fun v2 h2 =>
 bnd (aA v2 h2) fun v3 h3 =>
 bnd (r 224 [v3] h3) fun v4 h4 =>
 bnd (gU .not v4 h4) fun v5 h5 =>
 aS v5 (
 some ((.i .i64 (Int.negSucc 0)), h5)) (
 bnd (aB 1 v1 h5) fun v6 h6 =>
 bnd (aA v6 h6) fun v7 h7 =>
 bnd (aB 2 v1 h7) fun v8 h8 =>
 bnd (aA v8 h8) fun v9 h9 =>
 bnd (dP .shl v9 (.i .u64 (Int.ofNat 8)) h9) fun v10 h10 =>
 bnd (aD .add v7 v10 h10) fun v11 h11 =>
 some (v11, h11))
noncomputable abbrev c202 : Code := cf Tryz.f202
noncomputable abbrev r202 : K := aQ CF Tryz.f202
noncomputable def D202 (r : RT) (n : Nat) (c : Code) (X : Nat → K) (k : K) : K := aM CF r 13 n c X r202 k
theorem dIz : D202 r n c202 x0 r202 = (K1 (s202 r n) 0) :=
 (by kernel_rfl)
theorem cTt : aF CF r n 202 args h = s202 r n (aT args 0) h :=
 (by kernel_rfl : aF CF r n 202 args h = D202 r n c202 x0 r202 (aI args) h).trans ((congrFun (congrFun (dIz r n) (aI args)) h).trans (by kernel_rfl))
noncomputable def s203 (r : RT) (n : Nat) (x0 x1 x2 x3 x4 x5 x6 x7 : DV) (h0 : Hp) : aH :=
 bnd (aA x3 h0) fun v1 h1 =>
 bnd (bX v1 h1) fun v2 h2 =>
 bnd (aD .geq x0 v2 h2) fun v3 h3 =>
 bnd (gD v3 false (aA x4 h3) h3) fun v4 h4 =>
 bnd (gD v3 false (some (x0, h4)) h4) fun v5 h5 =>
 bnd (gD v3 false (aJ 1 v4 v5 h5) h5) fun v6 h6 =>
 bnd (gD v3 false (aA v6 h6) h6) fun v7 h7 =>
 bnd (gD v3 false (some (x1, h7)) h7) fun v8 h8 =>
 bnd (gD v3 false (aD .neq v7 v8 h8) h8) fun v9 h9 =>
 bnd (aP v3 (.b true) v9 h9) fun v10 h10 =>
 bnd (gD v10 false (aA x5 h10) h10) fun v11 h11 =>
 bnd (gD v10 false (some (x0, h11)) h11) fun v12 h12 =>
 bnd (gD v10 false (aJ 1 v11 v12 h12) h12) fun v13 h13 =>
 bnd (gD v10 false (aA v13 h13) h13) fun v14 h14 =>
 bnd (gD v10 false (aD .geq v14 (aE 0) h14) h14) fun v15 h15 =>
 bnd (gD v10 false (some (v15, h15)) h15) fun v16 h16 =>
 bnd (gD v16 true (aA x5 h16) h16) fun v17 h17 =>
 bnd (gD v16 true (some (x0, h17)) h17) fun v18 h18 =>
 bnd (gD v16 true (aJ 1 v17 v18 h18) h18) fun v19 h19 =>
 bnd (gD v16 true (aA v19 h19) h19) fun v20 h20 =>
 bnd (gD v16 true (some (x2, h20)) h20) fun v21 h21 =>
 bnd (gD v16 true (aD .neq v20 v21 h21) h21) fun v22 h22 =>
 bnd (gD v10 false (aP v16 v22 (.b false) h22) h22) fun v23 h23 =>
 bnd (aP v10 (.b true) v23 h23) fun v24 h24 =>
 aS v24 (
 bnd (aG 1 x6 (.b false) h24) fun _ h25 =>
 some (.t [], h25)) (
 bnd (aA x5 h24) fun v26 h26 =>
 bnd (aJ 1 v26 x0 h26) fun v27 h27 =>
 bnd (aA v27 h27) fun v28 h28 =>
 bnd (aD .lss v28 (aE 0) h28) fun v29 h29 =>
 aS v29 (
 bnd (aA x5 h29) fun v30 h30 =>
 bnd (aJ 1 v30 x0 h30) fun v31 h31 =>
 bnd (aG 1 v31 x2 h31) fun _ h32 =>
 bnd (aA x7 h32) fun v33 h33 =>
 bnd (aL [(aE 0)] 1 [(0, 1, x0)] h33) fun v34 h34 =>
 bnd (bA 1 8 v33 v34 h34) fun v35 h35 =>
 bnd (aG 1 x7 v35 h35) fun _ h36 =>
 some (.t [], h36)) (
 some (.t [], h29)))
noncomputable abbrev c203 : Code := cf Tryz.f203
noncomputable abbrev r203 : K := aQ CF Tryz.f203
noncomputable def D203 (r : RT) (n : Nat) (c : Code) (X : Nat → K) (k : K) : K := aM CF r 53 n c X r203 k
theorem dDu : D203 r n c203 x0 r203 = (K8 (s203 r n) 0 1 2 3 4 5 6 7) :=
 (by kernel_rfl)
theorem cUv : aF CF r n 203 args h = s203 r n (aT args 0) (aT args 1) (aT args 2) (aT args 3) (aT args 4) (aT args 5) (aT args 6) (aT args 7) h :=
 (by kernel_rfl : aF CF r n 203 args h = D203 r n c203 x0 r203 (aI args) h).trans ((congrFun (congrFun (dDu r n) (aI args)) h).trans (by kernel_rfl))
end Go.Dd

