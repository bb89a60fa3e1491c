/- A part of the proof: Q3 Q4 Q5 Q6 Q7: each text has a comment of its own. -/
import Derived.Test.YtilmobdncapnbaaGreatPc1
set_option linter.unusedVariables false
set_option linter.unusedSimpArgs false
set_option linter.constructorNameAsVariable false
set_option maxRecDepth 100000
namespace Go.Dd
open Go.Proofs
variable (r : RT) (n : Nat) (args : List DV) (h : Hp)
noncomputable def s95 (r : RT) (n : Nat) (x0 : DV) (h0 : Hp) : aJ :=
 aQ x0 (
 some (.t [(aE 2), (aE 0)], h0)) (
 some (.t [(aE 4), (aE 0)], h0))
noncomputable abbrev c95 : Code := cf Tryz.f95
noncomputable abbrev r95 : K := aT CF Tryz.f95
noncomputable def D95 (r : RT) (n : Nat) (c : Code) (X : Nat → K) (k : K) : K := aM CF r 5 n c X r95 k
theorem dOz : D95 r n c95 x0 r95 = (K1 (s95 r n) 0) :=
 (by kernel_rfl)
theorem dLd : aF CF r n 95 args h = s95 r n (aS args 0) h :=
 (by kernel_rfl : aF CF r n 95 args h = D95 r n c95 x0 r95 (aI args) h).trans ((congrFun (congrFun (dOz r n) (aI args)) h).trans (by kernel_rfl))
noncomputable def s99 (r : RT) (n : Nat) (x0 : DV) (h0 : Hp) : aJ :=
 bnd (bL gY h0) fun v1 h1 =>
 bnd (r 110 [x0, (.f 111 [] [])] h1) fun v2 h2 =>
 bnd (aC 0 v2 h2) fun v3 h3 =>
 bnd (aC 1 v2 h3) fun v4 h4 =>
 bnd (aC 2 v2 h4) fun v5 h5 =>
 bnd (aG 6 v1 v3 h5) fun _ h6 =>
 bnd (aK 6 v1 h6) fun v7 _ =>
 some (.t [v7, v4, v5], h6)
noncomputable abbrev c99 : Code := cf Tryz.f99
noncomputable abbrev r99 : K := aT CF Tryz.f99
noncomputable def D99 (r : RT) (n : Nat) (c : Code) (X : Nat → K) (k : K) : K := aM CF r 10 n c X r99 k
theorem dOi : D99 r n c99 x0 r99 = (K1 (s99 r n) 0) :=
 (by kernel_rfl)
theorem dLq : aF CF r n 99 args h = s99 r n (aS args 0) h :=
 (by kernel_rfl : aF CF r n 99 args h = D99 r n c99 x0 r99 (aI args) h).trans ((congrFun (congrFun (dOi r n) (aI args)) h).trans (by kernel_rfl))
noncomputable def s100 (r : RT) (n : Nat) (x0 x1 : DV) (h0 : Hp) : aJ :=
 bnd (bS x0 h0) fun v1 h1 =>
 bnd (bL [(.s []), (aE 0), (aE 0), (aE 0), .l0, .l0] h1) fun v2 h2 =>
 bnd (aK 6 v1 h2) fun v3 h3 =>
 bnd (r 112 [v3, x1, (.b false)] h3) fun v4 h4 =>
 bnd (aC 0 v4 h4) fun v5 h5 =>
 bnd (aC 1 v4 h5) fun v6 h6 =>
 bnd (aC 2 v4 h6) fun v7 h7 =>
 bnd (aG 6 v2 v5 h7) fun _ h8 =>
 bnd (aK 6 v2 h8) fun v9 _ =>
 some (.t [v9, v6, v7], h8)
noncomputable abbrev c100 : Code := cf Tryz.f100
noncomputable abbrev r100 : K := aT CF Tryz.f100
noncomputable def D100 (r : RT) (n : Nat) (c : Code) (X : Nat → K) (k : K) : K := aM CF r 13 n c X r100 k
theorem dIs : D100 r n c100 x0 r100 = (K2 (s100 r n) 0 1) :=
 (by kernel_rfl)
theorem dAd : aF CF r n 100 args h = s100 r n (aS args 0) (aS args 1) h :=
 (by kernel_rfl : aF CF r n 100 args h = D100 r n c100 x0 r100 (aI args) h).trans ((congrFun (congrFun (dIs r n) (aI args)) h).trans (by kernel_rfl))
noncomputable def s101 (r : RT) (n : Nat) (x0 x1 x2 : DV) (h0 : Hp) : aJ :=
 bnd (bS x2 h0) fun v1 h1 =>
 bnd (aK 6 v1 h1) fun v2 h2 =>
 bnd (r 113 [x0, x1, v2] h2) fun v3 h3 =>
 bnd (aC 0 v3 h3) fun v4 h4 =>
 bnd (aC 1 v3 h4) fun v5 h5 =>
 bnd (aD .neq v5 (aE 0) h5) fun v6 h6 =>
 aQ v6 (
 some (.t [(aE 0), v5], h6)) (
 bnd (r 51 [x0, v4, (aE 0)] h6) fun v7 h7 =>
 bnd (r 114 [x0, x1, v7, v4] h7) fun v8 h8 =>
 bnd (aD .neq v8 (aE 0) h8) fun v9 h9 =>
 aQ v9 (
 some (.t [(aE 0), v8], h9)) (
 some (.t [v4, (aE 0)], h9)))
noncomputable abbrev c101 : Code := cf Tryz.f101
noncomputable abbrev r101 : K := aT CF Tryz.f101
noncomputable def D101 (r : RT) (n : Nat) (c : Code) (X : Nat → K) (k : K) : K := aM CF r 32 n c X r101 k
theorem dMj : D101 r n c101 x0 r101 = (K3 (s101 r n) 0 1 2) :=
 (by kernel_rfl)
theorem dBu : aF CF r n 101 args h = s101 r n (aS args 0) (aS args 1) (aS args 2) h :=
 (by kernel_rfl : aF CF r n 101 args h = D101 r n c101 x0 r101 (aI args) h).trans ((congrFun (congrFun (dMj r n) (aI args)) h).trans (by kernel_rfl))
noncomputable def s110 (r : RT) (n : Nat) (x0 x1 : DV) (h0 : Hp) : aJ :=
 bnd (bL gY h0) fun v1 h1 =>
 bnd (r 117 [x0] h1) fun v2 h2 =>
 bnd (aC 0 v2 h2) fun v3 h3 =>
 bnd (aC 1 v2 h3) fun v4 h4 =>
 bnd (aC 2 v2 h4) fun v5 h5 =>
 bnd (aD .neq v5 (aE 0) h5) fun v6 h6 =>
 aQ v6 (
 bnd (bB gY [] h6) fun v7 h7 =>
 bnd (aG 6 v1 v7 h7) fun _ h8 =>
 bnd (aK 6 v1 h8) fun v9 _ =>
 some (.t [v9, v4, v5], h8)) (
 bnd (bB [.l0, (aE 0), (aE 0), (aE 0)] [(0, 1, v3)] h6) fun v10 h10 =>
 bnd (bS v10 h10) fun v11 h11 =>
 bnd (cU CF r x1 [v11] h11) fun v12 h12 =>
 bnd (bL gY h12) fun v13 h13 =>
 bnd (aG 6 v13 v12 h13) fun _ h14 =>
 bnd (r 118 [v11] h14) fun v15 h15 =>
 bnd (aB 4 v13 h15) fun v16 h16 =>
 bnd (aG 1 v16 v15 h16) fun _ h17 =>
 bnd (r 119 [v11] h17) fun v18 h18 =>
 bnd (aB 5 v13 h18) fun v19 h19 =>
 bnd (aG 1 v19 v18 h19) fun _ h20 =>
 bnd (r 120 [v11, (aE 0), (.s [])] h20) fun v21 h21 =>
 bnd (aR v11 h21) fun v22 h22 =>
 bnd (aB 3 v22 h22) fun v23 h23 =>
 bnd (aA v23 h23) fun v24 h24 =>
 bnd (aD .neq v24 (aE 0) h24) fun v25 h25 =>
 aQ v25 (
 bnd (bB gY [] h25) fun v26 h26 =>
 bnd (aR v11 h26) fun v27 h27 =>
 bnd (aB 2 v27 h27) fun v28 h28 =>
 bnd (aA v28 h28) fun v29 h29 =>
 bnd (aR v11 h29) fun v30 h30 =>
 bnd (aB 3 v30 h30) fun v31 h31 =>
 bnd (aA v31 h31) fun v32 h32 =>
 bnd (aG 6 v1 v26 h32) fun v33 h33 =>
 cnd (bK (aA v31 h33) v32 && (bK (aA v28 h33) v29 && true)) (
 bnd (aK 6 v1 h33) fun v34 _ =>
 some (.t [v34, v29, v32], h33))) (
 bnd (aK 6 v13 h25) fun v35 h35 =>
 bnd (aG 6 v1 v35 h35) fun _ h36 =>
 bnd (aK 6 v1 h36) fun v37 _ =>
 some (.t [v37, (aE 0), (aE 0)], h36)))
noncomputable abbrev c110 : Code := cf Tryz.f110
noncomputable abbrev r110 : K := aT CF Tryz.f110
noncomputable def D110 (r : RT) (n : Nat) (c : Code) (X : Nat → K) (k : K) : K := aM CF r 52 n c X r110 k
theorem dKh : D110 r n c110 x0 r110 = (K2 (s110 r n) 0 1) :=
 (by kernel_rfl)
theorem dBf : aF CF r n 110 args h = s110 r n (aS args 0) (aS args 1) h :=
 (by kernel_rfl : aF CF r n 110 args h = D110 r n c110 x0 r110 (aI args) h).trans ((congrFun (congrFun (dKh r n) (aI args)) h).trans (by kernel_rfl))
noncomputable def s111 (r : RT) (n : Nat) (x0 : DV) (h0 : Hp) : aJ :=
 bnd (bL gY h0) fun v1 h1 =>
 bnd (bB gY [(0, 1, (aE 11))] h1) fun v2 h2 =>
 bnd (bL gY h2) fun v3 h3 =>
 bnd (aG 6 v3 v2 h3) fun _ h4 =>
 bnd (r 121 [x0, v3] h4) fun v5 h5 =>
 bnd (r 122 [x0] h5) fun v6 h6 =>
 bnd (aB 2 v3 h6) fun v7 h7 =>
 bnd (aG 1 v7 v6 h7) fun _ h8 =>
 bnd (aK 6 v3 h8) fun v9 h9 =>
 bnd (aG 6 v1 v9 h9) fun _ h10 =>
 bnd (aK 6 v1 h10) fun v11 _ =>
 some (v11, h10)
noncomputable abbrev c111 : Code := cf Tryz.f111
noncomputable abbrev r111 : K := aT CF Tryz.f111
noncomputable def D111 (r : RT) (n : Nat) (c : Code) (X : Nat → K) (k : K) : K := aM CF r 11 n c X r111 k
theorem dGe : D111 r n c111 x0 r111 = (K1 (s111 r n) 0) :=
 (by kernel_rfl)
theorem cUx : aF CF r n 111 args h = s111 r n (aS args 0) h :=
 (by kernel_rfl : aF CF r n 111 args h = D111 r n c111 x0 r111 (aI args) h).trans ((congrFun (congrFun (dGe r n) (aI args)) h).trans (by kernel_rfl))
noncomputable def eC (r : RT) (n : Nat) (x6 x9 : DV) (h0 : Hp) : aJ :=
 bnd (aR x9 h0) fun v1 h1 =>
 bnd (aB 0 v1 h1) fun v2 h2 =>
 bnd (aK 6 v2 h2) fun v3 h3 =>
 bnd (aG 6 x6 v3 h3) fun _ h4 =>
 bnd (aK 6 x6 h4) fun v5 _ =>
 some (.t [v5, (.s []), (aE 0)], h4)
noncomputable def aJb (r : RT) (n : Nat) (kk9 : cE) (x6 x9 x94 x95 x96 : DV) (h0 : Hp) : aJ :=
 bnd (aD .lss x96 x95 h0) fun v1 h1 =>
 aQ v1 (
 bnd (aH 3 x94 x96 h1) fun v2 h2 =>
 bnd (aK 3 v2 h2) fun v3 h3 =>
 bnd (bL [(aE 0), (aE 0), (aE 0)] h3) fun v4 h4 =>
 bnd (aG 3 v4 v3 h4) fun _ h5 =>
 bnd (aK 3 v4 h5) fun v6 h6 =>
 bnd (r 124 [v6] h6) fun v7 h7 =>
 bnd (gI .not v7 h7) fun v8 h8 =>
 aQ v8 (
 bnd (bB [(.s []), (aE 0), (aE 0), (aE 0), .l0, .l0] [] h8) fun v9 h9 =>
 bnd (aG 6 x6 v9 h9) fun _ h10 =>
 bnd (aK 6 x6 h10) fun v11 _ =>
 some (.t [v11, (.s []), (aE 12)], h10)) (
 bnd (aD .add x96 (aE 1) h8) fun v12 h12 =>
    kk9 x6 x9 x94 x95 v12 h12)) (
      eC r n x6 x9 h1)
noncomputable def uD (r : RT) (n : Nat) (m : Nat) : cE :=
 Nat.rec (motive := fun _ => cE) (fun _ _ _ _ _ _ => none) (fun _ ih => aJb r n ih) m
noncomputable def bPf (r : RT) (n : Nat) : cE := uD r n n
noncomputable def aVf (r : RT) (n : Nat) (x6 x9 x94 x95 x96 : DV) (h0 : Hp) : aJ :=
 bPf r n x6 x9 x94 x95 x96 h0
noncomputable def vS (r : RT) (n : Nat) (x6 x9 : DV) (h0 : Hp) : aJ :=
 bnd (aR x9 h0) fun v1 h1 =>
 bnd (aB 0 v1 h1) fun v2 h2 =>
 bnd (aB 5 v2 h2) fun v3 h3 =>
 bnd (aA v3 h3) fun v4 h4 =>
 bnd (bX v4 h4) fun v5 h5 =>
  aVf r n x6 x9 v4 v5 (aE 0) h5
noncomputable def aKc (r : RT) (n : Nat) (x6 x9 : DV) (h0 : Hp) : aJ :=
 bnd (aR x9 h0) fun v1 h1 =>
 bnd (aB 8 v1 h1) fun v2 h2 =>
 bnd (aA v2 h2) fun v3 h3 =>
 bnd (aD .neq v3 (aE 0) h3) fun v4 h4 =>
 aQ v4 (
 bnd (bB [(.s []), (aE 0), (aE 0), (aE 0), .l0, .l0] [] h4) fun v5 h5 =>
 bnd (aR x9 h5) fun v6 h6 =>
 bnd (aB 7 v6 h6) fun v7 h7 =>
 bnd (aA v7 h7) fun v8 h8 =>
 bnd (aR x9 h8) fun v9 h9 =>
 bnd (aB 8 v9 h9) fun v10 h10 =>
 bnd (aA v10 h10) fun v11 h11 =>
 bnd (aG 6 x6 v5 h11) fun v12 h12 =>
 cnd (bK (aA v10 h12) v11 && (bK (aA v7 h12) v8 && true)) (
 bnd (aK 6 x6 h12) fun v13 _ =>
 some (.t [v13, v8, v11], h12))) (
 bnd (aR x9 h4) fun v14 h14 =>
 bnd (aB 0 v14 h14) fun v15 h15 =>
 bnd (aB 4 v15 h15) fun v16 h16 =>
 bnd (aA v16 h16) fun v17 h17 =>
 bnd (bX v17 h17) fun v18 h18 =>
 bnd (aD .gtr v18 (aE 60) h18) fun v19 h19 =>
 aQ v19 (
 bnd (bB [(.s []), (aE 0), (aE 0), (aE 0), .l0, .l0] [] h19) fun v20 h20 =>
 bnd (aG 6 x6 v20 h20) fun _ h21 =>
 bnd (aK 6 x6 h21) fun v22 _ =>
 some (.t [v22, (.s []), (aE 18)], h21)) (
 bnd (aR x9 h19) fun v23 h23 =>
 bnd (aB 0 v23 h23) fun v24 h24 =>
 bnd (aB 5 v24 h24) fun v25 h25 =>
 bnd (aA v25 h25) fun v26 h26 =>
 bnd (bX v26 h26) fun v27 h27 =>
 bnd (aD .gtr v27 (aE 400) h27) fun v28 h28 =>
 aQ v28 (
 bnd (bB [(.s []), (aE 0), (aE 0), (aE 0), .l0, .l0] [] h28) fun v29 h29 =>
 bnd (aG 6 x6 v29 h29) fun _ h30 =>
 bnd (aK 6 x6 h30) fun v31 _ =>
 some (.t [v31, (.s []), (aE 12)], h30)) (
    vS r n x6 x9 h28)))
noncomputable def eD (r : RT) (n : Nat) (x2 x3 x6 x9 : DV) (h0 : Hp) : aJ :=
 bnd (aK 6 x3 h0) fun v1 h1 =>
 bnd (r 123 [x9, v1, x2] h1) fun v2 h2 =>
  aKc r n x6 x9 h2
noncomputable def wP (r : RT) (n : Nat) (kk11 : TT7) (x2 x3 x6 x9 x33 x34 x35 : DV) (h0 : Hp) : aJ :=
 bnd (aD .lss x35 x34 h0) fun v1 h1 =>
 aQ v1 (
 bnd (aH 1 x33 x35 h1) fun v2 h2 =>
 bnd (aA v2 h2) fun v3 h3 =>
 bnd (aR x9 h3) fun v4 h4 =>
 bnd (aB 6 v4 h4) fun v5 h5 =>
 bnd (aA v5 h5) fun v6 h6 =>
 bnd (bB [(.s []), (.b false), (.b false), (aE 0)] [(0, 1, v3), (1, 1, (.b true)), (2, 1, (.b false)), (3, 1, x35)] h6) fun v7 h7 =>
 bnd (aL [(.s []), (.b false), (.b false), (aE 0)] 1 [(0, 4, v7)] h7) fun v8 h8 =>
 bnd (aZ 4 32 v6 v8 h8) fun v9 h9 =>
 bnd (aR x9 h9) fun v10 h10 =>
 bnd (aB 6 v10 h10) fun v11 h11 =>
 bnd (aG 1 v11 v9 h11) fun _ h12 =>
 bnd (aD .add x35 (aE 1) h12) fun v13 h13 =>
      kk11 x2 x3 x6 x9 x33 x34 v13 h13) (
      eD r n x2 x3 x6 x9 h1)
noncomputable def oY (r : RT) (n : Nat) (m : Nat) : TT7 :=
 Nat.rec (motive := fun _ => TT7) (fun _ _ _ _ _ _ _ _ => none) (fun _ ih => wP r n ih) m
noncomputable def bBm (r : RT) (n : Nat) : TT7 := oY r n n
noncomputable def aHg (r : RT) (n : Nat) (x2 x3 x6 x9 x33 x34 x35 : DV) (h0 : Hp) : aJ :=
 bBm r n x2 x3 x6 x9 x33 x34 x35 h0
noncomputable def yH (r : RT) (n : Nat) (x1 x2 x3 x6 x9 : DV) (h0 : Hp) : aJ :=
 bnd (bX x1 h0) fun v1 h1 =>
  aHg r n x2 x3 x6 x9 x1 v1 (aE 0) h1
noncomputable def qA (r : RT) (n : Nat) (x1 x2 x3 x6 : DV) (h0 : Hp) : aJ :=
 bnd (aB 1 x3 h0) fun v1 h1 =>
 bnd (aA v1 h1) fun v2 h2 =>
 bnd (aB 3 x3 h2) fun v3 h3 =>
 bnd (aA v3 h3) fun v4 h4 =>
 bnd (bX v4 h4) fun v5 h5 =>
 bnd (aB 2 x3 h5) fun v6 h6 =>
 bnd (aA v6 h6) fun v7 h7 =>
 bnd (bB [(.s []), (aE 0), (aE 0), (aE 0), .l0, .l0] [(0, 1, v2), (1, 1, v5), (3, 1, v7)] h7) fun v8 h8 =>
 bnd (bB [(.s []), (aE 0), (aE 0), (aE 0), .l0, .l0, .l0, (.s []), (aE 0)] [(0, 6, v8)] h8) fun v9 h9 =>
 bnd (bS v9 h9) fun v10 h10 =>
  yH r n x1 x2 x3 x6 v10 h10
noncomputable def pY (r : RT) (n : Nat) (x1 x2 x3 x6 : DV) (h0 : Hp) : aJ :=
 bnd (aB 0 x3 h0) fun v1 h1 =>
 bnd (aA v1 h1) fun v2 h2 =>
 bnd (aD .neq v2 (aE 11) h2) fun v3 h3 =>
 bnd (gD v3 false (some (x1, h3)) h3) fun v4 h4 =>
 bnd (gD v3 false (bX v4 h4) h4) fun v5 h5 =>
 bnd (gD v3 false (aD .gtr v5 (aE 8) h5) h5) fun v6 h6 =>
 bnd (aO v3 (.b true) v6 h6) fun v7 h7 =>
 aQ v7 (
 bnd (bB [(.s []), (aE 0), (aE 0), (aE 0), .l0, .l0] [] h7) fun v8 h8 =>
 bnd (aG 6 x6 v8 h8) fun _ h9 =>
 bnd (aK 6 x6 h9) fun v10 _ =>
 some (.t [v10, (.s []), (aE 1)], h9)) (
  qA r n x1 x2 x3 x6 h7)
noncomputable def s112 (r : RT) (n : Nat) (x0 x1 x2 : DV) (h0 : Hp) : aJ :=
 bnd (bS x0 h0) fun v1 h1 =>
 bnd (bL [(.s []), (aE 0), (aE 0), (aE 0), .l0, .l0] h1) fun v2 h2 =>
  pY r n x1 x2 v1 v2 h2
noncomputable abbrev c112 : Code := cf Tryz.f112
noncomputable abbrev aKj : Code := cR c112
noncomputable abbrev aFy : Code := cR aKj
noncomputable abbrev aDy : Code := cR aFy
noncomputable abbrev aJd : Code := cR aDy
noncomputable abbrev aLa : Code := cR aJd
noncomputable abbrev aGb : Code := cR aLa
noncomputable abbrev dDg : Code := cR aGb
noncomputable abbrev wW : Code := cL aGb
noncomputable abbrev aVe : Code := cR wW
noncomputable abbrev vA : Code := cL aVe
noncomputable abbrev jR : Code := cL vA
noncomputable abbrev bAv : Code := cL wW
noncomputable abbrev aKp : Code := cL aLa
noncomputable abbrev aZi : Code := cL aJd
noncomputable abbrev pI : Code := cL aDy
noncomputable abbrev aId : Code := cR pI
noncomputable abbrev uX : Code := cL aId
noncomputable abbrev jN : Code := cL uX
noncomputable abbrev bAf : Code := cL pI
noncomputable abbrev aEy : Code := cL aFy
noncomputable abbrev aBs : Code := cL aKj
noncomputable abbrev aEt : Code := cL c112
noncomputable abbrev r112 : K := aT CF Tryz.f112
noncomputable def D112 (r : RT) (n : Nat) (c : Code) (X : Nat → K) (k : K) : K := aM CF r 109 n c X r112 k
theorem cOg : D112 r n dDg x0 r112 = (K2 (eC r n) 6 9) :=
 (by kernel_rfl)
theorem cCj (kk9 : cE) (q0 : gJ) : D112 r n jR (xs x0 3 (K2 q0 6 9)) (K5 kk9 6 9 94 95 96) = fun (env : aY) (h : Hp) =>
 bnd (aD .lss (env 96) (env 95) h) fun v1 h1 =>
 aQ v1 (
 bnd (aH 3 (env 94) (env 96) h1) fun v2 h2 =>
 bnd (aK 3 v2 h2) fun v3 h3 =>
 bnd (bL [(aE 0), (aE 0), (aE 0)] h3) fun v4 h4 =>
 bnd (aG 3 v4 v3 h4) fun _ h5 =>
 bnd (aK 3 v4 h5) fun v6 h6 =>
 bnd (r 124 [v6] h6) fun v7 h7 =>
 bnd (gI .not v7 h7) fun v8 h8 =>
 aQ v8 (
 bnd (bB [(.s []), (aE 0), (aE 0), (aE 0), .l0, .l0] [] h8) fun v9 h9 =>
 bnd (aG 6 (env 6) v9 h9) fun _ h10 =>
 bnd (aK 6 (env 6) h10) fun v11 _ =>
 some (.t [v11, (.s []), (aE 12)], h10)) (
 bnd (aD .add (env 96) (aE 1) h8) fun v12 h12 =>
    kk9 (env 6) (env 9) (env 94) (env 95) v12 h12)) (
      q0 (env 6) (env 9) h1) := by kernel_rfl
theorem bEn (kk9 : cE) : (fun (env : aY) (h : Hp) =>
 bnd (aD .lss (env 96) (env 95) h) fun v1 h1 =>
 aQ v1 (
 bnd (aH 3 (env 94) (env 96) h1) fun v2 h2 =>
 bnd (aK 3 v2 h2) fun v3 h3 =>
 bnd (bL [(aE 0), (aE 0), (aE 0)] h3) fun v4 h4 =>
 bnd (aG 3 v4 v3 h4) fun _ h5 =>
 bnd (aK 3 v4 h5) fun v6 h6 =>
 bnd (r 124 [v6] h6) fun v7 h7 =>
 bnd (gI .not v7 h7) fun v8 h8 =>
 aQ v8 (
 bnd (bB [(.s []), (aE 0), (aE 0), (aE 0), .l0, .l0] [] h8) fun v9 h9 =>
 bnd (aG 6 (env 6) v9 h9) fun _ h10 =>
 bnd (aK 6 (env 6) h10) fun v11 _ =>
 some (.t [v11, (.s []), (aE 12)], h10)) (
 bnd (aD .add (env 96) (aE 1) h8) fun v12 h12 =>
    kk9 (env 6) (env 9) (env 94) (env 95) v12 h12)) (
      eC r n (env 6) (env 9) h1)) = (K5 (aJb r n kk9) 6 9 94 95 96) := by kernel_rfl
theorem bVl (kk9 : cE) : D112 r n jR (xs x0 3 (K2 (eC r n) 6 9)) (K5 kk9 6 9 94 95 96) = (K5 (aJb r n kk9) 6 9 94 95 96) :=
 (cCj r n kk9 (eC r n)).trans (bEn r n kk9)
theorem bMc (m : Nat) : aN (fun kk => D112 r n jR (xs x0 3 (K2 (eC r n) 6 9)) kk) m = (K5 (uD r n m) 6 9 94 95 96) := by
 induction m with
 | zero => exact (by kernel_rfl : aN (fun kk => D112 r n jR (xs x0 3 (K2 (eC r n) 6 9)) kk) 0 = (K5 (uD r n 0) 6 9 94 95 96))
 | succ m ih =>
  refine (by kernel_rfl : aN (fun kk => D112 r n jR (xs x0 3 (K2 (eC r n) 6 9)) kk) (m + 1) = D112 r n jR (xs x0 3 (K2 (eC r n) 6 9)) (aN (fun kk => D112 r n jR (xs x0 3 (K2 (eC r n) 6 9)) kk) m)).trans ?_
  rw [ih]
  exact (bVl r n (uD r n m)).trans (by kernel_rfl)
theorem cOn : D112 r n vA (xs x0 3 (K2 (eC r n) 6 9)) (K2 (eC r n) 6 9) = (K5 (bPf r n) 6 9 94 95 96) :=
 (by kernel_rfl : D112 r n vA (xs x0 3 (K2 (eC r n) 6 9)) (K2 (eC r n) 6 9) = aN (fun kk => D112 r n jR (xs x0 3 (K2 (eC r n) 6 9)) kk) n).trans ((bMc r n n).trans (by kernel_rfl))
theorem cEt : D112 r n aVe x0 (K2 (eC r n) 6 9) = (K5 (aVf r n) 6 9 94 95 96) :=
 (by kernel_rfl : D112 r n aVe x0 (K2 (eC r n) 6 9) = D112 r n vA (xs x0 3 (K2 (eC r n) 6 9)) (K2 (eC r n) 6 9)).trans
 ((cOn r n).trans (by kernel_rfl))
theorem bXj : D112 r n aGb x0 r112 = D112 r n wW x0 (K2 (eC r n) 6 9) :=
 congrArg (fun k => D112 r n wW x0 k) (cOg r n)
theorem bUc : D112 r n wW x0 (K2 (eC r n) 6 9) = D112 r n bAv x0 (K5 (aVf r n) 6 9 94 95 96) :=
 congrArg (fun k => D112 r n bAv x0 k) (cEt r n)
theorem cLr : D112 r n aGb x0 r112 = (K2 (vS r n) 6 9) :=
 (bXj r n).trans
 ((bUc r n).trans
 ((by kernel_rfl)))
theorem bRl : D112 r n aLa x0 r112 = D112 r n aKp x0 (K2 (vS r n) 6 9) :=
 congrArg (fun k => D112 r n aKp x0 k) (cLr r n)
theorem bWo (q0 : gJ) : D112 r n aKp x0 (K2 q0 6 9) = fun (env : aY) (h : Hp) =>
 bnd (aR (env 9) h) fun v1 h1 =>
 bnd (aB 8 v1 h1) fun v2 h2 =>
 bnd (aA v2 h2) fun v3 h3 =>
 bnd (aD .neq v3 (aE 0) h3) fun v4 h4 =>
 aQ v4 (
 bnd (bB [(.s []), (aE 0), (aE 0), (aE 0), .l0, .l0] [] h4) fun v5 h5 =>
 bnd (aR (env 9) h5) fun v6 h6 =>
 bnd (aB 7 v6 h6) fun v7 h7 =>
 bnd (aA v7 h7) fun v8 h8 =>
 bnd (aR (env 9) h8) fun v9 h9 =>
 bnd (aB 8 v9 h9) fun v10 h10 =>
 bnd (aA v10 h10) fun v11 h11 =>
 bnd (aG 6 (env 6) v5 h11) fun v12 h12 =>
 cnd (bK (aA v10 h12) v11 && (bK (aA v7 h12) v8 && true)) (
 bnd (aK 6 (env 6) h12) fun v13 _ =>
 some (.t [v13, v8, v11], h12))) (
 bnd (aR (env 9) h4) fun v14 h14 =>
 bnd (aB 0 v14 h14) fun v15 h15 =>
 bnd (aB 4 v15 h15) fun v16 h16 =>
 bnd (aA v16 h16) fun v17 h17 =>
 bnd (bX v17 h17) fun v18 h18 =>
 bnd (aD .gtr v18 (aE 60) h18) fun v19 h19 =>
 aQ v19 (
 bnd (bB [(.s []), (aE 0), (aE 0), (aE 0), .l0, .l0] [] h19) fun v20 h20 =>
 bnd (aG 6 (env 6) v20 h20) fun _ h21 =>
 bnd (aK 6 (env 6) h21) fun v22 _ =>
 some (.t [v22, (.s []), (aE 18)], h21)) (
 bnd (aR (env 9) h19) fun v23 h23 =>
 bnd (aB 0 v23 h23) fun v24 h24 =>
 bnd (aB 5 v24 h24) fun v25 h25 =>
 bnd (aA v25 h25) fun v26 h26 =>
 bnd (bX v26 h26) fun v27 h27 =>
 bnd (aD .gtr v27 (aE 400) h27) fun v28 h28 =>
 aQ v28 (
 bnd (bB [(.s []), (aE 0), (aE 0), (aE 0), .l0, .l0] [] h28) fun v29 h29 =>
 bnd (aG 6 (env 6) v29 h29) fun _ h30 =>
 bnd (aK 6 (env 6) h30) fun v31 _ =>
 some (.t [v31, (.s []), (aE 12)], h30)) (
     q0 (env 6) (env 9) h28))) := by kernel_rfl
theorem bEs : (fun (env : aY) (h : Hp) =>
 bnd (aR (env 9) h) fun v1 h1 =>
 bnd (aB 8 v1 h1) fun v2 h2 =>
 bnd (aA v2 h2) fun v3 h3 =>
 bnd (aD .neq v3 (aE 0) h3) fun v4 h4 =>
 aQ v4 (
 bnd (bB [(.s []), (aE 0), (aE 0), (aE 0), .l0, .l0] [] h4) fun v5 h5 =>
 bnd (aR (env 9) h5) fun v6 h6 =>
 bnd (aB 7 v6 h6) fun v7 h7 =>
 bnd (aA v7 h7) fun v8 h8 =>
 bnd (aR (env 9) h8) fun v9 h9 =>
 bnd (aB 8 v9 h9) fun v10 h10 =>
 bnd (aA v10 h10) fun v11 h11 =>
 bnd (aG 6 (env 6) v5 h11) fun v12 h12 =>
 cnd (bK (aA v10 h12) v11 && (bK (aA v7 h12) v8 && true)) (
 bnd (aK 6 (env 6) h12) fun v13 _ =>
 some (.t [v13, v8, v11], h12))) (
 bnd (aR (env 9) h4) fun v14 h14 =>
 bnd (aB 0 v14 h14) fun v15 h15 =>
 bnd (aB 4 v15 h15) fun v16 h16 =>
 bnd (aA v16 h16) fun v17 h17 =>
 bnd (bX v17 h17) fun v18 h18 =>
 bnd (aD .gtr v18 (aE 60) h18) fun v19 h19 =>
 aQ v19 (
 bnd (bB [(.s []), (aE 0), (aE 0), (aE 0), .l0, .l0] [] h19) fun v20 h20 =>
 bnd (aG 6 (env 6) v20 h20) fun _ h21 =>
 bnd (aK 6 (env 6) h21) fun v22 _ =>
 some (.t [v22, (.s []), (aE 18)], h21)) (
 bnd (aR (env 9) h19) fun v23 h23 =>
 bnd (aB 0 v23 h23) fun v24 h24 =>
 bnd (aB 5 v24 h24) fun v25 h25 =>
 bnd (aA v25 h25) fun v26 h26 =>
 bnd (bX v26 h26) fun v27 h27 =>
 bnd (aD .gtr v27 (aE 400) h27) fun v28 h28 =>
 aQ v28 (
 bnd (bB [(.s []), (aE 0), (aE 0), (aE 0), .l0, .l0] [] h28) fun v29 h29 =>
 bnd (aG 6 (env 6) v29 h29) fun _ h30 =>
 bnd (aK 6 (env 6) h30) fun v31 _ =>
 some (.t [v31, (.s []), (aE 12)], h30)) (
     vS r n (env 6) (env 9) h28)))) = (K2 (aKc r n) 6 9) := by kernel_rfl
theorem cHj : D112 r n aLa x0 r112 = (K2 (aKc r n) 6 9) :=
 (bRl r n).trans
 ((bWo r n (vS r n)).trans (bEs r n))
theorem cAm : D112 r n aJd x0 r112 = D112 r n aZi x0 (K2 (aKc r n) 6 9) :=
 congrArg (fun k => D112 r n aZi x0 k) (cHj r n)
theorem cRs : D112 r n aJd x0 r112 = (K4 (eD r n) 2 3 6 9) :=
 (cAm r n).trans
 ((by kernel_rfl))
theorem bGz (kk11 : TT7) (q0 : dQ) : D112 r n jN (xs x0 0 (K4 q0 2 3 6 9)) (K7 kk11 2 3 6 9 33 34 35) = fun (env : aY) (h : Hp) =>
 bnd (aD .lss (env 35) (env 34) h) fun v1 h1 =>
 aQ v1 (
 bnd (aH 1 (env 33) (env 35) h1) fun v2 h2 =>
 bnd (aA v2 h2) fun v3 h3 =>
 bnd (aR (env 9) h3) fun v4 h4 =>
 bnd (aB 6 v4 h4) fun v5 h5 =>
 bnd (aA v5 h5) fun v6 h6 =>
 bnd (bB [(.s []), (.b false), (.b false), (aE 0)] [(0, 1, v3), (1, 1, (.b true)), (2, 1, (.b false)), (3, 1, (env 35))] h6) fun v7 h7 =>
 bnd (aL [(.s []), (.b false), (.b false), (aE 0)] 1 [(0, 4, v7)] h7) fun v8 h8 =>
 bnd (aZ 4 32 v6 v8 h8) fun v9 h9 =>
 bnd (aR (env 9) h9) fun v10 h10 =>
 bnd (aB 6 v10 h10) fun v11 h11 =>
 bnd (aG 1 v11 v9 h11) fun _ h12 =>
 bnd (aD .add (env 35) (aE 1) h12) fun v13 h13 =>
      kk11 (env 2) (env 3) (env 6) (env 9) (env 33) (env 34) v13 h13) (
      q0 (env 2) (env 3) (env 6) (env 9) h1) := by kernel_rfl
theorem aOs (kk11 : TT7) : (fun (env : aY) (h : Hp) =>
 bnd (aD .lss (env 35) (env 34) h) fun v1 h1 =>
 aQ v1 (
 bnd (aH 1 (env 33) (env 35) h1) fun v2 h2 =>
 bnd (aA v2 h2) fun v3 h3 =>
 bnd (aR (env 9) h3) fun v4 h4 =>
 bnd (aB 6 v4 h4) fun v5 h5 =>
 bnd (aA v5 h5) fun v6 h6 =>
 bnd (bB [(.s []), (.b false), (.b false), (aE 0)] [(0, 1, v3), (1, 1, (.b true)), (2, 1, (.b false)), (3, 1, (env 35))] h6) fun v7 h7 =>
 bnd (aL [(.s []), (.b false), (.b false), (aE 0)] 1 [(0, 4, v7)] h7) fun v8 h8 =>
 bnd (aZ 4 32 v6 v8 h8) fun v9 h9 =>
 bnd (aR (env 9) h9) fun v10 h10 =>
 bnd (aB 6 v10 h10) fun v11 h11 =>
 bnd (aG 1 v11 v9 h11) fun _ h12 =>
 bnd (aD .add (env 35) (aE 1) h12) fun v13 h13 =>
      kk11 (env 2) (env 3) (env 6) (env 9) (env 33) (env 34) v13 h13) (
      eD r n (env 2) (env 3) (env 6) (env 9) h1)) = (K7 (wP r n kk11) 2 3 6 9 33 34 35) := by kernel_rfl
theorem bEf (kk11 : TT7) : D112 r n jN (xs x0 0 (K4 (eD r n) 2 3 6 9)) (K7 kk11 2 3 6 9 33 34 35) = (K7 (wP r n kk11) 2 3 6 9 33 34 35) :=
 (bGz r n kk11 (eD r n)).trans (aOs r n kk11)
theorem bFt (m : Nat) : aN (fun kk => D112 r n jN (xs x0 0 (K4 (eD r n) 2 3 6 9)) kk) m = (K7 (oY r n m) 2 3 6 9 33 34 35) := by
 induction m with
 | zero => exact (by kernel_rfl : aN (fun kk => D112 r n jN (xs x0 0 (K4 (eD r n) 2 3 6 9)) kk) 0 = (K7 (oY r n 0) 2 3 6 9 33 34 35))
 | succ m ih =>
  refine (by kernel_rfl : aN (fun kk => D112 r n jN (xs x0 0 (K4 (eD r n) 2 3 6 9)) kk) (m + 1) = D112 r n jN (xs x0 0 (K4 (eD r n) 2 3 6 9)) (aN (fun kk => D112 r n jN (xs x0 0 (K4 (eD r n) 2 3 6 9)) kk) m)).trans ?_
  rw [ih]
  exact (bEf r n (oY r n m)).trans (by kernel_rfl)
theorem bWb : D112 r n uX (xs x0 0 (K4 (eD r n) 2 3 6 9)) (K4 (eD r n) 2 3 6 9) = (K7 (bBm r n) 2 3 6 9 33 34 35) :=
 (by kernel_rfl : D112 r n uX (xs x0 0 (K4 (eD r n) 2 3 6 9)) (K4 (eD r n) 2 3 6 9) = aN (fun kk => D112 r n jN (xs x0 0 (K4 (eD r n) 2 3 6 9)) kk) n).trans ((bFt r n n).trans (by kernel_rfl))
theorem bSi : D112 r n aId x0 (K4 (eD r n) 2 3 6 9) = (K7 (aHg r n) 2 3 6 9 33 34 35) :=
 (by kernel_rfl : D112 r n aId x0 (K4 (eD r n) 2 3 6 9) = D112 r n uX (xs x0 0 (K4 (eD r n) 2 3 6 9)) (K4 (eD r n) 2 3 6 9)).trans
 ((bWb r n).trans (by kernel_rfl))
theorem cAb : D112 r n aDy x0 r112 = D112 r n pI x0 (K4 (eD r n) 2 3 6 9) :=
 congrArg (fun k => D112 r n pI x0 k) (cRs r n)
theorem bZy : D112 r n pI x0 (K4 (eD r n) 2 3 6 9) = D112 r n bAf x0 (K7 (aHg r n) 2 3 6 9 33 34 35) :=
 congrArg (fun k => D112 r n bAf x0 k) (bSi r n)
theorem cPh : D112 r n aDy x0 r112 = (K5 (yH r n) 1 2 3 6 9) :=
 (cAb r n).trans
 ((bZy r n).trans
 ((by kernel_rfl)))
theorem bHl : D112 r n aFy x0 r112 = D112 r n aEy x0 (K5 (yH r n) 1 2 3 6 9) :=
 congrArg (fun k => D112 r n aEy x0 k) (cPh r n)
theorem bEo (q0 : cE) : D112 r n aEy x0 (K5 q0 1 2 3 6 9) = fun (env : aY) (h : Hp) =>
 bnd (aB 1 (env 3) h) fun v1 h1 =>
 bnd (aA v1 h1) fun v2 h2 =>
 bnd (aB 3 (env 3) h2) fun v3 h3 =>
 bnd (aA v3 h3) fun v4 h4 =>
 bnd (bX v4 h4) fun v5 h5 =>
 bnd (aB 2 (env 3) h5) fun v6 h6 =>
 bnd (aA v6 h6) fun v7 h7 =>
 bnd (bB [(.s []), (aE 0), (aE 0), (aE 0), .l0, .l0] [(0, 1, v2), (1, 1, v5), (3, 1, v7)] h7) fun v8 h8 =>
 bnd (bB [(.s []), (aE 0), (aE 0), (aE 0), .l0, .l0, .l0, (.s []), (aE 0)] [(0, 6, v8)] h8) fun v9 h9 =>
 bnd (bS v9 h9) fun v10 h10 =>
  q0 (env 1) (env 2) (env 3) (env 6) v10 h10 := by kernel_rfl
theorem aSz : (fun (env : aY) (h : Hp) =>
 bnd (aB 1 (env 3) h) fun v1 h1 =>
 bnd (aA v1 h1) fun v2 h2 =>
 bnd (aB 3 (env 3) h2) fun v3 h3 =>
 bnd (aA v3 h3) fun v4 h4 =>
 bnd (bX v4 h4) fun v5 h5 =>
 bnd (aB 2 (env 3) h5) fun v6 h6 =>
 bnd (aA v6 h6) fun v7 h7 =>
 bnd (bB [(.s []), (aE 0), (aE 0), (aE 0), .l0, .l0] [(0, 1, v2), (1, 1, v5), (3, 1, v7)] h7) fun v8 h8 =>
 bnd (bB [(.s []), (aE 0), (aE 0), (aE 0), .l0, .l0, .l0, (.s []), (aE 0)] [(0, 6, v8)] h8) fun v9 h9 =>
 bnd (bS v9 h9) fun v10 h10 =>
  yH r n (env 1) (env 2) (env 3) (env 6) v10 h10) = (K4 (qA r n) 1 2 3 6) := by kernel_rfl
theorem cJg : D112 r n aFy x0 r112 = (K4 (qA r n) 1 2 3 6) :=
 (bHl r n).trans
 ((bEo r n (yH r n)).trans (aSz r n))
theorem bEw : D112 r n aKj x0 r112 = D112 r n aBs x0 (K4 (qA r n) 1 2 3 6) :=
 congrArg (fun k => D112 r n aBs x0 k) (cJg r n)
theorem bDy (q0 : dQ) : D112 r n aBs x0 (K4 q0 1 2 3 6) = fun (env : aY) (h : Hp) =>
 bnd (aB 0 (env 3) h) fun v1 h1 =>
 bnd (aA v1 h1) fun v2 h2 =>
 bnd (aD .neq v2 (aE 11) h2) fun v3 h3 =>
 bnd (gD v3 false (some ((env 1), h3)) h3) fun v4 h4 =>
 bnd (gD v3 false (bX v4 h4) h4) fun v5 h5 =>
 bnd (gD v3 false (aD .gtr v5 (aE 8) h5) h5) fun v6 h6 =>
 bnd (aO v3 (.b true) v6 h6) fun v7 h7 =>
 aQ v7 (
 bnd (bB [(.s []), (aE 0), (aE 0), (aE 0), .l0, .l0] [] h7) fun v8 h8 =>
 bnd (aG 6 (env 6) v8 h8) fun _ h9 =>
 bnd (aK 6 (env 6) h9) fun v10 _ =>
 some (.t [v10, (.s []), (aE 1)], h9)) (
   q0 (env 1) (env 2) (env 3) (env 6) h7) := by kernel_rfl
theorem aSh : (fun (env : aY) (h : Hp) =>
 bnd (aB 0 (env 3) h) fun v1 h1 =>
 bnd (aA v1 h1) fun v2 h2 =>
 bnd (aD .neq v2 (aE 11) h2) fun v3 h3 =>
 bnd (gD v3 false (some ((env 1), h3)) h3) fun v4 h4 =>
 bnd (gD v3 false (bX v4 h4) h4) fun v5 h5 =>
 bnd (gD v3 false (aD .gtr v5 (aE 8) h5) h5) fun v6 h6 =>
 bnd (aO v3 (.b true) v6 h6) fun v7 h7 =>
 aQ v7 (
 bnd (bB [(.s []), (aE 0), (aE 0), (aE 0), .l0, .l0] [] h7) fun v8 h8 =>
 bnd (aG 6 (env 6) v8 h8) fun _ h9 =>
 bnd (aK 6 (env 6) h9) fun v10 _ =>
 some (.t [v10, (.s []), (aE 1)], h9)) (
   qA r n (env 1) (env 2) (env 3) (env 6) h7)) = (K4 (pY r n) 1 2 3 6) := by kernel_rfl
theorem cKb : D112 r n aKj x0 r112 = (K4 (pY r n) 1 2 3 6) :=
 (bEw r n).trans
 ((bDy r n (qA r n)).trans (aSh r n))
theorem cDn : D112 r n c112 x0 r112 = D112 r n aEt x0 (K4 (pY r n) 1 2 3 6) :=
 congrArg (fun k => D112 r n aEt x0 k) (cKb r n)
theorem cFd (q0 : dQ) : D112 r n aEt x0 (K4 q0 1 2 3 6) = fun (env : aY) (h : Hp) =>
 bnd (bS (env 0) h) fun v1 h1 =>
 bnd (bL [(.s []), (aE 0), (aE 0), (aE 0), .l0, .l0] h1) fun v2 h2 =>
  q0 (env 1) (env 2) v1 v2 h2 := by kernel_rfl
theorem cAj : (fun (env : aY) (h : Hp) =>
 bnd (bS (env 0) h) fun v1 h1 =>
 bnd (bL [(.s []), (aE 0), (aE 0), (aE 0), .l0, .l0] h1) fun v2 h2 =>
  pY r n (env 1) (env 2) v1 v2 h2) = (K3 (s112 r n) 0 1 2) := by kernel_rfl
theorem dGn : D112 r n c112 x0 r112 = (K3 (s112 r n) 0 1 2) :=
 (cDn r n).trans
 ((cFd r n (pY r n)).trans (cAj r n))
theorem dCo : aF CF r n 112 args h = s112 r n (aS args 0) (aS args 1) (aS args 2) h :=
 (by kernel_rfl : aF CF r n 112 args h = D112 r n c112 x0 r112 (aI args) h).trans ((congrFun (congrFun (dGn r n) (aI args)) h).trans (by kernel_rfl))
noncomputable def s113 (r : RT) (n : Nat) (x0 x1 x2 : DV) (h0 : Hp) : aJ :=
 bnd (bS x2 h0) fun v1 h1 =>
 bnd (r 67 [x0, x1] h1) fun v2 h2 =>
 bnd (gI .not v2 h2) fun v3 h3 =>
 aQ v3 (
 some (.t [(aE 0), (aE 24)], h3)) (
 bnd (aK 6 v1 h3) fun v4 h4 =>
 bnd (r 37 [x0, x1] h4) fun v5 h5 =>
 cnd (bK (aK 6 v1 h5) v4 && true) (
 bnd (r 125 [v4, v5] h5) fun v6 h6 =>
 bnd (aD .neq v6 (aE 0) h6) fun v7 h7 =>
 aQ v7 (
 some (.t [(aE 0), v6], h7)) (
 bnd (aB 0 v1 h7) fun v8 h8 =>
 bnd (aA v8 h8) fun v9 h9 =>
 bnd (r 44 [x0, v9] h9) fun v10 h10 =>
 bnd (aC 0 v10 h10) fun v11 h11 =>
 bnd (aC 1 v10 h11) fun v12 h12 =>
 bnd (aD .neq v12 (aE 0) h12) fun v13 h13 =>
 aQ v13 (
 some (.t [(aE 0), v12], h13)) (
 bnd (aB 4 v1 h13) fun v14 h14 =>
 bnd (aA v14 h14) fun v15 h15 =>
 bnd (bB [(aE 0), (.s []), (aE 0), .l0] [(0, 1, (aE 4)), (3, 1, v15)] h15) fun v16 h16 =>
 bnd (r 126 [x0, v16] h16) fun v17 h17 =>
 bnd (aC 0 v17 h17) fun v18 h18 =>
 bnd (aC 1 v17 h18) fun v19 h19 =>
 bnd (aD .neq v19 (aE 0) h19) fun v20 h20 =>
 aQ v20 (
 some (.t [(aE 0), v19], h20)) (
 bnd (aB 5 v1 h20) fun v21 h21 =>
 bnd (aA v21 h21) fun v22 h22 =>
 bnd (r 127 [v22] h22) fun v23 h23 =>
 bnd (aC 0 v23 h23) fun v24 h24 =>
 bnd (aC 1 v23 h24) fun v25 h25 =>
 bnd (r 128 [x0, v24] h25) fun v26 h26 =>
 bnd (aC 0 v26 h26) fun v27 h27 =>
 bnd (aC 1 v26 h27) fun v28 h28 =>
 bnd (aD .neq v28 (aE 0) h28) fun v29 h29 =>
 aQ v29 (
 some (.t [(aE 0), v28], h29)) (
 bnd (r 30 [x0, (aE 14)] (resv 1 h29)) fun v30 h30 =>
 bnd (aB 1 v1 h30) fun v31 h31 =>
 bnd (aA v31 h31) fun v32 h32 =>
 cnd (bK (aA v31 (resv 1 h29)) v32 && true) (
 bnd (r 71 [v32] h32) fun v33 h33 =>
 bnd (aB 2 v1 h33) fun v34 h34 =>
 bnd (aA v34 h34) fun v35 h35 =>
 cnd (bK (aA v34 h30) v35 && (bK (aA v34 (resv 1 h29)) v35 && true)) (
 bnd (r 71 [v35] h35) fun v36 h36 =>
 bnd (aB 3 v1 h36) fun v37 h37 =>
 bnd (aA v37 h37) fun v38 h38 =>
 cnd (bK (aA v37 h33) v38 && (bK (aA v37 h30) v38 && (bK (aA v37 (resv 1 h29)) v38 && true))) (
 bnd (r 71 [v38] h38) fun v39 h39 =>
 bnd (bJ (bY 0 h29.next) [(aE 0), (aE 0), (aE 0), (aE 0), (aE 0), (aE 0), (aE 0)] 7 [(0, 1, v11), (1, 1, v33), (2, 1, v36), (3, 1, v39), (4, 1, v18), (5, 1, v27), (6, 1, x1)] h39) fun v40 h40 =>
 bnd (r 82 [x0, v30, (aE 0), v40] h40) fun v41 h41 =>
 bnd (aC 0 v41 h41) fun v42 h42 =>
 bnd (aC 1 v41 h42) fun v43 h43 =>
 some (.t [v42, v43], h43))))))))))
noncomputable abbrev c113 : Code := cf Tryz.f113
noncomputable abbrev r113 : K := aT CF Tryz.f113
noncomputable def D113 (r : RT) (n : Nat) (c : Code) (X : Nat → K) (k : K) : K := aM CF r 83 n c X r113 k
theorem dIj : D113 r n c113 x0 r113 = (K3 (s113 r n) 0 1 2) :=
 (by kernel_rfl)
theorem dFp : aF CF r n 113 args h = s113 r n (aS args 0) (aS args 1) (aS args 2) h :=
 (by kernel_rfl : aF CF r n 113 args h = D113 r n c113 x0 r113 (aI args) h).trans ((congrFun (congrFun (dIj r n) (aI args)) h).trans (by kernel_rfl))
noncomputable def eT (r : RT) (n : Nat) (x0 x1 x3 : DV) (h0 : Hp) : aJ :=
 bnd (r 51 [x0, x1, (aE 4)] h0) fun v1 h1 =>
 bnd (r 73 [x0, x3, v1] h1) fun v2 h2 =>
 bnd (aC 0 v2 h2) fun v3 h3 =>
 bnd (aC 1 v2 h3) fun v4 h4 =>
 bnd (aD .neq v4 (aE 0) h4) fun v5 h5 =>
 aQ v5 (
 some (v4, h5)) (
 bnd (aR x0 h5) fun v6 h6 =>
 bnd (aB 0 v6 h6) fun v7 h7 =>
 bnd (aA v7 h7) fun v8 h8 =>
 bnd (aAc [v8, x1, (aE 4), v3] h8) fun v9 h9 =>
 some (v9, h9))
noncomputable def bAq (r : RT) (n : Nat) (kk5 : fF) (x0 x1 x2 x3 x9 x10 : DV) (h0 : Hp) : aJ :=
 bnd (aD .gtr x10 (aE 0) h0) fun v1 h1 =>
 bnd (gD v1 true (some (x0, h1)) h1) fun v2 h2 =>
 bnd (gD v1 true (aR v2 h2) h2) fun v3 h3 =>
 bnd (gD v1 true (aB 0 v3 h3) h3) fun v4 h4 =>
 bnd (gD v1 true (aA v4 h4) h4) fun v5 h5 =>
 bnd (gD v1 true (some (x9, h5)) h5) fun v6 h6 =>
 bnd (gD v1 true (isF [v5, v6] h6) h6) fun v7 h7 =>
 bnd (aO v1 v7 (.b false) h7) fun v8 h8 =>
 aQ v8 (
 bnd (r 51 [x0, x9, (aE 0)] h8) fun v9 h9 =>
 bnd (r 51 [x0, v9, (aE 0)] h9) fun v10 h10 =>
 bnd (aD .eql v10 x2 h10) fun v11 h11 =>
 aQ v11 (
 bnd (aR x0 h11) fun v12 h12 =>
 bnd (aB 0 v12 h12) fun v13 h13 =>
 bnd (aA v13 h13) fun v14 h14 =>
 bnd (aAc [v14, x9, (aE 0), x3] h14) fun v15 h15 =>
 some (v15, h15)) (
 bnd (r 51 [x0, x9, (aE 1)] h11) fun v16 h16 =>
 bnd (aD .sub x10 (aE 1) h16) fun v17 h17 =>
    kk5 x0 x1 x2 x3 v16 v17 h17)) (
      eT r n x0 x1 x3 h8)
noncomputable def sK (r : RT) (n : Nat) (m : Nat) : fF :=
 Nat.rec (motive := fun _ => fF) (fun _ _ _ _ _ _ _ => none) (fun _ ih => bAq r n ih) m
noncomputable def bJf (r : RT) (n : Nat) : fF := sK r n n
noncomputable def aVk (r : RT) (n : Nat) (x0 x1 x2 x3 x9 x10 : DV) (h0 : Hp) : aJ :=
 bJf r n x0 x1 x2 x3 x9 x10 h0
noncomputable def aPt (r : RT) (n : Nat) (x0 x1 x2 x3 x9 : DV) (h0 : Hp) : aJ :=
 bnd (aR x0 h0) fun v1 h1 =>
 bnd (aB 0 v1 h1) fun v2 h2 =>
 bnd (aA v2 h2) fun v3 h3 =>
 bnd (aAi [v3] h3) fun v4 h4 =>
  aVk r n x0 x1 x2 x3 x9 v4 h4
noncomputable def aVj (r : RT) (n : Nat) (x0 x1 x2 x3 : DV) (h0 : Hp) : aJ :=
 bnd (r 51 [x0, x1, (aE 4)] h0) fun v1 h1 =>
  aPt r n x0 x1 x2 x3 v1 h1
noncomputable def s114 (r : RT) (n : Nat) (x0 x1 x2 x3 : DV) (h0 : Hp) : aJ :=
 aVj r n x0 x1 x2 x3 h0
noncomputable abbrev c114 : Code := cf Tryz.f114
noncomputable abbrev aCv : Code := cR c114
noncomputable abbrev aGs : Code := cR aCv
noncomputable abbrev cWa : Code := cR aGs
noncomputable abbrev xO : Code := cL aGs
noncomputable abbrev aRo : Code := cR xO
noncomputable abbrev aBg : Code := cL aRo
noncomputable abbrev nI : Code := cL aBg
noncomputable abbrev bYh : Code := cL xO
noncomputable abbrev bPh : Code := cL aCv
noncomputable abbrev bCs : Code := cL c114
noncomputable abbrev r114 : K := aT CF Tryz.f114
noncomputable def D114 (r : RT) (n : Nat) (c : Code) (X : Nat → K) (k : K) : K := aM CF r 69 n c X r114 k
theorem cLo : D114 r n cWa x0 r114 = (K3 (eT r n) 0 1 3) :=
 (by kernel_rfl)
theorem bXl (kk5 : fF) : D114 r n nI (xs x0 0 (K3 (eT r n) 0 1 3)) (K6 kk5 0 1 2 3 9 10) = (K6 (bAq r n kk5) 0 1 2 3 9 10) :=
 (by kernel_rfl)
theorem bXn (m : Nat) : aN (fun kk => D114 r n nI (xs x0 0 (K3 (eT r n) 0 1 3)) kk) m = (K6 (sK r n m) 0 1 2 3 9 10) := by
 induction m with
 | zero => exact (by kernel_rfl : aN (fun kk => D114 r n nI (xs x0 0 (K3 (eT r n) 0 1 3)) kk) 0 = (K6 (sK r n 0) 0 1 2 3 9 10))
 | succ m ih =>
  refine (by kernel_rfl : aN (fun kk => D114 r n nI (xs x0 0 (K3 (eT r n) 0 1 3)) kk) (m + 1) = D114 r n nI (xs x0 0 (K3 (eT r n) 0 1 3)) (aN (fun kk => D114 r n nI (xs x0 0 (K3 (eT r n) 0 1 3)) kk) m)).trans ?_
  rw [ih]
  exact (bXl r n (sK r n m)).trans (by kernel_rfl)
theorem cFg : D114 r n aBg (xs x0 0 (K3 (eT r n) 0 1 3)) (K3 (eT r n) 0 1 3) = (K6 (bJf r n) 0 1 2 3 9 10) :=
 (by kernel_rfl : D114 r n aBg (xs x0 0 (K3 (eT r n) 0 1 3)) (K3 (eT r n) 0 1 3) = aN (fun kk => D114 r n nI (xs x0 0 (K3 (eT r n) 0 1 3)) kk) n).trans ((bXn r n n).trans (by kernel_rfl))
theorem cRe : D114 r n aRo x0 (K3 (eT r n) 0 1 3) = (K6 (aVk r n) 0 1 2 3 9 10) :=
 (by kernel_rfl : D114 r n aRo x0 (K3 (eT r n) 0 1 3) = D114 r n aBg (xs x0 0 (K3 (eT r n) 0 1 3)) (K3 (eT r n) 0 1 3)).trans
 ((cFg r n).trans (by kernel_rfl))
theorem bOq : D114 r n aGs x0 r114 = D114 r n xO x0 (K3 (eT r n) 0 1 3) :=
 congrArg (fun k => D114 r n xO x0 k) (cLo r n)
theorem cCn : D114 r n xO x0 (K3 (eT r n) 0 1 3) = D114 r n bYh x0 (K6 (aVk r n) 0 1 2 3 9 10) :=
 congrArg (fun k => D114 r n bYh x0 k) (cRe r n)
theorem cNb : D114 r n aGs x0 r114 = (K5 (aPt r n) 0 1 2 3 9) :=
 (bOq r n).trans
 ((cCn r n).trans
 ((by kernel_rfl)))
theorem bVx : D114 r n aCv x0 r114 = D114 r n bPh x0 (K5 (aPt r n) 0 1 2 3 9) :=
 congrArg (fun k => D114 r n bPh x0 k) (cNb r n)
theorem cPk : D114 r n aCv x0 r114 = (K4 (aVj r n) 0 1 2 3) :=
 (bVx r n).trans
 ((by kernel_rfl))
theorem dCn : D114 r n c114 x0 r114 = D114 r n bCs x0 (K4 (aVj r n) 0 1 2 3) :=
 congrArg (fun k => D114 r n bCs x0 k) (cPk r n)
theorem dMu : D114 r n c114 x0 r114 = (K4 (s114 r n) 0 1 2 3) :=
 (dCn r n).trans
 ((by kernel_rfl))
theorem cYm : aF CF r n 114 args h = s114 r n (aS args 0) (aS args 1) (aS args 2) (aS args 3) h :=
 (by kernel_rfl : aF CF r n 114 args h = D114 r n c114 x0 r114 (aI args) h).trans ((congrFun (congrFun (dMu r n) (aI args)) h).trans (by kernel_rfl))
noncomputable def eO (r : RT) (n : Nat) (x0 x6 : DV) (h0 : Hp) : aJ :=
 bnd (dT x0 h0) fun v1 h1 =>
 bnd (bB [(aE 0), (.s []), (aE 0), (aE 0)] [(3, 1, v1)] h1) fun v2 h2 =>
 bnd (aL [(aE 0), (.s []), (aE 0), (aE 0)] 1 [(0, 4, v2)] h2) fun v3 h3 =>
 bnd (aZ 4 40 x6 v3 h3) fun v4 h4 =>
 some (.t [v4, (aE 0), (aE 0)], h4)
noncomputable def aIk (r : RT) (n : Nat) (kk7 : mP) (x0 x5 x6 : DV) (h0 : Hp) : aJ :=
 bnd (r 130 [(.s [9, 10, 13, 32])] h0) fun v1 h1 =>
 bnd (dT x0 h1) fun v2 h2 =>
 bnd (r 129 [x5, v1, v2] h2) fun v3 h3 =>
 bnd (aR x5 h3) fun v4 h4 =>
 bnd (aB 1 v4 h4) fun v5 h5 =>
 bnd (aA v5 h5) fun v6 h6 =>
 bnd (dT x0 h6) fun v7 h7 =>
 bnd (aD .geq v6 v7 h7) fun v8 h8 =>
 aQ v8 (
   eO r n x0 x6 h8) (
 bnd (aR x5 h8) fun v9 h9 =>
 bnd (aB 1 v9 h9) fun v10 h10 =>
 bnd (aA v10 h10) fun v11 h11 =>
 bnd (fG x0 v11 h11) fun v12 h12 =>
 bnd (aD .eql v12 (.i .u8 (Int.ofNat 34)) h12) fun v13 h13 =>
 aQ v13 (
 bnd (aR x5 h13) fun v14 h14 =>
 bnd (aB 1 v14 h14) fun v15 h15 =>
 bnd (aA v15 h15) fun v16 h16 =>
 bnd (aD .add v16 (aE 1) h16) fun v17 h17 =>
 bnd (fD x0 (some v17) none h17) fun v18 h18 =>
 bnd (r 131 [v18, (.i .u8 (Int.ofNat 34))] h18) fun v19 h19 =>
 bnd (aD .lss v19 (aE 0) h19) fun v20 h20 =>
 aQ v20 (
 bnd (aR x5 h20) fun v21 h21 =>
 bnd (aB 1 v21 h21) fun v22 h22 =>
 bnd (aA v22 h22) fun v23 h23 =>
 some (.t [.l0, v23, (aE 11)], h23)) (
 bnd (aR x5 h20) fun v24 h24 =>
 bnd (aB 1 v24 h24) fun v25 h25 =>
 bnd (aA v25 h25) fun v26 h26 =>
 bnd (aD .add v19 (aE 2) h26) fun v27 h27 =>
 bnd (aD .add v26 v27 h27) fun v28 h28 =>
 bnd (aR x5 h28) fun v29 h29 =>
 bnd (aB 1 v29 h29) fun v30 h30 =>
 bnd (aG 1 v30 v28 h30) fun _ h31 =>
     kk7 x0 x5 x6 h31)) (
 bnd (r 132 [x5] h13) fun v32 h32 =>
 bnd (aC 0 v32 h32) fun v33 h33 =>
 bnd (aC 1 v32 h33) fun v34 h34 =>
 bnd (bL [(aE 0), (.s []), (aE 0), (aE 0)] h34) fun v35 h35 =>
 bnd (aG 4 v35 v33 h35) fun _ h36 =>
 bnd (aD .neq v34 (aE 0) h36) fun v37 h37 =>
 aQ v37 (
 bnd (aB 3 v35 h37) fun v38 h38 =>
 bnd (aA v38 h38) fun v39 h39 =>
 some (.t [.l0, v39, v34], h39)) (
 bnd (aK 4 v35 h37) fun v40 h40 =>
 bnd (aL [(aE 0), (.s []), (aE 0), (aE 0)] 1 [(0, 4, v40)] h40) fun v41 h41 =>
 bnd (aZ 4 40 x6 v41 h41) fun v42 h42 =>
     kk7 x0 x5 v42 h42)))
noncomputable def tL (r : RT) (n : Nat) (m : Nat) : mP :=
 Nat.rec (motive := fun _ => mP) (fun _ _ _ _ => none) (fun _ ih => aIk r n ih) m
noncomputable def bJs (r : RT) (n : Nat) : mP := tL r n n
noncomputable def aSq (r : RT) (n : Nat) (x0 x5 x6 : DV) (h0 : Hp) : aJ :=
 bJs r n x0 x5 x6 h0
noncomputable def aQg (r : RT) (n : Nat) (x0 x5 x6 : DV) (h0 : Hp) : aJ :=
 aSq r n x0 x5 x6 h0
noncomputable def xX (r : RT) (n : Nat) (x0 x5 : DV) (h0 : Hp) : aJ :=
 aQg r n x0 x5 .l0 h0
noncomputable def aGw (r : RT) (n : Nat) (x0 : DV) (h0 : Hp) : aJ :=
 bnd (bB [(.s []), (aE 0)] [(0, 1, x0)] h0) fun v1 h1 =>
 bnd (bS v1 h1) fun v2 h2 =>
  xX r n x0 v2 h2
noncomputable def aUz (r : RT) (n : Nat) (x0 : DV) (h0 : Hp) : aJ :=
 bnd (dT x0 h0) fun v1 h1 =>
 bnd (aD .gtr v1 (aE 2000) h1) fun v2 h2 =>
 aQ v2 (
 some (.t [.l0, (aE 0), (aE 12)], h2)) (
  aGw r n x0 h2)
noncomputable def s117 (r : RT) (n : Nat) (x0 : DV) (h0 : Hp) : aJ :=
 aUz r n x0 h0
noncomputable abbrev c117 : Code := cf Tryz.f117
noncomputable abbrev aUx : Code := cR c117
noncomputable abbrev aBd : Code := cL aUx
noncomputable abbrev aEs : Code := cR aBd
noncomputable abbrev aKz : Code := cR aEs
noncomputable abbrev aLd : Code := cR aKz
noncomputable abbrev aBu : Code := cR aLd
noncomputable abbrev cUh : Code := cR aBu
noncomputable abbrev aCd : Code := cL aBu
noncomputable abbrev aJi : Code := cL aCd
noncomputable abbrev jQ : Code := cL aJi
noncomputable abbrev aWr : Code := cL aLd
noncomputable abbrev aYd : Code := cL aKz
noncomputable abbrev aKd : Code := cL aEs
noncomputable abbrev aYk : Code := cL aBd
noncomputable abbrev aYw : Code := cL c117
noncomputable abbrev r117 : K := aT CF Tryz.f117
noncomputable def D117 (r : RT) (n : Nat) (c : Code) (X : Nat → K) (k : K) : K := aM CF r 80 n c X r117 k
theorem cFc : D117 r n cUh x0 r117 = (K2 (eO r n) 0 6) :=
 (by kernel_rfl)
theorem bOc (kk7 : mP) (q0 : gJ) : D117 r n jQ (xs x0 0 (K2 q0 0 6)) (K3 kk7 0 5 6) = fun (env : aY) (h : Hp) =>
 bnd (r 130 [(.s [9, 10, 13, 32])] h) fun v1 h1 =>
 bnd (dT (env 0) h1) fun v2 h2 =>
 bnd (r 129 [(env 5), v1, v2] h2) fun v3 h3 =>
 bnd (aR (env 5) h3) fun v4 h4 =>
 bnd (aB 1 v4 h4) fun v5 h5 =>
 bnd (aA v5 h5) fun v6 h6 =>
 bnd (dT (env 0) h6) fun v7 h7 =>
 bnd (aD .geq v6 v7 h7) fun v8 h8 =>
 aQ v8 (
   q0 (env 0) (env 6) h8) (
 bnd (aR (env 5) h8) fun v9 h9 =>
 bnd (aB 1 v9 h9) fun v10 h10 =>
 bnd (aA v10 h10) fun v11 h11 =>
 bnd (fG (env 0) v11 h11) fun v12 h12 =>
 bnd (aD .eql v12 (.i .u8 (Int.ofNat 34)) h12) fun v13 h13 =>
 aQ v13 (
 bnd (aR (env 5) h13) fun v14 h14 =>
 bnd (aB 1 v14 h14) fun v15 h15 =>
 bnd (aA v15 h15) fun v16 h16 =>
 bnd (aD .add v16 (aE 1) h16) fun v17 h17 =>
 bnd (fD (env 0) (some v17) none h17) fun v18 h18 =>
 bnd (r 131 [v18, (.i .u8 (Int.ofNat 34))] h18) fun v19 h19 =>
 bnd (aD .lss v19 (aE 0) h19) fun v20 h20 =>
 aQ v20 (
 bnd (aR (env 5) h20) fun v21 h21 =>
 bnd (aB 1 v21 h21) fun v22 h22 =>
 bnd (aA v22 h22) fun v23 h23 =>
 some (.t [.l0, v23, (aE 11)], h23)) (
 bnd (aR (env 5) h20) fun v24 h24 =>
 bnd (aB 1 v24 h24) fun v25 h25 =>
 bnd (aA v25 h25) fun v26 h26 =>
 bnd (aD .add v19 (aE 2) h26) fun v27 h27 =>
 bnd (aD .add v26 v27 h27) fun v28 h28 =>
 bnd (aR (env 5) h28) fun v29 h29 =>
 bnd (aB 1 v29 h29) fun v30 h30 =>
 bnd (aG 1 v30 v28 h30) fun _ h31 =>
     kk7 (env 0) (env 5) (env 6) h31)) (
 bnd (r 132 [(env 5)] h13) fun v32 h32 =>
 bnd (aC 0 v32 h32) fun v33 h33 =>
 bnd (aC 1 v32 h33) fun v34 h34 =>
 bnd (bL [(aE 0), (.s []), (aE 0), (aE 0)] h34) fun v35 h35 =>
 bnd (aG 4 v35 v33 h35) fun _ h36 =>
 bnd (aD .neq v34 (aE 0) h36) fun v37 h37 =>
 aQ v37 (
 bnd (aB 3 v35 h37) fun v38 h38 =>
 bnd (aA v38 h38) fun v39 h39 =>
 some (.t [.l0, v39, v34], h39)) (
 bnd (aK 4 v35 h37) fun v40 h40 =>
 bnd (aL [(aE 0), (.s []), (aE 0), (aE 0)] 1 [(0, 4, v40)] h40) fun v41 h41 =>
 bnd (aZ 4 40 (env 6) v41 h41) fun v42 h42 =>
     kk7 (env 0) (env 5) v42 h42))) := by kernel_rfl
theorem bHi (kk7 : mP) : (fun (env : aY) (h : Hp) =>
 bnd (r 130 [(.s [9, 10, 13, 32])] h) fun v1 h1 =>
 bnd (dT (env 0) h1) fun v2 h2 =>
 bnd (r 129 [(env 5), v1, v2] h2) fun v3 h3 =>
 bnd (aR (env 5) h3) fun v4 h4 =>
 bnd (aB 1 v4 h4) fun v5 h5 =>
 bnd (aA v5 h5) fun v6 h6 =>
 bnd (dT (env 0) h6) fun v7 h7 =>
 bnd (aD .geq v6 v7 h7) fun v8 h8 =>
 aQ v8 (
   eO r n (env 0) (env 6) h8) (
 bnd (aR (env 5) h8) fun v9 h9 =>
 bnd (aB 1 v9 h9) fun v10 h10 =>
 bnd (aA v10 h10) fun v11 h11 =>
 bnd (fG (env 0) v11 h11) fun v12 h12 =>
 bnd (aD .eql v12 (.i .u8 (Int.ofNat 34)) h12) fun v13 h13 =>
 aQ v13 (
 bnd (aR (env 5) h13) fun v14 h14 =>
 bnd (aB 1 v14 h14) fun v15 h15 =>
 bnd (aA v15 h15) fun v16 h16 =>
 bnd (aD .add v16 (aE 1) h16) fun v17 h17 =>
 bnd (fD (env 0) (some v17) none h17) fun v18 h18 =>
 bnd (r 131 [v18, (.i .u8 (Int.ofNat 34))] h18) fun v19 h19 =>
 bnd (aD .lss v19 (aE 0) h19) fun v20 h20 =>
 aQ v20 (
 bnd (aR (env 5) h20) fun v21 h21 =>
 bnd (aB 1 v21 h21) fun v22 h22 =>
 bnd (aA v22 h22) fun v23 h23 =>
 some (.t [.l0, v23, (aE 11)], h23)) (
 bnd (aR (env 5) h20) fun v24 h24 =>
 bnd (aB 1 v24 h24) fun v25 h25 =>
 bnd (aA v25 h25) fun v26 h26 =>
 bnd (aD .add v19 (aE 2) h26) fun v27 h27 =>
 bnd (aD .add v26 v27 h27) fun v28 h28 =>
 bnd (aR (env 5) h28) fun v29 h29 =>
 bnd (aB 1 v29 h29) fun v30 h30 =>
 bnd (aG 1 v30 v28 h30) fun _ h31 =>
     kk7 (env 0) (env 5) (env 6) h31)) (
 bnd (r 132 [(env 5)] h13) fun v32 h32 =>
 bnd (aC 0 v32 h32) fun v33 h33 =>
 bnd (aC 1 v32 h33) fun v34 h34 =>
 bnd (bL [(aE 0), (.s []), (aE 0), (aE 0)] h34) fun v35 h35 =>
 bnd (aG 4 v35 v33 h35) fun _ h36 =>
 bnd (aD .neq v34 (aE 0) h36) fun v37 h37 =>
 aQ v37 (
 bnd (aB 3 v35 h37) fun v38 h38 =>
 bnd (aA v38 h38) fun v39 h39 =>
 some (.t [.l0, v39, v34], h39)) (
 bnd (aK 4 v35 h37) fun v40 h40 =>
 bnd (aL [(aE 0), (.s []), (aE 0), (aE 0)] 1 [(0, 4, v40)] h40) fun v41 h41 =>
 bnd (aZ 4 40 (env 6) v41 h41) fun v42 h42 =>
     kk7 (env 0) (env 5) v42 h42)))) = (K3 (aIk r n kk7) 0 5 6) := by kernel_rfl
theorem bMf (kk7 : mP) : D117 r n jQ (xs x0 0 (K2 (eO r n) 0 6)) (K3 kk7 0 5 6) = (K3 (aIk r n kk7) 0 5 6) :=
 (bOc r n kk7 (eO r n)).trans (bHi r n kk7)
theorem bSo (m : Nat) : aN (fun kk => D117 r n jQ (xs x0 0 (K2 (eO r n) 0 6)) kk) m = (K3 (tL r n m) 0 5 6) := by
 induction m with
 | zero => exact (by kernel_rfl : aN (fun kk => D117 r n jQ (xs x0 0 (K2 (eO r n) 0 6)) kk) 0 = (K3 (tL r n 0) 0 5 6))
 | succ m ih =>
  refine (by kernel_rfl : aN (fun kk => D117 r n jQ (xs x0 0 (K2 (eO r n) 0 6)) kk) (m + 1) = D117 r n jQ (xs x0 0 (K2 (eO r n) 0 6)) (aN (fun kk => D117 r n jQ (xs x0 0 (K2 (eO r n) 0 6)) kk) m)).trans ?_
  rw [ih]
  exact (bMf r n (tL r n m)).trans (by kernel_rfl)
theorem cIu : D117 r n aJi (xs x0 0 (K2 (eO r n) 0 6)) (K2 (eO r n) 0 6) = (K3 (bJs r n) 0 5 6) :=
 (by kernel_rfl : D117 r n aJi (xs x0 0 (K2 (eO r n) 0 6)) (K2 (eO r n) 0 6) = aN (fun kk => D117 r n jQ (xs x0 0 (K2 (eO r n) 0 6)) kk) n).trans ((bSo r n n).trans (by kernel_rfl))
theorem bRy : D117 r n aBu x0 r117 = D117 r n aCd x0 (K2 (eO r n) 0 6) :=
 congrArg (fun k => D117 r n aCd x0 k) (cFc r n)
theorem cOa : D117 r n aBu x0 r117 = (K3 (aSq r n) 0 5 6) :=
 (bRy r n).trans
 ((by kernel_rfl : D117 r n aCd x0 (K2 (eO r n) 0 6) = D117 r n aJi (xs x0 0 (K2 (eO r n) 0 6)) (K2 (eO r n) 0 6)).trans
 ((cIu r n).trans (by kernel_rfl)))
theorem bJd : D117 r n aLd x0 r117 = D117 r n aWr x0 (K3 (aSq r n) 0 5 6) :=
 congrArg (fun k => D117 r n aWr x0 k) (cOa r n)
theorem cNy : D117 r n aLd x0 r117 = (K3 (aQg r n) 0 5 6) :=
 (bJd r n).trans
 ((by kernel_rfl))
theorem bMi : D117 r n aKz x0 r117 = D117 r n aYd x0 (K3 (aQg r n) 0 5 6) :=
 congrArg (fun k => D117 r n aYd x0 k) (cNy r n)
theorem cPj : D117 r n aKz x0 r117 = (K2 (xX r n) 0 5) :=
 (bMi r n).trans
 ((by kernel_rfl))
theorem bJk : D117 r n aEs x0 r117 = D117 r n aKd x0 (K2 (xX r n) 0 5) :=
 congrArg (fun k => D117 r n aKd x0 k) (cPj r n)
theorem cAf (q0 : gJ) : D117 r n aKd x0 (K2 q0 0 5) = fun (env : aY) (h : Hp) =>
 bnd (bB [(.s []), (aE 0)] [(0, 1, (env 0))] h) fun v1 h1 =>
 bnd (bS v1 h1) fun v2 h2 =>
  q0 (env 0) v2 h2 := by kernel_rfl
theorem bEg : (fun (env : aY) (h : Hp) =>
 bnd (bB [(.s []), (aE 0)] [(0, 1, (env 0))] h) fun v1 h1 =>
 bnd (bS v1 h1) fun v2 h2 =>
  xX r n (env 0) v2 h2) = (K1 (aGw r n) 0) := by kernel_rfl
theorem cMn : D117 r n aEs x0 r117 = (K1 (aGw r n) 0) :=
 (bJk r n).trans
 ((cAf r n (xX r n)).trans (bEg r n))
theorem bWg : D117 r n aBd x0 r117 = D117 r n aYk x0 (K1 (aGw r n) 0) :=
 congrArg (fun k => D117 r n aYk x0 k) (cMn r n)
theorem cNk : D117 r n aUx x0 r117 = (K1 (aUz r n) 0) :=
 (by kernel_rfl : D117 r n aUx x0 r117 = D117 r n aBd x0 r117).trans
 ((bWg r n).trans
 ((by kernel_rfl)))
theorem dEg : D117 r n c117 x0 r117 = D117 r n aYw x0 (K1 (aUz r n) 0) :=
 congrArg (fun k => D117 r n aYw x0 k) (cNk r n)
theorem dJz : D117 r n c117 x0 r117 = (K1 (s117 r n) 0) :=
 (dEg r n).trans
 ((by kernel_rfl))
theorem dFn : aF CF r n 117 args h = s117 r n (aS args 0) h :=
 (by kernel_rfl : aF CF r n 117 args h = D117 r n c117 x0 r117 (aI args) h).trans ((congrFun (congrFun (dJz r n) (aI args)) h).trans (by kernel_rfl))
end Go.Dd

namespace Go.Dd
open Go.Proofs
variable (r : RT) (n : Nat) (args : List DV) (h : Hp)
noncomputable def bR (r : RT) (n : Nat) (x3 : DV) (h0 : Hp) : aJ :=
 some (x3, h0)
noncomputable def fS (r : RT) (n : Nat) (kk4 : gJ) (x0 x3 : DV) (h0 : Hp) : aJ :=
 bnd (r 135 [x0] h0) fun v1 h1 =>
 bnd (aL gY 1 [(0, 6, v1)] h1) fun v2 h2 =>
 bnd (aZ 6 104 x3 v2 h2) fun v3 h3 =>
 bnd (r 133 [x0, (aE 10), (.s [46])] h3) fun v4 h4 =>
 bnd (gI .not v4 h4) fun v5 h5 =>
 aQ v5 (
 some (v3, h5)) (
 bnd (r 134 [x0] h5) fun v6 h6 =>
  kk4 x0 v3 h6)
noncomputable def sR (r : RT) (n : Nat) (kk4 : gJ) (x3 : DV) (h0 : Hp) : aJ :=
 some (x3, h0)
noncomputable def oS (r : RT) (n : Nat) (kk4 : gJ) (x0 x3 : DV) (h0 : Hp) : aJ :=
 bnd (r 133 [x0, (aE 10), (.s [46])] h0) fun v1 h1 =>
 aQ v1 (
 bnd (r 134 [x0] h1) fun v2 h2 =>
  sR r n kk4 x3 h2) (
  sR r n kk4 x3 h1)
noncomputable def aJq (r : RT) (n : Nat) (kk4 : gJ) (x0 x3 : DV) (h0 : Hp) : aJ :=
 bnd (r 135 [x0] h0) fun v1 h1 =>
 bnd (aL gY 1 [(0, 6, v1)] h1) fun v2 h2 =>
 bnd (bB gY [(0, 1, (aE 10)), (5, 1, v2)] h2) fun v3 h3 =>
 bnd (aL gY 1 [(0, 6, v3)] h3) fun v4 h4 =>
 bnd (aZ 6 104 x3 v4 h4) fun v5 h5 =>
  oS r n kk4 x0 v5 h5
noncomputable def bMz (r : RT) (n : Nat) (kk4 : gJ) (x0 x3 : DV) (h0 : Hp) : aJ :=
 bnd (r 134 [x0] h0) fun v1 h1 =>
  aJq r n kk4 x0 x3 h1
noncomputable def aPp (r : RT) (n : Nat) (kk4 : gJ) (x0 x3 x20 : DV) (h0 : Hp) : aJ :=
 aQ x20 (
  bMz r n kk4 x0 x3 h0) (
  fS r n kk4 x0 x3 h0)
noncomputable def aVb (r : RT) (n : Nat) (kk4 : gJ) (x0 x3 : DV) (h0 : Hp) : aJ :=
 bnd (r 133 [x0, (aE 10), (.s [94])] h0) fun v1 h1 =>
  aPp r n kk4 x0 x3 v1 h1
noncomputable def bCz (r : RT) (n : Nat) (kk4 : gJ) (x0 x3 : DV) (h0 : Hp) : aJ :=
 bnd (aR x0 h0) fun v1 h1 =>
 bnd (aB 3 v1 h1) fun v2 h2 =>
 bnd (aA v2 h2) fun v3 h3 =>
 bnd (aD .eql v3 (aE 0) h3) fun v4 h4 =>
 bnd (gD v4 true (some (x0, h4)) h4) fun v5 h5 =>
 bnd (gD v4 true (r 133 [v5, (aE 0), (.s [])] h5) h5) fun v6 h6 =>
 bnd (gD v4 true (gI .not v6 h6) h6) fun v7 h7 =>
 bnd (aO v4 v7 (.b false) h7) fun v8 h8 =>
 bnd (gD v8 true (some (x0, h8)) h8) fun v9 h9 =>
 bnd (gD v8 true (r 133 [v9, (aE 10), (.s [93])] h9) h9) fun v10 h10 =>
 bnd (gD v8 true (gI .not v10 h10) h10) fun v11 h11 =>
 bnd (aO v8 v11 (.b false) h11) fun v12 h12 =>
 aQ v12 (
   aVb r n kk4 x0 x3 h12) (
   bR r n x3 h12)
noncomputable def tX (r : RT) (n : Nat) (m : Nat) : gJ :=
 Nat.rec (motive := fun _ => gJ) (fun _ _ _ => none) (fun _ ih => bCz r n ih) m
noncomputable def bRr (r : RT) (n : Nat) : gJ := tX r n n
noncomputable def aPo (r : RT) (n : Nat) (x0 x3 : DV) (h0 : Hp) : aJ :=
 bRr r n x0 x3 h0
noncomputable def aPs (r : RT) (n : Nat) (x0 : DV) (h0 : Hp) : aJ :=
 aPo r n x0 .l0 h0
noncomputable def s119 (r : RT) (n : Nat) (x0 : DV) (h0 : Hp) : aJ :=
 aPs r n x0 h0
noncomputable abbrev c119 : Code := cf Tryz.f119
noncomputable abbrev aEj : Code := cR c119
noncomputable abbrev aHz : Code := cR aEj
noncomputable abbrev dCt : Code := cR aHz
noncomputable abbrev aHq : Code := cL aHz
noncomputable abbrev aKg : Code := cL aHq
noncomputable abbrev jX : Code := cL aKg
noncomputable abbrev aUh : Code := cR jX
noncomputable abbrev aCt : Code := cL aUh
noncomputable abbrev bKa : Code := cR aCt
noncomputable abbrev oU : Code := cL aCt
noncomputable abbrev pS : Code := cR oU
noncomputable abbrev pA : Code := cL pS
noncomputable abbrev uI : Code := cR pA
noncomputable abbrev tH : Code := cR uI
noncomputable abbrev cQh : Code := cR tH
noncomputable abbrev bBb : Code := cL tH
noncomputable abbrev aCq : Code := cL uI
noncomputable abbrev aXc : Code := cL pA
noncomputable abbrev cPy : Code := cR pS
noncomputable abbrev aXx : Code := cL oU
noncomputable abbrev bAe : Code := cL jX
noncomputable abbrev bAy : Code := cL aEj
noncomputable abbrev aWo : Code := cL c119
noncomputable abbrev r119 : K := aT CF Tryz.f119
noncomputable def D119 (r : RT) (n : Nat) (c : Code) (X : Nat → K) (k : K) : K := aM CF r 47 n c X r119 k
theorem cQg : D119 r n dCt x0 r119 = (K1 (bR r n) 3) :=
 (by kernel_rfl)
theorem bTm (kk4 : gJ) (q0 : TT1) : D119 r n bKa (xs (xs x0 0 (K1 q0 3)) 1 (K2 kk4 0 3)) (K2 kk4 0 3) = fun (env : aY) (h : Hp) =>
 bnd (r 135 [(env 0)] h) fun v1 h1 =>
 bnd (aL gY 1 [(0, 6, v1)] h1) fun v2 h2 =>
 bnd (aZ 6 104 (env 3) v2 h2) fun v3 h3 =>
 bnd (r 133 [(env 0), (aE 10), (.s [46])] h3) fun v4 h4 =>
 bnd (gI .not v4 h4) fun v5 h5 =>
 aQ v5 (
 some (v3, h5)) (
 bnd (r 134 [(env 0)] h5) fun v6 h6 =>
      kk4 (env 0) v3 h6) := by kernel_rfl
theorem bGb (kk4 : gJ) : (fun (env : aY) (h : Hp) =>
 bnd (r 135 [(env 0)] h) fun v1 h1 =>
 bnd (aL gY 1 [(0, 6, v1)] h1) fun v2 h2 =>
 bnd (aZ 6 104 (env 3) v2 h2) fun v3 h3 =>
 bnd (r 133 [(env 0), (aE 10), (.s [46])] h3) fun v4 h4 =>
 bnd (gI .not v4 h4) fun v5 h5 =>
 aQ v5 (
 some (v3, h5)) (
 bnd (r 134 [(env 0)] h5) fun v6 h6 =>
      kk4 (env 0) v3 h6)) = (K2 (fS r n kk4) 0 3) := by kernel_rfl
theorem cGr (kk4 : gJ) : D119 r n bKa (xs (xs x0 0 (K1 (bR r n) 3)) 1 (K2 kk4 0 3)) (K2 kk4 0 3) = (K2 (fS r n kk4) 0 3) :=
 (bTm r n kk4 (bR r n)).trans (bGb r n kk4)
theorem bTd (kk4 : gJ) : D119 r n cQh (xs (xs x0 0 (K1 (bR r n) 3)) 1 (K2 kk4 0 3)) (K2 (fS r n kk4) 0 3) = (K1 (sR r n kk4) 3) :=
 (by kernel_rfl)
theorem bDi (kk4 : gJ) : D119 r n tH (xs (xs x0 0 (K1 (bR r n) 3)) 1 (K2 kk4 0 3)) (K2 (fS r n kk4) 0 3) = D119 r n bBb (xs (xs x0 0 (K1 (bR r n) 3)) 1 (K2 kk4 0 3)) (K1 (sR r n kk4) 3) :=
 congrArg (fun k => D119 r n bBb (xs (xs x0 0 (K1 (bR r n) 3)) 1 (K2 kk4 0 3)) k) (bTd r n kk4)
theorem bIo (kk4 : gJ) : D119 r n tH (xs (xs x0 0 (K1 (bR r n) 3)) 1 (K2 kk4 0 3)) (K2 (fS r n kk4) 0 3) = (K2 (oS r n kk4) 0 3) :=
 (bDi r n kk4).trans
 ((by kernel_rfl))
theorem bVv (kk4 : gJ) : D119 r n uI (xs (xs x0 0 (K1 (bR r n) 3)) 1 (K2 kk4 0 3)) (K2 (fS r n kk4) 0 3) = D119 r n aCq (xs (xs x0 0 (K1 (bR r n) 3)) 1 (K2 kk4 0 3)) (K2 (oS r n kk4) 0 3) :=
 congrArg (fun k => D119 r n aCq (xs (xs x0 0 (K1 (bR r n) 3)) 1 (K2 kk4 0 3)) k) (bIo r n kk4)
theorem bXy (kk4 : gJ) (q0 : gJ) (q1 : TT1) : D119 r n aCq (xs (xs x0 0 (K1 q1 3)) 1 (K2 kk4 0 3)) (K2 q0 0 3) = fun (env : aY) (h : Hp) =>
 bnd (r 135 [(env 0)] h) fun v1 h1 =>
 bnd (aL gY 1 [(0, 6, v1)] h1) fun v2 h2 =>
 bnd (bB gY [(0, 1, (aE 10)), (5, 1, v2)] h2) fun v3 h3 =>
 bnd (aL gY 1 [(0, 6, v3)] h3) fun v4 h4 =>
 bnd (aZ 6 104 (env 3) v4 h4) fun v5 h5 =>
  q0 (env 0) v5 h5 := by kernel_rfl
theorem bEe (kk4 : gJ) : (fun (env : aY) (h : Hp) =>
 bnd (r 135 [(env 0)] h) fun v1 h1 =>
 bnd (aL gY 1 [(0, 6, v1)] h1) fun v2 h2 =>
 bnd (bB gY [(0, 1, (aE 10)), (5, 1, v2)] h2) fun v3 h3 =>
 bnd (aL gY 1 [(0, 6, v3)] h3) fun v4 h4 =>
 bnd (aZ 6 104 (env 3) v4 h4) fun v5 h5 =>
  oS r n kk4 (env 0) v5 h5) = (K2 (aJq r n kk4) 0 3) := by kernel_rfl
theorem cDr (kk4 : gJ) : D119 r n uI (xs (xs x0 0 (K1 (bR r n) 3)) 1 (K2 kk4 0 3)) (K2 (fS r n kk4) 0 3) = (K2 (aJq r n kk4) 0 3) :=
 (bVv r n kk4).trans
 ((bXy r n kk4 (oS r n kk4) (bR r n)).trans (bEe r n kk4))
theorem bWp (kk4 : gJ) : D119 r n pA (xs (xs x0 0 (K1 (bR r n) 3)) 1 (K2 kk4 0 3)) (K2 (fS r n kk4) 0 3) = D119 r n aXc (xs (xs x0 0 (K1 (bR r n) 3)) 1 (K2 kk4 0 3)) (K2 (aJq r n kk4) 0 3) :=
 congrArg (fun k => D119 r n aXc (xs (xs x0 0 (K1 (bR r n) 3)) 1 (K2 kk4 0 3)) k) (cDr r n kk4)
theorem cNw (kk4 : gJ) : D119 r n pA (xs (xs x0 0 (K1 (bR r n) 3)) 1 (K2 kk4 0 3)) (K2 (fS r n kk4) 0 3) = (K2 (bMz r n kk4) 0 3) :=
 (bWp r n kk4).trans
 ((by kernel_rfl))
theorem cLe (kk4 : gJ) : D119 r n pS (xs (xs x0 0 (K1 (bR r n) 3)) 1 (K2 kk4 0 3)) (K2 (fS r n kk4) 0 3) = (K3 (aPp r n kk4) 0 3 20) :=
 (by kernel_rfl : D119 r n pS (xs (xs x0 0 (K1 (bR r n) 3)) 1 (K2 kk4 0 3)) (K2 (fS r n kk4) 0 3) = (fun (env : aY) (h : Hp) => aQ (opr env (cC pS)) (D119 r n pA (xs (xs x0 0 (K1 (bR r n) 3)) 1 (K2 kk4 0 3)) (K2 (fS r n kk4) 0 3) env h) (D119 r n cPy (xs (xs x0 0 (K1 (bR r n) 3)) 1 (K2 kk4 0 3)) (K2 (fS r n kk4) 0 3) env h))).trans (by rw [cNw r n kk4]; kernel_rfl)
theorem bTe (kk4 : gJ) : D119 r n aCt (xs (xs x0 0 (K1 (bR r n) 3)) 1 (K2 kk4 0 3)) (K2 kk4 0 3) = D119 r n oU (xs (xs x0 0 (K1 (bR r n) 3)) 1 (K2 kk4 0 3)) (K2 (fS r n kk4) 0 3) :=
 congrArg (fun k => D119 r n oU (xs (xs x0 0 (K1 (bR r n) 3)) 1 (K2 kk4 0 3)) k) (cGr r n kk4)
theorem bLr (kk4 : gJ) : D119 r n oU (xs (xs x0 0 (K1 (bR r n) 3)) 1 (K2 kk4 0 3)) (K2 (fS r n kk4) 0 3) = D119 r n aXx (xs (xs x0 0 (K1 (bR r n) 3)) 1 (K2 kk4 0 3)) (K3 (aPp r n kk4) 0 3 20) :=
 congrArg (fun k => D119 r n aXx (xs (xs x0 0 (K1 (bR r n) 3)) 1 (K2 kk4 0 3)) k) (cLe r n kk4)
theorem cKr (kk4 : gJ) : D119 r n aUh (xs x0 0 (K1 (bR r n) 3)) (K2 kk4 0 3) = (K2 (aVb r n kk4) 0 3) :=
 (by kernel_rfl : D119 r n aUh (xs x0 0 (K1 (bR r n) 3)) (K2 kk4 0 3) = D119 r n aCt (xs (xs x0 0 (K1 (bR r n) 3)) 1 (K2 kk4 0 3)) (K2 kk4 0 3)).trans
 ((bTe r n kk4).trans
 ((bLr r n kk4).trans
 ((by kernel_rfl))))
theorem bIp (kk4 : gJ) : D119 r n jX (xs x0 0 (K1 (bR r n) 3)) (K2 kk4 0 3) = D119 r n bAe (xs x0 0 (K1 (bR r n) 3)) (K2 (aVb r n kk4) 0 3) :=
 congrArg (fun k => D119 r n bAe (xs x0 0 (K1 (bR r n) 3)) k) (cKr r n kk4)
theorem bUy (kk4 : gJ) : D119 r n jX (xs x0 0 (K1 (bR r n) 3)) (K2 kk4 0 3) = (K2 (bCz r n kk4) 0 3) :=
 (bIp r n kk4).trans
 ((by kernel_rfl))
theorem bRw (m : Nat) : aN (fun kk => D119 r n jX (xs x0 0 (K1 (bR r n) 3)) kk) m = (K2 (tX r n m) 0 3) := by
 induction m with
 | zero => exact (by kernel_rfl : aN (fun kk => D119 r n jX (xs x0 0 (K1 (bR r n) 3)) kk) 0 = (K2 (tX r n 0) 0 3))
 | succ m ih =>
  refine (by kernel_rfl : aN (fun kk => D119 r n jX (xs x0 0 (K1 (bR r n) 3)) kk) (m + 1) = D119 r n jX (xs x0 0 (K1 (bR r n) 3)) (aN (fun kk => D119 r n jX (xs x0 0 (K1 (bR r n) 3)) kk) m)).trans ?_
  rw [ih]
  exact (bUy r n (tX r n m)).trans (by kernel_rfl)
theorem cKw : D119 r n aKg (xs x0 0 (K1 (bR r n) 3)) (K1 (bR r n) 3) = (K2 (bRr r n) 0 3) :=
 (by kernel_rfl : D119 r n aKg (xs x0 0 (K1 (bR r n) 3)) (K1 (bR r n) 3) = aN (fun kk => D119 r n jX (xs x0 0 (K1 (bR r n) 3)) kk) n).trans ((bRw r n n).trans (by kernel_rfl))
theorem bMe : D119 r n aHz x0 r119 = D119 r n aHq x0 (K1 (bR r n) 3) :=
 congrArg (fun k => D119 r n aHq x0 k) (cQg r n)
theorem cGy : D119 r n aHz x0 r119 = (K2 (aPo r n) 0 3) :=
 (bMe r n).trans
 ((by kernel_rfl : D119 r n aHq x0 (K1 (bR r n) 3) = D119 r n aKg (xs x0 0 (K1 (bR r n) 3)) (K1 (bR r n) 3)).trans
 ((cKw r n).trans (by kernel_rfl)))
theorem bFb : D119 r n aEj x0 r119 = D119 r n bAy x0 (K2 (aPo r n) 0 3) :=
 congrArg (fun k => D119 r n bAy x0 k) (cGy r n)
theorem cDi : D119 r n aEj x0 r119 = (K1 (aPs r n) 0) :=
 (bFb r n).trans
 ((by kernel_rfl))
theorem cLn : D119 r n c119 x0 r119 = D119 r n aWo x0 (K1 (aPs r n) 0) :=
 congrArg (fun k => D119 r n aWo x0 k) (cDi r n)
theorem dGm : D119 r n c119 x0 r119 = (K1 (s119 r n) 0) :=
 (cLn r n).trans
 ((by kernel_rfl))
theorem cZp : aF CF r n 119 args h = s119 r n (aS args 0) h :=
 (by kernel_rfl : aF CF r n 119 args h = D119 r n c119 x0 r119 (aI args) h).trans ((congrFun (congrFun (dGm r n) (aI args)) h).trans (by kernel_rfl))
noncomputable def s120 (r : RT) (n : Nat) (x0 x1 x2 : DV) (h0 : Hp) : aJ :=
 bnd (bL [(aE 0), (.s []), (aE 0), (aE 0)] h0) fun v1 h1 =>
 bnd (r 133 [x0, x1, x2] h1) fun v2 h2 =>
 bnd (gI .not v2 h2) fun v3 h3 =>
 aQ v3 (
 bnd (r 137 [x0, (aE 0)] h3) fun v4 h4 =>
 bnd (r 136 [x0, v4, (aE 13)] h4) fun v5 h5 =>
 bnd (bB [(aE 0), (.s []), (aE 0), (aE 0)] [] h5) fun v6 h6 =>
 bnd (aG 4 v1 v6 h6) fun _ h7 =>
 bnd (aK 4 v1 h7) fun v8 _ =>
 some (v8, h7)) (
 bnd (r 134 [x0] h3) fun v9 h9 =>
 bnd (aG 4 v1 v9 h9) fun _ h10 =>
 bnd (aK 4 v1 h10) fun v11 _ =>
 some (v11, h10))
noncomputable abbrev c120 : Code := cf Tryz.f120
noncomputable abbrev r120 : K := aT CF Tryz.f120
noncomputable def D120 (r : RT) (n : Nat) (c : Code) (X : Nat → K) (k : K) : K := aM CF r 19 n c X r120 k
theorem dHc : D120 r n c120 x0 r120 = (K3 (s120 r n) 0 1 2) :=
 (by kernel_rfl)
theorem cWp : aF CF r n 120 args h = s120 r n (aS args 0) (aS args 1) (aS args 2) h :=
 (by kernel_rfl : aF CF r n 120 args h = D120 r n c120 x0 r120 (aI args) h).trans ((congrFun (congrFun (dHc r n) (aI args)) h).trans (by kernel_rfl))
noncomputable def aWz (r : RT) (n : Nat) (kk6 : mP) (x0 x1 x4 : DV) (h0 : Hp) : aJ :=
 bnd (gD x4 false (some (x0, h0)) h0) fun v1 h1 =>
 bnd (gD x4 false (r 133 [v1, (aE 2), (.s [])] h1) h1) fun v2 h2 =>
 bnd (aO x4 (.b true) v2 h2) fun v3 h3 =>
 aQ v3 (
 bnd (aR x1 h3) fun v4 h4 =>
 bnd (aB 1 v4 h4) fun v5 h5 =>
 bnd (aA v5 h5) fun v6 h6 =>
 bnd (r 120 [x0, (aE 2), (.s [])] h6) fun v7 h7 =>
 cnd (bK (aA v5 h7) v6 && true) (
 bnd (fI 1 v7 h7) fun v8 h8 =>
 bnd (eM .add v6 v8 h8) fun v9 h9 =>
 bnd (aR x1 h9) fun v10 h10 =>
 bnd (aB 1 v10 h10) fun v11 h11 =>
 bnd (aG 1 v11 v9 h11) fun v12 h12 =>
 bnd (aR x1 (resv 1 h12)) fun v13 h13 =>
 bnd (aB 3 v13 h13) fun v14 h14 =>
 bnd (aA v14 h14) fun v15 h15 =>
 bnd (aR x1 h15) fun v16 h16 =>
 bnd (aB 3 v16 h16) fun v17 h17 =>
 bnd (aA v17 h17) fun v18 h18 =>
 bnd (r 138 [x0, (aE 1), v18] h18) fun v19 h19 =>
 cnd (bK (aA v14 h19) v15 && true) (
 bnd (bJ (bY 0 h12.next) [(.s [])] 1 [(0, 1, v19)] h19) fun v20 h20 =>
 bnd (aZ 1 16 v15 v20 h20) fun v21 h21 =>
 bnd (aR x1 h21) fun v22 h22 =>
 bnd (aB 3 v22 h22) fun v23 h23 =>
 bnd (aG 1 v23 v21 h23) fun v24 h24 =>
      kk6 x0 x1 (.b false) h24))) (
 some (.t [], h3))
noncomputable def uY (r : RT) (n : Nat) (m : Nat) : mP :=
 Nat.rec (motive := fun _ => mP) (fun _ _ _ _ => none) (fun _ ih => aWz r n ih) m
noncomputable def bLw (r : RT) (n : Nat) : mP := uY r n n
noncomputable def aOy (r : RT) (n : Nat) (x0 x1 x4 : DV) (h0 : Hp) : aJ :=
 bLw r n x0 x1 x4 h0
noncomputable def bSd (r : RT) (n : Nat) (x0 x1 : DV) (h0 : Hp) : aJ :=
 aOy r n x0 x1 (.b true) h0
noncomputable def aPq (r : RT) (n : Nat) (x0 x1 x44 : DV) (h0 : Hp) : aJ :=
 aQ x44 (
 bnd (r 134 [x0] h0) fun v1 h1 =>
 bnd (fI 1 v1 h1) fun v2 h2 =>
 bnd (aR x1 h2) fun v3 h3 =>
 bnd (aB 1 v3 h3) fun v4 h4 =>
 bnd (aG 1 v4 v2 h4) fun _ h5 =>
 bnd (aR x1 (resv 1 h5)) fun v6 h6 =>
 bnd (aB 3 v6 h6) fun v7 h7 =>
 bnd (aA v7 h7) fun v8 h8 =>
 bnd (aR x1 h8) fun v9 h9 =>
 bnd (aB 3 v9 h9) fun v10 h10 =>
 bnd (aA v10 h10) fun v11 h11 =>
 bnd (r 138 [x0, (aE 1), v11] h11) fun v12 h12 =>
 cnd (bK (aA v7 h12) v8 && true) (
 bnd (bJ (bY 0 h5.next) [(.s [])] 1 [(0, 1, v12)] h12) fun v13 h13 =>
 bnd (aZ 1 16 v8 v13 h13) fun v14 h14 =>
 bnd (aR x1 h14) fun v15 h15 =>
 bnd (aB 3 v15 h15) fun v16 h16 =>
 bnd (aG 1 v16 v14 h16) fun v17 h17 =>
 some (.t [], h17))) (
  bSd r n x0 x1 h0)
noncomputable def bRe (r : RT) (n : Nat) (x0 x1 : DV) (h0 : Hp) : aJ :=
 bnd (r 133 [x0, (aE 3), (.s [])] h0) fun v1 h1 =>
  aPq r n x0 x1 v1 h1
noncomputable def aPz (r : RT) (n : Nat) (x0 x1 x35 : DV) (h0 : Hp) : aJ :=
 aQ x35 (
 bnd (r 134 [x0] h0) fun v1 h1 =>
 bnd (fI 1 v1 h1) fun v2 h2 =>
 bnd (aR x1 h2) fun v3 h3 =>
 bnd (aB 1 v3 h3) fun v4 h4 =>
 bnd (aG 1 v4 v2 h4) fun _ h5 =>
 some (.t [], h5)) (
  bRe r n x0 x1 h0)
noncomputable def s121 (r : RT) (n : Nat) (x0 x1 : DV) (h0 : Hp) : aJ :=
 bnd (r 133 [x0, (aE 1), (.s [])] h0) fun v1 h1 =>
  aPz r n x0 x1 v1 h1
noncomputable abbrev c121 : Code := cf Tryz.f121
noncomputable abbrev aJr : Code := cL c121
noncomputable abbrev zJ : Code := cR aJr
noncomputable abbrev xA : Code := cR zJ
noncomputable abbrev yO : Code := cR xA
noncomputable abbrev vH : Code := cR yO
noncomputable abbrev aTd : Code := cR vH
noncomputable abbrev aFs : Code := cL aTd
noncomputable abbrev oG : Code := cL aFs
noncomputable abbrev bKr : Code := cL vH
noncomputable abbrev cIw : Code := cL yO
noncomputable abbrev bBt : Code := cL xA
noncomputable abbrev cNg : Code := cL zJ
noncomputable abbrev aZp : Code := cL aJr
noncomputable abbrev r121 : K := aT CF Tryz.f121
noncomputable def D121 (r : RT) (n : Nat) (c : Code) (X : Nat → K) (k : K) : K := aM CF r 68 n c X r121 k
theorem bWx (kk6 : mP) : D121 r n oG (xs (xs x0 0 r121) 1 r121) (K3 kk6 0 1 4) = (K3 (aWz r n kk6) 0 1 4) :=
 (by kernel_rfl)
theorem bSp (m : Nat) : aN (fun kk => D121 r n oG (xs (xs x0 0 r121) 1 r121) kk) m = (K3 (uY r n m) 0 1 4) := by
 induction m with
 | zero => exact (by kernel_rfl : aN (fun kk => D121 r n oG (xs (xs x0 0 r121) 1 r121) kk) 0 = (K3 (uY r n 0) 0 1 4))
 | succ m ih =>
  refine (by kernel_rfl : aN (fun kk => D121 r n oG (xs (xs x0 0 r121) 1 r121) kk) (m + 1) = D121 r n oG (xs (xs x0 0 r121) 1 r121) (aN (fun kk => D121 r n oG (xs (xs x0 0 r121) 1 r121) kk) m)).trans ?_
  rw [ih]
  exact (bWx r n (uY r n m)).trans (by kernel_rfl)
theorem cNz : D121 r n aFs (xs (xs x0 0 r121) 1 r121) r121 = (K3 (bLw r n) 0 1 4) :=
 (by kernel_rfl : D121 r n aFs (xs (xs x0 0 r121) 1 r121) r121 = aN (fun kk => D121 r n oG (xs (xs x0 0 r121) 1 r121) kk) n).trans ((bSp r n n).trans (by kernel_rfl))
theorem cFy : D121 r n aTd (xs x0 0 r121) r121 = (K3 (aOy r n) 0 1 4) :=
 (by kernel_rfl : D121 r n aTd (xs x0 0 r121) r121 = D121 r n aFs (xs (xs x0 0 r121) 1 r121) r121).trans
 ((cNz r n).trans (by kernel_rfl))
theorem bJw : D121 r n vH (xs x0 0 r121) r121 = D121 r n bKr (xs x0 0 r121) (K3 (aOy r n) 0 1 4) :=
 congrArg (fun k => D121 r n bKr (xs x0 0 r121) k) (cFy r n)
theorem cGd : D121 r n vH (xs x0 0 r121) r121 = (K2 (bSd r n) 0 1) :=
 (bJw r n).trans
 ((by kernel_rfl))
theorem cNp : D121 r n yO (xs x0 0 r121) r121 = (K3 (aPq r n) 0 1 44) :=
 (by kernel_rfl : D121 r n yO (xs x0 0 r121) r121 = (fun (env : aY) (h : Hp) => aQ (opr env (cC yO)) (D121 r n cIw (xs x0 0 r121) r121 env h) (D121 r n vH (xs x0 0 r121) r121 env h))).trans (by rw [cGd r n]; kernel_rfl)
theorem bRh : D121 r n xA (xs x0 0 r121) r121 = D121 r n bBt (xs x0 0 r121) (K3 (aPq r n) 0 1 44) :=
 congrArg (fun k => D121 r n bBt (xs x0 0 r121) k) (cNp r n)
theorem cGc : D121 r n xA (xs x0 0 r121) r121 = (K2 (bRe r n) 0 1) :=
 (bRh r n).trans
 ((by kernel_rfl))
theorem cOl : D121 r n zJ (xs x0 0 r121) r121 = (K3 (aPz r n) 0 1 35) :=
 (by kernel_rfl : D121 r n zJ (xs x0 0 r121) r121 = (fun (env : aY) (h : Hp) => aQ (opr env (cC zJ)) (D121 r n cNg (xs x0 0 r121) r121 env h) (D121 r n xA (xs x0 0 r121) r121 env h))).trans (by rw [cGc r n]; kernel_rfl)
theorem dFb : D121 r n aJr (xs x0 0 r121) r121 = D121 r n aZp (xs x0 0 r121) (K3 (aPz r n) 0 1 35) :=
 congrArg (fun k => D121 r n aZp (xs x0 0 r121) k) (cOl r n)
theorem dHt : D121 r n c121 x0 r121 = (K2 (s121 r n) 0 1) :=
 (by kernel_rfl : D121 r n c121 x0 r121 = D121 r n aJr (xs x0 0 r121) r121).trans
 ((dFb r n).trans
 ((by kernel_rfl)))
theorem cUo : aF CF r n 121 args h = s121 r n (aS args 0) (aS args 1) h :=
 (by kernel_rfl : aF CF r n 121 args h = D121 r n c121 x0 r121 (aI args) h).trans ((congrFun (congrFun (dHt r n) (aI args)) h).trans (by kernel_rfl))
noncomputable def aGx (r : RT) (n : Nat) (x0 x3 : DV) (h0 : Hp) : aJ :=
 bnd (r 120 [x0, (aE 3), (.s [62])] h0) fun v1 h1 =>
 bnd (aB 2 x3 h1) fun v2 h2 =>
 bnd (aA v2 h2) fun v3 h3 =>
 some (v3, h3)
noncomputable def xL (r : RT) (n : Nat) (x0 x3 : DV) (h0 : Hp) : aJ :=
 bnd (aB 2 x3 h0) fun v1 h1 =>
 bnd (aA v1 h1) fun v2 h2 =>
 bnd (aD .gtr v2 (aE 255) h2) fun v3 h3 =>
 aQ v3 (
 bnd (aK 4 x3 h3) fun v4 h4 =>
 bnd (r 136 [x0, v4, (aE 2)] h4) fun v5 h5 =>
  aGx r n x0 x3 h5) (
  aGx r n x0 x3 h3)
noncomputable def aFp (r : RT) (n : Nat) (x0 : DV) (h0 : Hp) : aJ :=
 bnd (r 120 [x0, (aE 4), (.s [])] h0) fun v1 h1 =>
 bnd (bL [(aE 0), (.s []), (aE 0), (aE 0)] h1) fun v2 h2 =>
 bnd (aG 4 v2 v1 h2) fun _ h3 =>
  xL r n x0 v2 h3
noncomputable def aUp (r : RT) (n : Nat) (x0 : DV) (h0 : Hp) : aJ :=
 bnd (r 120 [x0, (aE 2), (.s [112, 114, 105, 109, 105, 116, 105, 118, 101, 58])] h0) fun v1 h1 =>
  aFp r n x0 h1
noncomputable def aSy (r : RT) (n : Nat) (x0 : DV) (h0 : Hp) : aJ :=
 bnd (r 134 [x0] h0) fun v1 h1 =>
  aUp r n x0 h1
noncomputable def aPn (r : RT) (n : Nat) (x0 : DV) (h0 : Hp) : aJ :=
 bnd (r 133 [x0, (aE 3), (.s [60])] h0) fun v1 h1 =>
 bnd (gI .not v1 h1) fun v2 h2 =>
 aQ v2 (
 some ((aE 0), h2)) (
  aSy r n x0 h2)
noncomputable def s122 (r : RT) (n : Nat) (x0 : DV) (h0 : Hp) : aJ :=
 aPn r n x0 h0
noncomputable abbrev c122 : Code := cf Tryz.f122
noncomputable abbrev aFh : Code := cR c122
noncomputable abbrev aCc : Code := cR aFh
noncomputable abbrev aCx : Code := cR aCc
noncomputable abbrev aGh : Code := cR aCx
noncomputable abbrev aJe : Code := cR aGh
noncomputable abbrev cXt : Code := cR aJe
noncomputable abbrev bMy : Code := cL aJe
noncomputable abbrev aQv : Code := cL aGh
noncomputable abbrev bZc : Code := cL aCx
noncomputable abbrev bBw : Code := cL aCc
noncomputable abbrev aYl : Code := cL aFh
noncomputable abbrev bAz : Code := cL c122
noncomputable abbrev r122 : K := aT CF Tryz.f122
noncomputable def D122 (r : RT) (n : Nat) (c : Code) (X : Nat → K) (k : K) : K := aM CF r 23 n c X r122 k
theorem cHk : D122 r n cXt x0 r122 = (K2 (aGx r n) 0 3) :=
 (by kernel_rfl)
theorem bTf : D122 r n aJe x0 r122 = D122 r n bMy x0 (K2 (aGx r n) 0 3) :=
 congrArg (fun k => D122 r n bMy x0 k) (cHk r n)
theorem cKc : D122 r n aJe x0 r122 = (K2 (xL r n) 0 3) :=
 (bTf r n).trans
 ((by kernel_rfl))
theorem cCa : D122 r n aGh x0 r122 = D122 r n aQv x0 (K2 (xL r n) 0 3) :=
 congrArg (fun k => D122 r n aQv x0 k) (cKc r n)
theorem bYv (q0 : gJ) : D122 r n aQv x0 (K2 q0 0 3) = fun (env : aY) (h : Hp) =>
 bnd (r 120 [(env 0), (aE 4), (.s [])] h) fun v1 h1 =>
 bnd (bL [(aE 0), (.s []), (aE 0), (aE 0)] h1) fun v2 h2 =>
 bnd (aG 4 v2 v1 h2) fun _ h3 =>
  q0 (env 0) v2 h3 := by kernel_rfl
theorem bHb : (fun (env : aY) (h : Hp) =>
 bnd (r 120 [(env 0), (aE 4), (.s [])] h) fun v1 h1 =>
 bnd (bL [(aE 0), (.s []), (aE 0), (aE 0)] h1) fun v2 h2 =>
 bnd (aG 4 v2 v1 h2) fun _ h3 =>
  xL r n (env 0) v2 h3) = (K1 (aFp r n) 0) := by kernel_rfl
theorem cPo : D122 r n aGh x0 r122 = (K1 (aFp r n) 0) :=
 (cCa r n).trans
 ((bYv r n (xL r n)).trans (bHb r n))
theorem bYc : D122 r n aCx x0 r122 = D122 r n bZc x0 (K1 (aFp r n) 0) :=
 congrArg (fun k => D122 r n bZc x0 k) (cPo r n)
theorem cFl : D122 r n aCx x0 r122 = (K1 (aUp r n) 0) :=
 (bYc r n).trans
 ((by kernel_rfl))
theorem bPd : D122 r n aCc x0 r122 = D122 r n bBw x0 (K1 (aUp r n) 0) :=
 congrArg (fun k => D122 r n bBw x0 k) (cFl r n)
theorem cEs : D122 r n aCc x0 r122 = (K1 (aSy r n) 0) :=
 (bPd r n).trans
 ((by kernel_rfl))
theorem bQm : D122 r n aFh x0 r122 = D122 r n aYl x0 (K1 (aSy r n) 0) :=
 congrArg (fun k => D122 r n aYl x0 k) (cEs r n)
theorem cJt : D122 r n aFh x0 r122 = (K1 (aPn r n) 0) :=
 (bQm r n).trans
 ((by kernel_rfl))
theorem dFd : D122 r n c122 x0 r122 = D122 r n bAz x0 (K1 (aPn r n) 0) :=
 congrArg (fun k => D122 r n bAz x0 k) (cJt r n)
theorem dKt : D122 r n c122 x0 r122 = (K1 (s122 r n) 0) :=
 (dFd r n).trans
 ((by kernel_rfl))
theorem dDi : aF CF r n 122 args h = s122 r n (aS args 0) h :=
 (by kernel_rfl : aF CF r n 122 args h = D122 r n c122 x0 r122 (aI args) h).trans ((congrFun (congrFun (dKt r n) (aI args)) h).trans (by kernel_rfl))
noncomputable def aIo (r : RT) (n : Nat) (x0 : DV) (h0 : Hp) : aJ :=
 bnd (r 141 [x0, (aE 20), (aE 0), (aE 0)] h0) fun v1 h1 =>
 some (.t [], h1)
noncomputable def cO (r : RT) (n : Nat) (x0 x2 : DV) (h0 : Hp) : aJ :=
 aQ x2 (
 bnd (r 141 [x0, (aE 2), (aE 0), (aE 0)] h0) fun v1 h1 =>
  aIo r n x0 h1) (
 bnd (r 141 [x0, (aE 1), (aE 0), (aE 0)] h0) fun v2 h2 =>
  aIo r n x0 h2)
noncomputable def lC (r : RT) (n : Nat) (kk8 : fF) (x0 x2 x6 x22 x23 x24 : DV) (h0 : Hp) : aJ :=
 bnd (aD .add x24 (aE 1) h0) fun v1 h1 =>
  kk8 x0 x2 x6 x22 x23 v1 h1
noncomputable def tS (r : RT) (n : Nat) (kk8 : fF) (x0 x2 x6 x22 x23 x24 : DV) (h0 : Hp) : aJ :=
 bnd (aH 6 x22 x24 h0) fun v1 h1 =>
 bnd (aK 6 v1 h1) fun v2 h2 =>
 bnd (bL gY h2) fun v3 h3 =>
 bnd (aG 6 v3 v2 h3) fun _ h4 =>
 bnd (aK 6 v3 h4) fun v5 h5 =>
 bnd (r 140 [x0, v5] h5) fun v6 h6 =>
 bnd (aD .eql x24 x6 h6) fun v7 h7 =>
 bnd (gD v7 true (aB 0 v3 h7) h7) fun v8 h8 =>
 bnd (gD v7 true (aA v8 h8) h8) fun v9 h9 =>
 bnd (gD v7 true (aD .eql v9 (aE 10) h9) h9) fun v10 h10 =>
 bnd (aO v7 v10 (.b false) h10) fun v11 h11 =>
 aQ v11 (
 some (.t [], h11)) (
 bnd (aD .eql x24 x6 h11) fun v12 h12 =>
 bnd (gD v12 true (some (x2, h12)) h12) fun v13 h13 =>
 bnd (aO v12 v13 (.b false) h13) fun v14 h14 =>
 aQ v14 (
 bnd (r 141 [x0, (aE 20), (aE 0), (aE 0)] h14) fun v15 h15 =>
 some (.t [], h15)) (
 bnd (aB 0 v3 h14) fun v16 h16 =>
 bnd (aA v16 h16) fun v17 h17 =>
 bnd (aD .eql v17 (aE 10) h17) fun v18 h18 =>
 aQ v18 (
    lC r n kk8 x0 x2 x6 x22 x23 x24 h18) (
 bnd (r 141 [x0, (aE 12), (aE 0), (aE 0)] h18) fun v19 h19 =>
    lC r n kk8 x0 x2 x6 x22 x23 x24 h19)))
noncomputable def aUu (r : RT) (n : Nat) (kk8 : fF) (x0 x2 x6 x22 x23 x24 x25 : DV) (h0 : Hp) : aJ :=
 aQ x25 (
  tS r n kk8 x0 x2 x6 x22 x23 x24 h0) (
  cO r n x0 x2 h0)
noncomputable def bCg (r : RT) (n : Nat) (kk8 : fF) (x0 x2 x6 x22 x23 x24 : DV) (h0 : Hp) : aJ :=
 bnd (aD .lss x24 x23 h0) fun v1 h1 =>
  aUu r n kk8 x0 x2 x6 x22 x23 x24 v1 h1
noncomputable def uV (r : RT) (n : Nat) (m : Nat) : fF :=
 Nat.rec (motive := fun _ => fF) (fun _ _ _ _ _ _ _ => none) (fun _ ih => bCg r n ih) m
noncomputable def cAi (r : RT) (n : Nat) : fF := uV r n n
noncomputable def aOq (r : RT) (n : Nat) (x0 x2 x6 x22 x23 x24 : DV) (h0 : Hp) : aJ :=
 cAi r n x0 x2 x6 x22 x23 x24 h0
noncomputable def aRt (r : RT) (n : Nat) (x0 x2 x4 x6 : DV) (h0 : Hp) : aJ :=
 bnd (aB 5 x4 h0) fun v1 h1 =>
 bnd (aA v1 h1) fun v2 h2 =>
 bnd (bX v2 h2) fun v3 h3 =>
  aOq r n x0 x2 x6 v2 v3 (aE 0) h3
noncomputable def aRp (r : RT) (n : Nat) (x0 x2 x4 : DV) (h0 : Hp) : aJ :=
 bnd (aB 5 x4 h0) fun v1 h1 =>
 bnd (aA v1 h1) fun v2 h2 =>
 bnd (bX v2 h2) fun v3 h3 =>
 bnd (aD .sub v3 (aE 1) h3) fun v4 h4 =>
  aRt r n x0 x2 x4 v4 h4
noncomputable def aTv (r : RT) (n : Nat) (x0 x2 x4 : DV) (h0 : Hp) : aJ :=
 bnd (aB 4 x4 h0) fun v1 h1 =>
 bnd (aA v1 h1) fun v2 h2 =>
 bnd (r 139 [x0, v2, (.b false)] h2) fun v3 h3 =>
  aRp r n x0 x2 x4 h3
noncomputable def zV (r : RT) (n : Nat) (x0 x2 x4 : DV) (h0 : Hp) : aJ :=
 bnd (aB 3 x4 h0) fun v1 h1 =>
 bnd (aA v1 h1) fun v2 h2 =>
 bnd (r 139 [x0, v2, (.b true)] h2) fun v3 h3 =>
  aTv r n x0 x2 x4 h3
noncomputable def s123 (r : RT) (n : Nat) (x0 x1 x2 : DV) (h0 : Hp) : aJ :=
 bnd (bS x1 h0) fun v1 h1 =>
  zV r n x0 x2 v1 h1
noncomputable abbrev c123 : Code := cf Tryz.f123
noncomputable abbrev aGr : Code := cR c123
noncomputable abbrev aGi : Code := cR aGr
noncomputable abbrev aKl : Code := cR aGi
noncomputable abbrev aDk : Code := cR aKl
noncomputable abbrev aBv : Code := cR aDk
noncomputable abbrev cYc : Code := cR aBv
noncomputable abbrev bQg : Code := cL aBv
noncomputable abbrev wM : Code := cL aDk
noncomputable abbrev aQa : Code := cR wM
noncomputable abbrev uA : Code := cL aQa
noncomputable abbrev iH : Code := cL uA
noncomputable abbrev uE : Code := cR iH
noncomputable abbrev tU : Code := cR uE
noncomputable abbrev cNc : Code := cR tU
noncomputable abbrev aCu : Code := cL tU
noncomputable abbrev bBl : Code := cL uE
noncomputable abbrev bCh : Code := cL iH
noncomputable abbrev bCb : Code := cL wM
noncomputable abbrev bAs : Code := cL aKl
noncomputable abbrev aYo : Code := cL aGi
noncomputable abbrev aWe : Code := cL aGr
noncomputable abbrev aEb : Code := cL c123
noncomputable abbrev r123 : K := aT CF Tryz.f123
noncomputable def D123 (r : RT) (n : Nat) (c : Code) (X : Nat → K) (k : K) : K := aM CF r 64 n c X r123 k
theorem cMj : D123 r n cYc x0 r123 = (K1 (aIo r n) 0) :=
 (by kernel_rfl)
theorem bNt : D123 r n aBv x0 r123 = D123 r n bQg x0 (K1 (aIo r n) 0) :=
 congrArg (fun k => D123 r n bQg x0 k) (cMj r n)
theorem cJc : D123 r n aBv x0 r123 = (K2 (cO r n) 0 2) :=
 (bNt r n).trans
 ((by kernel_rfl))
theorem bXu (kk8 : fF) : D123 r n cNc (xs x0 0 (K2 (cO r n) 0 2)) (K6 kk8 0 2 6 22 23 24) = (K6 (lC r n kk8) 0 2 6 22 23 24) :=
 (by kernel_rfl)
theorem bHm (kk8 : fF) : D123 r n tU (xs x0 0 (K2 (cO r n) 0 2)) (K6 kk8 0 2 6 22 23 24) = D123 r n aCu (xs x0 0 (K2 (cO r n) 0 2)) (K6 (lC r n kk8) 0 2 6 22 23 24) :=
 congrArg (fun k => D123 r n aCu (xs x0 0 (K2 (cO r n) 0 2)) k) (bXu r n kk8)
theorem bFc (kk8 : fF) (q0 : fF) (q1 : gJ) : D123 r n aCu (xs x0 0 (K2 q1 0 2)) (K6 q0 0 2 6 22 23 24) = fun (env : aY) (h : Hp) =>
 bnd (aH 6 (env 22) (env 24) h) fun v1 h1 =>
 bnd (aK 6 v1 h1) fun v2 h2 =>
 bnd (bL gY h2) fun v3 h3 =>
 bnd (aG 6 v3 v2 h3) fun _ h4 =>
 bnd (aK 6 v3 h4) fun v5 h5 =>
 bnd (r 140 [(env 0), v5] h5) fun v6 h6 =>
 bnd (aD .eql (env 24) (env 6) h6) fun v7 h7 =>
 bnd (gD v7 true (aB 0 v3 h7) h7) fun v8 h8 =>
 bnd (gD v7 true (aA v8 h8) h8) fun v9 h9 =>
 bnd (gD v7 true (aD .eql v9 (aE 10) h9) h9) fun v10 h10 =>
 bnd (aO v7 v10 (.b false) h10) fun v11 h11 =>
 aQ v11 (
 some (.t [], h11)) (
 bnd (aD .eql (env 24) (env 6) h11) fun v12 h12 =>
 bnd (gD v12 true (some ((env 2), h12)) h12) fun v13 h13 =>
 bnd (aO v12 v13 (.b false) h13) fun v14 h14 =>
 aQ v14 (
 bnd (r 141 [(env 0), (aE 20), (aE 0), (aE 0)] h14) fun v15 h15 =>
 some (.t [], h15)) (
 bnd (aB 0 v3 h14) fun v16 h16 =>
 bnd (aA v16 h16) fun v17 h17 =>
 bnd (aD .eql v17 (aE 10) h17) fun v18 h18 =>
 aQ v18 (
     q0 (env 0) (env 2) (env 6) (env 22) (env 23) (env 24) h18) (
 bnd (r 141 [(env 0), (aE 12), (aE 0), (aE 0)] h18) fun v19 h19 =>
     q0 (env 0) (env 2) (env 6) (env 22) (env 23) (env 24) h19))) := by kernel_rfl
theorem aOo (kk8 : fF) : (fun (env : aY) (h : Hp) =>
 bnd (aH 6 (env 22) (env 24) h) fun v1 h1 =>
 bnd (aK 6 v1 h1) fun v2 h2 =>
 bnd (bL gY h2) fun v3 h3 =>
 bnd (aG 6 v3 v2 h3) fun _ h4 =>
 bnd (aK 6 v3 h4) fun v5 h5 =>
 bnd (r 140 [(env 0), v5] h5) fun v6 h6 =>
 bnd (aD .eql (env 24) (env 6) h6) fun v7 h7 =>
 bnd (gD v7 true (aB 0 v3 h7) h7) fun v8 h8 =>
 bnd (gD v7 true (aA v8 h8) h8) fun v9 h9 =>
 bnd (gD v7 true (aD .eql v9 (aE 10) h9) h9) fun v10 h10 =>
 bnd (aO v7 v10 (.b false) h10) fun v11 h11 =>
 aQ v11 (
 some (.t [], h11)) (
 bnd (aD .eql (env 24) (env 6) h11) fun v12 h12 =>
 bnd (gD v12 true (some ((env 2), h12)) h12) fun v13 h13 =>
 bnd (aO v12 v13 (.b false) h13) fun v14 h14 =>
 aQ v14 (
 bnd (r 141 [(env 0), (aE 20), (aE 0), (aE 0)] h14) fun v15 h15 =>
 some (.t [], h15)) (
 bnd (aB 0 v3 h14) fun v16 h16 =>
 bnd (aA v16 h16) fun v17 h17 =>
 bnd (aD .eql v17 (aE 10) h17) fun v18 h18 =>
 aQ v18 (
     lC r n kk8 (env 0) (env 2) (env 6) (env 22) (env 23) (env 24) h18) (
 bnd (r 141 [(env 0), (aE 12), (aE 0), (aE 0)] h18) fun v19 h19 =>
     lC r n kk8 (env 0) (env 2) (env 6) (env 22) (env 23) (env 24) h19)))) = (K6 (tS r n kk8) 0 2 6 22 23 24) := by kernel_rfl
theorem cCc (kk8 : fF) : D123 r n tU (xs x0 0 (K2 (cO r n) 0 2)) (K6 kk8 0 2 6 22 23 24) = (K6 (tS r n kk8) 0 2 6 22 23 24) :=
 (bHm r n kk8).trans
 ((bFc r n kk8 (lC r n kk8) (cO r n)).trans (aOo r n kk8))
theorem bXi (kk8 : fF) : D123 r n uE (xs x0 0 (K2 (cO r n) 0 2)) (K6 kk8 0 2 6 22 23 24) = D123 r n bBl (xs x0 0 (K2 (cO r n) 0 2)) (K6 (tS r n kk8) 0 2 6 22 23 24) :=
 congrArg (fun k => D123 r n bBl (xs x0 0 (K2 (cO r n) 0 2)) k) (cCc r n kk8)
theorem cPw (kk8 : fF) : D123 r n uE (xs x0 0 (K2 (cO r n) 0 2)) (K6 kk8 0 2 6 22 23 24) = (K7 (aUu r n kk8) 0 2 6 22 23 24 25) :=
 (bXi r n kk8).trans
 ((by kernel_rfl))
theorem bYo (kk8 : fF) : D123 r n iH (xs x0 0 (K2 (cO r n) 0 2)) (K6 kk8 0 2 6 22 23 24) = D123 r n bCh (xs x0 0 (K2 (cO r n) 0 2)) (K7 (aUu r n kk8) 0 2 6 22 23 24 25) :=
 congrArg (fun k => D123 r n bCh (xs x0 0 (K2 (cO r n) 0 2)) k) (cPw r n kk8)
theorem bPj (kk8 : fF) : D123 r n iH (xs x0 0 (K2 (cO r n) 0 2)) (K6 kk8 0 2 6 22 23 24) = (K6 (bCg r n kk8) 0 2 6 22 23 24) :=
 (bYo r n kk8).trans
 ((by kernel_rfl))
theorem bOz (m : Nat) : aN (fun kk => D123 r n iH (xs x0 0 (K2 (cO r n) 0 2)) kk) m = (K6 (uV r n m) 0 2 6 22 23 24) := by
 induction m with
 | zero => exact (by kernel_rfl : aN (fun kk => D123 r n iH (xs x0 0 (K2 (cO r n) 0 2)) kk) 0 = (K6 (uV r n 0) 0 2 6 22 23 24))
 | succ m ih =>
  refine (by kernel_rfl : aN (fun kk => D123 r n iH (xs x0 0 (K2 (cO r n) 0 2)) kk) (m + 1) = D123 r n iH (xs x0 0 (K2 (cO r n) 0 2)) (aN (fun kk => D123 r n iH (xs x0 0 (K2 (cO r n) 0 2)) kk) m)).trans ?_
  rw [ih]
  exact (bPj r n (uV r n m)).trans (by kernel_rfl)
theorem cRv : D123 r n uA (xs x0 0 (K2 (cO r n) 0 2)) (K2 (cO r n) 0 2) = (K6 (cAi r n) 0 2 6 22 23 24) :=
 (by kernel_rfl : D123 r n uA (xs x0 0 (K2 (cO r n) 0 2)) (K2 (cO r n) 0 2) = aN (fun kk => D123 r n iH (xs x0 0 (K2 (cO r n) 0 2)) kk) n).trans ((bOz r n n).trans (by kernel_rfl))
theorem cMc : D123 r n aQa x0 (K2 (cO r n) 0 2) = (K6 (aOq r n) 0 2 6 22 23 24) :=
 (by kernel_rfl : D123 r n aQa x0 (K2 (cO r n) 0 2) = D123 r n uA (xs x0 0 (K2 (cO r n) 0 2)) (K2 (cO r n) 0 2)).trans
 ((cRv r n).trans (by kernel_rfl))
theorem bPx : D123 r n aDk x0 r123 = D123 r n wM x0 (K2 (cO r n) 0 2) :=
 congrArg (fun k => D123 r n wM x0 k) (cJc r n)
theorem bVg : D123 r n wM x0 (K2 (cO r n) 0 2) = D123 r n bCb x0 (K6 (aOq r n) 0 2 6 22 23 24) :=
 congrArg (fun k => D123 r n bCb x0 k) (cMc r n)
theorem cNt : D123 r n aDk x0 r123 = (K4 (aRt r n) 0 2 4 6) :=
 (bPx r n).trans
 ((bVg r n).trans
 ((by kernel_rfl)))
theorem bMx : D123 r n aKl x0 r123 = D123 r n bAs x0 (K4 (aRt r n) 0 2 4 6) :=
 congrArg (fun k => D123 r n bAs x0 k) (cNt r n)
theorem cPf : D123 r n aKl x0 r123 = (K3 (aRp r n) 0 2 4) :=
 (bMx r n).trans
 ((by kernel_rfl))
theorem bKu : D123 r n aGi x0 r123 = D123 r n aYo x0 (K3 (aRp r n) 0 2 4) :=
 congrArg (fun k => D123 r n aYo x0 k) (cPf r n)
theorem cRc : D123 r n aGi x0 r123 = (K3 (aTv r n) 0 2 4) :=
 (bKu r n).trans
 ((by kernel_rfl))
theorem bGo : D123 r n aGr x0 r123 = D123 r n aWe x0 (K3 (aTv r n) 0 2 4) :=
 congrArg (fun k => D123 r n aWe x0 k) (cRc r n)
theorem cRp : D123 r n aGr x0 r123 = (K3 (zV r n) 0 2 4) :=
 (bGo r n).trans
 ((by kernel_rfl))
theorem cOw : D123 r n c123 x0 r123 = D123 r n aEb x0 (K3 (zV r n) 0 2 4) :=
 congrArg (fun k => D123 r n aEb x0 k) (cRp r n)
theorem cSg (q0 : mP) : D123 r n aEb x0 (K3 q0 0 2 4) = fun (env : aY) (h : Hp) =>
 bnd (bS (env 1) h) fun v1 h1 =>
  q0 (env 0) (env 2) v1 h1 := by kernel_rfl
theorem bQd : (fun (env : aY) (h : Hp) =>
 bnd (bS (env 1) h) fun v1 h1 =>
  zV r n (env 0) (env 2) v1 h1) = (K3 (s123 r n) 0 1 2) := by kernel_rfl
theorem dIh : D123 r n c123 x0 r123 = (K3 (s123 r n) 0 1 2) :=
 (cOw r n).trans
 ((cSg r n (zV r n)).trans (bQd r n))
theorem dFi : aF CF r n 123 args h = s123 r n (aS args 0) (aS args 1) (aS args 2) h :=
 (by kernel_rfl : aF CF r n 123 args h = D123 r n c123 x0 r123 (aI args) h).trans ((congrFun (congrFun (dIh r n) (aI args)) h).trans (by kernel_rfl))
noncomputable def s124 (r : RT) (n : Nat) (x0 : DV) (h0 : Hp) : aJ :=
 bnd (bS x0 h0) fun v1 h1 =>
 bnd (aB 0 v1 h1) fun v2 h2 =>
 bnd (aA v2 h2) fun v3 h3 =>
 bnd (r 142 [v3] h3) fun v4 h4 =>
 bnd (aC 0 v4 h4) fun v5 h5 =>
 bnd (aC 1 v4 h5) fun v6 h6 =>
 bnd (aB 0 v1 h6) fun v7 h7 =>
 bnd (aA v7 h7) fun v8 h8 =>
 bnd (aD .geq v8 (aE 1) h8) fun v9 h9 =>
 bnd (gD v9 true (aB 0 v1 h9) h9) fun v10 h10 =>
 bnd (gD v9 true (aA v10 h10) h10) fun v11 h11 =>
 bnd (gD v9 true (aD .leq v11 (aE 20) h11) h11) fun v12 h12 =>
 bnd (aO v9 v12 (.b false) h12) fun v13 h13 =>
 bnd (gD v13 true (aB 1 v1 h13) h13) fun v14 h14 =>
 bnd (gD v13 true (aA v14 h14) h14) fun v15 h15 =>
 bnd (gD v13 true (some (v5, h15)) h15) fun v16 h16 =>
 bnd (gD v13 true (r 143 [v15, v16] h16) h16) fun v17 h17 =>
 bnd (aO v13 v17 (.b false) h17) fun v18 h18 =>
 bnd (gD v18 true (aB 2 v1 h18) h18) fun v19 h19 =>
 bnd (gD v18 true (aA v19 h19) h19) fun v20 h20 =>
 bnd (gD v18 true (some (v6, h20)) h20) fun v21 h21 =>
 bnd (gD v18 true (r 143 [v20, v21] h21) h21) fun v22 h22 =>
 bnd (aO v18 v22 (.b false) h22) fun v23 h23 =>
 some (v23, h23)
noncomputable abbrev c124 : Code := cf Tryz.f124
noncomputable abbrev r124 : K := aT CF Tryz.f124
noncomputable def D124 (r : RT) (n : Nat) (c : Code) (X : Nat → K) (k : K) : K := aM CF r 31 n c X r124 k
theorem dMx : D124 r n c124 x0 r124 = (K1 (s124 r n) 0) :=
 (by kernel_rfl)
theorem dEu : aF CF r n 124 args h = s124 r n (aS args 0) h :=
 (by kernel_rfl : aF CF r n 124 args h = D124 r n c124 x0 r124 (aI args) h).trans ((congrFun (congrFun (dMx r n) (aI args)) h).trans (by kernel_rfl))
noncomputable def s125 (r : RT) (n : Nat) (x0 x1 : DV) (h0 : Hp) : aJ :=
 bnd (bS x0 h0) fun v1 h1 =>
 bnd (aK 6 v1 h1) fun v2 h2 =>
 bnd (r 144 [v2, x1] h2) fun v3 h3 =>
 bnd (aC 0 v3 h3) fun v4 h4 =>
 bnd (aC 1 v3 h4) fun v5 h5 =>
 some (v5, h5)
noncomputable abbrev c125 : Code := cf Tryz.f125
noncomputable abbrev r125 : K := aT CF Tryz.f125
noncomputable def D125 (r : RT) (n : Nat) (c : Code) (X : Nat → K) (k : K) : K := aM CF r 14 n c X r125 k
theorem dHi : D125 r n c125 x0 r125 = (K2 (s125 r n) 0 1) :=
 (by kernel_rfl)
theorem cXz : aF CF r n 125 args h = s125 r n (aS args 0) (aS args 1) h :=
 (by kernel_rfl : aF CF r n 125 args h = D125 r n c125 x0 r125 (aI args) h).trans ((congrFun (congrFun (dHi r n) (aI args)) h).trans (by kernel_rfl))
noncomputable def dZ (r : RT) (n : Nat) (x0 x6 : DV) (h0 : Hp) : aJ :=
 bnd (r 46 [x0, x6] h0) fun v1 h1 =>
 bnd (aC 0 v1 h1) fun v2 h2 =>
 bnd (aC 1 v1 h2) fun v3 h3 =>
 some (.t [v2, v3], h3)
noncomputable def aEa (r : RT) (n : Nat) (kk6 : cE) (x0 x6 x38 x39 x40 : DV) (h0 : Hp) : aJ :=
 bnd (aD .lss x40 x39 h0) fun v1 h1 =>
 aQ v1 (
 bnd (aH 4 x38 x40 h1) fun v2 h2 =>
 bnd (aK 4 v2 h2) fun v3 h3 =>
 bnd (bL [(aE 0), (.s []), (aE 0), .l0] h3) fun v4 h4 =>
 bnd (aG 4 v4 v3 h4) fun _ h5 =>
 bnd (aK 4 v4 h5) fun v6 h6 =>
 bnd (r 126 [x0, v6] h6) fun v7 h7 =>
 bnd (aC 0 v7 h7) fun v8 h8 =>
 bnd (aC 1 v7 h8) fun v9 h9 =>
 bnd (aD .neq v9 (aE 0) h9) fun v10 h10 =>
 aQ v10 (
 some (.t [(aE 0), v9], h10)) (
 bnd (aL [(aE 0)] 1 [(0, 1, v8)] h10) fun v11 h11 =>
 bnd (aZ 1 8 x6 v11 h11) fun v12 h12 =>
 bnd (aD .add x40 (aE 1) h12) fun v13 h13 =>
    kk6 x0 v12 x38 x39 v13 h13)) (
      dZ r n x0 x6 h1)
noncomputable def uO (r : RT) (n : Nat) (m : Nat) : cE :=
 Nat.rec (motive := fun _ => cE) (fun _ _ _ _ _ _ => none) (fun _ ih => aEa r n ih) m
noncomputable def bMt (r : RT) (n : Nat) : cE := uO r n n
noncomputable def aOd (r : RT) (n : Nat) (x0 x6 x38 x39 x40 : DV) (h0 : Hp) : aJ :=
 bMt r n x0 x6 x38 x39 x40 h0
noncomputable def aQy (r : RT) (n : Nat) (x0 x3 x6 : DV) (h0 : Hp) : aJ :=
 bnd (aB 3 x3 h0) fun v1 h1 =>
 bnd (aA v1 h1) fun v2 h2 =>
 bnd (bX v2 h2) fun v3 h3 =>
  aOd r n x0 x6 v2 v3 (aE 0) h3
noncomputable def aTh (r : RT) (n : Nat) (x0 x3 : DV) (h0 : Hp) : aJ :=
 aQy r n x0 x3 .l0 h0
noncomputable def zF (r : RT) (n : Nat) (x0 x3 : DV) (h0 : Hp) : aJ :=
 bnd (aB 0 x3 h0) fun v1 h1 =>
 bnd (aA v1 h1) fun v2 h2 =>
 bnd (aD .eql v2 (aE 1) h2) fun v3 h3 =>
 aQ v3 (
 bnd (aB 2 x3 h3) fun v4 h4 =>
 bnd (aA v4 h4) fun v5 h5 =>
 bnd (r 42 [x0, v5] h5) fun v6 h6 =>
 bnd (aC 0 v6 h6) fun v7 h7 =>
 bnd (aC 1 v6 h7) fun v8 h8 =>
 some (.t [v7, v8], h8)) (
 bnd (aD .eql v2 (aE 2) h3) fun v9 h9 =>
 aQ v9 (
 bnd (aB 1 x3 h9) fun v10 h10 =>
 bnd (aA v10 h10) fun v11 h11 =>
 bnd (r 43 [x0, v11] h11) fun v12 h12 =>
 bnd (aC 0 v12 h12) fun v13 h13 =>
 bnd (aC 1 v12 h13) fun v14 h14 =>
 some (.t [v13, v14], h14)) (
 bnd (aD .eql v2 (aE 3) h9) fun v15 h15 =>
 aQ v15 (
 bnd (aB 1 x3 h15) fun v16 h16 =>
 bnd (aA v16 h16) fun v17 h17 =>
 bnd (r 44 [x0, v17] h17) fun v18 h18 =>
 bnd (aC 0 v18 h18) fun v19 h19 =>
 bnd (aC 1 v18 h19) fun v20 h20 =>
 some (.t [v19, v20], h20)) (
    aTh r n x0 x3 h15)))
noncomputable def s126 (r : RT) (n : Nat) (x0 x1 : DV) (h0 : Hp) : aJ :=
 bnd (bS x1 h0) fun v1 h1 =>
  zF r n x0 v1 h1
noncomputable abbrev c126 : Code := cf Tryz.f126
noncomputable abbrev aGn : Code := cR c126
noncomputable abbrev aIu : Code := cR aGn
noncomputable abbrev aFk : Code := cR aIu
noncomputable abbrev dCj : Code := cR aFk
noncomputable abbrev wO : Code := cL aFk
noncomputable abbrev aUm : Code := cR wO
noncomputable abbrev aFj : Code := cL aUm
noncomputable abbrev lY : Code := cL aFj
noncomputable abbrev cCi : Code := cL wO
noncomputable abbrev aYe : Code := cL aIu
noncomputable abbrev aYx : Code := cL aGn
noncomputable abbrev aKx : Code := cL c126
noncomputable abbrev r126 : K := aT CF Tryz.f126
noncomputable def D126 (r : RT) (n : Nat) (c : Code) (X : Nat → K) (k : K) : K := aM CF r 63 n c X r126 k
theorem cDs : D126 r n dCj x0 r126 = (K2 (dZ r n) 0 6) :=
 (by kernel_rfl)
theorem bIz (kk6 : cE) (q0 : gJ) : D126 r n lY (xs x0 1 (K2 q0 0 6)) (K5 kk6 0 6 38 39 40) = fun (env : aY) (h : Hp) =>
 bnd (aD .lss (env 40) (env 39) h) fun v1 h1 =>
 aQ v1 (
 bnd (aH 4 (env 38) (env 40) h1) fun v2 h2 =>
 bnd (aK 4 v2 h2) fun v3 h3 =>
 bnd (bL [(aE 0), (.s []), (aE 0), .l0] h3) fun v4 h4 =>
 bnd (aG 4 v4 v3 h4) fun _ h5 =>
 bnd (aK 4 v4 h5) fun v6 h6 =>
 bnd (r 126 [(env 0), v6] h6) fun v7 h7 =>
 bnd (aC 0 v7 h7) fun v8 h8 =>
 bnd (aC 1 v7 h8) fun v9 h9 =>
 bnd (aD .neq v9 (aE 0) h9) fun v10 h10 =>
 aQ v10 (
 some (.t [(aE 0), v9], h10)) (
 bnd (aL [(aE 0)] 1 [(0, 1, v8)] h10) fun v11 h11 =>
 bnd (aZ 1 8 (env 6) v11 h11) fun v12 h12 =>
 bnd (aD .add (env 40) (aE 1) h12) fun v13 h13 =>
    kk6 (env 0) v12 (env 38) (env 39) v13 h13)) (
      q0 (env 0) (env 6) h1) := by kernel_rfl
theorem bGj (kk6 : cE) : (fun (env : aY) (h : Hp) =>
 bnd (aD .lss (env 40) (env 39) h) fun v1 h1 =>
 aQ v1 (
 bnd (aH 4 (env 38) (env 40) h1) fun v2 h2 =>
 bnd (aK 4 v2 h2) fun v3 h3 =>
 bnd (bL [(aE 0), (.s []), (aE 0), .l0] h3) fun v4 h4 =>
 bnd (aG 4 v4 v3 h4) fun _ h5 =>
 bnd (aK 4 v4 h5) fun v6 h6 =>
 bnd (r 126 [(env 0), v6] h6) fun v7 h7 =>
 bnd (aC 0 v7 h7) fun v8 h8 =>
 bnd (aC 1 v7 h8) fun v9 h9 =>
 bnd (aD .neq v9 (aE 0) h9) fun v10 h10 =>
 aQ v10 (
 some (.t [(aE 0), v9], h10)) (
 bnd (aL [(aE 0)] 1 [(0, 1, v8)] h10) fun v11 h11 =>
 bnd (aZ 1 8 (env 6) v11 h11) fun v12 h12 =>
 bnd (aD .add (env 40) (aE 1) h12) fun v13 h13 =>
    kk6 (env 0) v12 (env 38) (env 39) v13 h13)) (
      dZ r n (env 0) (env 6) h1)) = (K5 (aEa r n kk6) 0 6 38 39 40) := by kernel_rfl
theorem bMu (kk6 : cE) : D126 r n lY (xs x0 1 (K2 (dZ r n) 0 6)) (K5 kk6 0 6 38 39 40) = (K5 (aEa r n kk6) 0 6 38 39 40) :=
 (bIz r n kk6 (dZ r n)).trans (bGj r n kk6)
theorem bNf (m : Nat) : aN (fun kk => D126 r n lY (xs x0 1 (K2 (dZ r n) 0 6)) kk) m = (K5 (uO r n m) 0 6 38 39 40) := by
 induction m with
 | zero => exact (by kernel_rfl : aN (fun kk => D126 r n lY (xs x0 1 (K2 (dZ r n) 0 6)) kk) 0 = (K5 (uO r n 0) 0 6 38 39 40))
 | succ m ih =>
  refine (by kernel_rfl : aN (fun kk => D126 r n lY (xs x0 1 (K2 (dZ r n) 0 6)) kk) (m + 1) = D126 r n lY (xs x0 1 (K2 (dZ r n) 0 6)) (aN (fun kk => D126 r n lY (xs x0 1 (K2 (dZ r n) 0 6)) kk) m)).trans ?_
  rw [ih]
  exact (bMu r n (uO r n m)).trans (by kernel_rfl)
theorem cIp : D126 r n aFj (xs x0 1 (K2 (dZ r n) 0 6)) (K2 (dZ r n) 0 6) = (K5 (bMt r n) 0 6 38 39 40) :=
 (by kernel_rfl : D126 r n aFj (xs x0 1 (K2 (dZ r n) 0 6)) (K2 (dZ r n) 0 6) = aN (fun kk => D126 r n lY (xs x0 1 (K2 (dZ r n) 0 6)) kk) n).trans ((bNf r n n).trans (by kernel_rfl))
theorem cHp : D126 r n aUm x0 (K2 (dZ r n) 0 6) = (K5 (aOd r n) 0 6 38 39 40) :=
 (by kernel_rfl : D126 r n aUm x0 (K2 (dZ r n) 0 6) = D126 r n aFj (xs x0 1 (K2 (dZ r n) 0 6)) (K2 (dZ r n) 0 6)).trans
 ((cIp r n).trans (by kernel_rfl))
theorem bLs : D126 r n aFk x0 r126 = D126 r n wO x0 (K2 (dZ r n) 0 6) :=
 congrArg (fun k => D126 r n wO x0 k) (cDs r n)
theorem cBd : D126 r n wO x0 (K2 (dZ r n) 0 6) = D126 r n cCi x0 (K5 (aOd r n) 0 6 38 39 40) :=
 congrArg (fun k => D126 r n cCi x0 k) (cHp r n)
theorem cOy : D126 r n aFk x0 r126 = (K3 (aQy r n) 0 3 6) :=
 (bLs r n).trans
 ((cBd r n).trans
 ((by kernel_rfl)))
theorem bLh : D126 r n aIu x0 r126 = D126 r n aYe x0 (K3 (aQy r n) 0 3 6) :=
 congrArg (fun k => D126 r n aYe x0 k) (cOy r n)
theorem cHs : D126 r n aIu x0 r126 = (K2 (aTh r n) 0 3) :=
 (bLh r n).trans
 ((by kernel_rfl))
theorem bUi : D126 r n aGn x0 r126 = D126 r n aYx x0 (K2 (aTh r n) 0 3) :=
 congrArg (fun k => D126 r n aYx x0 k) (cHs r n)
theorem cKm : D126 r n aGn x0 r126 = (K2 (zF r n) 0 3) :=
 (bUi r n).trans
 ((by kernel_rfl))
theorem cZy : D126 r n c126 x0 r126 = D126 r n aKx x0 (K2 (zF r n) 0 3) :=
 congrArg (fun k => D126 r n aKx x0 k) (cKm r n)
theorem cZn (q0 : gJ) : D126 r n aKx x0 (K2 q0 0 3) = fun (env : aY) (h : Hp) =>
 bnd (bS (env 1) h) fun v1 h1 =>
  q0 (env 0) v1 h1 := by kernel_rfl
theorem cHh : (fun (env : aY) (h : Hp) =>
 bnd (bS (env 1) h) fun v1 h1 =>
  zF r n (env 0) v1 h1) = (K2 (s126 r n) 0 1) := by kernel_rfl
theorem dIc : D126 r n c126 x0 r126 = (K2 (s126 r n) 0 1) :=
 (cZy r n).trans
 ((cZn r n (zF r n)).trans (cHh r n))
theorem cYi : aF CF r n 126 args h = s126 r n (aS args 0) (aS args 1) h :=
 (by kernel_rfl : aF CF r n 126 args h = D126 r n c126 x0 r126 (aI args) h).trans ((congrFun (congrFun (dIc r n) (aI args)) h).trans (by kernel_rfl))
noncomputable def eF (r : RT) (n : Nat) (x4 : DV) (h0 : Hp) : aJ :=
 some (.t [x4, (aE 0)], h0)
noncomputable def aEh (r : RT) (n : Nat) (kk6 : dQ) (x4 x10 x11 x12 : DV) (h0 : Hp) : aJ :=
 bnd (aD .lss x12 x11 h0) fun v1 h1 =>
 aQ v1 (
 bnd (aH 3 x10 x12 h1) fun v2 h2 =>
 bnd (aK 3 v2 h2) fun v3 h3 =>
 bnd (bL [(aE 0), (aE 0), (aE 0)] h3) fun v4 h4 =>
 bnd (aG 3 v4 v3 h4) fun _ h5 =>
 bnd (aK 3 v4 h5) fun v6 h6 =>
 bnd (r 124 [v6] h6) fun v7 h7 =>
 bnd (gI .not v7 h7) fun v8 h8 =>
 aQ v8 (
 some (.t [.l0, (aE 19)], h8)) (
 bnd (aB 0 v4 h8) fun v9 h9 =>
 bnd (aA v9 h9) fun v10 h10 =>
 bnd (dU .u8 v10 h10) fun v11 h11 =>
 bnd (aB 1 v4 h11) fun v12 h12 =>
 bnd (aA v12 h12) fun v13 h13 =>
 bnd (dU .u8 v13 h13) fun v14 h14 =>
 bnd (aB 2 v4 h14) fun v15 h15 =>
 bnd (aA v15 h15) fun v16 h16 =>
 bnd (dU .u8 v16 h16) fun v17 h17 =>
 bnd (aL [(.i .u8 (Int.ofNat 0)), (.i .u8 (Int.ofNat 0)), (.i .u8 (Int.ofNat 0))] 3 [(0, 1, v11), (1, 1, v14), (2, 1, v17)] h17) fun v18 h18 =>
 bnd (aZ 1 1 x4 v18 h18) fun v19 h19 =>
 bnd (aD .add x12 (aE 1) h19) fun v20 h20 =>
    kk6 v19 x10 x11 v20 h20)) (
      eF r n x4 h1)
noncomputable def tC (r : RT) (n : Nat) (m : Nat) : dQ :=
 Nat.rec (motive := fun _ => dQ) (fun _ _ _ _ _ => none) (fun _ ih => aEh r n ih) m
noncomputable def bLi (r : RT) (n : Nat) : dQ := tC r n n
noncomputable def aPw (r : RT) (n : Nat) (x4 x10 x11 x12 : DV) (h0 : Hp) : aJ :=
 bLi r n x4 x10 x11 x12 h0
noncomputable def aUf (r : RT) (n : Nat) (x0 x4 : DV) (h0 : Hp) : aJ :=
 bnd (bX x0 h0) fun v1 h1 =>
  aPw r n x4 x0 v1 (aE 0) h1
noncomputable def aUd (r : RT) (n : Nat) (x0 : DV) (h0 : Hp) : aJ :=
 aUf r n x0 .l0 h0
noncomputable def aTp (r : RT) (n : Nat) (x0 : DV) (h0 : Hp) : aJ :=
 bnd (bX x0 h0) fun v1 h1 =>
 bnd (aD .gtr v1 (aE 400) h1) fun v2 h2 =>
 aQ v2 (
 some (.t [.l0, (aE 19)], h2)) (
  aUd r n x0 h2)
noncomputable def s127 (r : RT) (n : Nat) (x0 : DV) (h0 : Hp) : aJ :=
 aTp r n x0 h0
noncomputable abbrev c127 : Code := cf Tryz.f127
noncomputable abbrev aKa : Code := cR c127
noncomputable abbrev aBf : Code := cR aKa
noncomputable abbrev aGq : Code := cR aBf
noncomputable abbrev cVm : Code := cR aGq
noncomputable abbrev wV : Code := cL aGq
noncomputable abbrev aOx : Code := cR wV
noncomputable abbrev aCe : Code := cL aOx
noncomputable abbrev lW : Code := cL aCe
noncomputable abbrev bQj : Code := cL wV
noncomputable abbrev aWw : Code := cL aBf
noncomputable abbrev aWd : Code := cL aKa
noncomputable abbrev bAu : Code := cL c127
noncomputable abbrev r127 : K := aT CF Tryz.f127
noncomputable def D127 (r : RT) (n : Nat) (c : Code) (X : Nat → K) (k : K) : K := aM CF r 33 n c X r127 k
theorem cIn : D127 r n cVm x0 r127 = (K1 (eF r n) 4) :=
 (by kernel_rfl)
theorem bRf (kk6 : dQ) (q0 : TT1) : D127 r n lW (xs x0 0 (K1 q0 4)) (K4 kk6 4 10 11 12) = fun (env : aY) (h : Hp) =>
 bnd (aD .lss (env 12) (env 11) h) fun v1 h1 =>
 aQ v1 (
 bnd (aH 3 (env 10) (env 12) h1) fun v2 h2 =>
 bnd (aK 3 v2 h2) fun v3 h3 =>
 bnd (bL [(aE 0), (aE 0), (aE 0)] h3) fun v4 h4 =>
 bnd (aG 3 v4 v3 h4) fun _ h5 =>
 bnd (aK 3 v4 h5) fun v6 h6 =>
 bnd (r 124 [v6] h6) fun v7 h7 =>
 bnd (gI .not v7 h7) fun v8 h8 =>
 aQ v8 (
 some (.t [.l0, (aE 19)], h8)) (
 bnd (aB 0 v4 h8) fun v9 h9 =>
 bnd (aA v9 h9) fun v10 h10 =>
 bnd (dU .u8 v10 h10) fun v11 h11 =>
 bnd (aB 1 v4 h11) fun v12 h12 =>
 bnd (aA v12 h12) fun v13 h13 =>
 bnd (dU .u8 v13 h13) fun v14 h14 =>
 bnd (aB 2 v4 h14) fun v15 h15 =>
 bnd (aA v15 h15) fun v16 h16 =>
 bnd (dU .u8 v16 h16) fun v17 h17 =>
 bnd (aL [(.i .u8 (Int.ofNat 0)), (.i .u8 (Int.ofNat 0)), (.i .u8 (Int.ofNat 0))] 3 [(0, 1, v11), (1, 1, v14), (2, 1, v17)] h17) fun v18 h18 =>
 bnd (aZ 1 1 (env 4) v18 h18) fun v19 h19 =>
 bnd (aD .add (env 12) (aE 1) h19) fun v20 h20 =>
    kk6 v19 (env 10) (env 11) v20 h20)) (
      q0 (env 4) h1) := by kernel_rfl
theorem bDw (kk6 : dQ) : (fun (env : aY) (h : Hp) =>
 bnd (aD .lss (env 12) (env 11) h) fun v1 h1 =>
 aQ v1 (
 bnd (aH 3 (env 10) (env 12) h1) fun v2 h2 =>
 bnd (aK 3 v2 h2) fun v3 h3 =>
 bnd (bL [(aE 0), (aE 0), (aE 0)] h3) fun v4 h4 =>
 bnd (aG 3 v4 v3 h4) fun _ h5 =>
 bnd (aK 3 v4 h5) fun v6 h6 =>
 bnd (r 124 [v6] h6) fun v7 h7 =>
 bnd (gI .not v7 h7) fun v8 h8 =>
 aQ v8 (
 some (.t [.l0, (aE 19)], h8)) (
 bnd (aB 0 v4 h8) fun v9 h9 =>
 bnd (aA v9 h9) fun v10 h10 =>
 bnd (dU .u8 v10 h10) fun v11 h11 =>
 bnd (aB 1 v4 h11) fun v12 h12 =>
 bnd (aA v12 h12) fun v13 h13 =>
 bnd (dU .u8 v13 h13) fun v14 h14 =>
 bnd (aB 2 v4 h14) fun v15 h15 =>
 bnd (aA v15 h15) fun v16 h16 =>
 bnd (dU .u8 v16 h16) fun v17 h17 =>
 bnd (aL [(.i .u8 (Int.ofNat 0)), (.i .u8 (Int.ofNat 0)), (.i .u8 (Int.ofNat 0))] 3 [(0, 1, v11), (1, 1, v14), (2, 1, v17)] h17) fun v18 h18 =>
 bnd (aZ 1 1 (env 4) v18 h18) fun v19 h19 =>
 bnd (aD .add (env 12) (aE 1) h19) fun v20 h20 =>
    kk6 v19 (env 10) (env 11) v20 h20)) (
      eF r n (env 4) h1)) = (K4 (aEh r n kk6) 4 10 11 12) := by kernel_rfl
theorem bKl (kk6 : dQ) : D127 r n lW (xs x0 0 (K1 (eF r n) 4)) (K4 kk6 4 10 11 12) = (K4 (aEh r n kk6) 4 10 11 12) :=
 (bRf r n kk6 (eF r n)).trans (bDw r n kk6)
theorem bMo (m : Nat) : aN (fun kk => D127 r n lW (xs x0 0 (K1 (eF r n) 4)) kk) m = (K4 (tC r n m) 4 10 11 12) := by
 induction m with
 | zero => exact (by kernel_rfl : aN (fun kk => D127 r n lW (xs x0 0 (K1 (eF r n) 4)) kk) 0 = (K4 (tC r n 0) 4 10 11 12))
 | succ m ih =>
  refine (by kernel_rfl : aN (fun kk => D127 r n lW (xs x0 0 (K1 (eF r n) 4)) kk) (m + 1) = D127 r n lW (xs x0 0 (K1 (eF r n) 4)) (aN (fun kk => D127 r n lW (xs x0 0 (K1 (eF r n) 4)) kk) m)).trans ?_
  rw [ih]
  exact (bKl r n (tC r n m)).trans (by kernel_rfl)
theorem cJa : D127 r n aCe (xs x0 0 (K1 (eF r n) 4)) (K1 (eF r n) 4) = (K4 (bLi r n) 4 10 11 12) :=
 (by kernel_rfl : D127 r n aCe (xs x0 0 (K1 (eF r n) 4)) (K1 (eF r n) 4) = aN (fun kk => D127 r n lW (xs x0 0 (K1 (eF r n) 4)) kk) n).trans ((bMo r n n).trans (by kernel_rfl))
theorem cLj : D127 r n aOx x0 (K1 (eF r n) 4) = (K4 (aPw r n) 4 10 11 12) :=
 (by kernel_rfl : D127 r n aOx x0 (K1 (eF r n) 4) = D127 r n aCe (xs x0 0 (K1 (eF r n) 4)) (K1 (eF r n) 4)).trans
 ((cJa r n).trans (by kernel_rfl))
theorem bOs : D127 r n aGq x0 r127 = D127 r n wV x0 (K1 (eF r n) 4) :=
 congrArg (fun k => D127 r n wV x0 k) (cIn r n)
theorem bVr : D127 r n wV x0 (K1 (eF r n) 4) = D127 r n bQj x0 (K4 (aPw r n) 4 10 11 12) :=
 congrArg (fun k => D127 r n bQj x0 k) (cLj r n)
theorem cMk : D127 r n aGq x0 r127 = (K2 (aUf r n) 0 4) :=
 (bOs r n).trans
 ((bVr r n).trans
 ((by kernel_rfl)))
theorem bJb : D127 r n aBf x0 r127 = D127 r n aWw x0 (K2 (aUf r n) 0 4) :=
 congrArg (fun k => D127 r n aWw x0 k) (cMk r n)
theorem cGf : D127 r n aBf x0 r127 = (K1 (aUd r n) 0) :=
 (bJb r n).trans
 ((by kernel_rfl))
theorem cBn : D127 r n aKa x0 r127 = D127 r n aWd x0 (K1 (aUd r n) 0) :=
 congrArg (fun k => D127 r n aWd x0 k) (cGf r n)
theorem cIq : D127 r n aKa x0 r127 = (K1 (aTp r n) 0) :=
 (cBn r n).trans
 ((by kernel_rfl))
theorem dFg : D127 r n c127 x0 r127 = D127 r n bAu x0 (K1 (aTp r n) 0) :=
 congrArg (fun k => D127 r n bAu x0 k) (cIq r n)
theorem dLa : D127 r n c127 x0 r127 = (K1 (s127 r n) 0) :=
 (dFg r n).trans
 ((by kernel_rfl))
theorem dAw : aF CF r n 127 args h = s127 r n (aS args 0) h :=
 (by kernel_rfl : aF CF r n 127 args h = D127 r n c127 x0 r127 (aI args) h).trans ((congrFun (congrFun (dLa r n) (aI args)) h).trans (by kernel_rfl))
noncomputable def eN (r : RT) (n : Nat) (x0 x6 : DV) (h0 : Hp) : aJ :=
 bnd (r 46 [x0, x6] h0) fun v1 h1 =>
 bnd (aC 0 v1 h1) fun v2 h2 =>
 bnd (aC 1 v1 h2) fun v3 h3 =>
 some (.t [v2, v3], h3)
noncomputable def aHs (r : RT) (n : Nat) (kk4 : mP) (x0 x1 x6 : DV) (h0 : Hp) : aJ :=
 bnd (bX x1 h0) fun v1 h1 =>
 bnd (aD .gtr v1 (aE 0) h1) fun v2 h2 =>
 aQ v2 (
 bnd (bX x1 h2) fun v3 h3 =>
 bnd (aTq v3 (aE 240) h3) fun v4 h4 =>
 bnd (r 30 [x0, (aE 10)] h4) fun v5 h5 =>
 bnd (cT 1 x1 none (some v4) h5) fun v6 h6 =>
 cnd (bK (cT 1 x1 none (some v4) h4) v6 && true) (
 bnd (fT v6 h6) fun v7 h7 =>
 cnd (bK (fT v6 h4) v7 && true) (
 bnd (r 83 [x0, v5, v7] h7) fun v8 h8 =>
 bnd (aC 0 v8 h8) fun v9 h9 =>
 bnd (aC 1 v8 h9) fun v10 h10 =>
 bnd (aD .neq v10 (aE 0) h10) fun v11 h11 =>
 aQ v11 (
 some (.t [(aE 0), v10], h11)) (
 bnd (bJ (bY 0 h11.next) [(aE 0)] 1 [(0, 1, v9)] (resv 1 h11)) fun v12 h12 =>
 bnd (aZ 1 8 x6 v12 h12) fun v13 h13 =>
 bnd (cT 1 x1 (some v4) none h13) fun v14 h14 =>
 cnd (bK (cT 1 x1 (some v4) none (resv 1 h11)) v14 && true) (
    kk4 x0 v14 v13 h14))))) (
      eN r n x0 x6 h2)
noncomputable def tD (r : RT) (n : Nat) (m : Nat) : mP :=
 Nat.rec (motive := fun _ => mP) (fun _ _ _ _ => none) (fun _ ih => aHs r n ih) m
noncomputable def cAt (r : RT) (n : Nat) : mP := tD r n n
noncomputable def aTb (r : RT) (n : Nat) (x0 x1 x6 : DV) (h0 : Hp) : aJ :=
 cAt r n x0 x1 x6 h0
noncomputable def aVg (r : RT) (n : Nat) (x0 x1 : DV) (h0 : Hp) : aJ :=
 aTb r n x0 x1 .l0 h0
noncomputable def s128 (r : RT) (n : Nat) (x0 x1 : DV) (h0 : Hp) : aJ :=
 aVg r n x0 x1 h0
noncomputable abbrev c128 : Code := cf Tryz.f128
noncomputable abbrev aEq : Code := cR c128
noncomputable abbrev aIj : Code := cR aEq
noncomputable abbrev dFv : Code := cR aIj
noncomputable abbrev aCz : Code := cL aIj
noncomputable abbrev aIr : Code := cL aCz
noncomputable abbrev mH : Code := cL aIr
noncomputable abbrev bKn : Code := cL aEq
noncomputable abbrev bRt : Code := cL c128
noncomputable abbrev r128 : K := aT CF Tryz.f128
noncomputable def D128 (r : RT) (n : Nat) (c : Code) (X : Nat → K) (k : K) : K := aM CF r 42 n c X r128 k
theorem cPc : D128 r n dFv x0 r128 = (K2 (eN r n) 0 6) :=
 (by kernel_rfl)
theorem bHx (kk4 : mP) (q0 : gJ) : D128 r n mH (xs x0 0 (K2 q0 0 6)) (K3 kk4 0 1 6) = fun (env : aY) (h : Hp) =>
 bnd (bX (env 1) h) fun v1 h1 =>
 bnd (aD .gtr v1 (aE 0) h1) fun v2 h2 =>
 aQ v2 (
 bnd (bX (env 1) h2) fun v3 h3 =>
 bnd (aTq v3 (aE 240) h3) fun v4 h4 =>
 bnd (r 30 [(env 0), (aE 10)] h4) fun v5 h5 =>
 bnd (cT 1 (env 1) none (some v4) h5) fun v6 h6 =>
 cnd (bK (cT 1 (env 1) none (some v4) h4) v6 && true) (
 bnd (fT v6 h6) fun v7 h7 =>
 cnd (bK (fT v6 h4) v7 && true) (
 bnd (r 83 [(env 0), v5, v7] h7) fun v8 h8 =>
 bnd (aC 0 v8 h8) fun v9 h9 =>
 bnd (aC 1 v8 h9) fun v10 h10 =>
 bnd (aD .neq v10 (aE 0) h10) fun v11 h11 =>
 aQ v11 (
 some (.t [(aE 0), v10], h11)) (
 bnd (bJ (bY 0 h11.next) [(aE 0)] 1 [(0, 1, v9)] (resv 1 h11)) fun v12 h12 =>
 bnd (aZ 1 8 (env 6) v12 h12) fun v13 h13 =>
 bnd (cT 1 (env 1) (some v4) none h13) fun v14 h14 =>
 cnd (bK (cT 1 (env 1) (some v4) none (resv 1 h11)) v14 && true) (
    kk4 (env 0) v14 v13 h14))))) (
      q0 (env 0) (env 6) h2) := by kernel_rfl
theorem bDu (kk4 : mP) : (fun (env : aY) (h : Hp) =>
 bnd (bX (env 1) h) fun v1 h1 =>
 bnd (aD .gtr v1 (aE 0) h1) fun v2 h2 =>
 aQ v2 (
 bnd (bX (env 1) h2) fun v3 h3 =>
 bnd (aTq v3 (aE 240) h3) fun v4 h4 =>
 bnd (r 30 [(env 0), (aE 10)] h4) fun v5 h5 =>
 bnd (cT 1 (env 1) none (some v4) h5) fun v6 h6 =>
 cnd (bK (cT 1 (env 1) none (some v4) h4) v6 && true) (
 bnd (fT v6 h6) fun v7 h7 =>
 cnd (bK (fT v6 h4) v7 && true) (
 bnd (r 83 [(env 0), v5, v7] h7) fun v8 h8 =>
 bnd (aC 0 v8 h8) fun v9 h9 =>
 bnd (aC 1 v8 h9) fun v10 h10 =>
 bnd (aD .neq v10 (aE 0) h10) fun v11 h11 =>
 aQ v11 (
 some (.t [(aE 0), v10], h11)) (
 bnd (bJ (bY 0 h11.next) [(aE 0)] 1 [(0, 1, v9)] (resv 1 h11)) fun v12 h12 =>
 bnd (aZ 1 8 (env 6) v12 h12) fun v13 h13 =>
 bnd (cT 1 (env 1) (some v4) none h13) fun v14 h14 =>
 cnd (bK (cT 1 (env 1) (some v4) none (resv 1 h11)) v14 && true) (
    kk4 (env 0) v14 v13 h14))))) (
      eN r n (env 0) (env 6) h2)) = (K3 (aHs r n kk4) 0 1 6) := by kernel_rfl
theorem bPl (kk4 : mP) : D128 r n mH (xs x0 0 (K2 (eN r n) 0 6)) (K3 kk4 0 1 6) = (K3 (aHs r n kk4) 0 1 6) :=
 (bHx r n kk4 (eN r n)).trans (bDu r n kk4)
theorem bIi (m : Nat) : aN (fun kk => D128 r n mH (xs x0 0 (K2 (eN r n) 0 6)) kk) m = (K3 (tD r n m) 0 1 6) := by
 induction m with
 | zero => exact (by kernel_rfl : aN (fun kk => D128 r n mH (xs x0 0 (K2 (eN r n) 0 6)) kk) 0 = (K3 (tD r n 0) 0 1 6))
 | succ m ih =>
  refine (by kernel_rfl : aN (fun kk => D128 r n mH (xs x0 0 (K2 (eN r n) 0 6)) kk) (m + 1) = D128 r n mH (xs x0 0 (K2 (eN r n) 0 6)) (aN (fun kk => D128 r n mH (xs x0 0 (K2 (eN r n) 0 6)) kk) m)).trans ?_
  rw [ih]
  exact (bPl r n (tD r n m)).trans (by kernel_rfl)
theorem cKo : D128 r n aIr (xs x0 0 (K2 (eN r n) 0 6)) (K2 (eN r n) 0 6) = (K3 (cAt r n) 0 1 6) :=
 (by kernel_rfl : D128 r n aIr (xs x0 0 (K2 (eN r n) 0 6)) (K2 (eN r n) 0 6) = aN (fun kk => D128 r n mH (xs x0 0 (K2 (eN r n) 0 6)) kk) n).trans ((bIi r n n).trans (by kernel_rfl))
theorem bVt : D128 r n aIj x0 r128 = D128 r n aCz x0 (K2 (eN r n) 0 6) :=
 congrArg (fun k => D128 r n aCz x0 k) (cPc r n)
theorem cOm : D128 r n aIj x0 r128 = (K3 (aTb r n) 0 1 6) :=
 (bVt r n).trans
 ((by kernel_rfl : D128 r n aCz x0 (K2 (eN r n) 0 6) = D128 r n aIr (xs x0 0 (K2 (eN r n) 0 6)) (K2 (eN r n) 0 6)).trans
 ((cKo r n).trans (by kernel_rfl)))
theorem bYd : D128 r n aEq x0 r128 = D128 r n bKn x0 (K3 (aTb r n) 0 1 6) :=
 congrArg (fun k => D128 r n bKn x0 k) (cOm r n)
theorem cMs : D128 r n aEq x0 r128 = (K2 (aVg r n) 0 1) :=
 (bYd r n).trans
 ((by kernel_rfl))
theorem dEi : D128 r n c128 x0 r128 = D128 r n bRt x0 (K2 (aVg r n) 0 1) :=
 congrArg (fun k => D128 r n bRt x0 k) (cMs r n)
theorem dMa : D128 r n c128 x0 r128 = (K2 (s128 r n) 0 1) :=
 (dEi r n).trans
 ((by kernel_rfl))
theorem dBs : aF CF r n 128 args h = s128 r n (aS args 0) (aS args 1) h :=
 (by kernel_rfl : aF CF r n 128 args h = D128 r n c128 x0 r128 (aI args) h).trans ((congrFun (congrFun (dMa r n) (aI args)) h).trans (by kernel_rfl))
noncomputable def fN (r : RT) (n : Nat) (x0 x7 : DV) (h0 : Hp) : aJ :=
 bnd (aR x0 h0) fun v1 h1 =>
 bnd (aB 0 v1 h1) fun v2 h2 =>
 bnd (aA v2 h2) fun v3 h3 =>
 bnd (aR x0 h3) fun v4 h4 =>
 bnd (aB 1 v4 h4) fun v5 h5 =>
 bnd (aA v5 h5) fun v6 h6 =>
 bnd (fD v3 (some x7) (some v6) h6) fun v7 h7 =>
 some (v7, h7)
noncomputable def aXs (r : RT) (n : Nat) (kk4 : dQ) (x0 x1 x2 x7 : DV) (h0 : Hp) : aJ :=
 bnd (aR x0 h0) fun v1 h1 =>
 bnd (aB 1 v1 h1) fun v2 h2 =>
 bnd (aA v2 h2) fun v3 h3 =>
 bnd (aR x0 h3) fun v4 h4 =>
 bnd (aB 0 v4 h4) fun v5 h5 =>
 bnd (aA v5 h5) fun v6 h6 =>
 bnd (dT v6 h6) fun v7 h7 =>
 bnd (aD .lss v3 v7 h7) fun v8 h8 =>
 bnd (gD v8 true (some (x0, h8)) h8) fun v9 h9 =>
 bnd (gD v8 true (aR v9 h9) h9) fun v10 h10 =>
 bnd (gD v8 true (aB 1 v10 h10) h10) fun v11 h11 =>
 bnd (gD v8 true (aA v11 h11) h11) fun v12 h12 =>
 bnd (gD v8 true (some (x7, h12)) h12) fun v13 h13 =>
 bnd (gD v8 true (aD .sub v12 v13 h13) h13) fun v14 h14 =>
 bnd (gD v8 true (some (x2, h14)) h14) fun v15 h15 =>
 bnd (gD v8 true (aD .lss v14 v15 h15) h15) fun v16 h16 =>
 bnd (aO v8 v16 (.b false) h16) fun v17 h17 =>
 bnd (gD v17 true (some (x1, h17)) h17) fun v18 h18 =>
 bnd (gD v17 true (some (x0, h18)) h18) fun v19 h19 =>
 bnd (gD v17 true (aR v19 h19) h19) fun v20 h20 =>
 bnd (gD v17 true (aB 0 v20 h20) h20) fun v21 h21 =>
 bnd (gD v17 true (aA v21 h21) h21) fun v22 h22 =>
 bnd (gD v17 true (some (x0, h22)) h22) fun v23 h23 =>
 bnd (gD v17 true (aR v23 h23) h23) fun v24 h24 =>
 bnd (gD v17 true (aB 1 v24 h24) h24) fun v25 h25 =>
 bnd (gD v17 true (aA v25 h25) h25) fun v26 h26 =>
 bnd (gD v17 true (fG v22 v26 h26) h26) fun v27 h27 =>
 bnd (gD v17 true (cU CF r v18 [v27] h27) h27) fun v28 h28 =>
 bnd (aO v17 v28 (.b false) h28) fun v29 h29 =>
 aQ v29 (
 bnd (aR x0 h29) fun v30 h30 =>
 bnd (aB 1 v30 h30) fun v31 h31 =>
 bnd (aA v31 h31) fun v32 h32 =>
 bnd (aD .add v32 (aE 1) h32) fun v33 h33 =>
 bnd (aR x0 h33) fun v34 h34 =>
 bnd (aB 1 v34 h34) fun v35 h35 =>
 bnd (aG 1 v35 v33 h35) fun _ h36 =>
      kk4 x0 x1 x2 x7 h36) (
      fN r n x0 x7 h29)
noncomputable def sL (r : RT) (n : Nat) (m : Nat) : dQ :=
 Nat.rec (motive := fun _ => dQ) (fun _ _ _ _ _ => none) (fun _ ih => aXs r n ih) m
noncomputable def bZz (r : RT) (n : Nat) : dQ := sL r n n
noncomputable def aUc (r : RT) (n : Nat) (x0 x1 x2 x7 : DV) (h0 : Hp) : aJ :=
 bZz r n x0 x1 x2 x7 h0
noncomputable def aSu (r : RT) (n : Nat) (x0 x1 x2 : DV) (h0 : Hp) : aJ :=
 bnd (aR x0 h0) fun v1 h1 =>
 bnd (aB 1 v1 h1) fun v2 h2 =>
 bnd (aA v2 h2) fun v3 h3 =>
  aUc r n x0 x1 x2 v3 h3
noncomputable def s129 (r : RT) (n : Nat) (x0 x1 x2 : DV) (h0 : Hp) : aJ :=
 aSu r n x0 x1 x2 h0
noncomputable abbrev c129 : Code := cf Tryz.f129
noncomputable abbrev aGl : Code := cR c129
noncomputable abbrev aEg : Code := cR aGl
noncomputable abbrev dEq : Code := cR aEg
noncomputable abbrev aCy : Code := cL aEg
noncomputable abbrev aGm : Code := cL aCy
noncomputable abbrev oN : Code := cL aGm
noncomputable abbrev bNu : Code := cL aGl
noncomputable abbrev bRo : Code := cL c129
noncomputable abbrev r129 : K := aT CF Tryz.f129
noncomputable def D129 (r : RT) (n : Nat) (c : Code) (X : Nat → K) (k : K) : K := aM CF r 62 n c X r129 k
theorem cFh : D129 r n dEq x0 r129 = (K2 (fN r n) 0 7) :=
 (by kernel_rfl)
theorem bVm (kk4 : dQ) : D129 r n oN (xs x0 0 (K2 (fN r n) 0 7)) (K4 kk4 0 1 2 7) = (K4 (aXs r n kk4) 0 1 2 7) :=
 (by kernel_rfl)
theorem bPi (m : Nat) : aN (fun kk => D129 r n oN (xs x0 0 (K2 (fN r n) 0 7)) kk) m = (K4 (sL r n m) 0 1 2 7) := by
 induction m with
 | zero => exact (by kernel_rfl : aN (fun kk => D129 r n oN (xs x0 0 (K2 (fN r n) 0 7)) kk) 0 = (K4 (sL r n 0) 0 1 2 7))
 | succ m ih =>
  refine (by kernel_rfl : aN (fun kk => D129 r n oN (xs x0 0 (K2 (fN r n) 0 7)) kk) (m + 1) = D129 r n oN (xs x0 0 (K2 (fN r n) 0 7)) (aN (fun kk => D129 r n oN (xs x0 0 (K2 (fN r n) 0 7)) kk) m)).trans ?_
  rw [ih]
  exact (bVm r n (sL r n m)).trans (by kernel_rfl)
theorem cQl : D129 r n aGm (xs x0 0 (K2 (fN r n) 0 7)) (K2 (fN r n) 0 7) = (K4 (bZz r n) 0 1 2 7) :=
 (by kernel_rfl : D129 r n aGm (xs x0 0 (K2 (fN r n) 0 7)) (K2 (fN r n) 0 7) = aN (fun kk => D129 r n oN (xs x0 0 (K2 (fN r n) 0 7)) kk) n).trans ((bPi r n n).trans (by kernel_rfl))
theorem bXk : D129 r n aEg x0 r129 = D129 r n aCy x0 (K2 (fN r n) 0 7) :=
 congrArg (fun k => D129 r n aCy x0 k) (cFh r n)
theorem cHx : D129 r n aEg x0 r129 = (K4 (aUc r n) 0 1 2 7) :=
 (bXk r n).trans
 ((by kernel_rfl : D129 r n aCy x0 (K2 (fN r n) 0 7) = D129 r n aGm (xs x0 0 (K2 (fN r n) 0 7)) (K2 (fN r n) 0 7)).trans
 ((cQl r n).trans (by kernel_rfl)))
theorem bVi : D129 r n aGl x0 r129 = D129 r n bNu x0 (K4 (aUc r n) 0 1 2 7) :=
 congrArg (fun k => D129 r n bNu x0 k) (cHx r n)
theorem cIi : D129 r n aGl x0 r129 = (K3 (aSu r n) 0 1 2) :=
 (bVi r n).trans
 ((by kernel_rfl))
theorem dAe : D129 r n c129 x0 r129 = D129 r n bRo x0 (K3 (aSu r n) 0 1 2) :=
 congrArg (fun k => D129 r n bRo x0 k) (cIi r n)
theorem dLs : D129 r n c129 x0 r129 = (K3 (s129 r n) 0 1 2) :=
 (dAe r n).trans
 ((by kernel_rfl))
theorem cXi : aF CF r n 129 args h = s129 r n (aS args 0) (aS args 1) (aS args 2) h :=
 (by kernel_rfl : aF CF r n 129 args h = D129 r n c129 x0 r129 (aI args) h).trans ((congrFun (congrFun (dLs r n) (aI args)) h).trans (by kernel_rfl))
noncomputable def s130 (r : RT) (n : Nat) (x0 : DV) (h0 : Hp) : aJ :=
 bnd (bS x0 h0) fun v1 h1 =>
 some ((.f 145 [] [v1]), h1)
noncomputable abbrev c130 : Code := cf Tryz.f130
noncomputable abbrev r130 : K := aT CF Tryz.f130
noncomputable def D130 (r : RT) (n : Nat) (c : Code) (X : Nat → K) (k : K) : K := aM CF r 4 n c X r130 k
theorem dHb : D130 r n c130 x0 r130 = (K1 (s130 r n) 0) :=
 (by kernel_rfl)
theorem cZr : aF CF r n 130 args h = s130 r n (aS args 0) h :=
 (by kernel_rfl : aF CF r n 130 args h = D130 r n c130 x0 r130 (aI args) h).trans ((congrFun (congrFun (dHb r n) (aI args)) h).trans (by kernel_rfl))
noncomputable def s131 (r : RT) (n : Nat) (x0 x1 : DV) (h0 : Hp) : aJ :=
 bnd (r 146 [x0, x1] h0) fun v1 h1 =>
 some (v1, h1)
noncomputable abbrev c131 : Code := cf Tryz.f131
noncomputable abbrev r131 : K := aT CF Tryz.f131
noncomputable def D131 (r : RT) (n : Nat) (c : Code) (X : Nat → K) (k : K) : K := aM CF r 8 n c X r131 k
theorem dLn : D131 r n c131 x0 r131 = (K2 (s131 r n) 0 1) :=
 (by kernel_rfl)
theorem cVl : aF CF r n 131 args h = s131 r n (aS args 0) (aS args 1) h :=
 (by kernel_rfl : aF CF r n 131 args h = D131 r n c131 x0 r131 (aI args) h).trans ((congrFun (congrFun (dLn r n) (aI args)) h).trans (by kernel_rfl))
end Go.Dd

namespace Go.Dd
open Go.Proofs
variable (r : RT) (n : Nat) (args : List DV) (h : Hp)
noncomputable def iC (r : RT) (n : Nat) (x2 x4 x5 : DV) (h0 : Hp) : aJ :=
 bnd (aK 4 x4 h0) fun v1 h1 =>
 bnd (aG 4 x2 v1 h1) fun _ h2 =>
 bnd (aK 4 x2 h2) fun v3 _ =>
 some (.t [v3, x5], h2)
noncomputable def aQi (r : RT) (n : Nat) (x0 x2 x4 x5 x6 : DV) (h0 : Hp) : aJ :=
 bnd (r 148 [x6] h0) fun v1 h1 =>
 aQ v1 (
 bnd (aB 0 x4 h1) fun v2 h2 =>
 bnd (aG 1 v2 (aE 1) h2) fun _ h3 =>
 bnd (r 149 [x0] h3) fun v4 h4 =>
 bnd (aC 0 v4 h4) fun v5 h5 =>
 bnd (aC 1 v4 h5) fun v6 h6 =>
 bnd (aB 1 x4 h6) fun v7 h7 =>
 bnd (aG 1 v7 v5 h7) fun _ h8 =>
 bnd (aD .eql v6 (aE 0) h8) fun v9 h9 =>
 bnd (gD v9 true (some (x0, h9)) h9) fun v10 h10 =>
 bnd (gD v9 true (r 150 [v10] h10) h10) fun v11 h11 =>
 bnd (aO v9 v11 (.b false) h11) fun v12 h12 =>
 aQ v12 (
 bnd (aB 1 x4 h12) fun v13 h13 =>
 bnd (aA v13 h13) fun v14 h14 =>
 bnd (eM .add v14 (.s [58]) h14) fun v15 h15 =>
 bnd (aB 0 x4 h15) fun v16 h16 =>
 bnd (aG 1 v16 (aE 2) h16) fun _ h17 =>
 bnd (aB 1 x4 h17) fun v18 h18 =>
 bnd (aG 1 v18 v15 h18) fun _ h19 =>
      iC r n x2 x4 v6 h19) (
      iC r n x2 x4 v6 h12)) (
 bnd (r 151 [x6] h1) fun v20 h20 =>
 aQ v20 (
 bnd (aB 0 x4 h20) fun v21 h21 =>
 bnd (aG 1 v21 (aE 4) h21) fun _ h22 =>
 bnd (r 152 [x0] h22) fun v23 h23 =>
 bnd (aC 0 v23 h23) fun v24 h24 =>
 bnd (aC 1 v23 h24) fun v25 h25 =>
 bnd (aB 2 x4 h25) fun v26 h26 =>
 bnd (aG 1 v26 v24 h26) fun _ h27 =>
      iC r n x2 x4 v25 h27) (
 bnd (aD .eql x6 (.i .u8 (Int.ofNat 39)) h20) fun v28 h28 =>
 aQ v28 (
 bnd (aR x0 h28) fun v29 h29 =>
 bnd (aB 1 v29 h29) fun v30 h30 =>
 bnd (aA v30 h30) fun v31 h31 =>
 bnd (aD .add v31 (aE 1) h31) fun v32 h32 =>
 bnd (aR x0 h32) fun v33 h33 =>
 bnd (aB 1 v33 h33) fun v34 h34 =>
 bnd (aG 1 v34 v32 h34) fun _ h35 =>
 bnd (aB 0 x4 h35) fun v36 h36 =>
 bnd (aG 1 v36 (aE 5) h36) fun _ h37 =>
 bnd (r 153 [x0] h37) fun v38 h38 =>
 bnd (aC 0 v38 h38) fun v39 h39 =>
 bnd (aC 1 v38 h39) fun v40 h40 =>
 bnd (aB 1 x4 h40) fun v41 h41 =>
 bnd (aG 1 v41 v39 h41) fun _ h42 =>
    iC r n x2 x4 v40 h42) (
 bnd (aD .eql x6 (.i .u8 (Int.ofNat 35)) h28) fun v43 h43 =>
 bnd (gD v43 true (some (x0, h43)) h43) fun v44 h44 =>
 bnd (gD v43 true (r 147 [v44, (aE 1)] h44) h44) fun v45 h45 =>
 bnd (gD v43 true (aD .eql v45 (.i .u8 (Int.ofNat 40)) h45) h45) fun v46 h46 =>
 bnd (aO v43 v46 (.b false) h46) fun v47 h47 =>
 aQ v47 (
 bnd (aR x0 h47) fun v48 h48 =>
 bnd (aB 1 v48 h48) fun v49 h49 =>
 bnd (aA v49 h49) fun v50 h50 =>
 bnd (aD .add v50 (aE 2) h50) fun v51 h51 =>
 bnd (aR x0 h51) fun v52 h52 =>
 bnd (aB 1 v52 h52) fun v53 h53 =>
 bnd (aG 1 v53 v51 h53) fun _ h54 =>
 bnd (aB 0 x4 h54) fun v55 h55 =>
 bnd (aG 1 v55 (aE 7) h55) fun _ h56 =>
     iC r n x2 x4 x5 h56) (
 bnd (aD .eql x6 (.i .u8 (Int.ofNat 35)) h47) fun v57 h57 =>
 aQ v57 (
 bnd (aR x0 h57) fun v58 h58 =>
 bnd (aB 1 v58 h58) fun v59 h59 =>
 bnd (aA v59 h59) fun v60 h60 =>
 bnd (aD .add v60 (aE 1) h60) fun v61 h61 =>
 bnd (aR x0 h61) fun v62 h62 =>
 bnd (aB 1 v62 h62) fun v63 h63 =>
 bnd (aG 1 v63 v61 h63) fun _ h64 =>
 bnd (aB 0 x4 h64) fun v65 h65 =>
 bnd (aG 1 v65 (aE 6) h65) fun _ h66 =>
 bnd (r 154 [x0] h66) fun v67 h67 =>
 bnd (aC 0 v67 h67) fun v68 h68 =>
 bnd (aC 1 v67 h68) fun v69 h69 =>
 bnd (aB 1 x4 h69) fun v70 h70 =>
 bnd (aG 1 v70 v68 h70) fun _ h71 =>
      iC r n x2 x4 v69 h71) (
 bnd (aD .eql x6 (.i .u8 (Int.ofNat 58)) h57) fun v72 h72 =>
 bnd (gD v72 true (some (x0, h72)) h72) fun v73 h73 =>
 bnd (gD v72 true (r 147 [v73, (aE 1)] h73) h73) fun v74 h74 =>
 bnd (gD v72 true (aD .eql v74 (.i .u8 (Int.ofNat 61)) h74) h74) fun v75 h75 =>
 bnd (aO v72 v75 (.b false) h75) fun v76 h76 =>
 aQ v76 (
 bnd (aR x0 h76) fun v77 h77 =>
 bnd (aB 1 v77 h77) fun v78 h78 =>
 bnd (aA v78 h78) fun v79 h79 =>
 bnd (aD .add v79 (aE 2) h79) fun v80 h80 =>
 bnd (aR x0 h80) fun v81 h81 =>
 bnd (aB 1 v81 h81) fun v82 h82 =>
 bnd (aG 1 v82 v80 h82) fun _ h83 =>
 bnd (aB 0 x4 h83) fun v84 h84 =>
 bnd (aG 1 v84 (aE 9) h84) fun _ h85 =>
       iC r n x2 x4 x5 h85) (
 bnd (aD .eql x6 (.i .u8 (Int.ofNat 58)) h76) fun v86 h86 =>
 bnd (gD v86 true (some (x0, h86)) h86) fun v87 h87 =>
 bnd (gD v86 true (r 147 [v87, (aE 1)] h87) h87) fun v88 h88 =>
 bnd (gD v86 true (r 148 [v88] h88) h88) fun v89 h89 =>
 bnd (aO v86 v89 (.b false) h89) fun v90 h90 =>
 aQ v90 (
 bnd (aR x0 h90) fun v91 h91 =>
 bnd (aB 1 v91 h91) fun v92 h92 =>
 bnd (aA v92 h92) fun v93 h93 =>
 bnd (aD .add v93 (aE 1) h93) fun v94 h94 =>
 bnd (aR x0 h94) fun v95 h95 =>
 bnd (aB 1 v95 h95) fun v96 h96 =>
 bnd (aG 1 v96 v94 h96) fun _ h97 =>
 bnd (aB 0 x4 h97) fun v98 h98 =>
 bnd (aG 1 v98 (aE 8) h98) fun _ h99 =>
 bnd (r 149 [x0] h99) fun v100 h100 =>
 bnd (aC 0 v100 h100) fun v101 h101 =>
 bnd (aC 1 v100 h101) fun v102 h102 =>
 bnd (aB 1 x4 h102) fun v103 h103 =>
 bnd (aG 1 v103 v101 h103) fun _ h104 =>
        iC r n x2 x4 v102 h104) (
 bnd (r 130 [(.s [43, 45, 42, 47, 60, 62, 61, 126, 44, 64, 38, 37])] h90) fun v105 h105 =>
 bnd (cU CF r v105 [x6] h105) fun v106 h106 =>
 aQ v106 (
 bnd (r 130 [(.s [43, 45, 42, 47, 60, 62, 61, 126, 44, 64, 38, 37])] h106) fun v107 h107 =>
 bnd (r 129 [x0, v107, (aE 2)] h107) fun v108 h108 =>
 bnd (aB 0 x4 h108) fun v109 h109 =>
 bnd (aG 1 v109 (aE 3) h109) fun _ h110 =>
 bnd (aB 1 x4 h110) fun v111 h111 =>
 bnd (aG 1 v111 v108 h111) fun _ h112 =>
         iC r n x2 x4 x5 h112) (
 bnd (r 130 [(.s [94, 46, 59, 40, 41, 91, 93, 124])] h106) fun v113 h113 =>
 bnd (cU CF r v113 [x6] h113) fun v114 h114 =>
 aQ v114 (
 bnd (r 130 [(.s [94, 46, 59, 40, 41, 91, 93, 124])] h114) fun v115 h115 =>
 bnd (r 129 [x0, v115, (aE 1)] h115) fun v116 h116 =>
 bnd (aB 0 x4 h116) fun v117 h117 =>
 bnd (aG 1 v117 (aE 10) h117) fun _ h118 =>
 bnd (aB 1 x4 h118) fun v119 h119 =>
 bnd (aG 1 v119 v116 h119) fun _ h120 =>
          iC r n x2 x4 x5 h120) (
          iC r n x2 x4 (aE 10) h114)))))))))
noncomputable def aPj (r : RT) (n : Nat) (x0 x2 x4 x5 : DV) (h0 : Hp) : aJ :=
 bnd (r 147 [x0, (aE 0)] h0) fun v1 h1 =>
  aQi r n x0 x2 x4 x5 v1 h1
noncomputable def xT (r : RT) (n : Nat) (x0 x2 x4 : DV) (h0 : Hp) : aJ :=
 aPj r n x0 x2 x4 (aE 0) h0
noncomputable def qU (r : RT) (n : Nat) (x0 x2 : DV) (h0 : Hp) : aJ :=
 bnd (aR x0 h0) fun v1 h1 =>
 bnd (aB 1 v1 h1) fun v2 h2 =>
 bnd (aA v2 h2) fun v3 h3 =>
 bnd (bB [(aE 0), (.s []), (aE 0), (aE 0)] [(3, 1, v3)] h3) fun v4 h4 =>
 bnd (bL [(aE 0), (.s []), (aE 0), (aE 0)] h4) fun v5 h5 =>
 bnd (aG 4 v5 v4 h5) fun _ h6 =>
  xT r n x0 x2 v5 h6
noncomputable def s132 (r : RT) (n : Nat) (x0 : DV) (h0 : Hp) : aJ :=
 bnd (bL [(aE 0), (.s []), (aE 0), (aE 0)] h0) fun v1 h1 =>
  qU r n x0 v1 h1
noncomputable abbrev c132 : Code := cf Tryz.f132
noncomputable abbrev aBt : Code := cR c132
noncomputable abbrev aBp : Code := cR aBt
noncomputable abbrev aEc : Code := cR aBp
noncomputable abbrev aCw : Code := cR aEc
noncomputable abbrev cZa : Code := cR aCw
noncomputable abbrev cAl : Code := cL aCw
noncomputable abbrev bOl : Code := cL aEc
noncomputable abbrev bQq : Code := cL aBp
noncomputable abbrev aSw : Code := cL aBt
noncomputable abbrev aIv : Code := cL c132
noncomputable abbrev r132 : K := aT CF Tryz.f132
noncomputable def D132 (r : RT) (n : Nat) (c : Code) (X : Nat → K) (k : K) : K := aM CF r 153 n c X r132 k
theorem cNa : D132 r n cZa x0 r132 = (K3 (iC r n) 2 4 5) :=
 (by kernel_rfl)
theorem cCd : D132 r n aCw x0 r132 = D132 r n cAl x0 (K3 (iC r n) 2 4 5) :=
 congrArg (fun k => D132 r n cAl x0 k) (cNa r n)
theorem cDj : D132 r n aCw x0 r132 = (K5 (aQi r n) 0 2 4 5 6) :=
 (cCd r n).trans
 ((by kernel_rfl))
theorem bPe : D132 r n aEc x0 r132 = D132 r n bOl x0 (K5 (aQi r n) 0 2 4 5 6) :=
 congrArg (fun k => D132 r n bOl x0 k) (cDj r n)
theorem cRg : D132 r n aEc x0 r132 = (K4 (aPj r n) 0 2 4 5) :=
 (bPe r n).trans
 ((by kernel_rfl))
theorem bKy : D132 r n aBp x0 r132 = D132 r n bQq x0 (K4 (aPj r n) 0 2 4 5) :=
 congrArg (fun k => D132 r n bQq x0 k) (cRg r n)
theorem cMm : D132 r n aBp x0 r132 = (K3 (xT r n) 0 2 4) :=
 (bKy r n).trans
 ((by kernel_rfl))
theorem bKk : D132 r n aBt x0 r132 = D132 r n aSw x0 (K3 (xT r n) 0 2 4) :=
 congrArg (fun k => D132 r n aSw x0 k) (cMm r n)
theorem bXb (q0 : mP) : D132 r n aSw x0 (K3 q0 0 2 4) = fun (env : aY) (h : Hp) =>
 bnd (aR (env 0) h) fun v1 h1 =>
 bnd (aB 1 v1 h1) fun v2 h2 =>
 bnd (aA v2 h2) fun v3 h3 =>
 bnd (bB [(aE 0), (.s []), (aE 0), (aE 0)] [(3, 1, v3)] h3) fun v4 h4 =>
 bnd (bL [(aE 0), (.s []), (aE 0), (aE 0)] h4) fun v5 h5 =>
 bnd (aG 4 v5 v4 h5) fun _ h6 =>
  q0 (env 0) (env 2) v5 h6 := by kernel_rfl
theorem bGn : (fun (env : aY) (h : Hp) =>
 bnd (aR (env 0) h) fun v1 h1 =>
 bnd (aB 1 v1 h1) fun v2 h2 =>
 bnd (aA v2 h2) fun v3 h3 =>
 bnd (bB [(aE 0), (.s []), (aE 0), (aE 0)] [(3, 1, v3)] h3) fun v4 h4 =>
 bnd (bL [(aE 0), (.s []), (aE 0), (aE 0)] h4) fun v5 h5 =>
 bnd (aG 4 v5 v4 h5) fun _ h6 =>
  xT r n (env 0) (env 2) v5 h6) = (K2 (qU r n) 0 2) := by kernel_rfl
theorem cMh : D132 r n aBt x0 r132 = (K2 (qU r n) 0 2) :=
 (bKk r n).trans
 ((bXb r n (xT r n)).trans (bGn r n))
theorem cWe : D132 r n c132 x0 r132 = D132 r n aIv x0 (K2 (qU r n) 0 2) :=
 congrArg (fun k => D132 r n aIv x0 k) (cMh r n)
theorem cYb (q0 : gJ) : D132 r n aIv x0 (K2 q0 0 2) = fun (env : aY) (h : Hp) =>
 bnd (bL [(aE 0), (.s []), (aE 0), (aE 0)] h) fun v1 h1 =>
  q0 (env 0) v1 h1 := by kernel_rfl
theorem cDg : (fun (env : aY) (h : Hp) =>
 bnd (bL [(aE 0), (.s []), (aE 0), (aE 0)] h) fun v1 h1 =>
  qU r n (env 0) v1 h1) = (K1 (s132 r n) 0) := by kernel_rfl
theorem dGq : D132 r n c132 x0 r132 = (K1 (s132 r n) 0) :=
 (cWe r n).trans
 ((cYb r n (qU r n)).trans (cDg r n))
theorem cXq : aF CF r n 132 args h = s132 r n (aS args 0) h :=
 (by kernel_rfl : aF CF r n 132 args h = D132 r n c132 x0 r132 (aI args) h).trans ((congrFun (congrFun (dGq r n) (aI args)) h).trans (by kernel_rfl))
noncomputable def s133 (r : RT) (n : Nat) (x0 x1 x2 : DV) (h0 : Hp) : aJ :=
 bnd (r 137 [x0, (aE 0)] h0) fun v1 h1 =>
 bnd (bL [(aE 0), (.s []), (aE 0), (aE 0)] h1) fun v2 h2 =>
 bnd (aG 4 v2 v1 h2) fun _ h3 =>
 bnd (aR x0 h3) fun v4 h4 =>
 bnd (aB 3 v4 h4) fun v5 h5 =>
 bnd (aA v5 h5) fun v6 h6 =>
 bnd (aD .eql v6 (aE 0) h6) fun v7 h7 =>
 bnd (gD v7 true (aB 0 v2 h7) h7) fun v8 h8 =>
 bnd (gD v7 true (aA v8 h8) h8) fun v9 h9 =>
 bnd (gD v7 true (some (x1, h9)) h9) fun v10 h10 =>
 bnd (gD v7 true (aD .eql v9 v10 h10) h10) fun v11 h11 =>
 bnd (aO v7 v11 (.b false) h11) fun v12 h12 =>
 bnd (gD v12 true (some (x2, h12)) h12) fun v13 h13 =>
 bnd (gD v12 true (eM .eql v13 (.s []) h13) h13) fun v14 h14 =>
 bnd (gD v12 true (some (v14, h14)) h14) fun v15 h15 =>
 bnd (gD v15 false (aB 1 v2 h15) h15) fun v16 h16 =>
 bnd (gD v15 false (aA v16 h16) h16) fun v17 h17 =>
 bnd (gD v15 false (some (x2, h17)) h17) fun v18 h18 =>
 bnd (gD v15 false (eM .eql v17 v18 h18) h18) fun v19 h19 =>
 bnd (gD v12 true (aO v15 (.b true) v19 h19) h19) fun v20 h20 =>
 bnd (aO v12 v20 (.b false) h20) fun v21 h21 =>
 some (v21, h21)
noncomputable abbrev c133 : Code := cf Tryz.f133
noncomputable abbrev r133 : K := aT CF Tryz.f133
noncomputable def D133 (r : RT) (n : Nat) (c : Code) (X : Nat → K) (k : K) : K := aM CF r 31 n c X r133 k
theorem dGi : D133 r n c133 x0 r133 = (K3 (s133 r n) 0 1 2) :=
 (by kernel_rfl)
theorem dEn : aF CF r n 133 args h = s133 r n (aS args 0) (aS args 1) (aS args 2) h :=
 (by kernel_rfl : aF CF r n 133 args h = D133 r n c133 x0 r133 (aI args) h).trans ((congrFun (congrFun (dGi r n) (aI args)) h).trans (by kernel_rfl))
noncomputable def aKs (r : RT) (n : Nat) (x2 x3 : DV) (h0 : Hp) : aJ :=
 bnd (aK 4 x3 h0) fun v1 h1 =>
 bnd (aG 4 x2 v1 h1) fun _ h2 =>
 bnd (aK 4 x2 h2) fun v3 _ =>
 some (v3, h2)
noncomputable def wS (r : RT) (n : Nat) (x0 x2 x3 : DV) (h0 : Hp) : aJ :=
 bnd (aB 0 x3 h0) fun v1 h1 =>
 bnd (aA v1 h1) fun v2 h2 =>
 bnd (aD .neq v2 (aE 0) h2) fun v3 h3 =>
 aQ v3 (
 bnd (aR x0 h3) fun v4 h4 =>
 bnd (aB 0 v4 h4) fun v5 h5 =>
 bnd (aA v5 h5) fun v6 h6 =>
 bnd (cT 4 v6 (some (aE 1)) none h6) fun v7 h7 =>
 bnd (aR x0 h7) fun v8 h8 =>
 bnd (aB 0 v8 h8) fun v9 h9 =>
 bnd (aG 1 v9 v7 h9) fun _ h10 =>
  aKs r n x2 x3 h10) (
  aKs r n x2 x3 h3)
noncomputable def pZ (r : RT) (n : Nat) (x0 x2 : DV) (h0 : Hp) : aJ :=
 bnd (r 137 [x0, (aE 0)] h0) fun v1 h1 =>
 bnd (bL [(aE 0), (.s []), (aE 0), (aE 0)] h1) fun v2 h2 =>
 bnd (aG 4 v2 v1 h2) fun _ h3 =>
  wS r n x0 x2 v2 h3
noncomputable def s134 (r : RT) (n : Nat) (x0 : DV) (h0 : Hp) : aJ :=
 bnd (bL [(aE 0), (.s []), (aE 0), (aE 0)] h0) fun v1 h1 =>
  pZ r n x0 v1 h1
noncomputable abbrev c134 : Code := cf Tryz.f134
noncomputable abbrev aIt : Code := cR c134
noncomputable abbrev aLb : Code := cR aIt
noncomputable abbrev dFr : Code := cR aLb
noncomputable abbrev bYr : Code := cL aLb
noncomputable abbrev aSe : Code := cL aIt
noncomputable abbrev aRf : Code := cL c134
noncomputable abbrev r134 : K := aT CF Tryz.f134
noncomputable def D134 (r : RT) (n : Nat) (c : Code) (X : Nat → K) (k : K) : K := aM CF r 18 n c X r134 k
theorem cIz : D134 r n dFr x0 r134 = (K2 (aKs r n) 2 3) :=
 (by kernel_rfl)
theorem bHw : D134 r n aLb x0 r134 = D134 r n bYr x0 (K2 (aKs r n) 2 3) :=
 congrArg (fun k => D134 r n bYr x0 k) (cIz r n)
theorem cIl : D134 r n aLb x0 r134 = (K3 (wS r n) 0 2 3) :=
 (bHw r n).trans
 ((by kernel_rfl))
theorem bWy : D134 r n aIt x0 r134 = D134 r n aSe x0 (K3 (wS r n) 0 2 3) :=
 congrArg (fun k => D134 r n aSe x0 k) (cIl r n)
theorem bWa (q0 : mP) : D134 r n aSe x0 (K3 q0 0 2 3) = fun (env : aY) (h : Hp) =>
 bnd (r 137 [(env 0), (aE 0)] h) fun v1 h1 =>
 bnd (bL [(aE 0), (.s []), (aE 0), (aE 0)] h1) fun v2 h2 =>
 bnd (aG 4 v2 v1 h2) fun _ h3 =>
  q0 (env 0) (env 2) v2 h3 := by kernel_rfl
theorem bFm : (fun (env : aY) (h : Hp) =>
 bnd (r 137 [(env 0), (aE 0)] h) fun v1 h1 =>
 bnd (bL [(aE 0), (.s []), (aE 0), (aE 0)] h1) fun v2 h2 =>
 bnd (aG 4 v2 v1 h2) fun _ h3 =>
  wS r n (env 0) (env 2) v2 h3) = (K2 (pZ r n) 0 2) := by kernel_rfl
theorem cQm : D134 r n aIt x0 r134 = (K2 (pZ r n) 0 2) :=
 (bWy r n).trans
 ((bWa r n (wS r n)).trans (bFm r n))
theorem dEj : D134 r n c134 x0 r134 = D134 r n aRf x0 (K2 (pZ r n) 0 2) :=
 congrArg (fun k => D134 r n aRf x0 k) (cQm r n)
theorem cXs (q0 : gJ) : D134 r n aRf x0 (K2 q0 0 2) = fun (env : aY) (h : Hp) =>
 bnd (bL [(aE 0), (.s []), (aE 0), (aE 0)] h) fun v1 h1 =>
  q0 (env 0) v1 h1 := by kernel_rfl
theorem cRb : (fun (env : aY) (h : Hp) =>
 bnd (bL [(aE 0), (.s []), (aE 0), (aE 0)] h) fun v1 h1 =>
  pZ r n (env 0) v1 h1) = (K1 (s134 r n) 0) := by kernel_rfl
theorem dHa : D134 r n c134 x0 r134 = (K1 (s134 r n) 0) :=
 (dEj r n).trans
 ((cXs r n (pZ r n)).trans (cRb r n))
theorem cYl : aF CF r n 134 args h = s134 r n (aS args 0) h :=
 (by kernel_rfl : aF CF r n 134 args h = D134 r n c134 x0 r134 (aI args) h).trans ((congrFun (congrFun (dHa r n) (aI args)) h).trans (by kernel_rfl))
noncomputable def s135 (r : RT) (n : Nat) (x0 : DV) (h0 : Hp) : aJ :=
 bnd (bL gY h0) fun v1 h1 =>
 bnd (r 133 [x0, (aE 1), (.s [])] h1) fun v2 h2 =>
 bnd (gD v2 true (some (x0, h2)) h2) fun v3 h3 =>
 bnd (gD v2 true (r 137 [v3, (aE 1)] h3) h3) fun v4 h4 =>
 bnd (gD v2 true (fI 0 v4 h4) h4) fun v5 h5 =>
 bnd (gD v2 true (aD .eql v5 (aE 9) h5) h5) fun v6 h6 =>
 bnd (aO v2 v6 (.b false) h6) fun v7 h7 =>
 aQ v7 (
 bnd (r 134 [x0] h7) fun v8 h8 =>
 bnd (fI 1 v8 h8) fun v9 h9 =>
 bnd (bB gY [(0, 1, (aE 6)), (1, 1, v9)] h9) fun v10 h10 =>
 bnd (bL gY h10) fun v11 h11 =>
 bnd (aG 6 v11 v10 h11) fun _ h12 =>
 bnd (r 134 [x0] h12) fun v13 h13 =>
 bnd (r 135 [x0] h13) fun v14 h14 =>
 bnd (aL gY 1 [(0, 6, v14)] h14) fun v15 h15 =>
 bnd (aB 5 v11 h15) fun v16 h16 =>
 bnd (aG 1 v16 v15 h16) fun _ h17 =>
 bnd (aK 6 v11 h17) fun v18 h18 =>
 bnd (aG 6 v1 v18 h18) fun _ h19 =>
 bnd (aK 6 v1 h19) fun v20 _ =>
 some (v20, h19)) (
 bnd (r 155 [x0] h7) fun v21 h21 =>
 bnd (aG 6 v1 v21 h21) fun _ h22 =>
 bnd (aK 6 v1 h22) fun v23 _ =>
 some (v23, h22))
noncomputable abbrev c135 : Code := cf Tryz.f135
noncomputable abbrev r135 : K := aT CF Tryz.f135
noncomputable def D135 (r : RT) (n : Nat) (c : Code) (X : Nat → K) (k : K) : K := aM CF r 25 n c X r135 k
theorem dLm : D135 r n c135 x0 r135 = (K1 (s135 r n) 0) :=
 (by kernel_rfl)
theorem cZu : aF CF r n 135 args h = s135 r n (aS args 0) h :=
 (by kernel_rfl : aF CF r n 135 args h = D135 r n c135 x0 r135 (aI args) h).trans ((congrFun (congrFun (dLm r n) (aI args)) h).trans (by kernel_rfl))
noncomputable def s137 (r : RT) (n : Nat) (x0 x1 : DV) (h0 : Hp) : aJ :=
 bnd (bL [(aE 0), (.s []), (aE 0), (aE 0)] h0) fun v1 h1 =>
 bnd (aR x0 h1) fun v2 h2 =>
 bnd (aB 0 v2 h2) fun v3 h3 =>
 bnd (aA v3 h3) fun v4 h4 =>
 bnd (aR x0 h4) fun v5 h5 =>
 bnd (aB 0 v5 h5) fun v6 h6 =>
 bnd (aA v6 h6) fun v7 h7 =>
 bnd (bX v7 h7) fun v8 h8 =>
 bnd (aD .sub v8 (aE 1) h8) fun v9 h9 =>
 bnd (aTq x1 v9 h9) fun v10 h10 =>
 bnd (aH 4 v4 v10 h10) fun v11 h11 =>
 bnd (aK 4 v11 h11) fun v12 h12 =>
 bnd (aG 4 v1 v12 h12) fun v13 h13 =>
 bnd (aK 4 v1 h13) fun v14 _ =>
 some (v14, h13)
noncomputable abbrev c137 : Code := cf Tryz.f137
noncomputable abbrev r137 : K := aT CF Tryz.f137
noncomputable def D137 (r : RT) (n : Nat) (c : Code) (X : Nat → K) (k : K) : K := aM CF r 19 n c X r137 k
theorem dGu : D137 r n c137 x0 r137 = (K2 (s137 r n) 0 1) :=
 (by kernel_rfl)
theorem dCx : aF CF r n 137 args h = s137 r n (aS args 0) (aS args 1) h :=
 (by kernel_rfl : aF CF r n 137 args h = D137 r n c137 x0 r137 (aI args) h).trans ((congrFun (congrFun (dGu r n) (aI args)) h).trans (by kernel_rfl))
noncomputable def aDd (r : RT) (n : Nat) (x7 : DV) (h0 : Hp) : aJ :=
 bnd (aB 1 x7 h0) fun v1 h1 =>
 bnd (aA v1 h1) fun v2 h2 =>
 some (v2, h2)
noncomputable def xY (r : RT) (n : Nat) (x0 x2 x7 : DV) (h0 : Hp) : aJ :=
 bnd (bX x2 h0) fun v1 h1 =>
 bnd (aD .eql v1 (aE 4) h1) fun v2 h2 =>
 aQ v2 (
 bnd (aK 4 x7 h2) fun v3 h3 =>
 bnd (r 136 [x0, v3, (aE 18)] h3) fun v4 h4 =>
  aDd r n x7 h4) (
  aDd r n x7 h2)
noncomputable def aDn (r : RT) (n : Nat) (x0 x1 x2 : DV) (h0 : Hp) : aJ :=
 bnd (r 120 [x0, x1, (.s [])] h0) fun v1 h1 =>
 bnd (bL [(aE 0), (.s []), (aE 0), (aE 0)] h1) fun v2 h2 =>
 bnd (aG 4 v2 v1 h2) fun _ h3 =>
  xY r n x0 x2 v2 h3
noncomputable def s138 (r : RT) (n : Nat) (x0 x1 x2 : DV) (h0 : Hp) : aJ :=
 aDn r n x0 x1 x2 h0
noncomputable abbrev c138 : Code := cf Tryz.f138
noncomputable abbrev aJg : Code := cR c138
noncomputable abbrev aKy : Code := cR aJg
noncomputable abbrev dDe : Code := cR aKy
noncomputable abbrev bUg : Code := cL aKy
noncomputable abbrev aPv : Code := cL aJg
noncomputable abbrev bJv : Code := cL c138
noncomputable abbrev r138 : K := aT CF Tryz.f138
noncomputable def D138 (r : RT) (n : Nat) (c : Code) (X : Nat → K) (k : K) : K := aM CF r 19 n c X r138 k
theorem cEa : D138 r n dDe x0 r138 = (K1 (aDd r n) 7) :=
 (by kernel_rfl)
theorem bIq : D138 r n aKy x0 r138 = D138 r n bUg x0 (K1 (aDd r n) 7) :=
 congrArg (fun k => D138 r n bUg x0 k) (cEa r n)
theorem cRq : D138 r n aKy x0 r138 = (K3 (xY r n) 0 2 7) :=
 (bIq r n).trans
 ((by kernel_rfl))
theorem bMn : D138 r n aJg x0 r138 = D138 r n aPv x0 (K3 (xY r n) 0 2 7) :=
 congrArg (fun k => D138 r n aPv x0 k) (cRq r n)
theorem bQw (q0 : mP) : D138 r n aPv x0 (K3 q0 0 2 7) = fun (env : aY) (h : Hp) =>
 bnd (r 120 [(env 0), (env 1), (.s [])] h) fun v1 h1 =>
 bnd (bL [(aE 0), (.s []), (aE 0), (aE 0)] h1) fun v2 h2 =>
 bnd (aG 4 v2 v1 h2) fun _ h3 =>
  q0 (env 0) (env 2) v2 h3 := by kernel_rfl
theorem bGa : (fun (env : aY) (h : Hp) =>
 bnd (r 120 [(env 0), (env 1), (.s [])] h) fun v1 h1 =>
 bnd (bL [(aE 0), (.s []), (aE 0), (aE 0)] h1) fun v2 h2 =>
 bnd (aG 4 v2 v1 h2) fun _ h3 =>
  xY r n (env 0) (env 2) v2 h3) = (K3 (aDn r n) 0 1 2) := by kernel_rfl
theorem cPp : D138 r n aJg x0 r138 = (K3 (aDn r n) 0 1 2) :=
 (bMn r n).trans
 ((bQw r n (xY r n)).trans (bGa r n))
theorem dAg : D138 r n c138 x0 r138 = D138 r n bJv x0 (K3 (aDn r n) 0 1 2) :=
 congrArg (fun k => D138 r n bJv x0 k) (cPp r n)
theorem dLl : D138 r n c138 x0 r138 = (K3 (s138 r n) 0 1 2) :=
 (dAg r n).trans
 ((by kernel_rfl))
theorem dBo : aF CF r n 138 args h = s138 r n (aS args 0) (aS args 1) (aS args 2) h :=
 (by kernel_rfl : aF CF r n 138 args h = D138 r n c138 x0 r138 (aI args) h).trans ((congrFun (congrFun (dLl r n) (aI args)) h).trans (by kernel_rfl))
noncomputable def dA (r : RT) (n : Nat) (kk2 : cE) (x0 x2 x10 x11 x12 : DV) (h0 : Hp) : aJ :=
 bnd (aD .add x12 (aE 1) h0) fun v1 h1 =>
  kk2 x0 x2 x10 x11 v1 h1
noncomputable def yJ (r : RT) (n : Nat) (kk2 : cE) (x0 x2 x7 x10 x11 x12 : DV) (h0 : Hp) : aJ :=
 bnd (aR x0 h0) fun v1 h1 =>
 bnd (aB 8 v1 h1) fun v2 h2 =>
 bnd (aA v2 h2) fun v3 h3 =>
 bnd (aD .neq v3 (aE 0) h3) fun v4 h4 =>
 aQ v4 (
 some (.t [], h4)) (
 bnd (aR x0 (resv 1 h4)) fun v5 h5 =>
 bnd (aB 6 v5 h5) fun v6 h6 =>
 bnd (aA v6 h6) fun v7 h7 =>
 bnd (aR x0 h7) fun v8 h8 =>
 bnd (aB 0 v8 h8) fun v9 h9 =>
 bnd (aB 2 v9 h9) fun v10 h10 =>
 bnd (aA v10 h10) fun v11 h11 =>
 bnd (bB [(.s []), (.b false), (.b false), (aE 0)] [(0, 1, x7), (1, 1, (.b false)), (2, 1, x2), (3, 1, v11)] h11) fun v12 h12 =>
 bnd (bJ (bY 0 h4.next) [(.s []), (.b false), (.b false), (aE 0)] 1 [(0, 4, v12)] h12) fun v13 h13 =>
 bnd (aZ 4 32 v7 v13 h13) fun v14 h14 =>
 bnd (aR x0 h14) fun v15 h15 =>
 bnd (aB 6 v15 h15) fun v16 h16 =>
 bnd (aG 1 v16 v14 h16) fun v17 h17 =>
 bnd (aR x0 h17) fun v18 h18 =>
 bnd (aB 0 v18 h18) fun v19 h19 =>
 bnd (aB 2 v19 h19) fun v20 h20 =>
 bnd (aA v20 h20) fun v21 h21 =>
 bnd (aD .add v21 (aE 1) h21) fun v22 h22 =>
 bnd (aR x0 h22) fun v23 h23 =>
 bnd (aB 0 v23 h23) fun v24 h24 =>
 bnd (aB 2 v24 h24) fun v25 h25 =>
 bnd (aG 1 v25 v22 h25) fun _ h26 =>
  dA r n kk2 x0 x2 x10 x11 x12 h26)
noncomputable def nP (r : RT) (n : Nat) (kk2 : cE) (x0 x2 x7 x10 x11 x12 : DV) (h0 : Hp) : aJ :=
 bnd (aR x0 h0) fun v1 h1 =>
 bnd (aB 0 v1 h1) fun v2 h2 =>
 bnd (aB 2 v2 h2) fun v3 h3 =>
 bnd (aA v3 h3) fun v4 h4 =>
 bnd (aD .eql v4 (aE 24) h4) fun v5 h5 =>
 aQ v5 (
 bnd (r 158 [x0, x7, (aE 18)] h5) fun v6 h6 =>
  yJ r n kk2 x0 x2 x7 x10 x11 x12 h6) (
  yJ r n kk2 x0 x2 x7 x10 x11 x12 h5)
noncomputable def aEk (r : RT) (n : Nat) (kk2 : cE) (x0 x2 x7 x10 x11 x12 : DV) (h0 : Hp) : aJ :=
 bnd (r 156 [x0, x7] h0) fun v1 h1 =>
 bnd (aC 0 v1 h1) fun v2 h2 =>
 bnd (aC 1 v1 h2) fun v3 h3 =>
 bnd (bL [(.s []), (.b false), (.b false), (aE 0)] h3) fun v4 h4 =>
 bnd (aG 4 v4 v2 h4) fun _ h5 =>
 bnd (gD v3 false (some (x7, h5)) h5) fun v6 h6 =>
 bnd (gD v3 false (r 157 [v6] h6) h6) fun v7 h7 =>
 bnd (aO v3 (.b true) v7 h7) fun v8 h8 =>
 aQ v8 (
 bnd (r 158 [x0, x7, (aE 16)] h8) fun v9 h9 =>
  nP r n kk2 x0 x2 x7 x10 x11 x12 h9) (
  nP r n kk2 x0 x2 x7 x10 x11 x12 h8)
noncomputable def aQt (r : RT) (n : Nat) (kk2 : cE) (x0 x2 x10 x11 x12 : DV) (h0 : Hp) : aJ :=
 bnd (aH 1 x10 x12 h0) fun v1 h1 =>
 bnd (aA v1 h1) fun v2 h2 =>
  aEk r n kk2 x0 x2 v2 x10 x11 x12 h2
noncomputable def aSm (r : RT) (n : Nat) (kk2 : cE) (x0 x2 x10 x11 x12 x13 : DV) (h0 : Hp) : aJ :=
 aQ x13 (
  aQt r n kk2 x0 x2 x10 x11 x12 h0) (
 some (.t [], h0))
noncomputable def aXo (r : RT) (n : Nat) (kk2 : cE) (x0 x2 x10 x11 x12 : DV) (h0 : Hp) : aJ :=
 bnd (aD .lss x12 x11 h0) fun v1 h1 =>
  aSm r n kk2 x0 x2 x10 x11 x12 v1 h1
noncomputable def tT (r : RT) (n : Nat) (m : Nat) : cE :=
 Nat.rec (motive := fun _ => cE) (fun _ _ _ _ _ _ => none) (fun _ ih => aXo r n ih) m
noncomputable def bHu (r : RT) (n : Nat) : cE := tT r n n
noncomputable def aTe (r : RT) (n : Nat) (x0 x2 x10 x11 x12 : DV) (h0 : Hp) : aJ :=
 bHu r n x0 x2 x10 x11 x12 h0
noncomputable def s139 (r : RT) (n : Nat) (x0 x1 x2 : DV) (h0 : Hp) : aJ :=
 bnd (bX x1 h0) fun v1 h1 =>
  aTe r n x0 x2 x1 v1 (aE 0) h1
noncomputable abbrev c139 : Code := cf Tryz.f139
noncomputable abbrev aOt : Code := cR c139
noncomputable abbrev aCk : Code := cL aOt
noncomputable abbrev kA : Code := cL aCk
noncomputable abbrev aKu : Code := cR kA
noncomputable abbrev aGk : Code := cR aKu
noncomputable abbrev dEo : Code := cR aGk
noncomputable abbrev aHy : Code := cL aGk
noncomputable abbrev aKi : Code := cL aHy
noncomputable abbrev aFa : Code := cR aKi
noncomputable abbrev uG : Code := cR aFa
noncomputable abbrev aVq : Code := cR uG
noncomputable abbrev aZx : Code := cL uG
noncomputable abbrev aJl : Code := cL aFa
noncomputable abbrev aYv : Code := cL aKi
noncomputable abbrev bAx : Code := cL aKu
noncomputable abbrev aZa : Code := cL kA
noncomputable abbrev aXb : Code := cL c139
noncomputable abbrev r139 : K := aT CF Tryz.f139
noncomputable def D139 (r : RT) (n : Nat) (c : Code) (X : Nat → K) (k : K) : K := aM CF r 71 n c X r139 k
theorem cHi (kk2 : cE) : D139 r n dEo (xs x0 0 r139) (K5 kk2 0 2 10 11 12) = (K5 (dA r n kk2) 0 2 10 11 12) :=
 (by kernel_rfl)
theorem bJa (kk2 : cE) (q0 : cE) : D139 r n aVq (xs (xs x0 0 r139) 1 (K5 q0 0 2 10 11 12)) (K5 q0 0 2 10 11 12) = fun (env : aY) (h : Hp) =>
 bnd (aR (env 0) h) fun v1 h1 =>
 bnd (aB 8 v1 h1) fun v2 h2 =>
 bnd (aA v2 h2) fun v3 h3 =>
 bnd (aD .neq v3 (aE 0) h3) fun v4 h4 =>
 aQ v4 (
 some (.t [], h4)) (
 bnd (aR (env 0) (resv 1 h4)) fun v5 h5 =>
 bnd (aB 6 v5 h5) fun v6 h6 =>
 bnd (aA v6 h6) fun v7 h7 =>
 bnd (aR (env 0) h7) fun v8 h8 =>
 bnd (aB 0 v8 h8) fun v9 h9 =>
 bnd (aB 2 v9 h9) fun v10 h10 =>
 bnd (aA v10 h10) fun v11 h11 =>
 bnd (bB [(.s []), (.b false), (.b false), (aE 0)] [(0, 1, (env 7)), (1, 1, (.b false)), (2, 1, (env 2)), (3, 1, v11)] h11) fun v12 h12 =>
 bnd (bJ (bY 0 h4.next) [(.s []), (.b false), (.b false), (aE 0)] 1 [(0, 4, v12)] h12) fun v13 h13 =>
 bnd (aZ 4 32 v7 v13 h13) fun v14 h14 =>
 bnd (aR (env 0) h14) fun v15 h15 =>
 bnd (aB 6 v15 h15) fun v16 h16 =>
 bnd (aG 1 v16 v14 h16) fun v17 h17 =>
 bnd (aR (env 0) h17) fun v18 h18 =>
 bnd (aB 0 v18 h18) fun v19 h19 =>
 bnd (aB 2 v19 h19) fun v20 h20 =>
 bnd (aA v20 h20) fun v21 h21 =>
 bnd (aD .add v21 (aE 1) h21) fun v22 h22 =>
 bnd (aR (env 0) h22) fun v23 h23 =>
 bnd (aB 0 v23 h23) fun v24 h24 =>
 bnd (aB 2 v24 h24) fun v25 h25 =>
 bnd (aG 1 v25 v22 h25) fun _ h26 =>
      q0 (env 0) (env 2) (env 10) (env 11) (env 12) h26) := by kernel_rfl
theorem bGu (kk2 : cE) : (fun (env : aY) (h : Hp) =>
 bnd (aR (env 0) h) fun v1 h1 =>
 bnd (aB 8 v1 h1) fun v2 h2 =>
 bnd (aA v2 h2) fun v3 h3 =>
 bnd (aD .neq v3 (aE 0) h3) fun v4 h4 =>
 aQ v4 (
 some (.t [], h4)) (
 bnd (aR (env 0) (resv 1 h4)) fun v5 h5 =>
 bnd (aB 6 v5 h5) fun v6 h6 =>
 bnd (aA v6 h6) fun v7 h7 =>
 bnd (aR (env 0) h7) fun v8 h8 =>
 bnd (aB 0 v8 h8) fun v9 h9 =>
 bnd (aB 2 v9 h9) fun v10 h10 =>
 bnd (aA v10 h10) fun v11 h11 =>
 bnd (bB [(.s []), (.b false), (.b false), (aE 0)] [(0, 1, (env 7)), (1, 1, (.b false)), (2, 1, (env 2)), (3, 1, v11)] h11) fun v12 h12 =>
 bnd (bJ (bY 0 h4.next) [(.s []), (.b false), (.b false), (aE 0)] 1 [(0, 4, v12)] h12) fun v13 h13 =>
 bnd (aZ 4 32 v7 v13 h13) fun v14 h14 =>
 bnd (aR (env 0) h14) fun v15 h15 =>
 bnd (aB 6 v15 h15) fun v16 h16 =>
 bnd (aG 1 v16 v14 h16) fun v17 h17 =>
 bnd (aR (env 0) h17) fun v18 h18 =>
 bnd (aB 0 v18 h18) fun v19 h19 =>
 bnd (aB 2 v19 h19) fun v20 h20 =>
 bnd (aA v20 h20) fun v21 h21 =>
 bnd (aD .add v21 (aE 1) h21) fun v22 h22 =>
 bnd (aR (env 0) h22) fun v23 h23 =>
 bnd (aB 0 v23 h23) fun v24 h24 =>
 bnd (aB 2 v24 h24) fun v25 h25 =>
 bnd (aG 1 v25 v22 h25) fun _ h26 =>
      dA r n kk2 (env 0) (env 2) (env 10) (env 11) (env 12) h26)) = (K6 (yJ r n kk2) 0 2 7 10 11 12) := by kernel_rfl
theorem cFa (kk2 : cE) : D139 r n aVq (xs (xs x0 0 r139) 1 (K5 (dA r n kk2) 0 2 10 11 12)) (K5 (dA r n kk2) 0 2 10 11 12) = (K6 (yJ r n kk2) 0 2 7 10 11 12) :=
 (bJa r n kk2 (dA r n kk2)).trans (bGu r n kk2)
theorem bLc (kk2 : cE) : D139 r n uG (xs (xs x0 0 r139) 1 (K5 (dA r n kk2) 0 2 10 11 12)) (K5 (dA r n kk2) 0 2 10 11 12) = D139 r n aZx (xs (xs x0 0 r139) 1 (K5 (dA r n kk2) 0 2 10 11 12)) (K6 (yJ r n kk2) 0 2 7 10 11 12) :=
 congrArg (fun k => D139 r n aZx (xs (xs x0 0 r139) 1 (K5 (dA r n kk2) 0 2 10 11 12)) k) (cFa r n kk2)
theorem cPq (kk2 : cE) : D139 r n uG (xs (xs x0 0 r139) 1 (K5 (dA r n kk2) 0 2 10 11 12)) (K5 (dA r n kk2) 0 2 10 11 12) = (K6 (nP r n kk2) 0 2 7 10 11 12) :=
 (bLc r n kk2).trans
 ((by kernel_rfl))
theorem bUp (kk2 : cE) : D139 r n aFa (xs (xs x0 0 r139) 1 (K5 (dA r n kk2) 0 2 10 11 12)) (K5 (dA r n kk2) 0 2 10 11 12) = D139 r n aJl (xs (xs x0 0 r139) 1 (K5 (dA r n kk2) 0 2 10 11 12)) (K6 (nP r n kk2) 0 2 7 10 11 12) :=
 congrArg (fun k => D139 r n aJl (xs (xs x0 0 r139) 1 (K5 (dA r n kk2) 0 2 10 11 12)) k) (cPq r n kk2)
theorem bWv (kk2 : cE) (q0 : fF) (q1 : cE) : D139 r n aJl (xs (xs x0 0 r139) 1 (K5 q1 0 2 10 11 12)) (K6 q0 0 2 7 10 11 12) = fun (env : aY) (h : Hp) =>
 bnd (r 156 [(env 0), (env 7)] h) fun v1 h1 =>
 bnd (aC 0 v1 h1) fun v2 h2 =>
 bnd (aC 1 v1 h2) fun v3 h3 =>
 bnd (bL [(.s []), (.b false), (.b false), (aE 0)] h3) fun v4 h4 =>
 bnd (aG 4 v4 v2 h4) fun _ h5 =>
 bnd (gD v3 false (some ((env 7), h5)) h5) fun v6 h6 =>
 bnd (gD v3 false (r 157 [v6] h6) h6) fun v7 h7 =>
 bnd (aO v3 (.b true) v7 h7) fun v8 h8 =>
 aQ v8 (
 bnd (r 158 [(env 0), (env 7), (aE 16)] h8) fun v9 h9 =>
      q0 (env 0) (env 2) (env 7) (env 10) (env 11) (env 12) h9) (
      q0 (env 0) (env 2) (env 7) (env 10) (env 11) (env 12) h8) := by kernel_rfl
theorem bEk (kk2 : cE) : (fun (env : aY) (h : Hp) =>
 bnd (r 156 [(env 0), (env 7)] h) fun v1 h1 =>
 bnd (aC 0 v1 h1) fun v2 h2 =>
 bnd (aC 1 v1 h2) fun v3 h3 =>
 bnd (bL [(.s []), (.b false), (.b false), (aE 0)] h3) fun v4 h4 =>
 bnd (aG 4 v4 v2 h4) fun _ h5 =>
 bnd (gD v3 false (some ((env 7), h5)) h5) fun v6 h6 =>
 bnd (gD v3 false (r 157 [v6] h6) h6) fun v7 h7 =>
 bnd (aO v3 (.b true) v7 h7) fun v8 h8 =>
 aQ v8 (
 bnd (r 158 [(env 0), (env 7), (aE 16)] h8) fun v9 h9 =>
      nP r n kk2 (env 0) (env 2) (env 7) (env 10) (env 11) (env 12) h9) (
      nP r n kk2 (env 0) (env 2) (env 7) (env 10) (env 11) (env 12) h8)) = (K6 (aEk r n kk2) 0 2 7 10 11 12) := by kernel_rfl
theorem cMq (kk2 : cE) : D139 r n aFa (xs (xs x0 0 r139) 1 (K5 (dA r n kk2) 0 2 10 11 12)) (K5 (dA r n kk2) 0 2 10 11 12) = (K6 (aEk r n kk2) 0 2 7 10 11 12) :=
 (bUp r n kk2).trans
 ((bWv r n kk2 (nP r n kk2) (dA r n kk2)).trans (bEk r n kk2))
theorem bTi (kk2 : cE) : D139 r n aGk (xs x0 0 r139) (K5 kk2 0 2 10 11 12) = D139 r n aHy (xs x0 0 r139) (K5 (dA r n kk2) 0 2 10 11 12) :=
 congrArg (fun k => D139 r n aHy (xs x0 0 r139) k) (cHi r n kk2)
theorem bJo (kk2 : cE) : D139 r n aKi (xs (xs x0 0 r139) 1 (K5 (dA r n kk2) 0 2 10 11 12)) (K5 (dA r n kk2) 0 2 10 11 12) = D139 r n aYv (xs (xs x0 0 r139) 1 (K5 (dA r n kk2) 0 2 10 11 12)) (K6 (aEk r n kk2) 0 2 7 10 11 12) :=
 congrArg (fun k => D139 r n aYv (xs (xs x0 0 r139) 1 (K5 (dA r n kk2) 0 2 10 11 12)) k) (cMq r n kk2)
theorem cMz (kk2 : cE) : D139 r n aGk (xs x0 0 r139) (K5 kk2 0 2 10 11 12) = (K5 (aQt r n kk2) 0 2 10 11 12) :=
 (bTi r n kk2).trans
 ((by kernel_rfl : D139 r n aHy (xs x0 0 r139) (K5 (dA r n kk2) 0 2 10 11 12) = D139 r n aKi (xs (xs x0 0 r139) 1 (K5 (dA r n kk2) 0 2 10 11 12)) (K5 (dA r n kk2) 0 2 10 11 12)).trans
 ((bJo r n kk2).trans
 ((by kernel_rfl))))
theorem bKe (kk2 : cE) : D139 r n aKu (xs x0 0 r139) (K5 kk2 0 2 10 11 12) = D139 r n bAx (xs x0 0 r139) (K5 (aQt r n kk2) 0 2 10 11 12) :=
 congrArg (fun k => D139 r n bAx (xs x0 0 r139) k) (cMz r n kk2)
theorem cNq (kk2 : cE) : D139 r n aKu (xs x0 0 r139) (K5 kk2 0 2 10 11 12) = (K6 (aSm r n kk2) 0 2 10 11 12 13) :=
 (bKe r n kk2).trans
 ((by kernel_rfl))
theorem bLx (kk2 : cE) : D139 r n kA (xs x0 0 r139) (K5 kk2 0 2 10 11 12) = D139 r n aZa (xs x0 0 r139) (K6 (aSm r n kk2) 0 2 10 11 12 13) :=
 congrArg (fun k => D139 r n aZa (xs x0 0 r139) k) (cNq r n kk2)
theorem bSz (kk2 : cE) : D139 r n kA (xs x0 0 r139) (K5 kk2 0 2 10 11 12) = (K5 (aXo r n kk2) 0 2 10 11 12) :=
 (bLx r n kk2).trans
 ((by kernel_rfl))
theorem bUv (m : Nat) : aN (fun kk => D139 r n kA (xs x0 0 r139) kk) m = (K5 (tT r n m) 0 2 10 11 12) := by
 induction m with
 | zero => exact (by kernel_rfl : aN (fun kk => D139 r n kA (xs x0 0 r139) kk) 0 = (K5 (tT r n 0) 0 2 10 11 12))
 | succ m ih =>
  refine (by kernel_rfl : aN (fun kk => D139 r n kA (xs x0 0 r139) kk) (m + 1) = D139 r n kA (xs x0 0 r139) (aN (fun kk => D139 r n kA (xs x0 0 r139) kk) m)).trans ?_
  rw [ih]
  exact (bSz r n (tT r n m)).trans (by kernel_rfl)
theorem cHr : D139 r n aCk (xs x0 0 r139) r139 = (K5 (bHu r n) 0 2 10 11 12) :=
 (by kernel_rfl : D139 r n aCk (xs x0 0 r139) r139 = aN (fun kk => D139 r n kA (xs x0 0 r139) kk) n).trans ((bUv r n n).trans (by kernel_rfl))
theorem cPd : D139 r n aOt x0 r139 = (K5 (aTe r n) 0 2 10 11 12) :=
 (by kernel_rfl : D139 r n aOt x0 r139 = D139 r n aCk (xs x0 0 r139) r139).trans
 ((cHr r n).trans (by kernel_rfl))
theorem cVw : D139 r n c139 x0 r139 = D139 r n aXb x0 (K5 (aTe r n) 0 2 10 11 12) :=
 congrArg (fun k => D139 r n aXb x0 k) (cPd r n)
theorem dHp : D139 r n c139 x0 r139 = (K3 (s139 r n) 0 1 2) :=
 (cVw r n).trans
 ((by kernel_rfl))
theorem cXd : aF CF r n 139 args h = s139 r n (aS args 0) (aS args 1) (aS args 2) h :=
 (by kernel_rfl : aF CF r n 139 args h = D139 r n c139 x0 r139 (aI args) h).trans ((congrFun (congrFun (dHp r n) (aI args)) h).trans (by kernel_rfl))
noncomputable def rG (r : RT) (n : Nat) (x0 x3 x11 x14 : DV) (h0 : Hp) : aJ :=
 aQ x14 (
 bnd (aK 6 x3 h0) fun v1 h1 =>
 bnd (r 160 [x0, v1] h1) fun v2 h2 =>
 bnd (kX [x0, v2] h2) fun v3 h3 =>
 bnd (r 141 [x0, (aE 6), v3, (aE 0)] h3) fun v4 h4 =>
 some (.t [], h4)) (
 bnd (aD .eql x11 (aE 5) h0) fun v5 h5 =>
 aQ v5 (
 bnd (aB 1 x3 h5) fun v6 h6 =>
 bnd (aA v6 h6) fun v7 h7 =>
 bnd (r 161 [x0, v7] h7) fun v8 h8 =>
 some (.t [], h8)) (
 bnd (aD .eql x11 (aE 6) h5) fun v9 h9 =>
 aQ v9 (
 bnd (aK 6 x3 h9) fun v10 h10 =>
 bnd (r 162 [x0, v10] h10) fun v11 h11 =>
 some (.t [], h11)) (
 bnd (aD .eql x11 (aE 7) h9) fun v12 h12 =>
 aQ v12 (
 bnd (aK 6 x3 h12) fun v13 h13 =>
 bnd (r 163 [x0, v13] h13) fun v14 h14 =>
 some (.t [], h14)) (
 bnd (aD .eql x11 (aE 8) h12) fun v15 h15 =>
 aQ v15 (
 bnd (aK 6 x3 h15) fun v16 h16 =>
 bnd (r 164 [x0, v16] h16) fun v17 h17 =>
 some (.t [], h17)) (
 bnd (aD .eql x11 (aE 9) h15) fun v18 h18 =>
 aQ v18 (
 bnd (aR x0 h18) fun v19 h19 =>
 bnd (aB 0 v19 h19) fun v20 h20 =>
 bnd (aB 2 v20 h20) fun v21 h21 =>
 bnd (aA v21 h21) fun v22 h22 =>
 bnd (aB 3 x3 h22) fun v23 h23 =>
 bnd (aA v23 h23) fun v24 h24 =>
 bnd (bX v24 h24) fun v25 h25 =>
 bnd (r 141 [x0, (aE 18), v22, v25] h25) fun v26 h26 =>
 bnd (r 165 [x0, (aE 16)] h26) fun v27 h27 =>
 bnd (aK 6 x3 h27) fun v28 h28 =>
 bnd (r 166 [x0, v28] h28) fun v29 h29 =>
 bnd (r 141 [x0, (aE 19), (aE 0), (aE 0)] h29) fun v30 h30 =>
 bnd (cU CF r v27 [] h30) fun v31 h31 =>
 some (.t [], h31)) (
 bnd (aD .eql x11 (aE 10) h18) fun v32 h32 =>
 aQ v32 (
 bnd (aK 6 x3 h32) fun v33 h33 =>
 bnd (r 167 [x0, v33] h33) fun v34 h34 =>
 aQ v34 (
 bnd (aB 5 x3 h34) fun v35 h35 =>
 bnd (aA v35 h35) fun v36 h36 =>
 bnd (aH 6 v36 (aE 0) h36) fun v37 h37 =>
 bnd (aK 6 v37 h37) fun v38 h38 =>
 bnd (r 140 [x0, v38] h38) fun v39 h39 =>
 bnd (r 141 [x0, (aE 20), (aE 0), (aE 0)] h39) fun v40 h40 =>
 some (.t [], h40)) (
 some (.t [], h34))) (
 bnd (r 158 [x0, (.s []), (aE 1)] h32) fun v41 h41 =>
 some (.t [], h41))))))))
noncomputable def aTs (r : RT) (n : Nat) (x0 x3 x11 : DV) (h0 : Hp) : aJ :=
 bnd (aD .eql x11 (aE 1) h0) fun v1 h1 =>
 aQ v1 (
  rG r n x0 x3 x11 v1 h1) (
 bnd (aD .eql x11 (aE 2) h1) fun v2 h2 =>
 aQ v2 (
   rG r n x0 x3 x11 v2 h2) (
 bnd (aD .eql x11 (aE 3) h2) fun v3 h3 =>
 aQ v3 (
    rG r n x0 x3 x11 v3 h3) (
 bnd (aD .eql x11 (aE 4) h3) fun v4 h4 =>
    rG r n x0 x3 x11 v4 h4)))
noncomputable def aUw (r : RT) (n : Nat) (x0 x3 : DV) (h0 : Hp) : aJ :=
 bnd (aB 0 x3 h0) fun v1 h1 =>
 bnd (aA v1 h1) fun v2 h2 =>
  aTs r n x0 x3 v2 h2
noncomputable def wX (r : RT) (n : Nat) (x0 x3 : DV) (h0 : Hp) : aJ :=
 bnd (aR x0 h0) fun v1 h1 =>
 bnd (aB 8 v1 h1) fun v2 h2 =>
 bnd (aA v2 h2) fun v3 h3 =>
 bnd (aD .neq v3 (aE 0) h3) fun v4 h4 =>
 aQ v4 (
 some (.t [], h4)) (
  aUw r n x0 x3 h4)
noncomputable def s140 (r : RT) (n : Nat) (x0 x1 : DV) (h0 : Hp) : aJ :=
 bnd (bS x1 h0) fun v1 h1 =>
  wX r n x0 v1 h1
noncomputable abbrev c140 : Code := cf Tryz.f140
noncomputable abbrev aFv : Code := cR c140
noncomputable abbrev aDw : Code := cR aFv
noncomputable abbrev aQm : Code := cR aDw
noncomputable abbrev aCp : Code := cL aQm
noncomputable abbrev cYr : Code := cR aCp
noncomputable abbrev cCq : Code := cL aCp
noncomputable abbrev bNw : Code := cL aDw
noncomputable abbrev bOw : Code := cL aFv
noncomputable abbrev aOw : Code := cL c140
noncomputable abbrev r140 : K := aT CF Tryz.f140
noncomputable def D140 (r : RT) (n : Nat) (c : Code) (X : Nat → K) (k : K) : K := aM CF r 81 n c X r140 k
theorem cGn : D140 r n cYr (xs x0 0 r140) r140 = (K4 (rG r n) 0 3 11 14) :=
 (by kernel_rfl)
theorem bJx : D140 r n aCp (xs x0 0 r140) r140 = D140 r n cCq (xs x0 0 r140) (K4 (rG r n) 0 3 11 14) :=
 congrArg (fun k => D140 r n cCq (xs x0 0 r140) k) (cGn r n)
theorem cEx : D140 r n aQm x0 r140 = (K3 (aTs r n) 0 3 11) :=
 (by kernel_rfl : D140 r n aQm x0 r140 = D140 r n aCp (xs x0 0 r140) r140).trans
 ((bJx r n).trans
 ((by kernel_rfl)))
theorem bWn : D140 r n aDw x0 r140 = D140 r n bNw x0 (K3 (aTs r n) 0 3 11) :=
 congrArg (fun k => D140 r n bNw x0 k) (cEx r n)
theorem cLx : D140 r n aDw x0 r140 = (K2 (aUw r n) 0 3) :=
 (bWn r n).trans
 ((by kernel_rfl))
theorem cCm : D140 r n aFv x0 r140 = D140 r n bOw x0 (K2 (aUw r n) 0 3) :=
 congrArg (fun k => D140 r n bOw x0 k) (cLx r n)
theorem cFk : D140 r n aFv x0 r140 = (K2 (wX r n) 0 3) :=
 (cCm r n).trans
 ((by kernel_rfl))
theorem dEd : D140 r n c140 x0 r140 = D140 r n aOw x0 (K2 (wX r n) 0 3) :=
 congrArg (fun k => D140 r n aOw x0 k) (cFk r n)
theorem dBn (q0 : gJ) : D140 r n aOw x0 (K2 q0 0 3) = fun (env : aY) (h : Hp) =>
 bnd (bS (env 1) h) fun v1 h1 =>
  q0 (env 0) v1 h1 := by kernel_rfl
theorem cDt : (fun (env : aY) (h : Hp) =>
 bnd (bS (env 1) h) fun v1 h1 =>
  wX r n (env 0) v1 h1) = (K2 (s140 r n) 0 1) := by kernel_rfl
theorem dJq : D140 r n c140 x0 r140 = (K2 (s140 r n) 0 1) :=
 (dEd r n).trans
 ((dBn r n (wX r n)).trans (cDt r n))
theorem cWu : aF CF r n 140 args h = s140 r n (aS args 0) (aS args 1) h :=
 (by kernel_rfl : aF CF r n 140 args h = D140 r n c140 x0 r140 (aI args) h).trans ((congrFun (congrFun (dJq r n) (aI args)) h).trans (by kernel_rfl))
noncomputable def s141 (r : RT) (n : Nat) (x0 x1 x2 x3 : DV) (h0 : Hp) : aJ :=
 bnd (aR x0 h0) fun v1 h1 =>
 bnd (aB 0 v1 h1) fun v2 h2 =>
 bnd (aB 5 v2 h2) fun v3 h3 =>
 bnd (aA v3 h3) fun v4 h4 =>
 bnd (bB [(aE 0), (aE 0), (aE 0)] [(0, 1, x1), (1, 1, x2), (2, 1, x3)] h4) fun v5 h5 =>
 bnd (aL [(aE 0), (aE 0), (aE 0)] 1 [(0, 3, v5)] h5) fun v6 h6 =>
 bnd (aZ 3 24 v4 v6 h6) fun v7 h7 =>
 bnd (aR x0 h7) fun v8 h8 =>
 bnd (aB 0 v8 h8) fun v9 h9 =>
 bnd (aB 5 v9 h9) fun v10 h10 =>
 bnd (aG 1 v10 v7 h10) fun _ h11 =>
 some (.t [], h11)
noncomputable abbrev c141 : Code := cf Tryz.f141
noncomputable abbrev r141 : K := aT CF Tryz.f141
noncomputable def D141 (r : RT) (n : Nat) (c : Code) (X : Nat → K) (k : K) : K := aM CF r 23 n c X r141 k
theorem dIq : D141 r n c141 x0 r141 = (K4 (s141 r n) 0 1 2 3) :=
 (by kernel_rfl)
theorem dAu : aF CF r n 141 args h = s141 r n (aS args 0) (aS args 1) (aS args 2) (aS args 3) h :=
 (by kernel_rfl : aF CF r n 141 args h = D141 r n c141 x0 r141 (aI args) h).trans ((congrFun (congrFun (dIq r n) (aI args)) h).trans (by kernel_rfl))
noncomputable def cG (r : RT) (n : Nat) (x2 x3 : DV) (h0 : Hp) : aJ :=
 some (.t [x2, x3], h0)
noncomputable def cQ (r : RT) (n : Nat) (x3 : DV) (h0 : Hp) : aJ :=
 cG r n (.b true) x3 h0
noncomputable def dL (r : RT) (n : Nat) (h0 : Hp) : aJ :=
 cQ r n (.b true) h0
noncomputable def oE (r : RT) (n : Nat) (x2 x3 : DV) (h0 : Hp) : aJ :=
 cG r n x2 x3 h0
noncomputable def mD (r : RT) (n : Nat) (x2 x3 x11 : DV) (h0 : Hp) : aJ :=
 aQ x11 (
  cQ r n x3 h0) (
  oE r n x2 x3 h0)
noncomputable def xV (r : RT) (n : Nat) (x2 x3 x4 : DV) (h0 : Hp) : aJ :=
 bnd (aD .eql x4 (aE 6) h0) fun v1 h1 =>
 aQ v1 (
  mD r n x2 x3 v1 h1) (
 bnd (aD .eql x4 (aE 7) h1) fun v2 h2 =>
 aQ v2 (
   mD r n x2 x3 v2 h2) (
 bnd (aD .eql x4 (aE 8) h2) fun v3 h3 =>
 aQ v3 (
    mD r n x2 x3 v3 h3) (
 bnd (aD .eql x4 (aE 9) h3) fun v4 h4 =>
 aQ v4 (
     mD r n x2 x3 v4 h4) (
 bnd (aD .eql x4 (aE 10) h4) fun v5 h5 =>
 aQ v5 (
      mD r n x2 x3 v5 h5) (
 bnd (aD .eql x4 (aE 11) h5) fun v6 h6 =>
      mD r n x2 x3 v6 h6)))))
noncomputable def oO (r : RT) (n : Nat) (x2 x3 x4 x5 : DV) (h0 : Hp) : aJ :=
 aQ x5 (
  dL r n h0) (
  xV r n x2 x3 x4 h0)
noncomputable def aRw (r : RT) (n : Nat) (x2 x3 x4 : DV) (h0 : Hp) : aJ :=
 bnd (aD .eql x4 (aE 14) h0) fun v1 h1 =>
 aQ v1 (
  oO r n x2 x3 x4 v1 h1) (
 bnd (aD .eql x4 (aE 15) h1) fun v2 h2 =>
 aQ v2 (
   oO r n x2 x3 x4 v2 h2) (
 bnd (aD .eql x4 (aE 16) h2) fun v3 h3 =>
 aQ v3 (
    oO r n x2 x3 x4 v3 h3) (
 bnd (aD .eql x4 (aE 17) h3) fun v4 h4 =>
 aQ v4 (
     oO r n x2 x3 x4 v4 h4) (
 bnd (aD .eql x4 (aE 18) h4) fun v5 h5 =>
     oO r n x2 x3 x4 v5 h5))))
noncomputable def aUe (r : RT) (n : Nat) (x0 x2 x3 : DV) (h0 : Hp) : aJ :=
 aRw r n x2 x3 x0 h0
noncomputable def s142 (r : RT) (n : Nat) (x0 : DV) (h0 : Hp) : aJ :=
 aUe r n x0 (.b false) (.b false) h0
noncomputable abbrev c142 : Code := cf Tryz.f142
noncomputable abbrev aJm : Code := cR c142
noncomputable abbrev cZo : Code := cR aJm
noncomputable abbrev vP : Code := cL aJm
noncomputable abbrev aQd : Code := cR vP
noncomputable abbrev aBq : Code := cL aQd
noncomputable abbrev cWi : Code := cR aBq
noncomputable abbrev aEl : Code := cL aBq
noncomputable abbrev aHx : Code := cL aEl
noncomputable abbrev cYj : Code := cR aHx
noncomputable abbrev sY : Code := cL aHx
noncomputable abbrev sP : Code := cL sY
noncomputable abbrev cPi : Code := cR sP
noncomputable abbrev pC : Code := cL sP
noncomputable abbrev sV : Code := cR pC
noncomputable abbrev cQr : Code := cR sV
noncomputable abbrev bAc : Code := cL sV
noncomputable abbrev oR : Code := cL pC
noncomputable abbrev cJm : Code := cR oR
noncomputable abbrev aVr : Code := cL oR
noncomputable abbrev bBx : Code := cL vP
noncomputable abbrev aXg : Code := cL c142
noncomputable abbrev r142 : K := aT CF Tryz.f142
noncomputable def D142 (r : RT) (n : Nat) (c : Code) (X : Nat → K) (k : K) : K := aM CF r 20 n c X r142 k
theorem cKp : D142 r n cZo x0 r142 = (K2 (cG r n) 2 3) :=
 (by kernel_rfl)
theorem cPn : D142 r n cWi (xs x0 0 (K2 (cG r n) 2 3)) (K2 (cG r n) 2 3) = (K1 (cQ r n) 3) :=
 (by kernel_rfl)
theorem cKx : D142 r n cYj (xs (xs x0 0 (K2 (cG r n) 2 3)) 2 (K1 (cQ r n) 3)) (K1 (cQ r n) 3) = (K0 (dL r n)) :=
 (by kernel_rfl)
theorem cQp : D142 r n cPi (xs (xs (xs x0 0 (K2 (cG r n) 2 3)) 2 (K1 (cQ r n) 3)) 1 (K0 (dL r n))) (K0 (dL r n)) = (K2 (oE r n) 2 3) :=
 (by kernel_rfl)
theorem cJu : D142 r n cQr (xs (xs (xs x0 0 (K2 (cG r n) 2 3)) 2 (K1 (cQ r n) 3)) 1 (K0 (dL r n))) (K2 (oE r n) 2 3) = (K3 (mD r n) 2 3 11) :=
 (by kernel_rfl)
theorem cCh : D142 r n sV (xs (xs (xs x0 0 (K2 (cG r n) 2 3)) 2 (K1 (cQ r n) 3)) 1 (K0 (dL r n))) (K2 (oE r n) 2 3) = D142 r n bAc (xs (xs (xs x0 0 (K2 (cG r n) 2 3)) 2 (K1 (cQ r n) 3)) 1 (K0 (dL r n))) (K3 (mD r n) 2 3 11) :=
 congrArg (fun k => D142 r n bAc (xs (xs (xs x0 0 (K2 (cG r n) 2 3)) 2 (K1 (cQ r n) 3)) 1 (K0 (dL r n))) k) (cJu r n)
theorem cKs : D142 r n sV (xs (xs (xs x0 0 (K2 (cG r n) 2 3)) 2 (K1 (cQ r n) 3)) 1 (K0 (dL r n))) (K2 (oE r n) 2 3) = (K3 (xV r n) 2 3 4) :=
 (cCh r n).trans
 ((by kernel_rfl))
theorem cSn : D142 r n cJm (xs (xs (xs x0 0 (K2 (cG r n) 2 3)) 2 (K1 (cQ r n) 3)) 1 (K0 (dL r n))) (K3 (xV r n) 2 3 4) = (K4 (oO r n) 2 3 4 5) :=
 (by kernel_rfl)
theorem bJr : D142 r n aBq (xs x0 0 (K2 (cG r n) 2 3)) (K2 (cG r n) 2 3) = D142 r n aEl (xs x0 0 (K2 (cG r n) 2 3)) (K1 (cQ r n) 3) :=
 congrArg (fun k => D142 r n aEl (xs x0 0 (K2 (cG r n) 2 3)) k) (cPn r n)
theorem bPm : D142 r n aHx (xs (xs x0 0 (K2 (cG r n) 2 3)) 2 (K1 (cQ r n) 3)) (K1 (cQ r n) 3) = D142 r n sY (xs (xs x0 0 (K2 (cG r n) 2 3)) 2 (K1 (cQ r n) 3)) (K0 (dL r n)) :=
 congrArg (fun k => D142 r n sY (xs (xs x0 0 (K2 (cG r n) 2 3)) 2 (K1 (cQ r n) 3)) k) (cKx r n)
theorem cBg : D142 r n sP (xs (xs (xs x0 0 (K2 (cG r n) 2 3)) 2 (K1 (cQ r n) 3)) 1 (K0 (dL r n))) (K0 (dL r n)) = D142 r n pC (xs (xs (xs x0 0 (K2 (cG r n) 2 3)) 2 (K1 (cQ r n) 3)) 1 (K0 (dL r n))) (K2 (oE r n) 2 3) :=
 congrArg (fun k => D142 r n pC (xs (xs (xs x0 0 (K2 (cG r n) 2 3)) 2 (K1 (cQ r n) 3)) 1 (K0 (dL r n))) k) (cQp r n)
theorem bXm : D142 r n pC (xs (xs (xs x0 0 (K2 (cG r n) 2 3)) 2 (K1 (cQ r n) 3)) 1 (K0 (dL r n))) (K2 (oE r n) 2 3) = D142 r n oR (xs (xs (xs x0 0 (K2 (cG r n) 2 3)) 2 (K1 (cQ r n) 3)) 1 (K0 (dL r n))) (K3 (xV r n) 2 3 4) :=
 congrArg (fun k => D142 r n oR (xs (xs (xs x0 0 (K2 (cG r n) 2 3)) 2 (K1 (cQ r n) 3)) 1 (K0 (dL r n))) k) (cKs r n)
theorem bIa : D142 r n oR (xs (xs (xs x0 0 (K2 (cG r n) 2 3)) 2 (K1 (cQ r n) 3)) 1 (K0 (dL r n))) (K3 (xV r n) 2 3 4) = D142 r n aVr (xs (xs (xs x0 0 (K2 (cG r n) 2 3)) 2 (K1 (cQ r n) 3)) 1 (K0 (dL r n))) (K4 (oO r n) 2 3 4 5) :=
 congrArg (fun k => D142 r n aVr (xs (xs (xs x0 0 (K2 (cG r n) 2 3)) 2 (K1 (cQ r n) 3)) 1 (K0 (dL r n))) k) (cSn r n)
theorem cNl : D142 r n aQd x0 (K2 (cG r n) 2 3) = (K3 (aRw r n) 2 3 4) :=
 (by kernel_rfl : D142 r n aQd x0 (K2 (cG r n) 2 3) = D142 r n aBq (xs x0 0 (K2 (cG r n) 2 3)) (K2 (cG r n) 2 3)).trans
 ((bJr r n).trans
 ((by kernel_rfl : D142 r n aEl (xs x0 0 (K2 (cG r n) 2 3)) (K1 (cQ r n) 3) = D142 r n aHx (xs (xs x0 0 (K2 (cG r n) 2 3)) 2 (K1 (cQ r n) 3)) (K1 (cQ r n) 3)).trans
 ((bPm r n).trans
 ((by kernel_rfl : D142 r n sY (xs (xs x0 0 (K2 (cG r n) 2 3)) 2 (K1 (cQ r n) 3)) (K0 (dL r n)) = D142 r n sP (xs (xs (xs x0 0 (K2 (cG r n) 2 3)) 2 (K1 (cQ r n) 3)) 1 (K0 (dL r n))) (K0 (dL r n))).trans
 ((cBg r n).trans
 ((bXm r n).trans
 ((bIa r n).trans
 ((by kernel_rfl)))))))))
theorem bKz : D142 r n aJm x0 r142 = D142 r n vP x0 (K2 (cG r n) 2 3) :=
 congrArg (fun k => D142 r n vP x0 k) (cKp r n)
theorem cAv : D142 r n vP x0 (K2 (cG r n) 2 3) = D142 r n bBx x0 (K3 (aRw r n) 2 3 4) :=
 congrArg (fun k => D142 r n bBx x0 k) (cNl r n)
theorem cDw : D142 r n aJm x0 r142 = (K3 (aUe r n) 0 2 3) :=
 (bKz r n).trans
 ((cAv r n).trans
 ((by kernel_rfl)))
theorem cXl : D142 r n c142 x0 r142 = D142 r n aXg x0 (K3 (aUe r n) 0 2 3) :=
 congrArg (fun k => D142 r n aXg x0 k) (cDw r n)
theorem dGf : D142 r n c142 x0 r142 = (K1 (s142 r n) 0) :=
 (cXl r n).trans
 ((by kernel_rfl))
theorem cYh : aF CF r n 142 args h = s142 r n (aS args 0) h :=
 (by kernel_rfl : aF CF r n 142 args h = D142 r n c142 x0 r142 (aI args) h).trans ((congrFun (congrFun (dGf r n) (aI args)) h).trans (by kernel_rfl))
noncomputable def s143 (r : RT) (n : Nat) (x0 x1 : DV) (h0 : Hp) : aJ :=
 bnd (aD .eql x0 (aE 0) h0) fun v1 h1 =>
 bnd (gD v1 false (some (x1, h1)) h1) fun v2 h2 =>
 bnd (gD v1 false (some (v2, h2)) h2) fun v3 h3 =>
 bnd (gD v3 true (some (x0, h3)) h3) fun v4 h4 =>
 bnd (gD v3 true (aD .gtr v4 (aE 0) h4) h4) fun v5 h5 =>
 bnd (gD v1 false (aO v3 v5 (.b false) h5) h5) fun v6 h6 =>
 bnd (gD v1 false (some (v6, h6)) h6) fun v7 h7 =>
 bnd (gD v7 true (some (x0, h7)) h7) fun v8 h8 =>
 bnd (gD v7 true (aD .leq v8 (aE 255) h8) h8) fun v9 h9 =>
 bnd (gD v1 false (aO v7 v9 (.b false) h9) h9) fun v10 h10 =>
 bnd (aO v1 (.b true) v10 h10) fun v11 h11 =>
 some (v11, h11)
noncomputable abbrev c143 : Code := cf Tryz.f143
noncomputable abbrev r143 : K := aT CF Tryz.f143
noncomputable def D143 (r : RT) (n : Nat) (c : Code) (X : Nat → K) (k : K) : K := aM CF r 18 n c X r143 k
theorem dMc : D143 r n c143 x0 r143 = (K2 (s143 r n) 0 1) :=
 (by kernel_rfl)
theorem dBk : aF CF r n 143 args h = s143 r n (aS args 0) (aS args 1) h :=
 (by kernel_rfl : aF CF r n 143 args h = D143 r n c143 x0 r143 (aI args) h).trans ((congrFun (congrFun (dMc r n) (aI args)) h).trans (by kernel_rfl))
noncomputable def eE (r : RT) (n : Nat) (x2 : DV) (h0 : Hp) : aJ :=
 bnd (aB 5 x2 h0) fun v1 h1 =>
 bnd (aA v1 h1) fun v2 h2 =>
 bnd (r 173 [v2] h2) fun v3 h3 =>
 bnd (aB 5 x2 h3) fun v4 h4 =>
 bnd (aA v4 h4) fun v5 h5 =>
 bnd (r 174 [v5, v3] h5) fun v6 h6 =>
 bnd (gI .not v6 h6) fun v7 h7 =>
 aQ v7 (
 some (.t [.l0, (aE 19)], h7)) (
 bnd (aB 5 x2 h7) fun v8 h8 =>
 bnd (aA v8 h8) fun v9 h9 =>
 bnd (r 175 [v9, v3] h9) fun v10 h10 =>
 bnd (aC 0 v10 h10) fun v11 h11 =>
 bnd (aC 1 v10 h11) fun v12 h12 =>
 bnd (gI .not v12 h12) fun v13 h13 =>
 aQ v13 (
 some (.t [.l0, (aE 19)], h13)) (
 some (.t [v11, (aE 0)], h13)))
noncomputable def aGu (r : RT) (n : Nat) (kk7 : cE) (x1 x2 x60 x61 x62 : DV) (h0 : Hp) : aJ :=
 bnd (aD .lss x62 x61 h0) fun v1 h1 =>
 aQ v1 (
 bnd (aH 3 x60 x62 h1) fun v2 h2 =>
 bnd (aK 3 v2 h2) fun v3 h3 =>
 bnd (bL [(aE 0), (aE 0), (aE 0)] h3) fun v4 h4 =>
 bnd (aG 3 v4 v3 h4) fun _ h5 =>
 bnd (aK 3 v4 h5) fun v6 h6 =>
 bnd (r 124 [v6] h6) fun v7 h7 =>
 bnd (gI .not v7 h7) fun v8 h8 =>
 bnd (gD v8 false (aK 6 x2 h8) h8) fun v9 h9 =>
 bnd (gD v8 false (aK 3 v4 h9) h9) fun v10 h10 =>
 bnd (gD v8 false (some (x1, h10)) h10) fun v11 h11 =>
 bnd (gD v8 false (r 172 [v9, v10, v11] h11) h11) fun v12 h12 =>
 bnd (gD v8 false (gI .not v12 h12) h12) fun v13 h13 =>
 bnd (aO v8 (.b true) v13 h13) fun v14 h14 =>
 aQ v14 (
 some (.t [.l0, (aE 19)], h14)) (
 bnd (aD .add x62 (aE 1) h14) fun v15 h15 =>
    kk7 x1 x2 x60 x61 v15 h15)) (
      eE r n x2 h1)
noncomputable def uH (r : RT) (n : Nat) (m : Nat) : cE :=
 Nat.rec (motive := fun _ => cE) (fun _ _ _ _ _ _ => none) (fun _ ih => aGu r n ih) m
noncomputable def bSn (r : RT) (n : Nat) : cE := uH r n n
noncomputable def aRh (r : RT) (n : Nat) (x1 x2 x60 x61 x62 : DV) (h0 : Hp) : aJ :=
 bSn r n x1 x2 x60 x61 x62 h0
noncomputable def aPk (r : RT) (n : Nat) (x1 x2 : DV) (h0 : Hp) : aJ :=
 bnd (aB 5 x2 h0) fun v1 h1 =>
 bnd (aA v1 h1) fun v2 h2 =>
 bnd (bX v2 h2) fun v3 h3 =>
  aRh r n x1 x2 v2 v3 (aE 0) h3
noncomputable def aPl (r : RT) (n : Nat) (x1 x2 x6 x7 : DV) (h0 : Hp) : aJ :=
 bnd (gI .not x6 h0) fun v1 h1 =>
 bnd (gD v1 false (some (x7, h1)) h1) fun v2 h2 =>
 bnd (aO v1 (.b true) v2 h2) fun v3 h3 =>
 bnd (gD v3 false (aB 4 x2 h3) h3) fun v4 h4 =>
 bnd (gD v3 false (aA v4 h4) h4) fun v5 h5 =>
 bnd (gD v3 false (bX v5 h5) h5) fun v6 h6 =>
 bnd (gD v3 false (aD .gtr v6 (aE 60) h6) h6) fun v7 h7 =>
 bnd (aO v3 (.b true) v7 h7) fun v8 h8 =>
 bnd (gD v8 false (aB 5 x2 h8) h8) fun v9 h9 =>
 bnd (gD v8 false (aA v9 h9) h9) fun v10 h10 =>
 bnd (gD v8 false (bX v10 h10) h10) fun v11 h11 =>
 bnd (gD v8 false (r 168 [v11, (aE 1), (aE 400)] h11) h11) fun v12 h12 =>
 bnd (gD v8 false (gI .not v12 h12) h12) fun v13 h13 =>
 bnd (aO v8 (.b true) v13 h13) fun v14 h14 =>
 aQ v14 (
 some (.t [.l0, (aE 19)], h14)) (
  aPk r n x1 x2 h14)
noncomputable def aOr (r : RT) (n : Nat) (x1 x2 x6 : DV) (h0 : Hp) : aJ :=
 bnd (aB 4 x2 h0) fun v1 h1 =>
 bnd (aA v1 h1) fun v2 h2 =>
 bnd (r 169 [v2, (.f 170 [] [])] h2) fun v3 h3 =>
  aPl r n x1 x2 x6 v3 h3
noncomputable def yB (r : RT) (n : Nat) (x1 x2 : DV) (h0 : Hp) : aJ :=
 bnd (r 168 [x1, (aE 0), (aE 8)] h0) fun v1 h1 =>
 bnd (gD v1 true (aB 0 x2 h1) h1) fun v2 h2 =>
 bnd (gD v1 true (aA v2 h2) h2) fun v3 h3 =>
 bnd (gD v1 true (dT v3 h3) h3) fun v4 h4 =>
 bnd (gD v1 true (r 168 [v4, (aE 1), (aE 60)] h4) h4) fun v5 h5 =>
 bnd (aO v1 v5 (.b false) h5) fun v6 h6 =>
 bnd (gD v6 true (aB 1 x2 h6) h6) fun v7 h7 =>
 bnd (gD v6 true (aA v7 h7) h7) fun v8 h8 =>
 bnd (gD v6 true (r 168 [v8, (aE 0), (aE 4)] h8) h8) fun v9 h9 =>
 bnd (aO v6 v9 (.b false) h9) fun v10 h10 =>
 bnd (gD v10 true (aB 2 x2 h10) h10) fun v11 h11 =>
 bnd (gD v10 true (aA v11 h11) h11) fun v12 h12 =>
 bnd (gD v10 true (aB 1 x2 h12) h12) fun v13 h13 =>
 bnd (gD v10 true (aA v13 h13) h13) fun v14 h14 =>
 bnd (gD v10 true (r 168 [v12, v14, (aE 24)] h14) h14) fun v15 h15 =>
 bnd (aO v10 v15 (.b false) h15) fun v16 h16 =>
 bnd (gD v16 true (aB 3 x2 h16) h16) fun v17 h17 =>
 bnd (gD v16 true (aA v17 h17) h17) fun v18 h18 =>
 bnd (gD v16 true (r 168 [v18, (aE 0), (aE 255)] h18) h18) fun v19 h19 =>
 bnd (aO v16 v19 (.b false) h19) fun v20 h20 =>
  aOr r n x1 x2 v20 h20
noncomputable def s144 (r : RT) (n : Nat) (x0 x1 : DV) (h0 : Hp) : aJ :=
 bnd (bS x0 h0) fun v1 h1 =>
  yB r n x1 v1 h1
noncomputable abbrev c144 : Code := cf Tryz.f144
noncomputable abbrev aEo : Code := cR c144
noncomputable abbrev aKk : Code := cR aEo
noncomputable abbrev aCs : Code := cR aKk
noncomputable abbrev aIy : Code := cR aCs
noncomputable abbrev dBj : Code := cR aIy
noncomputable abbrev xK : Code := cL aIy
noncomputable abbrev aSr : Code := cR xK
noncomputable abbrev aFd : Code := cL aSr
noncomputable abbrev mE : Code := cL aFd
noncomputable abbrev aVn : Code := cL xK
noncomputable abbrev aZj : Code := cL aCs
noncomputable abbrev bDg : Code := cL aKk
noncomputable abbrev aWt : Code := cL aEo
noncomputable abbrev aCl : Code := cL c144
noncomputable abbrev r144 : K := aT CF Tryz.f144
noncomputable def D144 (r : RT) (n : Nat) (c : Code) (X : Nat → K) (k : K) : K := aM CF r 95 n c X r144 k
theorem cLs : D144 r n dBj x0 r144 = (K1 (eE r n) 2) :=
 (by kernel_rfl)
theorem bIj (kk7 : cE) (q0 : TT1) : D144 r n mE (xs x0 0 (K1 q0 2)) (K5 kk7 1 2 60 61 62) = fun (env : aY) (h : Hp) =>
 bnd (aD .lss (env 62) (env 61) h) fun v1 h1 =>
 aQ v1 (
 bnd (aH 3 (env 60) (env 62) h1) fun v2 h2 =>
 bnd (aK 3 v2 h2) fun v3 h3 =>
 bnd (bL [(aE 0), (aE 0), (aE 0)] h3) fun v4 h4 =>
 bnd (aG 3 v4 v3 h4) fun _ h5 =>
 bnd (aK 3 v4 h5) fun v6 h6 =>
 bnd (r 124 [v6] h6) fun v7 h7 =>
 bnd (gI .not v7 h7) fun v8 h8 =>
 bnd (gD v8 false (aK 6 (env 2) h8) h8) fun v9 h9 =>
 bnd (gD v8 false (aK 3 v4 h9) h9) fun v10 h10 =>
 bnd (gD v8 false (some ((env 1), h10)) h10) fun v11 h11 =>
 bnd (gD v8 false (r 172 [v9, v10, v11] h11) h11) fun v12 h12 =>
 bnd (gD v8 false (gI .not v12 h12) h12) fun v13 h13 =>
 bnd (aO v8 (.b true) v13 h13) fun v14 h14 =>
 aQ v14 (
 some (.t [.l0, (aE 19)], h14)) (
 bnd (aD .add (env 62) (aE 1) h14) fun v15 h15 =>
    kk7 (env 1) (env 2) (env 60) (env 61) v15 h15)) (
      q0 (env 2) h1) := by kernel_rfl
theorem bFg (kk7 : cE) : (fun (env : aY) (h : Hp) =>
 bnd (aD .lss (env 62) (env 61) h) fun v1 h1 =>
 aQ v1 (
 bnd (aH 3 (env 60) (env 62) h1) fun v2 h2 =>
 bnd (aK 3 v2 h2) fun v3 h3 =>
 bnd (bL [(aE 0), (aE 0), (aE 0)] h3) fun v4 h4 =>
 bnd (aG 3 v4 v3 h4) fun _ h5 =>
 bnd (aK 3 v4 h5) fun v6 h6 =>
 bnd (r 124 [v6] h6) fun v7 h7 =>
 bnd (gI .not v7 h7) fun v8 h8 =>
 bnd (gD v8 false (aK 6 (env 2) h8) h8) fun v9 h9 =>
 bnd (gD v8 false (aK 3 v4 h9) h9) fun v10 h10 =>
 bnd (gD v8 false (some ((env 1), h10)) h10) fun v11 h11 =>
 bnd (gD v8 false (r 172 [v9, v10, v11] h11) h11) fun v12 h12 =>
 bnd (gD v8 false (gI .not v12 h12) h12) fun v13 h13 =>
 bnd (aO v8 (.b true) v13 h13) fun v14 h14 =>
 aQ v14 (
 some (.t [.l0, (aE 19)], h14)) (
 bnd (aD .add (env 62) (aE 1) h14) fun v15 h15 =>
    kk7 (env 1) (env 2) (env 60) (env 61) v15 h15)) (
      eE r n (env 2) h1)) = (K5 (aGu r n kk7) 1 2 60 61 62) := by kernel_rfl
theorem bYm (kk7 : cE) : D144 r n mE (xs x0 0 (K1 (eE r n) 2)) (K5 kk7 1 2 60 61 62) = (K5 (aGu r n kk7) 1 2 60 61 62) :=
 (bIj r n kk7 (eE r n)).trans (bFg r n kk7)
theorem bIt (m : Nat) : aN (fun kk => D144 r n mE (xs x0 0 (K1 (eE r n) 2)) kk) m = (K5 (uH r n m) 1 2 60 61 62) := by
 induction m with
 | zero => exact (by kernel_rfl : aN (fun kk => D144 r n mE (xs x0 0 (K1 (eE r n) 2)) kk) 0 = (K5 (uH r n 0) 1 2 60 61 62))
 | succ m ih =>
  refine (by kernel_rfl : aN (fun kk => D144 r n mE (xs x0 0 (K1 (eE r n) 2)) kk) (m + 1) = D144 r n mE (xs x0 0 (K1 (eE r n) 2)) (aN (fun kk => D144 r n mE (xs x0 0 (K1 (eE r n) 2)) kk) m)).trans ?_
  rw [ih]
  exact (bYm r n (uH r n m)).trans (by kernel_rfl)
theorem cIj : D144 r n aFd (xs x0 0 (K1 (eE r n) 2)) (K1 (eE r n) 2) = (K5 (bSn r n) 1 2 60 61 62) :=
 (by kernel_rfl : D144 r n aFd (xs x0 0 (K1 (eE r n) 2)) (K1 (eE r n) 2) = aN (fun kk => D144 r n mE (xs x0 0 (K1 (eE r n) 2)) kk) n).trans ((bIt r n n).trans (by kernel_rfl))
theorem cDu : D144 r n aSr x0 (K1 (eE r n) 2) = (K5 (aRh r n) 1 2 60 61 62) :=
 (by kernel_rfl : D144 r n aSr x0 (K1 (eE r n) 2) = D144 r n aFd (xs x0 0 (K1 (eE r n) 2)) (K1 (eE r n) 2)).trans
 ((cIj r n).trans (by kernel_rfl))
theorem bUn : D144 r n aIy x0 r144 = D144 r n xK x0 (K1 (eE r n) 2) :=
 congrArg (fun k => D144 r n xK x0 k) (cLs r n)
theorem bYa : D144 r n xK x0 (K1 (eE r n) 2) = D144 r n aVn x0 (K5 (aRh r n) 1 2 60 61 62) :=
 congrArg (fun k => D144 r n aVn x0 k) (cDu r n)
theorem cQa : D144 r n aIy x0 r144 = (K2 (aPk r n) 1 2) :=
 (bUn r n).trans
 ((bYa r n).trans
 ((by kernel_rfl)))
theorem bXe : D144 r n aCs x0 r144 = D144 r n aZj x0 (K2 (aPk r n) 1 2) :=
 congrArg (fun k => D144 r n aZj x0 k) (cQa r n)
theorem cJj : D144 r n aCs x0 r144 = (K4 (aPl r n) 1 2 6 7) :=
 (bXe r n).trans
 ((by kernel_rfl))
theorem bMm : D144 r n aKk x0 r144 = D144 r n bDg x0 (K4 (aPl r n) 1 2 6 7) :=
 congrArg (fun k => D144 r n bDg x0 k) (cJj r n)
theorem cFi : D144 r n aKk x0 r144 = (K3 (aOr r n) 1 2 6) :=
 (bMm r n).trans
 ((by kernel_rfl))
theorem bPu : D144 r n aEo x0 r144 = D144 r n aWt x0 (K3 (aOr r n) 1 2 6) :=
 congrArg (fun k => D144 r n aWt x0 k) (cFi r n)
theorem cSb : D144 r n aEo x0 r144 = (K2 (yB r n) 1 2) :=
 (bPu r n).trans
 ((by kernel_rfl))
theorem dFs : D144 r n c144 x0 r144 = D144 r n aCl x0 (K2 (yB r n) 1 2) :=
 congrArg (fun k => D144 r n aCl x0 k) (cSb r n)
theorem cYq (q0 : gJ) : D144 r n aCl x0 (K2 q0 1 2) = fun (env : aY) (h : Hp) =>
 bnd (bS (env 0) h) fun v1 h1 =>
  q0 (env 1) v1 h1 := by kernel_rfl
theorem cLm : (fun (env : aY) (h : Hp) =>
 bnd (bS (env 0) h) fun v1 h1 =>
  yB r n (env 1) v1 h1) = (K2 (s144 r n) 0 1) := by kernel_rfl
theorem dGx : D144 r n c144 x0 r144 = (K2 (s144 r n) 0 1) :=
 (dFs r n).trans
 ((cYq r n (yB r n)).trans (cLm r n))
theorem cUl : aF CF r n 144 args h = s144 r n (aS args 0) (aS args 1) h :=
 (by kernel_rfl : aF CF r n 144 args h = D144 r n c144 x0 r144 (aI args) h).trans ((congrFun (congrFun (dGx r n) (aI args)) h).trans (by kernel_rfl))
noncomputable def s145 (r : RT) (n : Nat) (x0 x1 : DV) (h0 : Hp) : aJ :=
 bnd (aA x1 h0) fun v1 h1 =>
 bnd (r 131 [v1, x0] h1) fun v2 h2 =>
 bnd (aD .geq v2 (aE 0) h2) fun v3 h3 =>
 some (v3, h3)
noncomputable abbrev c145 : Code := cf Tryz.f145
noncomputable abbrev r145 : K := aT CF Tryz.f145
noncomputable def D145 (r : RT) (n : Nat) (c : Code) (X : Nat → K) (k : K) : K := aM CF r 8 n c X r145 k
theorem dIb : D145 r n c145 x0 r145 = (K2 (s145 r n) 0 1) :=
 (by kernel_rfl)
theorem dFj : aF CF r n 145 args h = s145 r n (aS args 0) (aS args 1) h :=
 (by kernel_rfl : aF CF r n 145 args h = D145 r n c145 x0 r145 (aI args) h).trans ((congrFun (congrFun (dIb r n) (aI args)) h).trans (by kernel_rfl))
noncomputable def s146 (r : RT) (n : Nat) (x0 x1 : DV) (h0 : Hp) : aJ :=
 bnd (lQ [x0, x1] h0) fun v1 h1 =>
 some (v1, h1)
noncomputable abbrev c146 : Code := cf Tryz.f146
noncomputable abbrev r146 : K := aT CF Tryz.f146
noncomputable def D146 (r : RT) (n : Nat) (c : Code) (X : Nat → K) (k : K) : K := aM CF r 8 n c X r146 k
theorem dIf : D146 r n c146 x0 r146 = (K2 (s146 r n) 0 1) :=
 (by kernel_rfl)
theorem dBw : aF CF r n 146 args h = s146 r n (aS args 0) (aS args 1) h :=
 (by kernel_rfl : aF CF r n 146 args h = D146 r n c146 x0 r146 (aI args) h).trans ((congrFun (congrFun (dIf r n) (aI args)) h).trans (by kernel_rfl))
noncomputable def s147 (r : RT) (n : Nat) (x0 x1 : DV) (h0 : Hp) : aJ :=
 bnd (aR x0 h0) fun v1 h1 =>
 bnd (aB 1 v1 h1) fun v2 h2 =>
 bnd (aA v2 h2) fun v3 h3 =>
 bnd (aD .add v3 x1 h3) fun v4 h4 =>
 bnd (aR x0 h4) fun v5 h5 =>
 bnd (aB 0 v5 h5) fun v6 h6 =>
 bnd (aA v6 h6) fun v7 h7 =>
 bnd (dT v7 h7) fun v8 h8 =>
 bnd (aD .geq v4 v8 h8) fun v9 h9 =>
 aQ v9 (
 some ((.i .u8 (Int.ofNat 0)), h9)) (
 bnd (aR x0 h9) fun v10 h10 =>
 bnd (aB 0 v10 h10) fun v11 h11 =>
 bnd (aA v11 h11) fun v12 h12 =>
 bnd (aR x0 h12) fun v13 h13 =>
 bnd (aB 1 v13 h13) fun v14 h14 =>
 bnd (aA v14 h14) fun v15 h15 =>
 bnd (aD .add v15 x1 h15) fun v16 h16 =>
 bnd (fG v12 v16 h16) fun v17 h17 =>
 some (v17, h17))
noncomputable abbrev c147 : Code := cf Tryz.f147
noncomputable abbrev r147 : K := aT CF Tryz.f147
noncomputable def D147 (r : RT) (n : Nat) (c : Code) (X : Nat → K) (k : K) : K := aM CF r 28 n c X r147 k
theorem dKx : D147 r n c147 x0 r147 = (K2 (s147 r n) 0 1) :=
 (by kernel_rfl)
theorem cXj : aF CF r n 147 args h = s147 r n (aS args 0) (aS args 1) h :=
 (by kernel_rfl : aF CF r n 147 args h = D147 r n c147 x0 r147 (aI args) h).trans ((congrFun (congrFun (dKx r n) (aI args)) h).trans (by kernel_rfl))
noncomputable def s148 (r : RT) (n : Nat) (x0 : DV) (h0 : Hp) : aJ :=
 bnd (aD .geq x0 (.i .u8 (Int.ofNat 97)) h0) fun v1 h1 =>
 bnd (gD v1 true (some (x0, h1)) h1) fun v2 h2 =>
 bnd (gD v1 true (aD .leq v2 (.i .u8 (Int.ofNat 122)) h2) h2) fun v3 h3 =>
 bnd (aO v1 v3 (.b false) h3) fun v4 h4 =>
 bnd (gD v4 false (some (x0, h4)) h4) fun v5 h5 =>
 bnd (gD v4 false (aD .geq v5 (.i .u8 (Int.ofNat 65)) h5) h5) fun v6 h6 =>
 bnd (gD v4 false (some (v6, h6)) h6) fun v7 h7 =>
 bnd (gD v7 true (some (x0, h7)) h7) fun v8 h8 =>
 bnd (gD v7 true (aD .leq v8 (.i .u8 (Int.ofNat 90)) h8) h8) fun v9 h9 =>
 bnd (gD v4 false (aO v7 v9 (.b false) h9) h9) fun v10 h10 =>
 bnd (aO v4 (.b true) v10 h10) fun v11 h11 =>
 some (v11, h11)
noncomputable abbrev c148 : Code := cf Tryz.f148
noncomputable abbrev r148 : K := aT CF Tryz.f148
noncomputable def D148 (r : RT) (n : Nat) (c : Code) (X : Nat → K) (k : K) : K := aM CF r 17 n c X r148 k
theorem dLi : D148 r n c148 x0 r148 = (K1 (s148 r n) 0) :=
 (by kernel_rfl)
theorem dBy : aF CF r n 148 args h = s148 r n (aS args 0) h :=
 (by kernel_rfl : aF CF r n 148 args h = D148 r n c148 x0 r148 (aI args) h).trans ((congrFun (congrFun (dLi r n) (aI args)) h).trans (by kernel_rfl))
noncomputable def s149 (r : RT) (n : Nat) (x0 : DV) (h0 : Hp) : aJ :=
 bnd (aR x0 h0) fun v1 h1 =>
 bnd (aB 0 v1 h1) fun v2 h2 =>
 bnd (aA v2 h2) fun v3 h3 =>
 bnd (dT v3 h3) fun v4 h4 =>
 bnd (r 129 [x0, (.f 177 [] []), v4] h4) fun v5 h5 =>
 bnd (dT v5 h5) fun v6 h6 =>
 bnd (aD .gtr v6 (aE 24) h6) fun v7 h7 =>
 aQ v7 (
 some (.t [(.s []), (aE 12)], h7)) (
 some (.t [v5, (aE 0)], h7))
noncomputable abbrev c149 : Code := cf Tryz.f149
noncomputable abbrev r149 : K := aT CF Tryz.f149
noncomputable def D149 (r : RT) (n : Nat) (c : Code) (X : Nat → K) (k : K) : K := aM CF r 16 n c X r149 k
theorem dIx : D149 r n c149 x0 r149 = (K1 (s149 r n) 0) :=
 (by kernel_rfl)
theorem dFa : aF CF r n 149 args h = s149 r n (aS args 0) h :=
 (by kernel_rfl : aF CF r n 149 args h = D149 r n c149 x0 r149 (aI args) h).trans ((congrFun (congrFun (dIx r n) (aI args)) h).trans (by kernel_rfl))
noncomputable def s150 (r : RT) (n : Nat) (x0 : DV) (h0 : Hp) : aJ :=
 bnd (r 147 [x0, (aE 0)] h0) fun v1 h1 =>
 bnd (aD .neq v1 (.i .u8 (Int.ofNat 58)) h1) fun v2 h2 =>
 bnd (gD v2 false (some (x0, h2)) h2) fun v3 h3 =>
 bnd (gD v2 false (r 147 [v3, (aE 1)] h3) h3) fun v4 h4 =>
 bnd (gD v2 false (aD .eql v4 (.i .u8 (Int.ofNat 61)) h4) h4) fun v5 h5 =>
 bnd (aO v2 (.b true) v5 h5) fun v6 h6 =>
 aQ v6 (
 some ((.b false), h6)) (
 bnd (aR x0 h6) fun v7 h7 =>
 bnd (aB 1 v7 h7) fun v8 h8 =>
 bnd (aA v8 h8) fun v9 h9 =>
 bnd (aD .add v9 (aE 1) h9) fun v10 h10 =>
 bnd (aR x0 h10) fun v11 h11 =>
 bnd (aB 1 v11 h11) fun v12 h12 =>
 bnd (aG 1 v12 v10 h12) fun _ h13 =>
 some ((.b true), h13))
noncomputable abbrev c150 : Code := cf Tryz.f150
noncomputable abbrev r150 : K := aT CF Tryz.f150
noncomputable def D150 (r : RT) (n : Nat) (c : Code) (X : Nat → K) (k : K) : K := aM CF r 18 n c X r150 k
theorem dHk : D150 r n c150 x0 r150 = (K1 (s150 r n) 0) :=
 (by kernel_rfl)
theorem dFc : aF CF r n 150 args h = s150 r n (aS args 0) h :=
 (by kernel_rfl : aF CF r n 150 args h = D150 r n c150 x0 r150 (aI args) h).trans ((congrFun (congrFun (dHk r n) (aI args)) h).trans (by kernel_rfl))
noncomputable def s151 (r : RT) (n : Nat) (x0 : DV) (h0 : Hp) : aJ :=
 bnd (aD .geq x0 (.i .u8 (Int.ofNat 48)) h0) fun v1 h1 =>
 bnd (gD v1 true (some (x0, h1)) h1) fun v2 h2 =>
 bnd (gD v1 true (aD .leq v2 (.i .u8 (Int.ofNat 57)) h2) h2) fun v3 h3 =>
 bnd (aO v1 v3 (.b false) h3) fun v4 h4 =>
 some (v4, h4)
noncomputable abbrev c151 : Code := cf Tryz.f151
noncomputable abbrev r151 : K := aT CF Tryz.f151
noncomputable def D151 (r : RT) (n : Nat) (c : Code) (X : Nat → K) (k : K) : K := aM CF r 9 n c X r151 k
theorem dKc : D151 r n c151 x0 r151 = (K1 (s151 r n) 0) :=
 (by kernel_rfl)
theorem dAs : aF CF r n 151 args h = s151 r n (aS args 0) h :=
 (by kernel_rfl : aF CF r n 151 args h = D151 r n c151 x0 r151 (aI args) h).trans ((congrFun (congrFun (dKc r n) (aI args)) h).trans (by kernel_rfl))
noncomputable def eR (r : RT) (n : Nat) (x4 : DV) (h0 : Hp) : aJ :=
 some (.t [x4, (aE 0)], h0)
noncomputable def aXz (r : RT) (n : Nat) (kk5 : gJ) (x4 x14 : DV) (h0 : Hp) : aJ :=
 bnd (yT x14 h0) fun v1 h1 =>
 bnd (aC 0 v1 h1) fun v2 h2 =>
 aQ v2 (
 bnd (aC 2 v1 h2) fun v3 h3 =>
 bnd (aD .gtr x4 (aE 115292150460684697) h3) fun v4 h4 =>
 aQ v4 (
 some (.t [(aE 0), (aE 2)], h4)) (
 bnd (aD .mul x4 (aE 10) h4) fun v5 h5 =>
 bnd (aD .sub v3 (.i .i32 (Int.ofNat 48)) h5) fun v6 h6 =>
 bnd (dU .i64 v6 h6) fun v7 h7 =>
 bnd (aD .add v5 v7 h7) fun v8 h8 =>
 bnd (aD .gtr v8 (aE 1152921504606846976) h8) fun v9 h9 =>
 aQ v9 (
 some (.t [(aE 0), (aE 2)], h9)) (
     kk5 v8 x14 h9))) (
   eR r n x4 h2)
noncomputable def uK (r : RT) (n : Nat) (m : Nat) : gJ :=
 Nat.rec (motive := fun _ => gJ) (fun _ _ _ => none) (fun _ ih => aXz r n ih) m
noncomputable def bLe (r : RT) (n : Nat) : gJ := uK r n n
noncomputable def aPg (r : RT) (n : Nat) (x4 x14 : DV) (h0 : Hp) : aJ :=
 bLe r n x4 x14 h0
noncomputable def aSn (r : RT) (n : Nat) (x0 x4 : DV) (h0 : Hp) : aJ :=
 bnd (aR x0 h0) fun v1 h1 =>
 bnd (aB 0 v1 h1) fun v2 h2 =>
 bnd (aA v2 h2) fun v3 h3 =>
 bnd (dT v3 h3) fun v4 h4 =>
 bnd (r 129 [x0, (.f 151 [] []), v4] h4) fun v5 h5 =>
 bnd (nV v5 h5) fun v6 h6 =>
  aPg r n x4 v6 h6
noncomputable def aQe (r : RT) (n : Nat) (x0 : DV) (h0 : Hp) : aJ :=
 aSn r n x0 (aE 0) h0
noncomputable def s152 (r : RT) (n : Nat) (x0 : DV) (h0 : Hp) : aJ :=
 aQe r n x0 h0
noncomputable abbrev c152 : Code := cf Tryz.f152
noncomputable abbrev aEw : Code := cR c152
noncomputable abbrev aDl : Code := cR aEw
noncomputable abbrev cUm : Code := cR aDl
noncomputable abbrev yE : Code := cL aDl
noncomputable abbrev aRy : Code := cR yE
noncomputable abbrev aIb : Code := cL aRy
noncomputable abbrev nN : Code := cL aIb
noncomputable abbrev bWt : Code := cL yE
noncomputable abbrev bNo : Code := cL aEw
noncomputable abbrev aYn : Code := cL c152
noncomputable abbrev r152 : K := aT CF Tryz.f152
noncomputable def D152 (r : RT) (n : Nat) (c : Code) (X : Nat → K) (k : K) : K := aM CF r 29 n c X r152 k
theorem cLb : D152 r n cUm x0 r152 = (K1 (eR r n) 4) :=
 (by kernel_rfl)
theorem bRg (kk5 : gJ) : D152 r n nN (xs x0 0 (K1 (eR r n) 4)) (K2 kk5 4 14) = (K2 (aXz r n kk5) 4 14) :=
 (by kernel_rfl)
theorem bNv (m : Nat) : aN (fun kk => D152 r n nN (xs x0 0 (K1 (eR r n) 4)) kk) m = (K2 (uK r n m) 4 14) := by
 induction m with
 | zero => exact (by kernel_rfl : aN (fun kk => D152 r n nN (xs x0 0 (K1 (eR r n) 4)) kk) 0 = (K2 (uK r n 0) 4 14))
 | succ m ih =>
  refine (by kernel_rfl : aN (fun kk => D152 r n nN (xs x0 0 (K1 (eR r n) 4)) kk) (m + 1) = D152 r n nN (xs x0 0 (K1 (eR r n) 4)) (aN (fun kk => D152 r n nN (xs x0 0 (K1 (eR r n) 4)) kk) m)).trans ?_
  rw [ih]
  exact (bRg r n (uK r n m)).trans (by kernel_rfl)
theorem cSj : D152 r n aIb (xs x0 0 (K1 (eR r n) 4)) (K1 (eR r n) 4) = (K2 (bLe r n) 4 14) :=
 (by kernel_rfl : D152 r n aIb (xs x0 0 (K1 (eR r n) 4)) (K1 (eR r n) 4) = aN (fun kk => D152 r n nN (xs x0 0 (K1 (eR r n) 4)) kk) n).trans ((bNv r n n).trans (by kernel_rfl))
theorem cGz : D152 r n aRy x0 (K1 (eR r n) 4) = (K2 (aPg r n) 4 14) :=
 (by kernel_rfl : D152 r n aRy x0 (K1 (eR r n) 4) = D152 r n aIb (xs x0 0 (K1 (eR r n) 4)) (K1 (eR r n) 4)).trans
 ((cSj r n).trans (by kernel_rfl))
theorem bIx : D152 r n aDl x0 r152 = D152 r n yE x0 (K1 (eR r n) 4) :=
 congrArg (fun k => D152 r n yE x0 k) (cLb r n)
theorem bJy : D152 r n yE x0 (K1 (eR r n) 4) = D152 r n bWt x0 (K2 (aPg r n) 4 14) :=
 congrArg (fun k => D152 r n bWt x0 k) (cGz r n)
theorem cIs : D152 r n aDl x0 r152 = (K2 (aSn r n) 0 4) :=
 (bIx r n).trans
 ((bJy r n).trans
 ((by kernel_rfl)))
theorem bXg : D152 r n aEw x0 r152 = D152 r n bNo x0 (K2 (aSn r n) 0 4) :=
 congrArg (fun k => D152 r n bNo x0 k) (cIs r n)
theorem cIg : D152 r n aEw x0 r152 = (K1 (aQe r n) 0) :=
 (bXg r n).trans
 ((by kernel_rfl))
theorem dFu : D152 r n c152 x0 r152 = D152 r n aYn x0 (K1 (aQe r n) 0) :=
 congrArg (fun k => D152 r n aYn x0 k) (cIg r n)
theorem dGk : D152 r n c152 x0 r152 = (K1 (s152 r n) 0) :=
 (dFu r n).trans
 ((by kernel_rfl))
theorem cXp : aF CF r n 152 args h = s152 r n (aS args 0) h :=
 (by kernel_rfl : aF CF r n 152 args h = D152 r n c152 x0 r152 (aI args) h).trans ((congrFun (congrFun (dGk r n) (aI args)) h).trans (by kernel_rfl))
end Go.Dd

namespace Go.Dd
open Go.Proofs
variable (r : RT) (n : Nat) (args : List DV) (h : Hp)
noncomputable def s156 (r : RT) (n : Nat) (x0 x1 : DV) (h0 : Hp) : aJ :=
 bnd (bS x1 h0) fun v1 h1 =>
 bnd (bL [(.s []), (.b false), (.b false), (aE 0)] h1) fun v2 h2 =>
 bnd (aR x0 h2) fun v3 h3 =>
 bnd (aB 6 v3 h3) fun v4 h4 =>
 bnd (aA v4 h4) fun v5 h5 =>
 bnd (r 185 [v5, (.f 186 [] [v1])] h5) fun v6 h6 =>
 bnd (aD .lss v6 (aE 0) h6) fun v7 h7 =>
 aQ v7 (
 bnd (bB [(.s []), (.b false), (.b false), (aE 0)] [] h7) fun v8 h8 =>
 bnd (aG 4 v2 v8 h8) fun _ h9 =>
 bnd (aK 4 v2 h9) fun v10 _ =>
 some (.t [v10, (.b false)], h9)) (
 bnd (aR x0 h7) fun v11 h11 =>
 bnd (aB 6 v11 h11) fun v12 h12 =>
 bnd (aA v12 h12) fun v13 h13 =>
 bnd (aH 4 v13 v6 h13) fun v14 h14 =>
 bnd (aK 4 v14 h14) fun v15 h15 =>
 bnd (aG 4 v2 v15 h15) fun _ h16 =>
 bnd (aK 4 v2 h16) fun v17 _ =>
 some (.t [v17, (.b true)], h16))
noncomputable abbrev c156 : Code := cf Tryz.f156
noncomputable abbrev r156 : K := aT CF Tryz.f156
noncomputable def D156 (r : RT) (n : Nat) (c : Code) (X : Nat → K) (k : K) : K := aM CF r 23 n c X r156 k
theorem dIg : D156 r n c156 x0 r156 = (K2 (s156 r n) 0 1) :=
 (by kernel_rfl)
theorem dDj : aF CF r n 156 args h = s156 r n (aS args 0) (aS args 1) h :=
 (by kernel_rfl : aF CF r n 156 args h = D156 r n c156 x0 r156 (aI args) h).trans ((congrFun (congrFun (dIg r n) (aI args)) h).trans (by kernel_rfl))
noncomputable def gW (r : RT) (n : Nat) (h0 : Hp) : aJ :=
 some ((.b false), h0)
noncomputable def lZ (r : RT) (n : Nat) (x4 : DV) (h0 : Hp) : aJ :=
 aQ x4 (
 some ((.b true), h0)) (
  gW r n h0)
noncomputable def aVh (r : RT) (n : Nat) (x3 : DV) (h0 : Hp) : aJ :=
 bnd (eM .eql x3 (.s [115, 101, 108, 102]) h0) fun v1 h1 =>
 aQ v1 (
  lZ r n v1 h1) (
 bnd (eM .eql x3 (.s [115, 117, 112, 101, 114]) h1) fun v2 h2 =>
 aQ v2 (
   lZ r n v2 h2) (
 bnd (eM .eql x3 (.s [110, 105, 108]) h2) fun v3 h3 =>
 aQ v3 (
    lZ r n v3 h3) (
 bnd (eM .eql x3 (.s [116, 114, 117, 101]) h3) fun v4 h4 =>
 aQ v4 (
     lZ r n v4 h4) (
 bnd (eM .eql x3 (.s [102, 97, 108, 115, 101]) h4) fun v5 h5 =>
 aQ v5 (
      lZ r n v5 h5) (
 bnd (eM .eql x3 (.s [116, 104, 105, 115, 67, 111, 110, 116, 101, 120, 116]) h5) fun v6 h6 =>
      lZ r n v6 h6)))))
noncomputable def aOu (r : RT) (n : Nat) (x0 : DV) (h0 : Hp) : aJ :=
 aVh r n x0 h0
noncomputable def s157 (r : RT) (n : Nat) (x0 : DV) (h0 : Hp) : aJ :=
 aOu r n x0 h0
noncomputable abbrev c157 : Code := cf Tryz.f157
noncomputable abbrev aCg : Code := cR c157
noncomputable abbrev cUs : Code := cR aCg
noncomputable abbrev vN : Code := cL aCg
noncomputable abbrev aOv : Code := cR vN
noncomputable abbrev aHt : Code := cL aOv
noncomputable abbrev dFm : Code := cR aHt
noncomputable abbrev bZr : Code := cL aHt
noncomputable abbrev cBl : Code := cL vN
noncomputable abbrev bZl : Code := cL c157
noncomputable abbrev r157 : K := aT CF Tryz.f157
noncomputable def D157 (r : RT) (n : Nat) (c : Code) (X : Nat → K) (k : K) : K := aM CF r 11 n c X r157 k
theorem cMt : D157 r n cUs x0 r157 = (K0 (gW r n)) :=
 (by kernel_rfl)
theorem cRu : D157 r n dFm (xs x0 0 (K0 (gW r n))) (K0 (gW r n)) = (K1 (lZ r n) 4) :=
 (by kernel_rfl)
theorem bWi : D157 r n aHt (xs x0 0 (K0 (gW r n))) (K0 (gW r n)) = D157 r n bZr (xs x0 0 (K0 (gW r n))) (K1 (lZ r n) 4) :=
 congrArg (fun k => D157 r n bZr (xs x0 0 (K0 (gW r n))) k) (cRu r n)
theorem cDm : D157 r n aOv x0 (K0 (gW r n)) = (K1 (aVh r n) 3) :=
 (by kernel_rfl : D157 r n aOv x0 (K0 (gW r n)) = D157 r n aHt (xs x0 0 (K0 (gW r n))) (K0 (gW r n))).trans
 ((bWi r n).trans
 ((by kernel_rfl)))
theorem bXv : D157 r n aCg x0 r157 = D157 r n vN x0 (K0 (gW r n)) :=
 congrArg (fun k => D157 r n vN x0 k) (cMt r n)
theorem bQf : D157 r n vN x0 (K0 (gW r n)) = D157 r n cBl x0 (K1 (aVh r n) 3) :=
 congrArg (fun k => D157 r n cBl x0 k) (cDm r n)
theorem cQo : D157 r n aCg x0 r157 = (K1 (aOu r n) 0) :=
 (bXv r n).trans
 ((bQf r n).trans
 ((by kernel_rfl)))
theorem dDm : D157 r n c157 x0 r157 = D157 r n bZl x0 (K1 (aOu r n) 0) :=
 congrArg (fun k => D157 r n bZl x0 k) (cQo r n)
theorem dJl : D157 r n c157 x0 r157 = (K1 (s157 r n) 0) :=
 (dDm r n).trans
 ((by kernel_rfl))
theorem cUr : aF CF r n 157 args h = s157 r n (aS args 0) h :=
 (by kernel_rfl : aF CF r n 157 args h = D157 r n c157 x0 r157 (aI args) h).trans ((congrFun (congrFun (dJl r n) (aI args)) h).trans (by kernel_rfl))
noncomputable def aGt (r : RT) (n : Nat) (x0 x1 : DV) (h0 : Hp) : aJ :=
 bnd (r 156 [x0, x1] h0) fun v1 h1 =>
 bnd (aC 0 v1 h1) fun v2 h2 =>
 bnd (aC 1 v1 h2) fun v3 h3 =>
 bnd (bL [(.s []), (.b false), (.b false), (aE 0)] h3) fun v4 h4 =>
 bnd (aG 4 v4 v2 h4) fun _ h5 =>
 bnd (gD v3 true (aB 1 v4 h5) h5) fun v6 h6 =>
 bnd (gD v3 true (aA v6 h6) h6) fun v7 h7 =>
 bnd (aO v3 v7 (.b false) h7) fun v8 h8 =>
 aQ v8 (
 bnd (aB 3 v4 h8) fun v9 h9 =>
 bnd (aA v9 h9) fun v10 h10 =>
 bnd (r 141 [x0, (aE 8), v10, (aE 0)] h10) fun v11 h11 =>
 some (.t [], h11)) (
 aQ v3 (
 bnd (aB 3 v4 h8) fun v12 h12 =>
 bnd (aA v12 h12) fun v13 h13 =>
 bnd (r 141 [x0, (aE 7), v13, (aE 0)] h13) fun v14 h14 =>
 some (.t [], h14)) (
 bnd (r 190 [x1] h8) fun v15 h15 =>
 aQ v15 (
 bnd (r 191 [x0, x1] h15) fun v16 h16 =>
 bnd (r 141 [x0, (aE 9), v16, (aE 0)] h16) fun v17 h17 =>
 some (.t [], h17)) (
 bnd (r 158 [x0, x1, (aE 15)] h15) fun v18 h18 =>
 some (.t [], h18))))
noncomputable def s161 (r : RT) (n : Nat) (x0 x1 : DV) (h0 : Hp) : aJ :=
 bnd (eM .eql x1 (.s [115, 101, 108, 102]) h0) fun v1 h1 =>
 aQ v1 (
 bnd (r 141 [x0, (aE 1), (aE 0), (aE 0)] h1) fun v2 h2 =>
 some (.t [], h2)) (
 bnd (eM .eql x1 (.s [110, 105, 108]) h1) fun v3 h3 =>
 aQ v3 (
 bnd (r 141 [x0, (aE 2), (aE 0), (aE 0)] h3) fun v4 h4 =>
 some (.t [], h4)) (
 bnd (eM .eql x1 (.s [116, 114, 117, 101]) h3) fun v5 h5 =>
 aQ v5 (
 bnd (r 141 [x0, (aE 3), (aE 0), (aE 0)] h5) fun v6 h6 =>
 some (.t [], h6)) (
 bnd (eM .eql x1 (.s [102, 97, 108, 115, 101]) h5) fun v7 h7 =>
 aQ v7 (
 bnd (r 141 [x0, (aE 4), (aE 0), (aE 0)] h7) fun v8 h8 =>
 some (.t [], h8)) (
 bnd (eM .eql x1 (.s [116, 104, 105, 115, 67, 111, 110, 116, 101, 120, 116]) h7) fun v9 h9 =>
 aQ v9 (
 bnd (r 141 [x0, (aE 5), (aE 0), (aE 0)] h9) fun v10 h10 =>
 some (.t [], h10)) (
 bnd (eM .eql x1 (.s [115, 117, 112, 101, 114]) h9) fun v11 h11 =>
 aQ v11 (
 bnd (r 158 [x0, x1, (aE 15)] h11) fun v12 h12 =>
       aGt r n x0 x1 h12) (
       aGt r n x0 x1 h11))))))
noncomputable abbrev c161 : Code := cf Tryz.f161
noncomputable abbrev cWo : Code := cR c161
noncomputable abbrev bKx : Code := cL c161
noncomputable abbrev r161 : K := aT CF Tryz.f161
noncomputable def D161 (r : RT) (n : Nat) (c : Code) (X : Nat → K) (k : K) : K := aM CF r 65 n c X r161 k
theorem cOu : D161 r n cWo x0 r161 = (K2 (aGt r n) 0 1) :=
 (by kernel_rfl)
theorem dDf : D161 r n c161 x0 r161 = D161 r n bKx x0 (K2 (aGt r n) 0 1) :=
 congrArg (fun k => D161 r n bKx x0 k) (cOu r n)
theorem dKn : D161 r n c161 x0 r161 = (K2 (s161 r n) 0 1) :=
 (dDf r n).trans
 ((by kernel_rfl))
theorem cYs : aF CF r n 161 args h = s161 r n (aS args 0) (aS args 1) h :=
 (by kernel_rfl : aF CF r n 161 args h = D161 r n c161 x0 r161 (aI args) h).trans ((congrFun (congrFun (dKn r n) (aI args)) h).trans (by kernel_rfl))
noncomputable def s163 (r : RT) (n : Nat) (x0 x1 : DV) (h0 : Hp) : aJ :=
 bnd (bS x1 h0) fun v1 h1 =>
 bnd (aB 5 v1 h1) fun v2 h2 =>
 bnd (aA v2 h2) fun v3 h3 =>
 bnd (bX v3 h3) fun v4 h4 =>
 bnd (aD .eql v4 (aE 0) h4) fun v5 h5 =>
 aQ v5 (
 bnd (r 158 [x0, (.s []), (aE 1)] h5) fun v6 h6 =>
 some (.t [], h6)) (
 bnd (aK 6 v1 h5) fun v7 h7 =>
 bnd (r 192 [x0, v7] h7) fun v8 h8 =>
 bnd (gD v8 false (some (x0, h8)) h8) fun v9 h9 =>
 bnd (gD v8 false (aK 6 v1 h9) h9) fun v10 h10 =>
 bnd (gD v8 false (r 193 [v9, v10] h10) h10) fun v11 h11 =>
 bnd (aO v8 (.b true) v11 h11) fun v12 h12 =>
 aQ v12 (
 some (.t [], h12)) (
 bnd (aB 5 v1 h12) fun v13 h13 =>
 bnd (aA v13 h13) fun v14 h14 =>
 bnd (aH 6 v14 (aE 0) h14) fun v15 h15 =>
 bnd (aK 6 v15 h15) fun v16 h16 =>
 bnd (r 195 [x0, v16] h16) fun v17 h17 =>
 bnd (aB 1 v1 h17) fun v18 h18 =>
 bnd (aA v18 h18) fun v19 h19 =>
 cnd (bK (aA v18 h12) v19 && true) (
 bnd (aB 5 v1 h19) fun v20 h20 =>
 bnd (aA v20 h20) fun v21 h21 =>
 cnd (bK (aA v20 h12) v21 && true) (
 bnd (cT 6 v21 (some (aE 1)) none h21) fun v22 h22 =>
 cnd (bK (cT 6 v21 (some (aE 1)) none h12) v22 && true) (
 bnd (r 194 [x0, v17, v19, v22] h22) fun v23 h23 =>
 some (.t [], h23))))))
noncomputable abbrev c163 : Code := cf Tryz.f163
noncomputable abbrev r163 : K := aT CF Tryz.f163
noncomputable def D163 (r : RT) (n : Nat) (c : Code) (X : Nat → K) (k : K) : K := aM CF r 31 n c X r163 k
theorem dKe : D163 r n c163 x0 r163 = (K2 (s163 r n) 0 1) :=
 (by kernel_rfl)
theorem dCq : aF CF r n 163 args h = s163 r n (aS args 0) (aS args 1) h :=
 (by kernel_rfl : aF CF r n 163 args h = D163 r n c163 x0 r163 (aI args) h).trans ((congrFun (congrFun (dKe r n) (aI args)) h).trans (by kernel_rfl))
noncomputable def aBh (r : RT) (n : Nat) (x3 : DV) (h0 : Hp) : aJ :=
 bnd (aB 5 x3 h0) fun v1 h1 =>
 bnd (aA v1 h1) fun v2 h2 =>
 bnd (bX v2 h2) fun v3 h3 =>
 bnd (aD .eql v3 (aE 1) h3) fun v4 h4 =>
 some (v4, h4)
noncomputable def wN (r : RT) (n : Nat) (x0 x3 : DV) (h0 : Hp) : aJ :=
 bnd (aB 5 x3 h0) fun v1 h1 =>
 bnd (aA v1 h1) fun v2 h2 =>
 bnd (bX v2 h2) fun v3 h3 =>
 bnd (aD .neq v3 (aE 1) h3) fun v4 h4 =>
 aQ v4 (
 bnd (r 158 [x0, (.s []), (aE 1)] h4) fun v5 h5 =>
  aBh r n x3 h5) (
  aBh r n x3 h4)
noncomputable def s167 (r : RT) (n : Nat) (x0 x1 : DV) (h0 : Hp) : aJ :=
 bnd (bS x1 h0) fun v1 h1 =>
  wN r n x0 v1 h1
noncomputable abbrev c167 : Code := cf Tryz.f167
noncomputable abbrev aDq : Code := cR c167
noncomputable abbrev cVg : Code := cR aDq
noncomputable abbrev bSh : Code := cL aDq
noncomputable abbrev aRv : Code := cL c167
noncomputable abbrev r167 : K := aT CF Tryz.f167
noncomputable def D167 (r : RT) (n : Nat) (c : Code) (X : Nat → K) (k : K) : K := aM CF r 15 n c X r167 k
theorem cIy : D167 r n cVg x0 r167 = (K1 (aBh r n) 3) :=
 (by kernel_rfl)
theorem bXs : D167 r n aDq x0 r167 = D167 r n bSh x0 (K1 (aBh r n) 3) :=
 congrArg (fun k => D167 r n bSh x0 k) (cIy r n)
theorem cMi : D167 r n aDq x0 r167 = (K2 (wN r n) 0 3) :=
 (bXs r n).trans
 ((by kernel_rfl))
theorem cZc : D167 r n c167 x0 r167 = D167 r n aRv x0 (K2 (wN r n) 0 3) :=
 congrArg (fun k => D167 r n aRv x0 k) (cMi r n)
theorem cZi (q0 : gJ) : D167 r n aRv x0 (K2 q0 0 3) = fun (env : aY) (h : Hp) =>
 bnd (bS (env 1) h) fun v1 h1 =>
  q0 (env 0) v1 h1 := by kernel_rfl
theorem cDe : (fun (env : aY) (h : Hp) =>
 bnd (bS (env 1) h) fun v1 h1 =>
  wN r n (env 0) v1 h1) = (K2 (s167 r n) 0 1) := by kernel_rfl
theorem dHe : D167 r n c167 x0 r167 = (K2 (s167 r n) 0 1) :=
 (cZc r n).trans
 ((cZi r n (wN r n)).trans (cDe r n))
theorem cZk : aF CF r n 167 args h = s167 r n (aS args 0) (aS args 1) h :=
 (by kernel_rfl : aF CF r n 167 args h = D167 r n c167 x0 r167 (aI args) h).trans ((congrFun (congrFun (dHe r n) (aI args)) h).trans (by kernel_rfl))
noncomputable def s168 (r : RT) (n : Nat) (x0 x1 x2 : DV) (h0 : Hp) : aJ :=
 bnd (aD .geq x0 x1 h0) fun v1 h1 =>
 bnd (gD v1 true (some (x0, h1)) h1) fun v2 h2 =>
 bnd (gD v1 true (some (x2, h2)) h2) fun v3 h3 =>
 bnd (gD v1 true (aD .leq v2 v3 h3) h3) fun v4 h4 =>
 bnd (aO v1 v4 (.b false) h4) fun v5 h5 =>
 some (v5, h5)
noncomputable abbrev c168 : Code := cf Tryz.f168
noncomputable abbrev r168 : K := aT CF Tryz.f168
noncomputable def D168 (r : RT) (n : Nat) (c : Code) (X : Nat → K) (k : K) : K := aM CF r 15 n c X r168 k
theorem dKi : D168 r n c168 x0 r168 = (K3 (s168 r n) 0 1 2) :=
 (by kernel_rfl)
theorem dCh : aF CF r n 168 args h = s168 r n (aS args 0) (aS args 1) (aS args 2) h :=
 (by kernel_rfl : aF CF r n 168 args h = D168 r n c168 x0 r168 (aI args) h).trans ((congrFun (congrFun (dKi r n) (aI args)) h).trans (by kernel_rfl))
noncomputable def s169 (r : RT) (n : Nat) (x0 x1 : DV) (h0 : Hp) : aJ :=
 bnd (r 187 [x0, x1] h0) fun v1 h1 =>
 bnd (aD .geq v1 (aE 0) h1) fun v2 h2 =>
 some (v2, h2)
noncomputable abbrev c169 : Code := cf Tryz.f169
noncomputable abbrev r169 : K := aT CF Tryz.f169
noncomputable def D169 (r : RT) (n : Nat) (c : Code) (X : Nat → K) (k : K) : K := aM CF r 9 n c X r169 k
theorem dJb : D169 r n c169 x0 r169 = (K2 (s169 r n) 0 1) :=
 (by kernel_rfl)
theorem dCv : aF CF r n 169 args h = s169 r n (aS args 0) (aS args 1) h :=
 (by kernel_rfl : aF CF r n 169 args h = D169 r n c169 x0 r169 (aI args) h).trans ((congrFun (congrFun (dJb r n) (aI args)) h).trans (by kernel_rfl))
noncomputable def s170 (r : RT) (n : Nat) (x0 : DV) (h0 : Hp) : aJ :=
 bnd (bS x0 h0) fun v1 h1 =>
 bnd (aK 4 v1 h1) fun v2 h2 =>
 bnd (r 171 [v2, (aE 20)] h2) fun v3 h3 =>
 bnd (gI .not v3 h3) fun v4 h4 =>
 some (v4, h4)
noncomputable abbrev c170 : Code := cf Tryz.f170
noncomputable abbrev r170 : K := aT CF Tryz.f170
noncomputable def D170 (r : RT) (n : Nat) (c : Code) (X : Nat → K) (k : K) : K := aM CF r 6 n c X r170 k
theorem dIy : D170 r n c170 x0 r170 = (K1 (s170 r n) 0) :=
 (by kernel_rfl)
theorem cWq : aF CF r n 170 args h = s170 r n (aS args 0) h :=
 (by kernel_rfl : aF CF r n 170 args h = D170 r n c170 x0 r170 (aI args) h).trans ((congrFun (congrFun (dIy r n) (aI args)) h).trans (by kernel_rfl))
noncomputable def s171 (r : RT) (n : Nat) (x0 x1 : DV) (h0 : Hp) : aJ :=
 bnd (bS x0 h0) fun v1 h1 =>
 bnd (bS x1 h1) fun v2 h2 =>
 bnd (aB 0 v1 h2) fun v3 h3 =>
 bnd (aA v3 h3) fun v4 h4 =>
 bnd (aD .eql v4 (aE 1) h4) fun v5 h5 =>
 aQ v5 (
 bnd (aB 1 v1 h5) fun v6 h6 =>
 bnd (aA v6 h6) fun v7 h7 =>
 bnd (eM .eql v7 (.s []) h7) fun v8 h8 =>
 bnd (gD v8 true (aB 3 v1 h8) h8) fun v9 h9 =>
 bnd (gD v8 true (aA v9 h9) h9) fun v10 h10 =>
 bnd (gD v8 true (bX v10 h10) h10) fun v11 h11 =>
 bnd (gD v8 true (aD .eql v11 (aE 0) h11) h11) fun v12 h12 =>
 bnd (aO v8 v12 (.b false) h12) fun v13 h13 =>
 bnd (gD v13 true (aB 2 v1 h13) h13) fun v14 h14 =>
 bnd (gD v13 true (aA v14 h14) h14) fun v15 h15 =>
 bnd (gD v13 true (r 168 [v15, (.i .i64 (Int.negSucc 1152921504606846975)), (aE 1152921504606846976)] h15) h15) fun v16 h16 =>
 bnd (aO v13 v16 (.b false) h16) fun v17 h17 =>
 some (v17, h17)) (
 bnd (aD .eql v4 (aE 2) h5) fun v18 h18 =>
 aQ v18 (
 bnd (aB 2 v1 h18) fun v19 h19 =>
 bnd (aA v19 h19) fun v20 h20 =>
 bnd (aD .eql v20 (aE 0) h20) fun v21 h21 =>
 bnd (gD v21 true (aB 3 v1 h21) h21) fun v22 h22 =>
 bnd (gD v21 true (aA v22 h22) h22) fun v23 h23 =>
 bnd (gD v21 true (bX v23 h23) h23) fun v24 h24 =>
 bnd (gD v21 true (aD .eql v24 (aE 0) h24) h24) fun v25 h25 =>
 bnd (aO v21 v25 (.b false) h25) fun v26 h26 =>
 bnd (gD v26 true (aB 1 v1 h26) h26) fun v27 h27 =>
 bnd (gD v26 true (aA v27 h27) h27) fun v28 h28 =>
 bnd (gD v26 true (dT v28 h28) h28) fun v29 h29 =>
 bnd (gD v26 true (aD .leq v29 (aE 250) h29) h29) fun v30 h30 =>
 bnd (aO v26 v30 (.b false) h30) fun v31 h31 =>
 some (v31, h31)) (
 bnd (aD .eql v4 (aE 3) h18) fun v32 h32 =>
 aQ v32 (
 bnd (aB 2 v1 h32) fun v33 h33 =>
 bnd (aA v33 h33) fun v34 h34 =>
 bnd (aD .eql v34 (aE 0) h34) fun v35 h35 =>
 bnd (gD v35 true (aB 3 v1 h35) h35) fun v36 h36 =>
 bnd (gD v35 true (aA v36 h36) h36) fun v37 h37 =>
 bnd (gD v35 true (bX v37 h37) h37) fun v38 h38 =>
 bnd (gD v35 true (aD .eql v38 (aE 0) h38) h38) fun v39 h39 =>
 bnd (aO v35 v39 (.b false) h39) fun v40 h40 =>
 bnd (gD v40 true (aB 1 v1 h40) h40) fun v41 h41 =>
 bnd (gD v40 true (aA v41 h41) h41) fun v42 h42 =>
 bnd (gD v40 true (dT v42 h42) h42) fun v43 h43 =>
 bnd (gD v40 true (r 168 [v43, (aE 1), (aE 60)] h43) h43) fun v44 h44 =>
 bnd (aO v40 v44 (.b false) h44) fun v45 h45 =>
 some (v45, h45)) (
 bnd (aD .eql v4 (aE 4) h32) fun v46 h46 =>
 aQ v46 (
 bnd (aB 3 v1 h46) fun v47 h47 =>
 bnd (aA v47 h47) fun v48 h48 =>
 bnd (r 169 [v48, (.f 199 [] [v2])] h48) fun v49 h49 =>
 bnd (aB 2 v1 h49) fun v50 h50 =>
 bnd (aA v50 h50) fun v51 h51 =>
 bnd (aD .eql v51 (aE 0) h51) fun v52 h52 =>
 bnd (gD v52 true (aB 1 v1 h52) h52) fun v53 h53 =>
 bnd (gD v52 true (aA v53 h53) h53) fun v54 h54 =>
 bnd (gD v52 true (eM .eql v54 (.s []) h54) h54) fun v55 h55 =>
 bnd (aO v52 v55 (.b false) h55) fun v56 h56 =>
 bnd (gD v56 true (aA v2 h56) h56) fun v57 h57 =>
 bnd (gD v56 true (aD .gtr v57 (aE 0) h57) h57) fun v58 h58 =>
 bnd (aO v56 v58 (.b false) h58) fun v59 h59 =>
 bnd (gD v59 true (aB 3 v1 h59) h59) fun v60 h60 =>
 bnd (gD v59 true (aA v60 h60) h60) fun v61 h61 =>
 bnd (gD v59 true (bX v61 h61) h61) fun v62 h62 =>
 bnd (gD v59 true (aD .leq v62 (aE 250) h62) h62) fun v63 h63 =>
 bnd (aO v59 v63 (.b false) h63) fun v64 h64 =>
 bnd (gD v64 true (some (v49, h64)) h64) fun v65 h65 =>
 bnd (gD v64 true (gI .not v65 h65) h65) fun v66 h66 =>
 bnd (aO v64 v66 (.b false) h66) fun v67 h67 =>
 some (v67, h67)) (
 some ((.b false), h46)))))
noncomputable abbrev c171 : Code := cf Tryz.f171
noncomputable abbrev r171 : K := aT CF Tryz.f171
noncomputable def D171 (r : RT) (n : Nat) (c : Code) (X : Nat → K) (k : K) : K := aM CF r 86 n c X r171 k
theorem dKv : D171 r n c171 x0 r171 = (K2 (s171 r n) 0 1) :=
 (by kernel_rfl)
theorem dAn : aF CF r n 171 args h = s171 r n (aS args 0) (aS args 1) h :=
 (by kernel_rfl : aF CF r n 171 args h = D171 r n c171 x0 r171 (aI args) h).trans ((congrFun (congrFun (dKv r n) (aI args)) h).trans (by kernel_rfl))
end Go.Dd

namespace Go.Dd
open Go.Proofs
variable (r : RT) (n : Nat) (args : List DV) (h : Hp)
noncomputable def bD (r : RT) (n : Nat) (h0 : Hp) : aJ :=
 some ((.b true), h0)
noncomputable def tM (r : RT) (n : Nat) (x2 x3 x4 x27 x51 : DV) (h0 : Hp) : aJ :=
 aQ x51 (
 bnd (aB 1 x4 h0) fun v1 h1 =>
 bnd (aA v1 h1) fun v2 h2 =>
 bnd (aD .lss v2 x2 h2) fun v3 h3 =>
 some (v3, h3)) (
 bnd (aD .eql x27 (aE 18) h0) fun v4 h4 =>
 aQ v4 (
 bnd (aB 2 x4 h4) fun v5 h5 =>
 bnd (aA v5 h5) fun v6 h6 =>
 bnd (aD .leq v6 (aE 4) h6) fun v7 h7 =>
 bnd (gD v7 true (aB 1 x4 h7) h7) fun v8 h8 =>
 bnd (gD v7 true (aA v8 h8) h8) fun v9 h9 =>
 bnd (gD v7 true (aB 2 x4 h9) h9) fun v10 h10 =>
 bnd (gD v7 true (aA v10 h10) h10) fun v11 h11 =>
 bnd (gD v7 true (aD .add v9 v11 h11) h11) fun v12 h12 =>
 bnd (gD v7 true (aB 2 x3 h12) h12) fun v13 h13 =>
 bnd (gD v7 true (aA v13 h13) h13) fun v14 h14 =>
 bnd (gD v7 true (aD .leq v12 v14 h14) h14) fun v15 h15 =>
 bnd (aO v7 v15 (.b false) h15) fun v16 h16 =>
 some (v16, h16)) (
   bD r n h4))
noncomputable def bDa (r : RT) (n : Nat) (x2 x3 x4 x27 : DV) (h0 : Hp) : aJ :=
 bnd (aD .eql x27 (aE 8) h0) fun v1 h1 =>
 aQ v1 (
  tM r n x2 x3 x4 x27 v1 h1) (
 bnd (aD .eql x27 (aE 11) h1) fun v2 h2 =>
  tM r n x2 x3 x4 x27 v2 h2)
noncomputable def tZ (r : RT) (n : Nat) (x2 x3 x4 x27 x43 : DV) (h0 : Hp) : aJ :=
 aQ x43 (
 bnd (aB 1 x4 h0) fun v1 h1 =>
 bnd (aA v1 h1) fun v2 h2 =>
 bnd (aB 2 x3 h2) fun v3 h3 =>
 bnd (aA v3 h3) fun v4 h4 =>
 bnd (aD .lss v2 v4 h4) fun v5 h5 =>
 some (v5, h5)) (
  bDa r n x2 x3 x4 x27 h0)
noncomputable def aXm (r : RT) (n : Nat) (x2 x3 x4 x27 : DV) (h0 : Hp) : aJ :=
 bnd (aD .eql x27 (aE 7) h0) fun v1 h1 =>
 aQ v1 (
  tZ r n x2 x3 x4 x27 v1 h1) (
 bnd (aD .eql x27 (aE 10) h1) fun v2 h2 =>
  tZ r n x2 x3 x4 x27 v2 h2)
noncomputable def tJ (r : RT) (n : Nat) (x2 x3 x4 x8 x27 x34 : DV) (h0 : Hp) : aJ :=
 aQ x34 (
 bnd (gD x8 true (aB 2 x4 h0) h0) fun v1 h1 =>
 bnd (gD x8 true (aA v1 h1) h1) fun v2 h2 =>
 bnd (gD x8 true (aD .leq v2 (aE 4) h2) h2) fun v3 h3 =>
 bnd (aO x8 v3 (.b false) h3) fun v4 h4 =>
 some (v4, h4)) (
  aXm r n x2 x3 x4 x27 h0)
noncomputable def bKm (r : RT) (n : Nat) (x2 x3 x4 x8 x27 : DV) (h0 : Hp) : aJ :=
 bnd (aD .eql x27 (aE 14) h0) fun v1 h1 =>
 aQ v1 (
  tJ r n x2 x3 x4 x8 x27 v1 h1) (
 bnd (aD .eql x27 (aE 15) h1) fun v2 h2 =>
  tJ r n x2 x3 x4 x8 x27 v2 h2)
noncomputable def aTy (r : RT) (n : Nat) (x2 x3 x4 x8 x27 x31 : DV) (h0 : Hp) : aJ :=
 aQ x31 (
 some (x8, h0)) (
  bKm r n x2 x3 x4 x8 x27 h0)
noncomputable def bQo (r : RT) (n : Nat) (x2 x3 x4 x8 x27 : DV) (h0 : Hp) : aJ :=
 bnd (aD .eql x27 (aE 9) h0) fun v1 h1 =>
  aTy r n x2 x3 x4 x8 x27 v1 h1
noncomputable def aRm (r : RT) (n : Nat) (x2 x3 x4 x7 x8 x27 x28 : DV) (h0 : Hp) : aJ :=
 aQ x28 (
 some (x7, h0)) (
  bQo r n x2 x3 x4 x8 x27 h0)
noncomputable def aTw (r : RT) (n : Nat) (x2 x3 x4 x7 x8 x27 : DV) (h0 : Hp) : aJ :=
 bnd (aD .eql x27 (aE 6) h0) fun v1 h1 =>
  aRm r n x2 x3 x4 x7 x8 x27 v1 h1
noncomputable def aTn (r : RT) (n : Nat) (x2 x3 x4 x7 x8 : DV) (h0 : Hp) : aJ :=
 bnd (aB 0 x4 h0) fun v1 h1 =>
 bnd (aA v1 h1) fun v2 h2 =>
  aTw r n x2 x3 x4 x7 x8 v2 h2
noncomputable def aPa (r : RT) (n : Nat) (x2 x3 x4 x7 : DV) (h0 : Hp) : aJ :=
 bnd (gD x7 true (aB 4 x3 h0) h0) fun v1 h1 =>
 bnd (gD x7 true (aA v1 h1) h1) fun v2 h2 =>
 bnd (gD x7 true (aB 1 x4 h2) h2) fun v3 h3 =>
 bnd (gD x7 true (aA v3 h3) h3) fun v4 h4 =>
 bnd (gD x7 true (aH 4 v2 v4 h4) h4) fun v5 h5 =>
 bnd (gD x7 true (aB 0 v5 h5) h5) fun v6 h6 =>
 bnd (gD x7 true (aA v6 h6) h6) fun v7 h7 =>
 bnd (gD x7 true (aD .eql v7 (aE 3) h7) h7) fun v8 h8 =>
 bnd (aO x7 v8 (.b false) h8) fun v9 h9 =>
  aTn r n x2 x3 x4 x7 v9 h9
noncomputable def vY (r : RT) (n : Nat) (x2 x3 x4 : DV) (h0 : Hp) : aJ :=
 bnd (aB 1 x4 h0) fun v1 h1 =>
 bnd (aA v1 h1) fun v2 h2 =>
 bnd (aB 4 x3 h2) fun v3 h3 =>
 bnd (aA v3 h3) fun v4 h4 =>
 bnd (bX v4 h4) fun v5 h5 =>
 bnd (aD .lss v2 v5 h5) fun v6 h6 =>
  aPa r n x2 x3 x4 v6 h6
noncomputable def s172 (r : RT) (n : Nat) (x0 x1 x2 : DV) (h0 : Hp) : aJ :=
 bnd (bS x0 h0) fun v1 h1 =>
 bnd (bS x1 h1) fun v2 h2 =>
  vY r n x2 v1 v2 h2
noncomputable abbrev c172 : Code := cf Tryz.f172
noncomputable abbrev aGe : Code := cR c172
noncomputable abbrev aIw : Code := cR aGe
noncomputable abbrev aJu : Code := cR aIw
noncomputable abbrev cZb : Code := cR aJu
noncomputable abbrev yY : Code := cL aJu
noncomputable abbrev aRq : Code := cR yY
noncomputable abbrev aFz : Code := cL aRq
noncomputable abbrev yA : Code := cR aFz
noncomputable abbrev vO : Code := cR yA
noncomputable abbrev pV : Code := cR vO
noncomputable abbrev pL : Code := cR pV
noncomputable abbrev oW : Code := cR pL
noncomputable abbrev pT : Code := cR oW
noncomputable abbrev pE : Code := cR pT
noncomputable abbrev pD : Code := cR pE
noncomputable abbrev cOh : Code := cR pD
noncomputable abbrev aXt : Code := cL pD
noncomputable abbrev cSk : Code := cL pE
noncomputable abbrev aZe : Code := cL pT
noncomputable abbrev cFu : Code := cL oW
noncomputable abbrev aZb : Code := cL pL
noncomputable abbrev cQj : Code := cL pV
noncomputable abbrev bBo : Code := cL vO
noncomputable abbrev cRx : Code := cL yA
noncomputable abbrev bCp : Code := cL aFz
noncomputable abbrev aXr : Code := cL yY
noncomputable abbrev bDe : Code := cL aIw
noncomputable abbrev bAg : Code := cL aGe
noncomputable abbrev aHn : Code := cL c172
noncomputable abbrev r172 : K := aT CF Tryz.f172
noncomputable def D172 (r : RT) (n : Nat) (c : Code) (X : Nat → K) (k : K) : K := aM CF r 73 n c X r172 k
theorem cHa : D172 r n cZb x0 r172 = (K0 (bD r n)) :=
 (by kernel_rfl)
theorem bSb : D172 r n cOh (xs x0 0 (K0 (bD r n))) (K0 (bD r n)) = (K5 (tM r n) 2 3 4 27 51) :=
 (by kernel_rfl)
theorem bFo : D172 r n pD (xs x0 0 (K0 (bD r n))) (K0 (bD r n)) = D172 r n aXt (xs x0 0 (K0 (bD r n))) (K5 (tM r n) 2 3 4 27 51) :=
 congrArg (fun k => D172 r n aXt (xs x0 0 (K0 (bD r n))) k) (bSb r n)
theorem bUx : D172 r n pD (xs x0 0 (K0 (bD r n))) (K0 (bD r n)) = (K4 (bDa r n) 2 3 4 27) :=
 (bFo r n).trans
 ((by kernel_rfl))
theorem bVk : D172 r n pE (xs x0 0 (K0 (bD r n))) (K0 (bD r n)) = (K5 (tZ r n) 2 3 4 27 43) :=
 (by kernel_rfl : D172 r n pE (xs x0 0 (K0 (bD r n))) (K0 (bD r n)) = (fun (env : aY) (h : Hp) => aQ (opr env (cC pE)) (D172 r n cSk (xs x0 0 (K0 (bD r n))) (K0 (bD r n)) env h) (D172 r n pD (xs x0 0 (K0 (bD r n))) (K0 (bD r n)) env h))).trans (by rw [bUx r n]; kernel_rfl)
theorem bFp : D172 r n pT (xs x0 0 (K0 (bD r n))) (K0 (bD r n)) = D172 r n aZe (xs x0 0 (K0 (bD r n))) (K5 (tZ r n) 2 3 4 27 43) :=
 congrArg (fun k => D172 r n aZe (xs x0 0 (K0 (bD r n))) k) (bVk r n)
theorem bVn : D172 r n pT (xs x0 0 (K0 (bD r n))) (K0 (bD r n)) = (K4 (aXm r n) 2 3 4 27) :=
 (bFp r n).trans
 ((by kernel_rfl))
theorem bSq : D172 r n oW (xs x0 0 (K0 (bD r n))) (K0 (bD r n)) = (K6 (tJ r n) 2 3 4 8 27 34) :=
 (by kernel_rfl : D172 r n oW (xs x0 0 (K0 (bD r n))) (K0 (bD r n)) = (fun (env : aY) (h : Hp) => aQ (opr env (cC oW)) (D172 r n cFu (xs x0 0 (K0 (bD r n))) (K0 (bD r n)) env h) (D172 r n pT (xs x0 0 (K0 (bD r n))) (K0 (bD r n)) env h))).trans (by rw [bVn r n]; kernel_rfl)
theorem bVq : D172 r n pL (xs x0 0 (K0 (bD r n))) (K0 (bD r n)) = D172 r n aZb (xs x0 0 (K0 (bD r n))) (K6 (tJ r n) 2 3 4 8 27 34) :=
 congrArg (fun k => D172 r n aZb (xs x0 0 (K0 (bD r n))) k) (bSq r n)
theorem cLh : D172 r n pL (xs x0 0 (K0 (bD r n))) (K0 (bD r n)) = (K5 (bKm r n) 2 3 4 8 27) :=
 (bVq r n).trans
 ((by kernel_rfl))
theorem cIo : D172 r n pV (xs x0 0 (K0 (bD r n))) (K0 (bD r n)) = (K6 (aTy r n) 2 3 4 8 27 31) :=
 (by kernel_rfl : D172 r n pV (xs x0 0 (K0 (bD r n))) (K0 (bD r n)) = (fun (env : aY) (h : Hp) => aQ (opr env (cC pV)) (D172 r n cQj (xs x0 0 (K0 (bD r n))) (K0 (bD r n)) env h) (D172 r n pL (xs x0 0 (K0 (bD r n))) (K0 (bD r n)) env h))).trans (by rw [cLh r n]; kernel_rfl)
theorem bUh : D172 r n vO (xs x0 0 (K0 (bD r n))) (K0 (bD r n)) = D172 r n bBo (xs x0 0 (K0 (bD r n))) (K6 (aTy r n) 2 3 4 8 27 31) :=
 congrArg (fun k => D172 r n bBo (xs x0 0 (K0 (bD r n))) k) (cIo r n)
theorem cKn : D172 r n vO (xs x0 0 (K0 (bD r n))) (K0 (bD r n)) = (K5 (bQo r n) 2 3 4 8 27) :=
 (bUh r n).trans
 ((by kernel_rfl))
theorem cDf : D172 r n yA (xs x0 0 (K0 (bD r n))) (K0 (bD r n)) = (K7 (aRm r n) 2 3 4 7 8 27 28) :=
 (by kernel_rfl : D172 r n yA (xs x0 0 (K0 (bD r n))) (K0 (bD r n)) = (fun (env : aY) (h : Hp) => aQ (opr env (cC yA)) (D172 r n cRx (xs x0 0 (K0 (bD r n))) (K0 (bD r n)) env h) (D172 r n vO (xs x0 0 (K0 (bD r n))) (K0 (bD r n)) env h))).trans (by rw [cKn r n]; kernel_rfl)
theorem bTl : D172 r n aFz (xs x0 0 (K0 (bD r n))) (K0 (bD r n)) = D172 r n bCp (xs x0 0 (K0 (bD r n))) (K7 (aRm r n) 2 3 4 7 8 27 28) :=
 congrArg (fun k => D172 r n bCp (xs x0 0 (K0 (bD r n))) k) (cDf r n)
theorem cEi : D172 r n aRq x0 (K0 (bD r n)) = (K6 (aTw r n) 2 3 4 7 8 27) :=
 (by kernel_rfl : D172 r n aRq x0 (K0 (bD r n)) = D172 r n aFz (xs x0 0 (K0 (bD r n))) (K0 (bD r n))).trans
 ((bTl r n).trans
 ((by kernel_rfl)))
theorem bMr : D172 r n aJu x0 r172 = D172 r n yY x0 (K0 (bD r n)) :=
 congrArg (fun k => D172 r n yY x0 k) (cHa r n)
theorem bVa : D172 r n yY x0 (K0 (bD r n)) = D172 r n aXr x0 (K6 (aTw r n) 2 3 4 7 8 27) :=
 congrArg (fun k => D172 r n aXr x0 k) (cEi r n)
theorem cDh : D172 r n aJu x0 r172 = (K5 (aTn r n) 2 3 4 7 8) :=
 (bMr r n).trans
 ((bVa r n).trans
 ((by kernel_rfl)))
theorem bKj : D172 r n aIw x0 r172 = D172 r n bDe x0 (K5 (aTn r n) 2 3 4 7 8) :=
 congrArg (fun k => D172 r n bDe x0 k) (cDh r n)
theorem cNe : D172 r n aIw x0 r172 = (K4 (aPa r n) 2 3 4 7) :=
 (bKj r n).trans
 ((by kernel_rfl))
theorem bWw : D172 r n aGe x0 r172 = D172 r n bAg x0 (K4 (aPa r n) 2 3 4 7) :=
 congrArg (fun k => D172 r n bAg x0 k) (cNe r n)
theorem cGi : D172 r n aGe x0 r172 = (K3 (vY r n) 2 3 4) :=
 (bWw r n).trans
 ((by kernel_rfl))
theorem cPr : D172 r n c172 x0 r172 = D172 r n aHn x0 (K3 (vY r n) 2 3 4) :=
 congrArg (fun k => D172 r n aHn x0 k) (cGi r n)
theorem cFq (q0 : mP) : D172 r n aHn x0 (K3 q0 2 3 4) = fun (env : aY) (h : Hp) =>
 bnd (bS (env 0) h) fun v1 h1 =>
 bnd (bS (env 1) h1) fun v2 h2 =>
  q0 (env 2) v1 v2 h2 := by kernel_rfl
theorem cAa : (fun (env : aY) (h : Hp) =>
 bnd (bS (env 0) h) fun v1 h1 =>
 bnd (bS (env 1) h1) fun v2 h2 =>
  vY r n (env 2) v1 v2 h2) = (K3 (s172 r n) 0 1 2) := by kernel_rfl
theorem dJo : D172 r n c172 x0 r172 = (K3 (s172 r n) 0 1 2) :=
 (cPr r n).trans
 ((cFq r n (vY r n)).trans (cAa r n))
theorem cWj : aF CF r n 172 args h = s172 r n (aS args 0) (aS args 1) (aS args 2) h :=
 (by kernel_rfl : aF CF r n 172 args h = D172 r n c172 x0 r172 (aI args) h).trans ((congrFun (congrFun (dJo r n) (aI args)) h).trans (by kernel_rfl))
noncomputable def eL (r : RT) (n : Nat) (x3 : DV) (h0 : Hp) : aJ :=
 some (x3, h0)
noncomputable def bBp (r : RT) (n : Nat) (kk6 : dQ) (x3 x4 x11 x12 : DV) (h0 : Hp) : aJ :=
 bnd (aD .lss x12 x11 h0) fun v1 h1 =>
 aQ v1 (
 bnd (cU CF r x4 [x12] h1) fun v2 h2 =>
 bnd (aH 1 x3 x12 h2) fun v3 h3 =>
 bnd (aG 1 v3 v2 h3) fun _ h4 =>
 bnd (aD .add x12 (aE 1) h4) fun v5 h5 =>
      kk6 x3 x4 x11 v5 h5) (
      eL r n x3 h1)
noncomputable def sN (r : RT) (n : Nat) (m : Nat) : dQ :=
 Nat.rec (motive := fun _ => dQ) (fun _ _ _ _ _ => none) (fun _ ih => bBp r n ih) m
noncomputable def bYx (r : RT) (n : Nat) : dQ := sN r n n
noncomputable def aRj (r : RT) (n : Nat) (x3 x4 x11 x12 : DV) (h0 : Hp) : aJ :=
 bYx r n x3 x4 x11 x12 h0
noncomputable def aOg (r : RT) (n : Nat) (x1 x3 x4 : DV) (h0 : Hp) : aJ :=
 bnd (aA x1 h0) fun v1 h1 =>
 bnd (bX v1 h1) fun v2 h2 =>
  aRj r n x3 x4 v2 (aE 0) h2
noncomputable def zD (r : RT) (n : Nat) (x1 x3 : DV) (h0 : Hp) : aJ :=
 aOg r n x1 x3 (.f 200 [] [x1]) h0
noncomputable def qE (r : RT) (n : Nat) (x1 : DV) (h0 : Hp) : aJ :=
 bnd (aA x1 h0) fun v1 h1 =>
 bnd (bX v1 h1) fun v2 h2 =>
 bnd (cI 1 8 [(aE 0)] v2 v2 h2) fun v3 h3 =>
  zD r n x1 v3 h3
noncomputable def s173 (r : RT) (n : Nat) (x0 : DV) (h0 : Hp) : aJ :=
 bnd (bS x0 h0) fun v1 h1 =>
  qE r n v1 h1
noncomputable abbrev c173 : Code := cf Tryz.f173
noncomputable abbrev aFr : Code := cR c173
noncomputable abbrev aDb : Code := cR aFr
noncomputable abbrev aEe : Code := cR aDb
noncomputable abbrev dCb : Code := cR aEe
noncomputable abbrev wR : Code := cL aEe
noncomputable abbrev aSo : Code := cR wR
noncomputable abbrev aGp : Code := cL aSo
noncomputable abbrev nJ : Code := cL aGp
noncomputable abbrev bSr : Code := cL wR
noncomputable abbrev bBe : Code := cL aDb
noncomputable abbrev aBj : Code := cL aFr
noncomputable abbrev aHr : Code := cL c173
noncomputable abbrev r173 : K := aT CF Tryz.f173
noncomputable def D173 (r : RT) (n : Nat) (c : Code) (X : Nat → K) (k : K) : K := aM CF r 23 n c X r173 k
theorem cQt : D173 r n dCb x0 r173 = (K1 (eL r n) 3) :=
 (by kernel_rfl)
theorem cBw (kk6 : dQ) : D173 r n nJ (xs x0 0 (K1 (eL r n) 3)) (K4 kk6 3 4 11 12) = (K4 (bBp r n kk6) 3 4 11 12) :=
 (by kernel_rfl)
theorem bNp (m : Nat) : aN (fun kk => D173 r n nJ (xs x0 0 (K1 (eL r n) 3)) kk) m = (K4 (sN r n m) 3 4 11 12) := by
 induction m with
 | zero => exact (by kernel_rfl : aN (fun kk => D173 r n nJ (xs x0 0 (K1 (eL r n) 3)) kk) 0 = (K4 (sN r n 0) 3 4 11 12))
 | succ m ih =>
  refine (by kernel_rfl : aN (fun kk => D173 r n nJ (xs x0 0 (K1 (eL r n) 3)) kk) (m + 1) = D173 r n nJ (xs x0 0 (K1 (eL r n) 3)) (aN (fun kk => D173 r n nJ (xs x0 0 (K1 (eL r n) 3)) kk) m)).trans ?_
  rw [ih]
  exact (cBw r n (sN r n m)).trans (by kernel_rfl)
theorem cEj : D173 r n aGp (xs x0 0 (K1 (eL r n) 3)) (K1 (eL r n) 3) = (K4 (bYx r n) 3 4 11 12) :=
 (by kernel_rfl : D173 r n aGp (xs x0 0 (K1 (eL r n) 3)) (K1 (eL r n) 3) = aN (fun kk => D173 r n nJ (xs x0 0 (K1 (eL r n) 3)) kk) n).trans ((bNp r n n).trans (by kernel_rfl))
theorem cGt : D173 r n aSo x0 (K1 (eL r n) 3) = (K4 (aRj r n) 3 4 11 12) :=
 (by kernel_rfl : D173 r n aSo x0 (K1 (eL r n) 3) = D173 r n aGp (xs x0 0 (K1 (eL r n) 3)) (K1 (eL r n) 3)).trans
 ((cEj r n).trans (by kernel_rfl))
theorem bZn : D173 r n aEe x0 r173 = D173 r n wR x0 (K1 (eL r n) 3) :=
 congrArg (fun k => D173 r n wR x0 k) (cQt r n)
theorem bQu : D173 r n wR x0 (K1 (eL r n) 3) = D173 r n bSr x0 (K4 (aRj r n) 3 4 11 12) :=
 congrArg (fun k => D173 r n bSr x0 k) (cGt r n)
theorem cFn : D173 r n aEe x0 r173 = (K3 (aOg r n) 1 3 4) :=
 (bZn r n).trans
 ((bQu r n).trans
 ((by kernel_rfl)))
theorem bRs : D173 r n aDb x0 r173 = D173 r n bBe x0 (K3 (aOg r n) 1 3 4) :=
 congrArg (fun k => D173 r n bBe x0 k) (cFn r n)
theorem cJr : D173 r n aDb x0 r173 = (K2 (zD r n) 1 3) :=
 (bRs r n).trans
 ((by kernel_rfl))
theorem bJz : D173 r n aFr x0 r173 = D173 r n aBj x0 (K2 (zD r n) 1 3) :=
 congrArg (fun k => D173 r n aBj x0 k) (cJr r n)
theorem bOi (q0 : gJ) : D173 r n aBj x0 (K2 q0 1 3) = fun (env : aY) (h : Hp) =>
 bnd (aA (env 1) h) fun v1 h1 =>
 bnd (bX v1 h1) fun v2 h2 =>
 bnd (cI 1 8 [(aE 0)] v2 v2 h2) fun v3 h3 =>
  q0 (env 1) v3 h3 := by kernel_rfl
theorem bEy : (fun (env : aY) (h : Hp) =>
 bnd (aA (env 1) h) fun v1 h1 =>
 bnd (bX v1 h1) fun v2 h2 =>
 bnd (cI 1 8 [(aE 0)] v2 v2 h2) fun v3 h3 =>
  zD r n (env 1) v3 h3) = (K1 (qE r n) 1) := by kernel_rfl
theorem cPe : D173 r n aFr x0 r173 = (K1 (qE r n) 1) :=
 (bJz r n).trans
 ((bOi r n (zD r n)).trans (bEy r n))
theorem cZg : D173 r n c173 x0 r173 = D173 r n aHr x0 (K1 (qE r n) 1) :=
 congrArg (fun k => D173 r n aHr x0 k) (cPe r n)
theorem cXw (q0 : TT1) : D173 r n aHr x0 (K1 q0 1) = fun (env : aY) (h : Hp) =>
 bnd (bS (env 0) h) fun v1 h1 =>
  q0 v1 h1 := by kernel_rfl
theorem cFo : (fun (env : aY) (h : Hp) =>
 bnd (bS (env 0) h) fun v1 h1 =>
  qE r n v1 h1) = (K1 (s173 r n) 0) := by kernel_rfl
theorem dLj : D173 r n c173 x0 r173 = (K1 (s173 r n) 0) :=
 (cZg r n).trans
 ((cXw r n (qE r n)).trans (cFo r n))
theorem dDo : aF CF r n 173 args h = s173 r n (aS args 0) h :=
 (by kernel_rfl : aF CF r n 173 args h = D173 r n c173 x0 r173 (aI args) h).trans ((congrFun (congrFun (dLj r n) (aI args)) h).trans (by kernel_rfl))
noncomputable def bH (r : RT) (n : Nat) (h0 : Hp) : aJ :=
 some ((.b true), h0)
noncomputable def cH (r : RT) (n : Nat) (kk4 : cE) (x0 x1 x11 x12 x13 : DV) (h0 : Hp) : aJ :=
 bnd (aD .add x13 (aE 1) h0) fun v1 h1 =>
  kk4 x0 x1 x11 x12 v1 h1
noncomputable def fU (r : RT) (n : Nat) (kk4 : cE) (x0 x1 x5 x6 x11 x12 x13 : DV) (h0 : Hp) : aJ :=
 bnd (aK 3 x6 h0) fun v1 h1 =>
 bnd (r 202 [v1] h1) fun v2 h2 =>
 bnd (aD .geq v2 (aE 0) h2) fun v3 h3 =>
 bnd (gD v3 true (some (v2, h3)) h3) fun v4 h4 =>
 bnd (gD v3 true (some (x0, h4)) h4) fun v5 h5 =>
 bnd (gD v3 true (bX v5 h5) h5) fun v6 h6 =>
 bnd (gD v3 true (aD .geq v4 v6 h6) h6) fun v7 h7 =>
 bnd (gD v3 true (some (v7, h7)) h7) fun v8 h8 =>
 bnd (gD v8 false (some (x1, h8)) h8) fun v9 h9 =>
 bnd (gD v8 false (some (v2, h9)) h9) fun v10 h10 =>
 bnd (gD v8 false (aH 1 v9 v10 h10) h10) fun v11 h11 =>
 bnd (gD v8 false (aA v11 h11) h11) fun v12 h12 =>
 bnd (gD v8 false (some (x1, h12)) h12) fun v13 h13 =>
 bnd (gD v8 false (some (x5, h13)) h13) fun v14 h14 =>
 bnd (gD v8 false (aH 1 v13 v14 h14) h14) fun v15 h15 =>
 bnd (gD v8 false (aA v15 h15) h15) fun v16 h16 =>
 bnd (gD v8 false (aD .neq v12 v16 h16) h16) fun v17 h17 =>
 bnd (gD v3 true (aO v8 (.b true) v17 h17) h17) fun v18 h18 =>
 bnd (aO v3 v18 (.b false) h18) fun v19 h19 =>
 aQ v19 (
 some ((.b false), h19)) (
  cH r n kk4 x0 x1 x11 x12 x13 h19)
noncomputable def uC (r : RT) (n : Nat) (kk4 : cE) (x0 x1 x5 x6 x7 x8 x9 x11 x12 x13 : DV) (h0 : Hp) : aJ :=
 bnd (gI .not x8 h0) fun v1 h1 =>
 bnd (gD v1 false (some (x7, h1)) h1) fun v2 h2 =>
 bnd (gD v1 false (some (x9, h2)) h2) fun v3 h3 =>
 bnd (gD v1 false (aD .gtr v2 v3 h3) h3) fun v4 h4 =>
 bnd (aO v1 (.b true) v4 h4) fun v5 h5 =>
 aQ v5 (
 some ((.b false), h5)) (
  fU r n kk4 x0 x1 x5 x6 x11 x12 x13 h5)
noncomputable def aHw (r : RT) (n : Nat) (kk4 : cE) (x0 x1 x5 x6 x7 x8 x9 x11 x12 x13 : DV) (h0 : Hp) : aJ :=
 bnd (aH 1 x1 x5 h0) fun v1 h1 =>
 bnd (aA v1 h1) fun v2 h2 =>
 bnd (aD .geq v2 (aE 0) h2) fun v3 h3 =>
 aQ v3 (
 bnd (aH 1 x1 x5 h3) fun v4 h4 =>
 bnd (aA v4 h4) fun v5 h5 =>
 bnd (r 201 [x0, v5] h5) fun v6 h6 =>
 bnd (aC 0 v6 h6) fun v7 h7 =>
 bnd (aC 1 v6 h7) fun v8 h8 =>
  uC r n kk4 x0 x1 x5 x6 x7 x8 v7 x11 x12 x13 h8) (
  uC r n kk4 x0 x1 x5 x6 x7 x8 x9 x11 x12 x13 h3)
noncomputable def aDp (r : RT) (n : Nat) (kk4 : cE) (x0 x1 x5 x6 x7 x8 x11 x12 x13 : DV) (h0 : Hp) : aJ :=
 bnd (bX x0 h0) fun v1 h1 =>
  aHw r n kk4 x0 x1 x5 x6 x7 x8 v1 x11 x12 x13 h1
noncomputable def bCy (r : RT) (n : Nat) (kk4 : cE) (x0 x1 x5 x6 x11 x12 x13 : DV) (h0 : Hp) : aJ :=
 bnd (r 201 [x0, x5] h0) fun v1 h1 =>
 bnd (aC 0 v1 h1) fun v2 h2 =>
 bnd (aC 1 v1 h2) fun v3 h3 =>
  aDp r n kk4 x0 x1 x5 x6 v2 v3 x11 x12 x13 h3
noncomputable def aGo (r : RT) (n : Nat) (kk4 : cE) (x0 x1 x5 x6 x11 x12 x13 x20 : DV) (h0 : Hp) : aJ :=
 aQ x20 (
  bCy r n kk4 x0 x1 x5 x6 x11 x12 x13 h0) (
  fU r n kk4 x0 x1 x5 x6 x11 x12 x13 h0)
noncomputable def xQ (r : RT) (n : Nat) (kk4 : cE) (x0 x1 x5 x6 x11 x12 x13 : DV) (h0 : Hp) : aJ :=
 bnd (aB 0 x6 h0) fun v1 h1 =>
 bnd (aA v1 h1) fun v2 h2 =>
 bnd (aD .eql v2 (aE 18) h2) fun v3 h3 =>
  aGo r n kk4 x0 x1 x5 x6 x11 x12 x13 v3 h3
noncomputable def aJf (r : RT) (n : Nat) (kk4 : cE) (x0 x1 x11 x12 x13 : DV) (h0 : Hp) : aJ :=
 bnd (aH 3 x11 x13 h0) fun v1 h1 =>
 bnd (aK 3 v1 h1) fun v2 h2 =>
 bnd (bL [(aE 0), (aE 0), (aE 0)] h2) fun v3 h3 =>
 bnd (aG 3 v3 v2 h3) fun _ h4 =>
  xQ r n kk4 x0 x1 x13 v3 x11 x12 x13 h4
noncomputable def aSi (r : RT) (n : Nat) (kk4 : cE) (x0 x1 x11 x12 x13 x14 : DV) (h0 : Hp) : aJ :=
 aQ x14 (
  aJf r n kk4 x0 x1 x11 x12 x13 h0) (
  bH r n h0)
noncomputable def aZw (r : RT) (n : Nat) (kk4 : cE) (x0 x1 x11 x12 x13 : DV) (h0 : Hp) : aJ :=
 bnd (aD .lss x13 x12 h0) fun v1 h1 =>
  aSi r n kk4 x0 x1 x11 x12 x13 v1 h1
noncomputable def tK (r : RT) (n : Nat) (m : Nat) : cE :=
 Nat.rec (motive := fun _ => cE) (fun _ _ _ _ _ _ => none) (fun _ ih => aZw r n ih) m
noncomputable def bMs (r : RT) (n : Nat) : cE := tK r n n
noncomputable def aUo (r : RT) (n : Nat) (x0 x1 x11 x12 x13 : DV) (h0 : Hp) : aJ :=
 bMs r n x0 x1 x11 x12 x13 h0
noncomputable def aSj (r : RT) (n : Nat) (x0 x1 : DV) (h0 : Hp) : aJ :=
 bnd (bX x0 h0) fun v1 h1 =>
  aUo r n x0 x1 x0 v1 (aE 0) h1
noncomputable def s174 (r : RT) (n : Nat) (x0 x1 : DV) (h0 : Hp) : aJ :=
 aSj r n x0 x1 h0
noncomputable abbrev c174 : Code := cf Tryz.f174
noncomputable abbrev aJx : Code := cR c174
noncomputable abbrev cXr : Code := cR aJx
noncomputable abbrev xM : Code := cL aJx
noncomputable abbrev aUg : Code := cR xM
noncomputable abbrev aKr : Code := cL aUg
noncomputable abbrev kC : Code := cL aKr
noncomputable abbrev aEd : Code := cR kC
noncomputable abbrev aBr : Code := cR aEd
noncomputable abbrev cWt : Code := cR aBr
noncomputable abbrev tI : Code := cL aBr
noncomputable abbrev uU : Code := cL tI
noncomputable abbrev sW : Code := cR uU
noncomputable abbrev cRi : Code := cR sW
noncomputable abbrev oQ : Code := cL sW
noncomputable abbrev oX : Code := cR oQ
noncomputable abbrev pR : Code := cL oX
noncomputable abbrev uS : Code := cR pR
noncomputable abbrev tV : Code := cR uS
noncomputable abbrev cRn : Code := cR tV
noncomputable abbrev bDb : Code := cL tV
noncomputable abbrev aZd : Code := cL uS
noncomputable abbrev aWj : Code := cL pR
noncomputable abbrev cGb : Code := cR oX
noncomputable abbrev bAr : Code := cL oQ
noncomputable abbrev aGf : Code := cL uU
noncomputable abbrev bCt : Code := cL aEd
noncomputable abbrev aYu : Code := cL kC
noncomputable abbrev bCd : Code := cL xM
noncomputable abbrev aWv : Code := cL c174
noncomputable abbrev r174 : K := aT CF Tryz.f174
noncomputable def D174 (r : RT) (n : Nat) (c : Code) (X : Nat → K) (k : K) : K := aM CF r 72 n c X r174 k
theorem cOi : D174 r n cXr x0 r174 = (K0 (bH r n)) :=
 (by kernel_rfl)
theorem cEy (kk4 : cE) : D174 r n cWt (xs x0 0 (K0 (bH r n))) (K5 kk4 0 1 11 12 13) = (K5 (cH r n kk4) 0 1 11 12 13) :=
 (by kernel_rfl)
theorem cKd (kk4 : cE) : D174 r n cRi (xs (xs x0 0 (K0 (bH r n))) 1 (K5 (cH r n kk4) 0 1 11 12 13)) (K5 (cH r n kk4) 0 1 11 12 13) = (K7 (fU r n kk4) 0 1 5 6 11 12 13) :=
 (by kernel_rfl)
theorem bQp (kk4 : cE) : D174 r n cRn (xs (xs x0 0 (K0 (bH r n))) 1 (K5 (cH r n kk4) 0 1 11 12 13)) (K7 (fU r n kk4) 0 1 5 6 11 12 13) = (K10 (uC r n kk4) 0 1 5 6 7 8 9 11 12 13) :=
 (by kernel_rfl)
theorem bGr (kk4 : cE) : D174 r n tV (xs (xs x0 0 (K0 (bH r n))) 1 (K5 (cH r n kk4) 0 1 11 12 13)) (K7 (fU r n kk4) 0 1 5 6 11 12 13) = D174 r n bDb (xs (xs x0 0 (K0 (bH r n))) 1 (K5 (cH r n kk4) 0 1 11 12 13)) (K10 (uC r n kk4) 0 1 5 6 7 8 9 11 12 13) :=
 congrArg (fun k => D174 r n bDb (xs (xs x0 0 (K0 (bH r n))) 1 (K5 (cH r n kk4) 0 1 11 12 13)) k) (bQp r n kk4)
theorem bJj (kk4 : cE) : D174 r n tV (xs (xs x0 0 (K0 (bH r n))) 1 (K5 (cH r n kk4) 0 1 11 12 13)) (K7 (fU r n kk4) 0 1 5 6 11 12 13) = (K10 (aHw r n kk4) 0 1 5 6 7 8 9 11 12 13) :=
 (bGr r n kk4).trans
 ((by kernel_rfl))
theorem bGw (kk4 : cE) : D174 r n uS (xs (xs x0 0 (K0 (bH r n))) 1 (K5 (cH r n kk4) 0 1 11 12 13)) (K7 (fU r n kk4) 0 1 5 6 11 12 13) = D174 r n aZd (xs (xs x0 0 (K0 (bH r n))) 1 (K5 (cH r n kk4) 0 1 11 12 13)) (K10 (aHw r n kk4) 0 1 5 6 7 8 9 11 12 13) :=
 congrArg (fun k => D174 r n aZd (xs (xs x0 0 (K0 (bH r n))) 1 (K5 (cH r n kk4) 0 1 11 12 13)) k) (bJj r n kk4)
theorem bMj (kk4 : cE) : D174 r n uS (xs (xs x0 0 (K0 (bH r n))) 1 (K5 (cH r n kk4) 0 1 11 12 13)) (K7 (fU r n kk4) 0 1 5 6 11 12 13) = (K9 (aDp r n kk4) 0 1 5 6 7 8 11 12 13) :=
 (bGw r n kk4).trans
 ((by kernel_rfl))
theorem bFa (kk4 : cE) : D174 r n pR (xs (xs x0 0 (K0 (bH r n))) 1 (K5 (cH r n kk4) 0 1 11 12 13)) (K7 (fU r n kk4) 0 1 5 6 11 12 13) = D174 r n aWj (xs (xs x0 0 (K0 (bH r n))) 1 (K5 (cH r n kk4) 0 1 11 12 13)) (K9 (aDp r n kk4) 0 1 5 6 7 8 11 12 13) :=
 congrArg (fun k => D174 r n aWj (xs (xs x0 0 (K0 (bH r n))) 1 (K5 (cH r n kk4) 0 1 11 12 13)) k) (bMj r n kk4)
theorem bYy (kk4 : cE) : D174 r n pR (xs (xs x0 0 (K0 (bH r n))) 1 (K5 (cH r n kk4) 0 1 11 12 13)) (K7 (fU r n kk4) 0 1 5 6 11 12 13) = (K7 (bCy r n kk4) 0 1 5 6 11 12 13) :=
 (bFa r n kk4).trans
 ((by kernel_rfl))
theorem bOk (kk4 : cE) : D174 r n oX (xs (xs x0 0 (K0 (bH r n))) 1 (K5 (cH r n kk4) 0 1 11 12 13)) (K7 (fU r n kk4) 0 1 5 6 11 12 13) = (K8 (aGo r n kk4) 0 1 5 6 11 12 13 20) :=
 (by kernel_rfl : D174 r n oX (xs (xs x0 0 (K0 (bH r n))) 1 (K5 (cH r n kk4) 0 1 11 12 13)) (K7 (fU r n kk4) 0 1 5 6 11 12 13) = (fun (env : aY) (h : Hp) => aQ (opr env (cC oX)) (D174 r n pR (xs (xs x0 0 (K0 (bH r n))) 1 (K5 (cH r n kk4) 0 1 11 12 13)) (K7 (fU r n kk4) 0 1 5 6 11 12 13) env h) (D174 r n cGb (xs (xs x0 0 (K0 (bH r n))) 1 (K5 (cH r n kk4) 0 1 11 12 13)) (K7 (fU r n kk4) 0 1 5 6 11 12 13) env h))).trans (by rw [bYy r n kk4]; kernel_rfl)
theorem bRm (kk4 : cE) : D174 r n sW (xs (xs x0 0 (K0 (bH r n))) 1 (K5 (cH r n kk4) 0 1 11 12 13)) (K5 (cH r n kk4) 0 1 11 12 13) = D174 r n oQ (xs (xs x0 0 (K0 (bH r n))) 1 (K5 (cH r n kk4) 0 1 11 12 13)) (K7 (fU r n kk4) 0 1 5 6 11 12 13) :=
 congrArg (fun k => D174 r n oQ (xs (xs x0 0 (K0 (bH r n))) 1 (K5 (cH r n kk4) 0 1 11 12 13)) k) (cKd r n kk4)
theorem bXr (kk4 : cE) : D174 r n oQ (xs (xs x0 0 (K0 (bH r n))) 1 (K5 (cH r n kk4) 0 1 11 12 13)) (K7 (fU r n kk4) 0 1 5 6 11 12 13) = D174 r n bAr (xs (xs x0 0 (K0 (bH r n))) 1 (K5 (cH r n kk4) 0 1 11 12 13)) (K8 (aGo r n kk4) 0 1 5 6 11 12 13 20) :=
 congrArg (fun k => D174 r n bAr (xs (xs x0 0 (K0 (bH r n))) 1 (K5 (cH r n kk4) 0 1 11 12 13)) k) (bOk r n kk4)
theorem cKy (kk4 : cE) : D174 r n sW (xs (xs x0 0 (K0 (bH r n))) 1 (K5 (cH r n kk4) 0 1 11 12 13)) (K5 (cH r n kk4) 0 1 11 12 13) = (K7 (xQ r n kk4) 0 1 5 6 11 12 13) :=
 (bRm r n kk4).trans
 ((bXr r n kk4).trans
 ((by kernel_rfl)))
theorem cAp (kk4 : cE) : D174 r n aBr (xs x0 0 (K0 (bH r n))) (K5 kk4 0 1 11 12 13) = D174 r n tI (xs x0 0 (K0 (bH r n))) (K5 (cH r n kk4) 0 1 11 12 13) :=
 congrArg (fun k => D174 r n tI (xs x0 0 (K0 (bH r n))) k) (cEy r n kk4)
theorem cCk (kk4 : cE) : D174 r n uU (xs (xs x0 0 (K0 (bH r n))) 1 (K5 (cH r n kk4) 0 1 11 12 13)) (K5 (cH r n kk4) 0 1 11 12 13) = D174 r n aGf (xs (xs x0 0 (K0 (bH r n))) 1 (K5 (cH r n kk4) 0 1 11 12 13)) (K7 (xQ r n kk4) 0 1 5 6 11 12 13) :=
 congrArg (fun k => D174 r n aGf (xs (xs x0 0 (K0 (bH r n))) 1 (K5 (cH r n kk4) 0 1 11 12 13)) k) (cKy r n kk4)
theorem bId (kk4 : cE) (q0 : TT7) (q1 : Hp → aJ) (q2 : cE) : D174 r n aGf (xs (xs x0 0 (K0 q1)) 1 (K5 q2 0 1 11 12 13)) (K7 q0 0 1 5 6 11 12 13) = fun (env : aY) (h : Hp) =>
 bnd (aH 3 (env 11) (env 13) h) fun v1 h1 =>
 bnd (aK 3 v1 h1) fun v2 h2 =>
 bnd (bL [(aE 0), (aE 0), (aE 0)] h2) fun v3 h3 =>
 bnd (aG 3 v3 v2 h3) fun _ h4 =>
  q0 (env 0) (env 1) (env 13) v3 (env 11) (env 12) (env 13) h4 := by kernel_rfl
theorem bFe (kk4 : cE) : (fun (env : aY) (h : Hp) =>
 bnd (aH 3 (env 11) (env 13) h) fun v1 h1 =>
 bnd (aK 3 v1 h1) fun v2 h2 =>
 bnd (bL [(aE 0), (aE 0), (aE 0)] h2) fun v3 h3 =>
 bnd (aG 3 v3 v2 h3) fun _ h4 =>
  xQ r n kk4 (env 0) (env 1) (env 13) v3 (env 11) (env 12) (env 13) h4) = (K5 (aJf r n kk4) 0 1 11 12 13) := by kernel_rfl
theorem cPg (kk4 : cE) : D174 r n aBr (xs x0 0 (K0 (bH r n))) (K5 kk4 0 1 11 12 13) = (K5 (aJf r n kk4) 0 1 11 12 13) :=
 (cAp r n kk4).trans
 ((by kernel_rfl : D174 r n tI (xs x0 0 (K0 (bH r n))) (K5 (cH r n kk4) 0 1 11 12 13) = D174 r n uU (xs (xs x0 0 (K0 (bH r n))) 1 (K5 (cH r n kk4) 0 1 11 12 13)) (K5 (cH r n kk4) 0 1 11 12 13)).trans
 ((cCk r n kk4).trans
 ((bId r n kk4 (xQ r n kk4) (bH r n) (cH r n kk4)).trans (bFe r n kk4))))
theorem bIg (kk4 : cE) : D174 r n aEd (xs x0 0 (K0 (bH r n))) (K5 kk4 0 1 11 12 13) = D174 r n bCt (xs x0 0 (K0 (bH r n))) (K5 (aJf r n kk4) 0 1 11 12 13) :=
 congrArg (fun k => D174 r n bCt (xs x0 0 (K0 (bH r n))) k) (cPg r n kk4)
theorem cGq (kk4 : cE) : D174 r n aEd (xs x0 0 (K0 (bH r n))) (K5 kk4 0 1 11 12 13) = (K6 (aSi r n kk4) 0 1 11 12 13 14) :=
 (bIg r n kk4).trans
 ((by kernel_rfl))
theorem bGg (kk4 : cE) : D174 r n kC (xs x0 0 (K0 (bH r n))) (K5 kk4 0 1 11 12 13) = D174 r n aYu (xs x0 0 (K0 (bH r n))) (K6 (aSi r n kk4) 0 1 11 12 13 14) :=
 congrArg (fun k => D174 r n aYu (xs x0 0 (K0 (bH r n))) k) (cGq r n kk4)
theorem bRu (kk4 : cE) : D174 r n kC (xs x0 0 (K0 (bH r n))) (K5 kk4 0 1 11 12 13) = (K5 (aZw r n kk4) 0 1 11 12 13) :=
 (bGg r n kk4).trans
 ((by kernel_rfl))
theorem bPa (m : Nat) : aN (fun kk => D174 r n kC (xs x0 0 (K0 (bH r n))) kk) m = (K5 (tK r n m) 0 1 11 12 13) := by
 induction m with
 | zero => exact (by kernel_rfl : aN (fun kk => D174 r n kC (xs x0 0 (K0 (bH r n))) kk) 0 = (K5 (tK r n 0) 0 1 11 12 13))
 | succ m ih =>
  refine (by kernel_rfl : aN (fun kk => D174 r n kC (xs x0 0 (K0 (bH r n))) kk) (m + 1) = D174 r n kC (xs x0 0 (K0 (bH r n))) (aN (fun kk => D174 r n kC (xs x0 0 (K0 (bH r n))) kk) m)).trans ?_
  rw [ih]
  exact (bRu r n (tK r n m)).trans (by kernel_rfl)
theorem cDv : D174 r n aKr (xs x0 0 (K0 (bH r n))) (K0 (bH r n)) = (K5 (bMs r n) 0 1 11 12 13) :=
 (by kernel_rfl : D174 r n aKr (xs x0 0 (K0 (bH r n))) (K0 (bH r n)) = aN (fun kk => D174 r n kC (xs x0 0 (K0 (bH r n))) kk) n).trans ((bPa r n n).trans (by kernel_rfl))
theorem cFv : D174 r n aUg x0 (K0 (bH r n)) = (K5 (aUo r n) 0 1 11 12 13) :=
 (by kernel_rfl : D174 r n aUg x0 (K0 (bH r n)) = D174 r n aKr (xs x0 0 (K0 (bH r n))) (K0 (bH r n))).trans
 ((cDv r n).trans (by kernel_rfl))
theorem bEc : D174 r n aJx x0 r174 = D174 r n xM x0 (K0 (bH r n)) :=
 congrArg (fun k => D174 r n xM x0 k) (cOi r n)
theorem bHr : D174 r n xM x0 (K0 (bH r n)) = D174 r n bCd x0 (K5 (aUo r n) 0 1 11 12 13) :=
 congrArg (fun k => D174 r n bCd x0 k) (cFv r n)
theorem cEv : D174 r n aJx x0 r174 = (K2 (aSj r n) 0 1) :=
 (bEc r n).trans
 ((bHr r n).trans
 ((by kernel_rfl)))
theorem cEc : D174 r n c174 x0 r174 = D174 r n aWv x0 (K2 (aSj r n) 0 1) :=
 congrArg (fun k => D174 r n aWv x0 k) (cEv r n)
theorem dGa : D174 r n c174 x0 r174 = (K2 (s174 r n) 0 1) :=
 (cEc r n).trans
 ((by kernel_rfl))
theorem cUq : aF CF r n 174 args h = s174 r n (aS args 0) (aS args 1) h :=
 (by kernel_rfl : aF CF r n 174 args h = D174 r n c174 x0 r174 (aI args) h).trans ((congrFun (congrFun (dGa r n) (aI args)) h).trans (by kernel_rfl))
noncomputable def bW (r : RT) (n : Nat) (x6 x9 : DV) (h0 : Hp) : aJ :=
 bnd (aA x6 h0) fun v1 h1 =>
 bnd (aA x9 h1) fun v2 h2 =>
 some (.t [v1, v2], h2)
noncomputable def sT (r : RT) (n : Nat) (kk9 : fF) (x2 x3 x6 x7 x9 x10 x11 x14 : DV) (h0 : Hp) : aJ :=
 bnd (aD .add x11 (aE 1) h0) fun v1 h1 =>
 bnd (aA x3 h1) fun v2 h2 =>
 bnd (aH 1 v2 x11 h2) fun v3 h3 =>
 bnd (aA v3 h3) fun v4 h4 =>
 bnd (cU CF r x10 [v1, v4, x14] h4) fun v5 h5 =>
  kk9 x2 x3 x6 x7 x9 x10 h5
noncomputable def aHj (r : RT) (n : Nat) (kk9 : fF) (x2 x3 x6 x7 x9 x10 x11 x12 x13 x14 : DV) (h0 : Hp) : aJ :=
 bnd (aB 0 x12 h0) fun v1 h1 =>
 bnd (aA v1 h1) fun v2 h2 =>
 bnd (aD .eql v2 (aE 19) h2) fun v3 h3 =>
 aQ v3 (
 bnd (aD .neq x13 (aE 1) h3) fun v4 h4 =>
 bnd (gD v4 false (aA x3 h4) h4) fun v5 h5 =>
 bnd (gD v4 false (some (x11, h5)) h5) fun v6 h6 =>
 bnd (gD v4 false (aH 1 v5 v6 h6) h6) fun v7 h7 =>
 bnd (gD v4 false (aA v7 h7) h7) fun v8 h8 =>
 bnd (gD v4 false (aD .lss v8 (aE 0) h8) h8) fun v9 h9 =>
 bnd (aO v4 (.b true) v9 h9) fun v10 h10 =>
 aQ v10 (
 some (.t [.l0, (.b false)], h10)) (
   kk9 x2 x3 x6 x7 x9 x10 h10)) (
 bnd (aD .eql v2 (aE 20) h3) fun v11 h11 =>
 aQ v11 (
   kk9 x2 x3 x6 x7 x9 x10 h11) (
 bnd (aD .eql v2 (aE 16) h11) fun v12 h12 =>
 aQ v12 (
 bnd (aK 3 x12 h12) fun v13 h13 =>
 bnd (r 202 [v13] h13) fun v14 h14 =>
 bnd (aA x3 h14) fun v15 h15 =>
 cnd (bK (aA x3 h12) v15 && true) (
 bnd (aH 1 v15 x11 h15) fun v16 h16 =>
 bnd (aA v16 h16) fun v17 h17 =>
 cnd (bK (aA v16 h12) v17 && true) (
 bnd (cU CF r x10 [v14, v17, x14] h17) fun v18 h18 =>
    kk9 x2 x3 x6 x7 x9 x10 h18))) (
 bnd (aD .eql v2 (aE 17) h12) fun v19 h19 =>
 aQ v19 (
 bnd (aK 3 x12 h19) fun v20 h20 =>
 bnd (r 202 [v20] h20) fun v21 h21 =>
 bnd (aA x3 h21) fun v22 h22 =>
 cnd (bK (aA x3 h19) v22 && true) (
 bnd (aH 1 v22 x11 h22) fun v23 h23 =>
 bnd (aA v23 h23) fun v24 h24 =>
 cnd (bK (aA v23 h19) v24 && true) (
 bnd (cU CF r x10 [v21, v24, x14] h24) fun v25 h25 =>
     sT r n kk9 x2 x3 x6 x7 x9 x10 x11 x14 h25))) (
     sT r n kk9 x2 x3 x6 x7 x9 x10 x11 x14 h19))))
noncomputable def aBl (r : RT) (n : Nat) (kk9 : fF) (x2 x3 x6 x7 x9 x10 x11 x12 x13 x14 : DV) (h0 : Hp) : aJ :=
 bnd (aK 3 x12 h0) fun v1 h1 =>
 bnd (r 205 [v1] h1) fun v2 h2 =>
 bnd (aD .lss x13 v2 h2) fun v3 h3 =>
 bnd (gD v3 false (some (x14, h3)) h3) fun v4 h4 =>
 bnd (gD v3 false (aD .gtr v4 (aE 24) h4) h4) fun v5 h5 =>
 bnd (aO v3 (.b true) v5 h5) fun v6 h6 =>
 aQ v6 (
 some (.t [.l0, (.b false)], h6)) (
  aHj r n kk9 x2 x3 x6 x7 x9 x10 x11 x12 x13 x14 h6)
noncomputable def aBy (r : RT) (n : Nat) (kk9 : fF) (x2 x3 x6 x7 x9 x10 x11 x12 x13 : DV) (h0 : Hp) : aJ :=
 bnd (aK 3 x12 h0) fun v1 h1 =>
 bnd (r 204 [v1] h1) fun v2 h2 =>
 bnd (aD .add x13 v2 h2) fun v3 h3 =>
  aBl r n kk9 x2 x3 x6 x7 x9 x10 x11 x12 x13 v3 h3
noncomputable def aKf (r : RT) (n : Nat) (kk9 : fF) (x2 x3 x6 x7 x9 x10 x11 : DV) (h0 : Hp) : aJ :=
 bnd (aA x2 (resv 1 h0)) fun v1 h1 =>
 bnd (aH 3 v1 x11 h1) fun v2 h2 =>
 bnd (aK 3 v2 h2) fun v3 h3 =>
 bnd (aA x6 h3) fun v4 h4 =>
 bnd (aH 1 v4 x11 h4) fun v5 h5 =>
 bnd (aA v5 h5) fun v6 h6 =>
 bnd (lH (bY 0 h0.next) [(aE 0), (aE 0), (aE 0)] h6) fun v7 h7 =>
 bnd (aG 3 v7 v3 h7) fun v8 h8 =>
 cnd (bK (aA v5 h8) v6 && (bK (aA x6 h8) v4 && true)) (
  aBy r n kk9 x2 x3 x6 x7 x9 x10 x11 v7 v6 h8)
noncomputable def aDa (r : RT) (n : Nat) (kk9 : fF) (x2 x3 x6 x7 x9 x10 x11 : DV) (h0 : Hp) : aJ :=
 bnd (aA x7 h0) fun v1 h1 =>
 bnd (aA x7 h1) fun v2 h2 =>
 bnd (bX v2 h2) fun v3 h3 =>
 bnd (aD .sub v3 (aE 1) h3) fun v4 h4 =>
 bnd (cT 1 v1 none (some v4) h4) fun v5 h5 =>
 bnd (aG 1 x7 v5 h5) fun _ h6 =>
  aKf r n kk9 x2 x3 x6 x7 x9 x10 x11 h6
noncomputable def aHp (r : RT) (n : Nat) (kk9 : fF) (x2 x3 x6 x7 x9 x10 : DV) (h0 : Hp) : aJ :=
 bnd (aA x7 h0) fun v1 h1 =>
 bnd (aA x7 h1) fun v2 h2 =>
 bnd (bX v2 h2) fun v3 h3 =>
 bnd (aD .sub v3 (aE 1) h3) fun v4 h4 =>
 bnd (aH 1 v1 v4 h4) fun v5 h5 =>
 bnd (aA v5 h5) fun v6 h6 =>
  aDa r n kk9 x2 x3 x6 x7 x9 x10 v6 h6
noncomputable def aXh (r : RT) (n : Nat) (kk9 : fF) (x2 x3 x6 x7 x9 x10 : DV) (h0 : Hp) : aJ :=
 bnd (aA x7 h0) fun v1 h1 =>
 bnd (bX v1 h1) fun v2 h2 =>
 bnd (aD .gtr v2 (aE 0) h2) fun v3 h3 =>
 bnd (gD v3 true (aA x9 h3) h3) fun v4 h4 =>
 bnd (aO v3 v4 (.b false) h4) fun v5 h5 =>
 aQ v5 (
   aHp r n kk9 x2 x3 x6 x7 x9 x10 h5) (
   bW r n x6 x9 h5)
noncomputable def uB (r : RT) (n : Nat) (m : Nat) : fF :=
 Nat.rec (motive := fun _ => fF) (fun _ _ _ _ _ _ _ => none) (fun _ ih => aXh r n ih) m
noncomputable def bZb (r : RT) (n : Nat) : fF := uB r n n
noncomputable def aOf (r : RT) (n : Nat) (x2 x3 x6 x7 x9 x10 : DV) (h0 : Hp) : aJ :=
 bZb r n x2 x3 x6 x7 x9 x10 h0
noncomputable def aTt (r : RT) (n : Nat) (x2 x3 x6 x7 x9 x10 : DV) (h0 : Hp) : aJ :=
 aOf r n x2 x3 x6 x7 x9 x10 h0
noncomputable def xZ (r : RT) (n : Nat) (x2 x3 x6 x7 x9 : DV) (h0 : Hp) : aJ :=
 aTt r n x2 x3 x6 x7 x9 (.f 203 [] [x2, x3, x6, x9, x7]) h0
noncomputable def cM (r : RT) (n : Nat) (x2 x3 x6 x7 : DV) (h0 : Hp) : aJ :=
 bnd (bL [(.b false)] h0) fun v1 h1 =>
 bnd (aG 1 v1 (.b true) h1) fun _ h2 =>
  xZ r n x2 x3 x6 x7 v1 h2
noncomputable def lJ (r : RT) (n : Nat) (kk18 : fF) (x2 x3 x6 x7 x19 x20 : DV) (h0 : Hp) : aJ :=
 bnd (aD .add x20 (aE 1) h0) fun v1 h1 =>
  kk18 x2 x3 x6 x7 x19 v1 h1
noncomputable def sO (r : RT) (n : Nat) (kk18 : fF) (x2 x3 x6 x7 x19 x20 : DV) (h0 : Hp) : aJ :=
 bnd (aA x6 h0) fun v1 h1 =>
 bnd (aH 1 v1 x20 h1) fun v2 h2 =>
 bnd (aG 1 v2 (.i .i64 (Int.negSucc 0)) h2) fun _ h3 =>
 bnd (aD .eql x20 (aE 0) h3) fun v4 h4 =>
 bnd (gD v4 false (some (x20, h4)) h4) fun v5 h5 =>
 bnd (gD v4 false (aD .gtr v5 (aE 1) h5) h5) fun v6 h6 =>
 bnd (gD v4 false (some (v6, h6)) h6) fun v7 h7 =>
 bnd (gD v7 true (aA x2 h7) h7) fun v8 h8 =>
 bnd (gD v7 true (some (x20, h8)) h8) fun v9 h9 =>
 bnd (gD v7 true (aD .sub v9 (aE 2) h9) h9) fun v10 h10 =>
 bnd (gD v7 true (aH 3 v8 v10 h10) h10) fun v11 h11 =>
 bnd (gD v7 true (aB 0 v11 h11) h11) fun v12 h12 =>
 bnd (gD v7 true (aA v12 h12) h12) fun v13 h13 =>
 bnd (gD v7 true (aD .eql v13 (aE 18) h13) h13) fun v14 h14 =>
 bnd (gD v4 false (aO v7 v14 (.b false) h14) h14) fun v15 h15 =>
 bnd (gD v4 false (some (v15, h15)) h15) fun v16 h16 =>
 bnd (gD v16 true (aA x3 h16) h16) fun v17 h17 =>
 bnd (gD v16 true (some (x20, h17)) h17) fun v18 h18 =>
 bnd (gD v16 true (aH 1 v17 v18 h18) h18) fun v19 h19 =>
 bnd (gD v16 true (aA v19 h19) h19) fun v20 h20 =>
 bnd (gD v16 true (some (x20, h20)) h20) fun v21 h21 =>
 bnd (gD v16 true (aD .sub v21 (aE 2) h21) h21) fun v22 h22 =>
 bnd (gD v16 true (aD .eql v20 v22 h22) h22) fun v23 h23 =>
 bnd (gD v4 false (aO v16 v23 (.b false) h23) h23) fun v24 h24 =>
 bnd (aO v4 (.b true) v24 h24) fun v25 h25 =>
 aQ v25 (
 bnd (aA x6 h25) fun v26 h26 =>
 bnd (aH 1 v26 x20 h26) fun v27 h27 =>
 bnd (aG 1 v27 (aE 0) h27) fun _ h28 =>
 bnd (aA x7 h28) fun v29 h29 =>
 bnd (aL [(aE 0)] 1 [(0, 1, x20)] h29) fun v30 h30 =>
 bnd (aZ 1 8 v29 v30 h30) fun v31 h31 =>
 bnd (aG 1 x7 v31 h31) fun _ h32 =>
  lJ r n kk18 x2 x3 x6 x7 x19 x20 h32) (
  lJ r n kk18 x2 x3 x6 x7 x19 x20 h25)
noncomputable def aFf (r : RT) (n : Nat) (kk18 : fF) (x2 x3 x6 x7 x19 x20 x21 : DV) (h0 : Hp) : aJ :=
 aQ x21 (
  sO r n kk18 x2 x3 x6 x7 x19 x20 h0) (
  cM r n x2 x3 x6 x7 h0)
noncomputable def aLk (r : RT) (n : Nat) (kk18 : fF) (x2 x3 x6 x7 x19 x20 : DV) (h0 : Hp) : aJ :=
 bnd (aD .lss x20 x19 h0) fun v1 h1 =>
  aFf r n kk18 x2 x3 x6 x7 x19 x20 v1 h1
noncomputable def pN (r : RT) (n : Nat) (m : Nat) : fF :=
 Nat.rec (motive := fun _ => fF) (fun _ _ _ _ _ _ _ => none) (fun _ ih => aLk r n ih) m
noncomputable def bCo (r : RT) (n : Nat) : fF := pN r n n
noncomputable def aEm (r : RT) (n : Nat) (x2 x3 x6 x7 x19 x20 : DV) (h0 : Hp) : aJ :=
 bCo r n x2 x3 x6 x7 x19 x20 h0
noncomputable def yI (r : RT) (n : Nat) (x2 x3 x6 x7 : DV) (h0 : Hp) : aJ :=
 bnd (aA x6 h0) fun v1 h1 =>
 bnd (bX v1 h1) fun v2 h2 =>
  aEm r n x2 x3 x6 x7 v2 (aE 0) h2
noncomputable def rB (r : RT) (n : Nat) (x2 x3 x6 : DV) (h0 : Hp) : aJ :=
 bnd (bL [.l0] h0) fun v1 h1 =>
  yI r n x2 x3 x6 v1 h1
noncomputable def qV (r : RT) (n : Nat) (x2 x3 : DV) (h0 : Hp) : aJ :=
 bnd (aA x2 h0) fun v1 h1 =>
 bnd (bX v1 h1) fun v2 h2 =>
 bnd (cI 1 8 [(aE 0)] v2 v2 h2) fun v3 h3 =>
 bnd (bL [.l0] h3) fun v4 h4 =>
 bnd (aG 1 v4 v3 h4) fun _ h5 =>
  rB r n x2 x3 v4 h5
noncomputable def s175 (r : RT) (n : Nat) (x0 x1 : DV) (h0 : Hp) : aJ :=
 bnd (bS x0 h0) fun v1 h1 =>
 bnd (bS x1 h1) fun v2 h2 =>
  qV r n v1 v2 h2
noncomputable abbrev c175 : Code := cf Tryz.f175
noncomputable abbrev aTl : Code := cR c175
noncomputable abbrev aFc : Code := cL aTl
noncomputable abbrev aDx : Code := cR aFc
noncomputable abbrev aHl : Code := cR aDx
noncomputable abbrev aIh : Code := cR aHl
noncomputable abbrev aCi : Code := cR aIh
noncomputable abbrev aJk : Code := cR aCi
noncomputable abbrev aEv : Code := cR aJk
noncomputable abbrev dCk : Code := cR aEv
noncomputable abbrev uL : Code := cL aEv
noncomputable abbrev tE : Code := cL uL
noncomputable abbrev iG : Code := cL tE
noncomputable abbrev aGa : Code := cR iG
noncomputable abbrev tY : Code := cL aGa
noncomputable abbrev uJ : Code := cR tY
noncomputable abbrev uM : Code := cR uJ
noncomputable abbrev sZ : Code := cR uM
noncomputable abbrev sS : Code := cR sZ
noncomputable abbrev tP : Code := cR sS
noncomputable abbrev cHw : Code := cR tP
noncomputable abbrev bCn : Code := cL tP
noncomputable abbrev aWg : Code := cL sS
noncomputable abbrev bAw : Code := cL sZ
noncomputable abbrev aVv : Code := cL uM
noncomputable abbrev bDf : Code := cL uJ
noncomputable abbrev bBa : Code := cL tY
noncomputable abbrev aWb : Code := cL iG
noncomputable abbrev bBq : Code := cL aJk
noncomputable abbrev bAp : Code := cL aCi
noncomputable abbrev aCb : Code := cL aIh
noncomputable abbrev oT : Code := cL aHl
noncomputable abbrev aJa : Code := cR oT
noncomputable abbrev sX : Code := cL aJa
noncomputable abbrev iI : Code := cL sX
noncomputable abbrev tN : Code := cR iI
noncomputable abbrev sJ : Code := cR tN
noncomputable abbrev cIk : Code := cR sJ
noncomputable abbrev aCr : Code := cL sJ
noncomputable abbrev aZg : Code := cL tN
noncomputable abbrev bBk : Code := cL iI
noncomputable abbrev bBf : Code := cL oT
noncomputable abbrev aDv : Code := cL aDx
noncomputable abbrev aJw : Code := cL aFc
noncomputable abbrev aIc : Code := cL c175
noncomputable abbrev r175 : K := aT CF Tryz.f175
noncomputable def D175 (r : RT) (n : Nat) (c : Code) (X : Nat → K) (k : K) : K := aM CF r 144 n c X r175 k
theorem cQq : D175 r n dCk x0 r175 = (K2 (bW r n) 6 9) :=
 (by kernel_rfl)
theorem cCt (kk9 : fF) : D175 r n cHw (xs (xs x0 2 (K2 (bW r n) 6 9)) 3 (K6 kk9 2 3 6 7 9 10)) (K6 kk9 2 3 6 7 9 10) = (K8 (sT r n kk9) 2 3 6 7 9 10 11 14) :=
 (by kernel_rfl)
theorem bFl (kk9 : fF) : D175 r n tP (xs (xs x0 2 (K2 (bW r n) 6 9)) 3 (K6 kk9 2 3 6 7 9 10)) (K6 kk9 2 3 6 7 9 10) = D175 r n bCn (xs (xs x0 2 (K2 (bW r n) 6 9)) 3 (K6 kk9 2 3 6 7 9 10)) (K8 (sT r n kk9) 2 3 6 7 9 10 11 14) :=
 congrArg (fun k => D175 r n bCn (xs (xs x0 2 (K2 (bW r n) 6 9)) 3 (K6 kk9 2 3 6 7 9 10)) k) (cCt r n kk9)
theorem cCe (kk9 : fF) : D175 r n tP (xs (xs x0 2 (K2 (bW r n) 6 9)) 3 (K6 kk9 2 3 6 7 9 10)) (K6 kk9 2 3 6 7 9 10) = (K10 (aHj r n kk9) 2 3 6 7 9 10 11 12 13 14) :=
 (bFl r n kk9).trans
 ((by kernel_rfl))
theorem bGs (kk9 : fF) : D175 r n sS (xs (xs x0 2 (K2 (bW r n) 6 9)) 3 (K6 kk9 2 3 6 7 9 10)) (K6 kk9 2 3 6 7 9 10) = D175 r n aWg (xs (xs x0 2 (K2 (bW r n) 6 9)) 3 (K6 kk9 2 3 6 7 9 10)) (K10 (aHj r n kk9) 2 3 6 7 9 10 11 12 13 14) :=
 congrArg (fun k => D175 r n aWg (xs (xs x0 2 (K2 (bW r n) 6 9)) 3 (K6 kk9 2 3 6 7 9 10)) k) (cCe r n kk9)
theorem bKh (kk9 : fF) : D175 r n sS (xs (xs x0 2 (K2 (bW r n) 6 9)) 3 (K6 kk9 2 3 6 7 9 10)) (K6 kk9 2 3 6 7 9 10) = (K10 (aBl r n kk9) 2 3 6 7 9 10 11 12 13 14) :=
 (bGs r n kk9).trans
 ((by kernel_rfl))
theorem bFi (kk9 : fF) : D175 r n sZ (xs (xs x0 2 (K2 (bW r n) 6 9)) 3 (K6 kk9 2 3 6 7 9 10)) (K6 kk9 2 3 6 7 9 10) = D175 r n bAw (xs (xs x0 2 (K2 (bW r n) 6 9)) 3 (K6 kk9 2 3 6 7 9 10)) (K10 (aBl r n kk9) 2 3 6 7 9 10 11 12 13 14) :=
 congrArg (fun k => D175 r n bAw (xs (xs x0 2 (K2 (bW r n) 6 9)) 3 (K6 kk9 2 3 6 7 9 10)) k) (bKh r n kk9)
theorem bQc (kk9 : fF) : D175 r n sZ (xs (xs x0 2 (K2 (bW r n) 6 9)) 3 (K6 kk9 2 3 6 7 9 10)) (K6 kk9 2 3 6 7 9 10) = (K9 (aBy r n kk9) 2 3 6 7 9 10 11 12 13) :=
 (bFi r n kk9).trans
 ((by kernel_rfl))
theorem bFq (kk9 : fF) : D175 r n uM (xs (xs x0 2 (K2 (bW r n) 6 9)) 3 (K6 kk9 2 3 6 7 9 10)) (K6 kk9 2 3 6 7 9 10) = D175 r n aVv (xs (xs x0 2 (K2 (bW r n) 6 9)) 3 (K6 kk9 2 3 6 7 9 10)) (K9 (aBy r n kk9) 2 3 6 7 9 10 11 12 13) :=
 congrArg (fun k => D175 r n aVv (xs (xs x0 2 (K2 (bW r n) 6 9)) 3 (K6 kk9 2 3 6 7 9 10)) k) (bQc r n kk9)
theorem bZp (kk9 : fF) : D175 r n uM (xs (xs x0 2 (K2 (bW r n) 6 9)) 3 (K6 kk9 2 3 6 7 9 10)) (K6 kk9 2 3 6 7 9 10) = (K7 (aKf r n kk9) 2 3 6 7 9 10 11) :=
 (bFq r n kk9).trans
 ((by kernel_rfl))
theorem bFd (kk9 : fF) : D175 r n uJ (xs (xs x0 2 (K2 (bW r n) 6 9)) 3 (K6 kk9 2 3 6 7 9 10)) (K6 kk9 2 3 6 7 9 10) = D175 r n bDf (xs (xs x0 2 (K2 (bW r n) 6 9)) 3 (K6 kk9 2 3 6 7 9 10)) (K7 (aKf r n kk9) 2 3 6 7 9 10 11) :=
 congrArg (fun k => D175 r n bDf (xs (xs x0 2 (K2 (bW r n) 6 9)) 3 (K6 kk9 2 3 6 7 9 10)) k) (bZp r n kk9)
theorem bOd (kk9 : fF) : D175 r n uJ (xs (xs x0 2 (K2 (bW r n) 6 9)) 3 (K6 kk9 2 3 6 7 9 10)) (K6 kk9 2 3 6 7 9 10) = (K7 (aDa r n kk9) 2 3 6 7 9 10 11) :=
 (bFd r n kk9).trans
 ((by kernel_rfl))
theorem bEm (kk9 : fF) : D175 r n tY (xs (xs x0 2 (K2 (bW r n) 6 9)) 3 (K6 kk9 2 3 6 7 9 10)) (K6 kk9 2 3 6 7 9 10) = D175 r n bBa (xs (xs x0 2 (K2 (bW r n) 6 9)) 3 (K6 kk9 2 3 6 7 9 10)) (K7 (aDa r n kk9) 2 3 6 7 9 10 11) :=
 congrArg (fun k => D175 r n bBa (xs (xs x0 2 (K2 (bW r n) 6 9)) 3 (K6 kk9 2 3 6 7 9 10)) k) (bOd r n kk9)
theorem bVy (kk9 : fF) : D175 r n aGa (xs x0 2 (K2 (bW r n) 6 9)) (K6 kk9 2 3 6 7 9 10) = (K6 (aHp r n kk9) 2 3 6 7 9 10) :=
 (by kernel_rfl : D175 r n aGa (xs x0 2 (K2 (bW r n) 6 9)) (K6 kk9 2 3 6 7 9 10) = D175 r n tY (xs (xs x0 2 (K2 (bW r n) 6 9)) 3 (K6 kk9 2 3 6 7 9 10)) (K6 kk9 2 3 6 7 9 10)).trans
 ((bEm r n kk9).trans
 ((by kernel_rfl)))
theorem bOn (kk9 : fF) : D175 r n iG (xs x0 2 (K2 (bW r n) 6 9)) (K6 kk9 2 3 6 7 9 10) = D175 r n aWb (xs x0 2 (K2 (bW r n) 6 9)) (K6 (aHp r n kk9) 2 3 6 7 9 10) :=
 congrArg (fun k => D175 r n aWb (xs x0 2 (K2 (bW r n) 6 9)) k) (bVy r n kk9)
theorem bNq (kk9 : fF) : D175 r n iG (xs x0 2 (K2 (bW r n) 6 9)) (K6 kk9 2 3 6 7 9 10) = (K6 (aXh r n kk9) 2 3 6 7 9 10) :=
 (bOn r n kk9).trans
 ((by kernel_rfl))
theorem bSk (m : Nat) : aN (fun kk => D175 r n iG (xs x0 2 (K2 (bW r n) 6 9)) kk) m = (K6 (uB r n m) 2 3 6 7 9 10) := by
 induction m with
 | zero => exact (by kernel_rfl : aN (fun kk => D175 r n iG (xs x0 2 (K2 (bW r n) 6 9)) kk) 0 = (K6 (uB r n 0) 2 3 6 7 9 10))
 | succ m ih =>
  refine (by kernel_rfl : aN (fun kk => D175 r n iG (xs x0 2 (K2 (bW r n) 6 9)) kk) (m + 1) = D175 r n iG (xs x0 2 (K2 (bW r n) 6 9)) (aN (fun kk => D175 r n iG (xs x0 2 (K2 (bW r n) 6 9)) kk) m)).trans ?_
  rw [ih]
  exact (bNq r n (uB r n m)).trans (by kernel_rfl)
theorem cIb : D175 r n tE (xs x0 2 (K2 (bW r n) 6 9)) (K2 (bW r n) 6 9) = (K6 (bZb r n) 2 3 6 7 9 10) :=
 (by kernel_rfl : D175 r n tE (xs x0 2 (K2 (bW r n) 6 9)) (K2 (bW r n) 6 9) = aN (fun kk => D175 r n iG (xs x0 2 (K2 (bW r n) 6 9)) kk) n).trans ((bSk r n n).trans (by kernel_rfl))
theorem cAw : D175 r n aEv x0 r175 = D175 r n uL x0 (K2 (bW r n) 6 9) :=
 congrArg (fun k => D175 r n uL x0 k) (cQq r n)
theorem cNu : D175 r n aEv x0 r175 = (K6 (aOf r n) 2 3 6 7 9 10) :=
 (cAw r n).trans
 ((by kernel_rfl : D175 r n uL x0 (K2 (bW r n) 6 9) = D175 r n tE (xs x0 2 (K2 (bW r n) 6 9)) (K2 (bW r n) 6 9)).trans
 ((cIb r n).trans (by kernel_rfl)))
theorem cBv : D175 r n aJk x0 r175 = D175 r n bBq x0 (K6 (aOf r n) 2 3 6 7 9 10) :=
 congrArg (fun k => D175 r n bBq x0 k) (cNu r n)
theorem cIa : D175 r n aJk x0 r175 = (K6 (aTt r n) 2 3 6 7 9 10) :=
 (cBv r n).trans
 ((by kernel_rfl))
theorem bEx : D175 r n aCi x0 r175 = D175 r n bAp x0 (K6 (aTt r n) 2 3 6 7 9 10) :=
 congrArg (fun k => D175 r n bAp x0 k) (cIa r n)
theorem cGu : D175 r n aCi x0 r175 = (K5 (xZ r n) 2 3 6 7 9) :=
 (bEx r n).trans
 ((by kernel_rfl))
theorem bDq : D175 r n aIh x0 r175 = D175 r n aCb x0 (K5 (xZ r n) 2 3 6 7 9) :=
 congrArg (fun k => D175 r n aCb x0 k) (cGu r n)
theorem bFh (q0 : cE) : D175 r n aCb x0 (K5 q0 2 3 6 7 9) = fun (env : aY) (h : Hp) =>
 bnd (bL [(.b false)] h) fun v1 h1 =>
 bnd (aG 1 v1 (.b true) h1) fun _ h2 =>
  q0 (env 2) (env 3) (env 6) (env 7) v1 h2 := by kernel_rfl
theorem aRa : (fun (env : aY) (h : Hp) =>
 bnd (bL [(.b false)] h) fun v1 h1 =>
 bnd (aG 1 v1 (.b true) h1) fun _ h2 =>
  xZ r n (env 2) (env 3) (env 6) (env 7) v1 h2) = (K4 (cM r n) 2 3 6 7) := by kernel_rfl
theorem cEl : D175 r n aIh x0 r175 = (K4 (cM r n) 2 3 6 7) :=
 (bDq r n).trans
 ((bFh r n (xZ r n)).trans (aRa r n))
theorem bRd (kk18 : fF) : D175 r n cIk (xs x0 0 (K4 (cM r n) 2 3 6 7)) (K6 kk18 2 3 6 7 19 20) = (K6 (lJ r n kk18) 2 3 6 7 19 20) :=
 (by kernel_rfl)
theorem aRu (kk18 : fF) : D175 r n sJ (xs x0 0 (K4 (cM r n) 2 3 6 7)) (K6 kk18 2 3 6 7 19 20) = D175 r n aCr (xs x0 0 (K4 (cM r n) 2 3 6 7)) (K6 (lJ r n kk18) 2 3 6 7 19 20) :=
 congrArg (fun k => D175 r n aCr (xs x0 0 (K4 (cM r n) 2 3 6 7)) k) (bRd r n kk18)
theorem aPi (kk18 : fF) (q0 : fF) (q1 : dQ) : D175 r n aCr (xs x0 0 (K4 q1 2 3 6 7)) (K6 q0 2 3 6 7 19 20) = fun (env : aY) (h : Hp) =>
 bnd (aA (env 6) h) fun v1 h1 =>
 bnd (aH 1 v1 (env 20) h1) fun v2 h2 =>
 bnd (aG 1 v2 (.i .i64 (Int.negSucc 0)) h2) fun _ h3 =>
 bnd (aD .eql (env 20) (aE 0) h3) fun v4 h4 =>
 bnd (gD v4 false (some ((env 20), h4)) h4) fun v5 h5 =>
 bnd (gD v4 false (aD .gtr v5 (aE 1) h5) h5) fun v6 h6 =>
 bnd (gD v4 false (some (v6, h6)) h6) fun v7 h7 =>
 bnd (gD v7 true (aA (env 2) h7) h7) fun v8 h8 =>
 bnd (gD v7 true (some ((env 20), h8)) h8) fun v9 h9 =>
 bnd (gD v7 true (aD .sub v9 (aE 2) h9) h9) fun v10 h10 =>
 bnd (gD v7 true (aH 3 v8 v10 h10) h10) fun v11 h11 =>
 bnd (gD v7 true (aB 0 v11 h11) h11) fun v12 h12 =>
 bnd (gD v7 true (aA v12 h12) h12) fun v13 h13 =>
 bnd (gD v7 true (aD .eql v13 (aE 18) h13) h13) fun v14 h14 =>
 bnd (gD v4 false (aO v7 v14 (.b false) h14) h14) fun v15 h15 =>
 bnd (gD v4 false (some (v15, h15)) h15) fun v16 h16 =>
 bnd (gD v16 true (aA (env 3) h16) h16) fun v17 h17 =>
 bnd (gD v16 true (some ((env 20), h17)) h17) fun v18 h18 =>
 bnd (gD v16 true (aH 1 v17 v18 h18) h18) fun v19 h19 =>
 bnd (gD v16 true (aA v19 h19) h19) fun v20 h20 =>
 bnd (gD v16 true (some ((env 20), h20)) h20) fun v21 h21 =>
 bnd (gD v16 true (aD .sub v21 (aE 2) h21) h21) fun v22 h22 =>
 bnd (gD v16 true (aD .eql v20 v22 h22) h22) fun v23 h23 =>
 bnd (gD v4 false (aO v16 v23 (.b false) h23) h23) fun v24 h24 =>
 bnd (aO v4 (.b true) v24 h24) fun v25 h25 =>
 aQ v25 (
 bnd (aA (env 6) h25) fun v26 h26 =>
 bnd (aH 1 v26 (env 20) h26) fun v27 h27 =>
 bnd (aG 1 v27 (aE 0) h27) fun _ h28 =>
 bnd (aA (env 7) h28) fun v29 h29 =>
 bnd (aL [(aE 0)] 1 [(0, 1, (env 20))] h29) fun v30 h30 =>
 bnd (aZ 1 8 v29 v30 h30) fun v31 h31 =>
 bnd (aG 1 (env 7) v31 h31) fun _ h32 =>
      q0 (env 2) (env 3) (env 6) (env 7) (env 19) (env 20) h32) (
      q0 (env 2) (env 3) (env 6) (env 7) (env 19) (env 20) h25) := by kernel_rfl
theorem aLr (kk18 : fF) : (fun (env : aY) (h : Hp) =>
 bnd (aA (env 6) h) fun v1 h1 =>
 bnd (aH 1 v1 (env 20) h1) fun v2 h2 =>
 bnd (aG 1 v2 (.i .i64 (Int.negSucc 0)) h2) fun _ h3 =>
 bnd (aD .eql (env 20) (aE 0) h3) fun v4 h4 =>
 bnd (gD v4 false (some ((env 20), h4)) h4) fun v5 h5 =>
 bnd (gD v4 false (aD .gtr v5 (aE 1) h5) h5) fun v6 h6 =>
 bnd (gD v4 false (some (v6, h6)) h6) fun v7 h7 =>
 bnd (gD v7 true (aA (env 2) h7) h7) fun v8 h8 =>
 bnd (gD v7 true (some ((env 20), h8)) h8) fun v9 h9 =>
 bnd (gD v7 true (aD .sub v9 (aE 2) h9) h9) fun v10 h10 =>
 bnd (gD v7 true (aH 3 v8 v10 h10) h10) fun v11 h11 =>
 bnd (gD v7 true (aB 0 v11 h11) h11) fun v12 h12 =>
 bnd (gD v7 true (aA v12 h12) h12) fun v13 h13 =>
 bnd (gD v7 true (aD .eql v13 (aE 18) h13) h13) fun v14 h14 =>
 bnd (gD v4 false (aO v7 v14 (.b false) h14) h14) fun v15 h15 =>
 bnd (gD v4 false (some (v15, h15)) h15) fun v16 h16 =>
 bnd (gD v16 true (aA (env 3) h16) h16) fun v17 h17 =>
 bnd (gD v16 true (some ((env 20), h17)) h17) fun v18 h18 =>
 bnd (gD v16 true (aH 1 v17 v18 h18) h18) fun v19 h19 =>
 bnd (gD v16 true (aA v19 h19) h19) fun v20 h20 =>
 bnd (gD v16 true (some ((env 20), h20)) h20) fun v21 h21 =>
 bnd (gD v16 true (aD .sub v21 (aE 2) h21) h21) fun v22 h22 =>
 bnd (gD v16 true (aD .eql v20 v22 h22) h22) fun v23 h23 =>
 bnd (gD v4 false (aO v16 v23 (.b false) h23) h23) fun v24 h24 =>
 bnd (aO v4 (.b true) v24 h24) fun v25 h25 =>
 aQ v25 (
 bnd (aA (env 6) h25) fun v26 h26 =>
 bnd (aH 1 v26 (env 20) h26) fun v27 h27 =>
 bnd (aG 1 v27 (aE 0) h27) fun _ h28 =>
 bnd (aA (env 7) h28) fun v29 h29 =>
 bnd (aL [(aE 0)] 1 [(0, 1, (env 20))] h29) fun v30 h30 =>
 bnd (aZ 1 8 v29 v30 h30) fun v31 h31 =>
 bnd (aG 1 (env 7) v31 h31) fun _ h32 =>
      lJ r n kk18 (env 2) (env 3) (env 6) (env 7) (env 19) (env 20) h32) (
      lJ r n kk18 (env 2) (env 3) (env 6) (env 7) (env 19) (env 20) h25)) = (K6 (sO r n kk18) 2 3 6 7 19 20) := by kernel_rfl
theorem bTo (kk18 : fF) : D175 r n sJ (xs x0 0 (K4 (cM r n) 2 3 6 7)) (K6 kk18 2 3 6 7 19 20) = (K6 (sO r n kk18) 2 3 6 7 19 20) :=
 (aRu r n kk18).trans
 ((aPi r n kk18 (lJ r n kk18) (cM r n)).trans (aLr r n kk18))
theorem aTj (kk18 : fF) : D175 r n tN (xs x0 0 (K4 (cM r n) 2 3 6 7)) (K6 kk18 2 3 6 7 19 20) = D175 r n aZg (xs x0 0 (K4 (cM r n) 2 3 6 7)) (K6 (sO r n kk18) 2 3 6 7 19 20) :=
 congrArg (fun k => D175 r n aZg (xs x0 0 (K4 (cM r n) 2 3 6 7)) k) (bTo r n kk18)
theorem bUo (kk18 : fF) : D175 r n tN (xs x0 0 (K4 (cM r n) 2 3 6 7)) (K6 kk18 2 3 6 7 19 20) = (K7 (aFf r n kk18) 2 3 6 7 19 20 21) :=
 (aTj r n kk18).trans
 ((by kernel_rfl))
theorem aOn (kk18 : fF) : D175 r n iI (xs x0 0 (K4 (cM r n) 2 3 6 7)) (K6 kk18 2 3 6 7 19 20) = D175 r n bBk (xs x0 0 (K4 (cM r n) 2 3 6 7)) (K7 (aFf r n kk18) 2 3 6 7 19 20 21) :=
 congrArg (fun k => D175 r n bBk (xs x0 0 (K4 (cM r n) 2 3 6 7)) k) (bUo r n kk18)
theorem bDj (kk18 : fF) : D175 r n iI (xs x0 0 (K4 (cM r n) 2 3 6 7)) (K6 kk18 2 3 6 7 19 20) = (K6 (aLk r n kk18) 2 3 6 7 19 20) :=
 (aOn r n kk18).trans
 ((by kernel_rfl))
theorem bGl (m : Nat) : aN (fun kk => D175 r n iI (xs x0 0 (K4 (cM r n) 2 3 6 7)) kk) m = (K6 (pN r n m) 2 3 6 7 19 20) := by
 induction m with
 | zero => exact (by kernel_rfl : aN (fun kk => D175 r n iI (xs x0 0 (K4 (cM r n) 2 3 6 7)) kk) 0 = (K6 (pN r n 0) 2 3 6 7 19 20))
 | succ m ih =>
  refine (by kernel_rfl : aN (fun kk => D175 r n iI (xs x0 0 (K4 (cM r n) 2 3 6 7)) kk) (m + 1) = D175 r n iI (xs x0 0 (K4 (cM r n) 2 3 6 7)) (aN (fun kk => D175 r n iI (xs x0 0 (K4 (cM r n) 2 3 6 7)) kk) m)).trans ?_
  rw [ih]
  exact (bDj r n (pN r n m)).trans (by kernel_rfl)
theorem bLy : D175 r n sX (xs x0 0 (K4 (cM r n) 2 3 6 7)) (K4 (cM r n) 2 3 6 7) = (K6 (bCo r n) 2 3 6 7 19 20) :=
 (by kernel_rfl : D175 r n sX (xs x0 0 (K4 (cM r n) 2 3 6 7)) (K4 (cM r n) 2 3 6 7) = aN (fun kk => D175 r n iI (xs x0 0 (K4 (cM r n) 2 3 6 7)) kk) n).trans ((bGl r n n).trans (by kernel_rfl))
theorem bTg : D175 r n aJa x0 (K4 (cM r n) 2 3 6 7) = (K6 (aEm r n) 2 3 6 7 19 20) :=
 (by kernel_rfl : D175 r n aJa x0 (K4 (cM r n) 2 3 6 7) = D175 r n sX (xs x0 0 (K4 (cM r n) 2 3 6 7)) (K4 (cM r n) 2 3 6 7)).trans
 ((bLy r n).trans (by kernel_rfl))
theorem bFx : D175 r n aHl x0 r175 = D175 r n oT x0 (K4 (cM r n) 2 3 6 7) :=
 congrArg (fun k => D175 r n oT x0 k) (cEl r n)
theorem bDs : D175 r n oT x0 (K4 (cM r n) 2 3 6 7) = D175 r n bBf x0 (K6 (aEm r n) 2 3 6 7 19 20) :=
 congrArg (fun k => D175 r n bBf x0 k) (bTg r n)
theorem cMy : D175 r n aHl x0 r175 = (K4 (yI r n) 2 3 6 7) :=
 (bFx r n).trans
 ((bDs r n).trans
 ((by kernel_rfl)))
theorem bGe : D175 r n aDx x0 r175 = D175 r n aDv x0 (K4 (yI r n) 2 3 6 7) :=
 congrArg (fun k => D175 r n aDv x0 k) (cMy r n)
theorem bHs (q0 : dQ) : D175 r n aDv x0 (K4 q0 2 3 6 7) = fun (env : aY) (h : Hp) =>
 bnd (bL [.l0] h) fun v1 h1 =>
  q0 (env 2) (env 3) (env 6) v1 h1 := by kernel_rfl
theorem aVd : (fun (env : aY) (h : Hp) =>
 bnd (bL [.l0] h) fun v1 h1 =>
  yI r n (env 2) (env 3) (env 6) v1 h1) = (K3 (rB r n) 2 3 6) := by kernel_rfl
theorem cGh : D175 r n aDx x0 r175 = (K3 (rB r n) 2 3 6) :=
 (bGe r n).trans
 ((bHs r n (yI r n)).trans (aVd r n))
theorem bHj : D175 r n aFc x0 r175 = D175 r n aJw x0 (K3 (rB r n) 2 3 6) :=
 congrArg (fun k => D175 r n aJw x0 k) (cGh r n)
theorem bEz (q0 : mP) : D175 r n aJw x0 (K3 q0 2 3 6) = fun (env : aY) (h : Hp) =>
 bnd (aA (env 2) h) fun v1 h1 =>
 bnd (bX v1 h1) fun v2 h2 =>
 bnd (cI 1 8 [(aE 0)] v2 v2 h2) fun v3 h3 =>
 bnd (bL [.l0] h3) fun v4 h4 =>
 bnd (aG 1 v4 v3 h4) fun _ h5 =>
  q0 (env 2) (env 3) v4 h5 := by kernel_rfl
theorem aUs : (fun (env : aY) (h : Hp) =>
 bnd (aA (env 2) h) fun v1 h1 =>
 bnd (bX v1 h1) fun v2 h2 =>
 bnd (cI 1 8 [(aE 0)] v2 v2 h2) fun v3 h3 =>
 bnd (bL [.l0] h3) fun v4 h4 =>
 bnd (aG 1 v4 v3 h4) fun _ h5 =>
  rB r n (env 2) (env 3) v4 h5) = (K2 (qV r n) 2 3) := by kernel_rfl
theorem cKu : D175 r n aTl x0 r175 = (K2 (qV r n) 2 3) :=
 (by kernel_rfl : D175 r n aTl x0 r175 = D175 r n aFc x0 r175).trans
 ((bHj r n).trans
 ((bEz r n (rB r n)).trans (aUs r n)))
theorem cDl : D175 r n c175 x0 r175 = D175 r n aIc x0 (K2 (qV r n) 2 3) :=
 congrArg (fun k => D175 r n aIc x0 k) (cKu r n)
theorem cSd (q0 : gJ) : D175 r n aIc x0 (K2 q0 2 3) = fun (env : aY) (h : Hp) =>
 bnd (bS (env 0) h) fun v1 h1 =>
 bnd (bS (env 1) h1) fun v2 h2 =>
  q0 v1 v2 h2 := by kernel_rfl
theorem bRb : (fun (env : aY) (h : Hp) =>
 bnd (bS (env 0) h) fun v1 h1 =>
 bnd (bS (env 1) h1) fun v2 h2 =>
  qV r n v1 v2 h2) = (K2 (s175 r n) 0 1) := by kernel_rfl
theorem dKy : D175 r n c175 x0 r175 = (K2 (s175 r n) 0 1) :=
 (cDl r n).trans
 ((cSd r n (qV r n)).trans (bRb r n))
theorem cVe : aF CF r n 175 args h = s175 r n (aS args 0) (aS args 1) h :=
 (by kernel_rfl : aF CF r n 175 args h = D175 r n c175 x0 r175 (aI args) h).trans ((congrFun (congrFun (dKy r n) (aI args)) h).trans (by kernel_rfl))
noncomputable def s177 (r : RT) (n : Nat) (x0 : DV) (h0 : Hp) : aJ :=
 bnd (r 148 [x0] h0) fun v1 h1 =>
 bnd (gD v1 false (some (x0, h1)) h1) fun v2 h2 =>
 bnd (gD v1 false (r 151 [v2] h2) h2) fun v3 h3 =>
 bnd (aO v1 (.b true) v3 h3) fun v4 h4 =>
 some (v4, h4)
noncomputable abbrev c177 : Code := cf Tryz.f177
noncomputable abbrev r177 : K := aT CF Tryz.f177
noncomputable def D177 (r : RT) (n : Nat) (c : Code) (X : Nat → K) (k : K) : K := aM CF r 9 n c X r177 k
theorem dIm : D177 r n c177 x0 r177 = (K1 (s177 r n) 0) :=
 (by kernel_rfl)
theorem cYe : aF CF r n 177 args h = s177 r n (aS args 0) h :=
 (by kernel_rfl : aF CF r n 177 args h = D177 r n c177 x0 r177 (aI args) h).trans ((congrFun (congrFun (dIm r n) (aI args)) h).trans (by kernel_rfl))
end Go.Dd

