/- A part of the proof: Q3 Q4 Q5 Q6 Q7: each text has a comment of its own. -/
import Derived.Test.YtilmobdncapnbaaGreatPa1
set_option linter.unusedVariables false
set_option linter.unusedSimpArgs false
set_option linter.constructorNameAsVariable false
set_option maxRecDepth 100000
namespace Go.Dd
open Go.Proofs
variable (r : RT) (n : Nat) (args : List DV) (h : Hp)
noncomputable def s95 (r : RT) (n : Nat) (x0 : DV) (h0 : Hp) : aI :=
 aP x0 (
 some (.t [(aE 2), (aE 0)], h0)) (
 some (.t [(aE 4), (aE 0)], h0))
noncomputable abbrev c95 : Code := cf Tryz.f95
noncomputable abbrev r95 : K := aT CF Tryz.f95
noncomputable def D95 (r : RT) (n : Nat) (c : Code) (X : Nat → K) (k : K) : K := aM CF r 5 n c X r95 k
theorem dQg : D95 r n c95 x0 r95 = (K1 (s95 r n) 0) :=
 (by kernel_rfl)
theorem cSs : aF CF r n 95 args h = s95 r n (aQ args 0) h :=
 (by kernel_rfl : aF CF r n 95 args h = D95 r n c95 x0 r95 (aJ args) h).trans ((congrFun (congrFun (dQg r n) (aJ args)) h).trans (by kernel_rfl))
noncomputable def s99 (r : RT) (n : Nat) (x0 : DV) (h0 : Hp) : aI :=
 bnd (bK gS h0) fun v1 h1 =>
 bnd (r 110 [x0, (.f 111 [] [])] h1) fun v2 h2 =>
 bnd (aC 0 v2 h2) fun v3 h3 =>
 bnd (aC 1 v2 h3) fun v4 h4 =>
 bnd (aC 2 v2 h4) fun v5 h5 =>
 bnd (aG 6 v1 v3 h5) fun _ h6 =>
 bnd (aK 6 v1 h6) fun v7 _ =>
 some (.t [v7, v4, v5], h6)
noncomputable abbrev c99 : Code := cf Tryz.f99
noncomputable abbrev r99 : K := aT CF Tryz.f99
noncomputable def D99 (r : RT) (n : Nat) (c : Code) (X : Nat → K) (k : K) : K := aM CF r 10 n c X r99 k
theorem dQb : D99 r n c99 x0 r99 = (K1 (s99 r n) 0) :=
 (by kernel_rfl)
theorem dKl : aF CF r n 99 args h = s99 r n (aQ args 0) h :=
 (by kernel_rfl : aF CF r n 99 args h = D99 r n c99 x0 r99 (aJ args) h).trans ((congrFun (congrFun (dQb r n) (aJ args)) h).trans (by kernel_rfl))
noncomputable def s100 (r : RT) (n : Nat) (x0 x1 : DV) (h0 : Hp) : aI :=
 bnd (bQ x0 h0) fun v1 h1 =>
 bnd (bK [(.s []), (aE 0), (aE 0), (aE 0), .l0, .l0] h1) fun v2 h2 =>
 bnd (aK 6 v1 h2) fun v3 h3 =>
 bnd (r 112 [v3, x1, (.b false)] h3) fun v4 h4 =>
 bnd (aC 0 v4 h4) fun v5 h5 =>
 bnd (aC 1 v4 h5) fun v6 h6 =>
 bnd (aC 2 v4 h6) fun v7 h7 =>
 bnd (aG 6 v2 v5 h7) fun _ h8 =>
 bnd (aK 6 v2 h8) fun v9 _ =>
 some (.t [v9, v6, v7], h8)
noncomputable abbrev c100 : Code := cf Tryz.f100
noncomputable abbrev r100 : K := aT CF Tryz.f100
noncomputable def D100 (r : RT) (n : Nat) (c : Code) (X : Nat → K) (k : K) : K := aM CF r 13 n c X r100 k
theorem dIx : D100 r n c100 x0 r100 = (K2 (s100 r n) 0 1) :=
 (by kernel_rfl)
theorem dAj : aF CF r n 100 args h = s100 r n (aQ args 0) (aQ args 1) h :=
 (by kernel_rfl : aF CF r n 100 args h = D100 r n c100 x0 r100 (aJ args) h).trans ((congrFun (congrFun (dIx r n) (aJ args)) h).trans (by kernel_rfl))
noncomputable def s101 (r : RT) (n : Nat) (x0 x1 x2 : DV) (h0 : Hp) : aI :=
 bnd (bQ x2 h0) fun v1 h1 =>
 bnd (aK 6 v1 h1) fun v2 h2 =>
 bnd (r 113 [x0, x1, v2] h2) fun v3 h3 =>
 bnd (aC 0 v3 h3) fun v4 h4 =>
 bnd (aC 1 v3 h4) fun v5 h5 =>
 bnd (aD .neq v5 (aE 0) h5) fun v6 h6 =>
 aP v6 (
 some (.t [(aE 0), v5], h6)) (
 bnd (r 51 [x0, v4, (aE 0)] h6) fun v7 h7 =>
 bnd (r 114 [x0, x1, v7, v4] h7) fun v8 h8 =>
 bnd (aD .neq v8 (aE 0) h8) fun v9 h9 =>
 aP v9 (
 some (.t [(aE 0), v8], h9)) (
 some (.t [v4, (aE 0)], h9)))
noncomputable abbrev c101 : Code := cf Tryz.f101
noncomputable abbrev r101 : K := aT CF Tryz.f101
noncomputable def D101 (r : RT) (n : Nat) (c : Code) (X : Nat → K) (k : K) : K := aM CF r 32 n c X r101 k
theorem dHr : D101 r n c101 x0 r101 = (K3 (s101 r n) 0 1 2) :=
 (by kernel_rfl)
theorem cUn : aF CF r n 101 args h = s101 r n (aQ args 0) (aQ args 1) (aQ args 2) h :=
 (by kernel_rfl : aF CF r n 101 args h = D101 r n c101 x0 r101 (aJ args) h).trans ((congrFun (congrFun (dHr r n) (aJ args)) h).trans (by kernel_rfl))
noncomputable def s110 (r : RT) (n : Nat) (x0 x1 : DV) (h0 : Hp) : aI :=
 bnd (bK gS h0) fun v1 h1 =>
 bnd (r 117 [x0] h1) fun v2 h2 =>
 bnd (aC 0 v2 h2) fun v3 h3 =>
 bnd (aC 1 v2 h3) fun v4 h4 =>
 bnd (aC 2 v2 h4) fun v5 h5 =>
 bnd (aD .neq v5 (aE 0) h5) fun v6 h6 =>
 aP v6 (
 bnd (bB gS [] h6) fun v7 h7 =>
 bnd (aG 6 v1 v7 h7) fun _ h8 =>
 bnd (aK 6 v1 h8) fun v9 _ =>
 some (.t [v9, v4, v5], h8)) (
 bnd (bB [.l0, (aE 0), (aE 0), (aE 0)] [(0, 1, v3)] h6) fun v10 h10 =>
 bnd (bQ v10 h10) fun v11 h11 =>
 bnd (cP CF r x1 [v11] h11) fun v12 h12 =>
 bnd (bK gS h12) fun v13 h13 =>
 bnd (aG 6 v13 v12 h13) fun _ h14 =>
 bnd (r 118 [v11] h14) fun v15 h15 =>
 bnd (aB 4 v13 h15) fun v16 h16 =>
 bnd (aG 1 v16 v15 h16) fun _ h17 =>
 bnd (r 119 [v11] h17) fun v18 h18 =>
 bnd (aB 5 v13 h18) fun v19 h19 =>
 bnd (aG 1 v19 v18 h19) fun _ h20 =>
 bnd (r 120 [v11, (aE 0), (.s [])] h20) fun v21 h21 =>
 bnd (aS v11 h21) fun v22 h22 =>
 bnd (aB 3 v22 h22) fun v23 h23 =>
 bnd (aA v23 h23) fun v24 h24 =>
 bnd (aD .neq v24 (aE 0) h24) fun v25 h25 =>
 aP v25 (
 bnd (bB gS [] h25) fun v26 h26 =>
 bnd (aS v11 h26) fun v27 h27 =>
 bnd (aB 2 v27 h27) fun v28 h28 =>
 bnd (aA v28 h28) fun v29 h29 =>
 bnd (aS v11 h29) fun v30 h30 =>
 bnd (aB 3 v30 h30) fun v31 h31 =>
 bnd (aA v31 h31) fun v32 h32 =>
 bnd (aG 6 v1 v26 h32) fun v33 h33 =>
 cnd (bL (aA v31 h33) v32 && (bL (aA v28 h33) v29 && true)) (
 bnd (aK 6 v1 h33) fun v34 _ =>
 some (.t [v34, v29, v32], h33))) (
 bnd (aK 6 v13 h25) fun v35 h35 =>
 bnd (aG 6 v1 v35 h35) fun _ h36 =>
 bnd (aK 6 v1 h36) fun v37 _ =>
 some (.t [v37, (aE 0), (aE 0)], h36)))
noncomputable abbrev c110 : Code := cf Tryz.f110
noncomputable abbrev r110 : K := aT CF Tryz.f110
noncomputable def D110 (r : RT) (n : Nat) (c : Code) (X : Nat → K) (k : K) : K := aM CF r 52 n c X r110 k
theorem dIv : D110 r n c110 x0 r110 = (K2 (s110 r n) 0 1) :=
 (by kernel_rfl)
theorem dCp : aF CF r n 110 args h = s110 r n (aQ args 0) (aQ args 1) h :=
 (by kernel_rfl : aF CF r n 110 args h = D110 r n c110 x0 r110 (aJ args) h).trans ((congrFun (congrFun (dIv r n) (aJ args)) h).trans (by kernel_rfl))
noncomputable def s111 (r : RT) (n : Nat) (x0 : DV) (h0 : Hp) : aI :=
 bnd (bK gS h0) fun v1 h1 =>
 bnd (bB gS [(0, 1, (aE 11))] h1) fun v2 h2 =>
 bnd (bK gS h2) fun v3 h3 =>
 bnd (aG 6 v3 v2 h3) fun _ h4 =>
 bnd (r 121 [x0, v3] h4) fun v5 h5 =>
 bnd (r 122 [x0] h5) fun v6 h6 =>
 bnd (aB 2 v3 h6) fun v7 h7 =>
 bnd (aG 1 v7 v6 h7) fun _ h8 =>
 bnd (aK 6 v3 h8) fun v9 h9 =>
 bnd (aG 6 v1 v9 h9) fun _ h10 =>
 bnd (aK 6 v1 h10) fun v11 _ =>
 some (v11, h10)
noncomputable abbrev c111 : Code := cf Tryz.f111
noncomputable abbrev r111 : K := aT CF Tryz.f111
noncomputable def D111 (r : RT) (n : Nat) (c : Code) (X : Nat → K) (k : K) : K := aM CF r 11 n c X r111 k
theorem dGr : D111 r n c111 x0 r111 = (K1 (s111 r n) 0) :=
 (by kernel_rfl)
theorem cUk : aF CF r n 111 args h = s111 r n (aQ args 0) h :=
 (by kernel_rfl : aF CF r n 111 args h = D111 r n c111 x0 r111 (aJ args) h).trans ((congrFun (congrFun (dGr r n) (aJ args)) h).trans (by kernel_rfl))
noncomputable def eG (r : RT) (n : Nat) (x6 x9 : DV) (h0 : Hp) : aI :=
 bnd (aS x9 h0) fun v1 h1 =>
 bnd (aB 0 v1 h1) fun v2 h2 =>
 bnd (aK 6 v2 h2) fun v3 h3 =>
 bnd (aG 6 x6 v3 h3) fun _ h4 =>
 bnd (aK 6 x6 h4) fun v5 _ =>
 some (.t [v5, (.s []), (aE 0)], h4)
noncomputable def aAs (r : RT) (n : Nat) (kk9 : cD) (x6 x9 x94 x95 x96 : DV) (h0 : Hp) : aI :=
 bnd (aD .lss x96 x95 h0) fun v1 h1 =>
 aP v1 (
 bnd (aH 3 x94 x96 h1) fun v2 h2 =>
 bnd (aK 3 v2 h2) fun v3 h3 =>
 bnd (bK [(aE 0), (aE 0), (aE 0)] h3) fun v4 h4 =>
 bnd (aG 3 v4 v3 h4) fun _ h5 =>
 bnd (aK 3 v4 h5) fun v6 h6 =>
 bnd (r 124 [v6] h6) fun v7 h7 =>
 bnd (fZ .not v7 h7) fun v8 h8 =>
 aP v8 (
 bnd (bB [(.s []), (aE 0), (aE 0), (aE 0), .l0, .l0] [] h8) fun v9 h9 =>
 bnd (aG 6 x6 v9 h9) fun _ h10 =>
 bnd (aK 6 x6 h10) fun v11 _ =>
 some (.t [v11, (.s []), (aE 12)], h10)) (
 bnd (aD .add x96 (aE 1) h8) fun v12 h12 =>
    kk9 x6 x9 x94 x95 v12 h12)) (
      eG r n x6 x9 h1)
noncomputable def uI (r : RT) (n : Nat) (m : Nat) : cD :=
 Nat.rec (motive := fun _ => cD) (fun _ _ _ _ _ _ => none) (fun _ ih => aAs r n ih) m
noncomputable def bTj (r : RT) (n : Nat) : cD := uI r n n
noncomputable def aSp (r : RT) (n : Nat) (x6 x9 x94 x95 x96 : DV) (h0 : Hp) : aI :=
 bTj r n x6 x9 x94 x95 x96 h0
noncomputable def wX (r : RT) (n : Nat) (x6 x9 : DV) (h0 : Hp) : aI :=
 bnd (aS x9 h0) fun v1 h1 =>
 bnd (aB 0 v1 h1) fun v2 h2 =>
 bnd (aB 5 v2 h2) fun v3 h3 =>
 bnd (aA v3 h3) fun v4 h4 =>
 bnd (bW v4 h4) fun v5 h5 =>
  aSp r n x6 x9 v4 v5 (aE 0) h5
noncomputable def aJd (r : RT) (n : Nat) (x6 x9 : DV) (h0 : Hp) : aI :=
 bnd (aS x9 h0) fun v1 h1 =>
 bnd (aB 8 v1 h1) fun v2 h2 =>
 bnd (aA v2 h2) fun v3 h3 =>
 bnd (aD .neq v3 (aE 0) h3) fun v4 h4 =>
 aP v4 (
 bnd (bB [(.s []), (aE 0), (aE 0), (aE 0), .l0, .l0] [] h4) fun v5 h5 =>
 bnd (aS x9 h5) fun v6 h6 =>
 bnd (aB 7 v6 h6) fun v7 h7 =>
 bnd (aA v7 h7) fun v8 h8 =>
 bnd (aS x9 h8) fun v9 h9 =>
 bnd (aB 8 v9 h9) fun v10 h10 =>
 bnd (aA v10 h10) fun v11 h11 =>
 bnd (aG 6 x6 v5 h11) fun v12 h12 =>
 cnd (bL (aA v10 h12) v11 && (bL (aA v7 h12) v8 && true)) (
 bnd (aK 6 x6 h12) fun v13 _ =>
 some (.t [v13, v8, v11], h12))) (
 bnd (aS x9 h4) fun v14 h14 =>
 bnd (aB 0 v14 h14) fun v15 h15 =>
 bnd (aB 4 v15 h15) fun v16 h16 =>
 bnd (aA v16 h16) fun v17 h17 =>
 bnd (bW v17 h17) fun v18 h18 =>
 bnd (aD .gtr v18 (aE 60) h18) fun v19 h19 =>
 aP v19 (
 bnd (bB [(.s []), (aE 0), (aE 0), (aE 0), .l0, .l0] [] h19) fun v20 h20 =>
 bnd (aG 6 x6 v20 h20) fun _ h21 =>
 bnd (aK 6 x6 h21) fun v22 _ =>
 some (.t [v22, (.s []), (aE 18)], h21)) (
 bnd (aS x9 h19) fun v23 h23 =>
 bnd (aB 0 v23 h23) fun v24 h24 =>
 bnd (aB 5 v24 h24) fun v25 h25 =>
 bnd (aA v25 h25) fun v26 h26 =>
 bnd (bW v26 h26) fun v27 h27 =>
 bnd (aD .gtr v27 (aE 400) h27) fun v28 h28 =>
 aP v28 (
 bnd (bB [(.s []), (aE 0), (aE 0), (aE 0), .l0, .l0] [] h28) fun v29 h29 =>
 bnd (aG 6 x6 v29 h29) fun _ h30 =>
 bnd (aK 6 x6 h30) fun v31 _ =>
 some (.t [v31, (.s []), (aE 12)], h30)) (
    wX r n x6 x9 h28)))
noncomputable def eD (r : RT) (n : Nat) (x2 x3 x6 x9 : DV) (h0 : Hp) : aI :=
 bnd (aK 6 x3 h0) fun v1 h1 =>
 bnd (r 123 [x9, v1, x2] h1) fun v2 h2 =>
  aJd r n x6 x9 h2
noncomputable def vZ (r : RT) (n : Nat) (kk11 : TT7) (x2 x3 x6 x9 x33 x34 x35 : DV) (h0 : Hp) : aI :=
 bnd (aD .lss x35 x34 h0) fun v1 h1 =>
 aP v1 (
 bnd (aH 1 x33 x35 h1) fun v2 h2 =>
 bnd (aA v2 h2) fun v3 h3 =>
 bnd (aS x9 h3) fun v4 h4 =>
 bnd (aB 6 v4 h4) fun v5 h5 =>
 bnd (aA v5 h5) fun v6 h6 =>
 bnd (bB [(.s []), (.b false), (.b false), (aE 0)] [(0, 1, v3), (1, 1, (.b true)), (2, 1, (.b false)), (3, 1, x35)] h6) fun v7 h7 =>
 bnd (aL [(.s []), (.b false), (.b false), (aE 0)] 1 [(0, 4, v7)] h7) fun v8 h8 =>
 bnd (aZ 4 32 v6 v8 h8) fun v9 h9 =>
 bnd (aS x9 h9) fun v10 h10 =>
 bnd (aB 6 v10 h10) fun v11 h11 =>
 bnd (aG 1 v11 v9 h11) fun _ h12 =>
 bnd (aD .add x35 (aE 1) h12) fun v13 h13 =>
      kk11 x2 x3 x6 x9 x33 x34 v13 h13) (
      eD r n x2 x3 x6 x9 h1)
noncomputable def pF (r : RT) (n : Nat) (m : Nat) : TT7 :=
 Nat.rec (motive := fun _ => TT7) (fun _ _ _ _ _ _ _ _ => none) (fun _ ih => vZ r n ih) m
noncomputable def aWq (r : RT) (n : Nat) : TT7 := pF r n n
noncomputable def aEc (r : RT) (n : Nat) (x2 x3 x6 x9 x33 x34 x35 : DV) (h0 : Hp) : aI :=
 aWq r n x2 x3 x6 x9 x33 x34 x35 h0
noncomputable def xX (r : RT) (n : Nat) (x1 x2 x3 x6 x9 : DV) (h0 : Hp) : aI :=
 bnd (bW x1 h0) fun v1 h1 =>
  aEc r n x2 x3 x6 x9 x1 v1 (aE 0) h1
noncomputable def qM (r : RT) (n : Nat) (x1 x2 x3 x6 : DV) (h0 : Hp) : aI :=
 bnd (aB 1 x3 h0) fun v1 h1 =>
 bnd (aA v1 h1) fun v2 h2 =>
 bnd (aB 3 x3 h2) fun v3 h3 =>
 bnd (aA v3 h3) fun v4 h4 =>
 bnd (bW v4 h4) fun v5 h5 =>
 bnd (aB 2 x3 h5) fun v6 h6 =>
 bnd (aA v6 h6) fun v7 h7 =>
 bnd (bB [(.s []), (aE 0), (aE 0), (aE 0), .l0, .l0] [(0, 1, v2), (1, 1, v5), (3, 1, v7)] h7) fun v8 h8 =>
 bnd (bB [(.s []), (aE 0), (aE 0), (aE 0), .l0, .l0, .l0, (.s []), (aE 0)] [(0, 6, v8)] h8) fun v9 h9 =>
 bnd (bQ v9 h9) fun v10 h10 =>
  xX r n x1 x2 x3 x6 v10 h10
noncomputable def qJ (r : RT) (n : Nat) (x1 x2 x3 x6 : DV) (h0 : Hp) : aI :=
 bnd (aB 0 x3 h0) fun v1 h1 =>
 bnd (aA v1 h1) fun v2 h2 =>
 bnd (aD .neq v2 (aE 11) h2) fun v3 h3 =>
 bnd (gD v3 false (some (x1, h3)) h3) fun v4 h4 =>
 bnd (gD v3 false (bW v4 h4) h4) fun v5 h5 =>
 bnd (gD v3 false (aD .gtr v5 (aE 8) h5) h5) fun v6 h6 =>
 bnd (aO v3 (.b true) v6 h6) fun v7 h7 =>
 aP v7 (
 bnd (bB [(.s []), (aE 0), (aE 0), (aE 0), .l0, .l0] [] h7) fun v8 h8 =>
 bnd (aG 6 x6 v8 h8) fun _ h9 =>
 bnd (aK 6 x6 h9) fun v10 _ =>
 some (.t [v10, (.s []), (aE 1)], h9)) (
  qM r n x1 x2 x3 x6 h7)
noncomputable def s112 (r : RT) (n : Nat) (x0 x1 x2 : DV) (h0 : Hp) : aI :=
 bnd (bQ x0 h0) fun v1 h1 =>
 bnd (bK [(.s []), (aE 0), (aE 0), (aE 0), .l0, .l0] h1) fun v2 h2 =>
  qJ r n x1 x2 v1 v2 h2
noncomputable abbrev c112 : Code := cf Tryz.f112
noncomputable abbrev aDo : Code := cR c112
noncomputable abbrev aJg : Code := cR aDo
noncomputable abbrev aJt : Code := cR aJg
noncomputable abbrev aIk : Code := cR aJt
noncomputable abbrev aFm : Code := cR aIk
noncomputable abbrev aKg : Code := cR aFm
noncomputable abbrev cVx : Code := cR aKg
noncomputable abbrev wJ : Code := cL aKg
noncomputable abbrev aPv : Code := cR wJ
noncomputable abbrev tI : Code := cL aPv
noncomputable abbrev jH : Code := cL tI
noncomputable abbrev bBy : Code := cL wJ
noncomputable abbrev aIy : Code := cL aFm
noncomputable abbrev aVi : Code := cL aIk
noncomputable abbrev pG : Code := cL aJt
noncomputable abbrev aBs : Code := cR pG
noncomputable abbrev sZ : Code := cL aBs
noncomputable abbrev jJ : Code := cL sZ
noncomputable abbrev aZb : Code := cL pG
noncomputable abbrev aGw : Code := cL aJg
noncomputable abbrev aKm : Code := cL aDo
noncomputable abbrev aBi : Code := cL c112
noncomputable abbrev r112 : K := aT CF Tryz.f112
noncomputable def D112 (r : RT) (n : Nat) (c : Code) (X : Nat → K) (k : K) : K := aM CF r 109 n c X r112 k
theorem cPy : D112 r n cVx x0 r112 = (K2 (eG r n) 6 9) :=
 (by kernel_rfl)
theorem bQl (kk9 : cD) (q0 : gF) : D112 r n jH (xs x0 3 (K2 q0 6 9)) (K5 kk9 6 9 94 95 96) = fun (env : aY) (h : Hp) =>
 bnd (aD .lss (env 96) (env 95) h) fun v1 h1 =>
 aP v1 (
 bnd (aH 3 (env 94) (env 96) h1) fun v2 h2 =>
 bnd (aK 3 v2 h2) fun v3 h3 =>
 bnd (bK [(aE 0), (aE 0), (aE 0)] h3) fun v4 h4 =>
 bnd (aG 3 v4 v3 h4) fun _ h5 =>
 bnd (aK 3 v4 h5) fun v6 h6 =>
 bnd (r 124 [v6] h6) fun v7 h7 =>
 bnd (fZ .not v7 h7) fun v8 h8 =>
 aP v8 (
 bnd (bB [(.s []), (aE 0), (aE 0), (aE 0), .l0, .l0] [] h8) fun v9 h9 =>
 bnd (aG 6 (env 6) v9 h9) fun _ h10 =>
 bnd (aK 6 (env 6) h10) fun v11 _ =>
 some (.t [v11, (.s []), (aE 12)], h10)) (
 bnd (aD .add (env 96) (aE 1) h8) fun v12 h12 =>
    kk9 (env 6) (env 9) (env 94) (env 95) v12 h12)) (
      q0 (env 6) (env 9) h1) := by kernel_rfl
theorem bEc (kk9 : cD) : (fun (env : aY) (h : Hp) =>
 bnd (aD .lss (env 96) (env 95) h) fun v1 h1 =>
 aP v1 (
 bnd (aH 3 (env 94) (env 96) h1) fun v2 h2 =>
 bnd (aK 3 v2 h2) fun v3 h3 =>
 bnd (bK [(aE 0), (aE 0), (aE 0)] h3) fun v4 h4 =>
 bnd (aG 3 v4 v3 h4) fun _ h5 =>
 bnd (aK 3 v4 h5) fun v6 h6 =>
 bnd (r 124 [v6] h6) fun v7 h7 =>
 bnd (fZ .not v7 h7) fun v8 h8 =>
 aP v8 (
 bnd (bB [(.s []), (aE 0), (aE 0), (aE 0), .l0, .l0] [] h8) fun v9 h9 =>
 bnd (aG 6 (env 6) v9 h9) fun _ h10 =>
 bnd (aK 6 (env 6) h10) fun v11 _ =>
 some (.t [v11, (.s []), (aE 12)], h10)) (
 bnd (aD .add (env 96) (aE 1) h8) fun v12 h12 =>
    kk9 (env 6) (env 9) (env 94) (env 95) v12 h12)) (
      eG r n (env 6) (env 9) h1)) = (K5 (aAs r n kk9) 6 9 94 95 96) := by kernel_rfl
theorem cCi (kk9 : cD) : D112 r n jH (xs x0 3 (K2 (eG r n) 6 9)) (K5 kk9 6 9 94 95 96) = (K5 (aAs r n kk9) 6 9 94 95 96) :=
 (bQl r n kk9 (eG r n)).trans (bEc r n kk9)
theorem bUn (m : Nat) : aN (fun kk => D112 r n jH (xs x0 3 (K2 (eG r n) 6 9)) kk) m = (K5 (uI r n m) 6 9 94 95 96) := by
 induction m with
 | zero => exact (by kernel_rfl : aN (fun kk => D112 r n jH (xs x0 3 (K2 (eG r n) 6 9)) kk) 0 = (K5 (uI r n 0) 6 9 94 95 96))
 | succ m ih =>
  refine (by kernel_rfl : aN (fun kk => D112 r n jH (xs x0 3 (K2 (eG r n) 6 9)) kk) (m + 1) = D112 r n jH (xs x0 3 (K2 (eG r n) 6 9)) (aN (fun kk => D112 r n jH (xs x0 3 (K2 (eG r n) 6 9)) kk) m)).trans ?_
  rw [ih]
  exact (cCi r n (uI r n m)).trans (by kernel_rfl)
theorem cPs : D112 r n tI (xs x0 3 (K2 (eG r n) 6 9)) (K2 (eG r n) 6 9) = (K5 (bTj r n) 6 9 94 95 96) :=
 (by kernel_rfl : D112 r n tI (xs x0 3 (K2 (eG r n) 6 9)) (K2 (eG r n) 6 9) = aN (fun kk => D112 r n jH (xs x0 3 (K2 (eG r n) 6 9)) kk) n).trans ((bUn r n n).trans (by kernel_rfl))
theorem cDo : D112 r n aPv x0 (K2 (eG r n) 6 9) = (K5 (aSp r n) 6 9 94 95 96) :=
 (by kernel_rfl : D112 r n aPv x0 (K2 (eG r n) 6 9) = D112 r n tI (xs x0 3 (K2 (eG r n) 6 9)) (K2 (eG r n) 6 9)).trans
 ((cPs r n).trans (by kernel_rfl))
theorem bSb : D112 r n aKg x0 r112 = D112 r n wJ x0 (K2 (eG r n) 6 9) :=
 congrArg (fun k => D112 r n wJ x0 k) (cPy r n)
theorem bVb : D112 r n wJ x0 (K2 (eG r n) 6 9) = D112 r n bBy x0 (K5 (aSp r n) 6 9 94 95 96) :=
 congrArg (fun k => D112 r n bBy x0 k) (cDo r n)
theorem cCs : D112 r n aKg x0 r112 = (K2 (wX r n) 6 9) :=
 (bSb r n).trans
 ((bVb r n).trans
 ((by kernel_rfl)))
theorem bVr : D112 r n aFm x0 r112 = D112 r n aIy x0 (K2 (wX r n) 6 9) :=
 congrArg (fun k => D112 r n aIy x0 k) (cCs r n)
theorem cCe (q0 : gF) : D112 r n aIy x0 (K2 q0 6 9) = fun (env : aY) (h : Hp) =>
 bnd (aS (env 9) h) fun v1 h1 =>
 bnd (aB 8 v1 h1) fun v2 h2 =>
 bnd (aA v2 h2) fun v3 h3 =>
 bnd (aD .neq v3 (aE 0) h3) fun v4 h4 =>
 aP v4 (
 bnd (bB [(.s []), (aE 0), (aE 0), (aE 0), .l0, .l0] [] h4) fun v5 h5 =>
 bnd (aS (env 9) h5) fun v6 h6 =>
 bnd (aB 7 v6 h6) fun v7 h7 =>
 bnd (aA v7 h7) fun v8 h8 =>
 bnd (aS (env 9) h8) fun v9 h9 =>
 bnd (aB 8 v9 h9) fun v10 h10 =>
 bnd (aA v10 h10) fun v11 h11 =>
 bnd (aG 6 (env 6) v5 h11) fun v12 h12 =>
 cnd (bL (aA v10 h12) v11 && (bL (aA v7 h12) v8 && true)) (
 bnd (aK 6 (env 6) h12) fun v13 _ =>
 some (.t [v13, v8, v11], h12))) (
 bnd (aS (env 9) h4) fun v14 h14 =>
 bnd (aB 0 v14 h14) fun v15 h15 =>
 bnd (aB 4 v15 h15) fun v16 h16 =>
 bnd (aA v16 h16) fun v17 h17 =>
 bnd (bW v17 h17) fun v18 h18 =>
 bnd (aD .gtr v18 (aE 60) h18) fun v19 h19 =>
 aP v19 (
 bnd (bB [(.s []), (aE 0), (aE 0), (aE 0), .l0, .l0] [] h19) fun v20 h20 =>
 bnd (aG 6 (env 6) v20 h20) fun _ h21 =>
 bnd (aK 6 (env 6) h21) fun v22 _ =>
 some (.t [v22, (.s []), (aE 18)], h21)) (
 bnd (aS (env 9) h19) fun v23 h23 =>
 bnd (aB 0 v23 h23) fun v24 h24 =>
 bnd (aB 5 v24 h24) fun v25 h25 =>
 bnd (aA v25 h25) fun v26 h26 =>
 bnd (bW v26 h26) fun v27 h27 =>
 bnd (aD .gtr v27 (aE 400) h27) fun v28 h28 =>
 aP v28 (
 bnd (bB [(.s []), (aE 0), (aE 0), (aE 0), .l0, .l0] [] h28) fun v29 h29 =>
 bnd (aG 6 (env 6) v29 h29) fun _ h30 =>
 bnd (aK 6 (env 6) h30) fun v31 _ =>
 some (.t [v31, (.s []), (aE 12)], h30)) (
     q0 (env 6) (env 9) h28))) := by kernel_rfl
theorem bEi : (fun (env : aY) (h : Hp) =>
 bnd (aS (env 9) h) fun v1 h1 =>
 bnd (aB 8 v1 h1) fun v2 h2 =>
 bnd (aA v2 h2) fun v3 h3 =>
 bnd (aD .neq v3 (aE 0) h3) fun v4 h4 =>
 aP v4 (
 bnd (bB [(.s []), (aE 0), (aE 0), (aE 0), .l0, .l0] [] h4) fun v5 h5 =>
 bnd (aS (env 9) h5) fun v6 h6 =>
 bnd (aB 7 v6 h6) fun v7 h7 =>
 bnd (aA v7 h7) fun v8 h8 =>
 bnd (aS (env 9) h8) fun v9 h9 =>
 bnd (aB 8 v9 h9) fun v10 h10 =>
 bnd (aA v10 h10) fun v11 h11 =>
 bnd (aG 6 (env 6) v5 h11) fun v12 h12 =>
 cnd (bL (aA v10 h12) v11 && (bL (aA v7 h12) v8 && true)) (
 bnd (aK 6 (env 6) h12) fun v13 _ =>
 some (.t [v13, v8, v11], h12))) (
 bnd (aS (env 9) h4) fun v14 h14 =>
 bnd (aB 0 v14 h14) fun v15 h15 =>
 bnd (aB 4 v15 h15) fun v16 h16 =>
 bnd (aA v16 h16) fun v17 h17 =>
 bnd (bW v17 h17) fun v18 h18 =>
 bnd (aD .gtr v18 (aE 60) h18) fun v19 h19 =>
 aP v19 (
 bnd (bB [(.s []), (aE 0), (aE 0), (aE 0), .l0, .l0] [] h19) fun v20 h20 =>
 bnd (aG 6 (env 6) v20 h20) fun _ h21 =>
 bnd (aK 6 (env 6) h21) fun v22 _ =>
 some (.t [v22, (.s []), (aE 18)], h21)) (
 bnd (aS (env 9) h19) fun v23 h23 =>
 bnd (aB 0 v23 h23) fun v24 h24 =>
 bnd (aB 5 v24 h24) fun v25 h25 =>
 bnd (aA v25 h25) fun v26 h26 =>
 bnd (bW v26 h26) fun v27 h27 =>
 bnd (aD .gtr v27 (aE 400) h27) fun v28 h28 =>
 aP v28 (
 bnd (bB [(.s []), (aE 0), (aE 0), (aE 0), .l0, .l0] [] h28) fun v29 h29 =>
 bnd (aG 6 (env 6) v29 h29) fun _ h30 =>
 bnd (aK 6 (env 6) h30) fun v31 _ =>
 some (.t [v31, (.s []), (aE 12)], h30)) (
     wX r n (env 6) (env 9) h28)))) = (K2 (aJd r n) 6 9) := by kernel_rfl
theorem cIp : D112 r n aFm x0 r112 = (K2 (aJd r n) 6 9) :=
 (bVr r n).trans
 ((cCe r n (wX r n)).trans (bEi r n))
theorem bWj : D112 r n aIk x0 r112 = D112 r n aVi x0 (K2 (aJd r n) 6 9) :=
 congrArg (fun k => D112 r n aVi x0 k) (cIp r n)
theorem cJy : D112 r n aIk x0 r112 = (K4 (eD r n) 2 3 6 9) :=
 (bWj r n).trans
 ((by kernel_rfl))
theorem bEx (kk11 : TT7) (q0 : dQ) : D112 r n jJ (xs x0 0 (K4 q0 2 3 6 9)) (K7 kk11 2 3 6 9 33 34 35) = fun (env : aY) (h : Hp) =>
 bnd (aD .lss (env 35) (env 34) h) fun v1 h1 =>
 aP v1 (
 bnd (aH 1 (env 33) (env 35) h1) fun v2 h2 =>
 bnd (aA v2 h2) fun v3 h3 =>
 bnd (aS (env 9) h3) fun v4 h4 =>
 bnd (aB 6 v4 h4) fun v5 h5 =>
 bnd (aA v5 h5) fun v6 h6 =>
 bnd (bB [(.s []), (.b false), (.b false), (aE 0)] [(0, 1, v3), (1, 1, (.b true)), (2, 1, (.b false)), (3, 1, (env 35))] h6) fun v7 h7 =>
 bnd (aL [(.s []), (.b false), (.b false), (aE 0)] 1 [(0, 4, v7)] h7) fun v8 h8 =>
 bnd (aZ 4 32 v6 v8 h8) fun v9 h9 =>
 bnd (aS (env 9) h9) fun v10 h10 =>
 bnd (aB 6 v10 h10) fun v11 h11 =>
 bnd (aG 1 v11 v9 h11) fun _ h12 =>
 bnd (aD .add (env 35) (aE 1) h12) fun v13 h13 =>
      kk11 (env 2) (env 3) (env 6) (env 9) (env 33) (env 34) v13 h13) (
      q0 (env 2) (env 3) (env 6) (env 9) h1) := by kernel_rfl
theorem aPx (kk11 : TT7) : (fun (env : aY) (h : Hp) =>
 bnd (aD .lss (env 35) (env 34) h) fun v1 h1 =>
 aP v1 (
 bnd (aH 1 (env 33) (env 35) h1) fun v2 h2 =>
 bnd (aA v2 h2) fun v3 h3 =>
 bnd (aS (env 9) h3) fun v4 h4 =>
 bnd (aB 6 v4 h4) fun v5 h5 =>
 bnd (aA v5 h5) fun v6 h6 =>
 bnd (bB [(.s []), (.b false), (.b false), (aE 0)] [(0, 1, v3), (1, 1, (.b true)), (2, 1, (.b false)), (3, 1, (env 35))] h6) fun v7 h7 =>
 bnd (aL [(.s []), (.b false), (.b false), (aE 0)] 1 [(0, 4, v7)] h7) fun v8 h8 =>
 bnd (aZ 4 32 v6 v8 h8) fun v9 h9 =>
 bnd (aS (env 9) h9) fun v10 h10 =>
 bnd (aB 6 v10 h10) fun v11 h11 =>
 bnd (aG 1 v11 v9 h11) fun _ h12 =>
 bnd (aD .add (env 35) (aE 1) h12) fun v13 h13 =>
      kk11 (env 2) (env 3) (env 6) (env 9) (env 33) (env 34) v13 h13) (
      eD r n (env 2) (env 3) (env 6) (env 9) h1)) = (K7 (vZ r n kk11) 2 3 6 9 33 34 35) := by kernel_rfl
theorem bFm (kk11 : TT7) : D112 r n jJ (xs x0 0 (K4 (eD r n) 2 3 6 9)) (K7 kk11 2 3 6 9 33 34 35) = (K7 (vZ r n kk11) 2 3 6 9 33 34 35) :=
 (bEx r n kk11 (eD r n)).trans (aPx r n kk11)
theorem bHn (m : Nat) : aN (fun kk => D112 r n jJ (xs x0 0 (K4 (eD r n) 2 3 6 9)) kk) m = (K7 (pF r n m) 2 3 6 9 33 34 35) := by
 induction m with
 | zero => exact (by kernel_rfl : aN (fun kk => D112 r n jJ (xs x0 0 (K4 (eD r n) 2 3 6 9)) kk) 0 = (K7 (pF r n 0) 2 3 6 9 33 34 35))
 | succ m ih =>
  refine (by kernel_rfl : aN (fun kk => D112 r n jJ (xs x0 0 (K4 (eD r n) 2 3 6 9)) kk) (m + 1) = D112 r n jJ (xs x0 0 (K4 (eD r n) 2 3 6 9)) (aN (fun kk => D112 r n jJ (xs x0 0 (K4 (eD r n) 2 3 6 9)) kk) m)).trans ?_
  rw [ih]
  exact (bFm r n (pF r n m)).trans (by kernel_rfl)
theorem bZm : D112 r n sZ (xs x0 0 (K4 (eD r n) 2 3 6 9)) (K4 (eD r n) 2 3 6 9) = (K7 (aWq r n) 2 3 6 9 33 34 35) :=
 (by kernel_rfl : D112 r n sZ (xs x0 0 (K4 (eD r n) 2 3 6 9)) (K4 (eD r n) 2 3 6 9) = aN (fun kk => D112 r n jJ (xs x0 0 (K4 (eD r n) 2 3 6 9)) kk) n).trans ((bHn r n n).trans (by kernel_rfl))
theorem cBz : D112 r n aBs x0 (K4 (eD r n) 2 3 6 9) = (K7 (aEc r n) 2 3 6 9 33 34 35) :=
 (by kernel_rfl : D112 r n aBs x0 (K4 (eD r n) 2 3 6 9) = D112 r n sZ (xs x0 0 (K4 (eD r n) 2 3 6 9)) (K4 (eD r n) 2 3 6 9)).trans
 ((bZm r n).trans (by kernel_rfl))
theorem bQg : D112 r n aJt x0 r112 = D112 r n pG x0 (K4 (eD r n) 2 3 6 9) :=
 congrArg (fun k => D112 r n pG x0 k) (cJy r n)
theorem bOw : D112 r n pG x0 (K4 (eD r n) 2 3 6 9) = D112 r n aZb x0 (K7 (aEc r n) 2 3 6 9 33 34 35) :=
 congrArg (fun k => D112 r n aZb x0 k) (cBz r n)
theorem cIo : D112 r n aJt x0 r112 = (K5 (xX r n) 1 2 3 6 9) :=
 (bQg r n).trans
 ((bOw r n).trans
 ((by kernel_rfl)))
theorem bFu : D112 r n aJg x0 r112 = D112 r n aGw x0 (K5 (xX r n) 1 2 3 6 9) :=
 congrArg (fun k => D112 r n aGw x0 k) (cIo r n)
theorem bFo (q0 : cD) : D112 r n aGw x0 (K5 q0 1 2 3 6 9) = fun (env : aY) (h : Hp) =>
 bnd (aB 1 (env 3) h) fun v1 h1 =>
 bnd (aA v1 h1) fun v2 h2 =>
 bnd (aB 3 (env 3) h2) fun v3 h3 =>
 bnd (aA v3 h3) fun v4 h4 =>
 bnd (bW v4 h4) fun v5 h5 =>
 bnd (aB 2 (env 3) h5) fun v6 h6 =>
 bnd (aA v6 h6) fun v7 h7 =>
 bnd (bB [(.s []), (aE 0), (aE 0), (aE 0), .l0, .l0] [(0, 1, v2), (1, 1, v5), (3, 1, v7)] h7) fun v8 h8 =>
 bnd (bB [(.s []), (aE 0), (aE 0), (aE 0), .l0, .l0, .l0, (.s []), (aE 0)] [(0, 6, v8)] h8) fun v9 h9 =>
 bnd (bQ v9 h9) fun v10 h10 =>
  q0 (env 1) (env 2) (env 3) (env 6) v10 h10 := by kernel_rfl
theorem aOi : (fun (env : aY) (h : Hp) =>
 bnd (aB 1 (env 3) h) fun v1 h1 =>
 bnd (aA v1 h1) fun v2 h2 =>
 bnd (aB 3 (env 3) h2) fun v3 h3 =>
 bnd (aA v3 h3) fun v4 h4 =>
 bnd (bW v4 h4) fun v5 h5 =>
 bnd (aB 2 (env 3) h5) fun v6 h6 =>
 bnd (aA v6 h6) fun v7 h7 =>
 bnd (bB [(.s []), (aE 0), (aE 0), (aE 0), .l0, .l0] [(0, 1, v2), (1, 1, v5), (3, 1, v7)] h7) fun v8 h8 =>
 bnd (bB [(.s []), (aE 0), (aE 0), (aE 0), .l0, .l0, .l0, (.s []), (aE 0)] [(0, 6, v8)] h8) fun v9 h9 =>
 bnd (bQ v9 h9) fun v10 h10 =>
  xX r n (env 1) (env 2) (env 3) (env 6) v10 h10) = (K4 (qM r n) 1 2 3 6) := by kernel_rfl
theorem cIu : D112 r n aJg x0 r112 = (K4 (qM r n) 1 2 3 6) :=
 (bFu r n).trans
 ((bFo r n (xX r n)).trans (aOi r n))
theorem bDz : D112 r n aDo x0 r112 = D112 r n aKm x0 (K4 (qM r n) 1 2 3 6) :=
 congrArg (fun k => D112 r n aKm x0 k) (cIu r n)
theorem bGj (q0 : dQ) : D112 r n aKm x0 (K4 q0 1 2 3 6) = fun (env : aY) (h : Hp) =>
 bnd (aB 0 (env 3) h) fun v1 h1 =>
 bnd (aA v1 h1) fun v2 h2 =>
 bnd (aD .neq v2 (aE 11) h2) fun v3 h3 =>
 bnd (gD v3 false (some ((env 1), h3)) h3) fun v4 h4 =>
 bnd (gD v3 false (bW v4 h4) h4) fun v5 h5 =>
 bnd (gD v3 false (aD .gtr v5 (aE 8) h5) h5) fun v6 h6 =>
 bnd (aO v3 (.b true) v6 h6) fun v7 h7 =>
 aP v7 (
 bnd (bB [(.s []), (aE 0), (aE 0), (aE 0), .l0, .l0] [] h7) fun v8 h8 =>
 bnd (aG 6 (env 6) v8 h8) fun _ h9 =>
 bnd (aK 6 (env 6) h9) fun v10 _ =>
 some (.t [v10, (.s []), (aE 1)], h9)) (
   q0 (env 1) (env 2) (env 3) (env 6) h7) := by kernel_rfl
theorem aTs : (fun (env : aY) (h : Hp) =>
 bnd (aB 0 (env 3) h) fun v1 h1 =>
 bnd (aA v1 h1) fun v2 h2 =>
 bnd (aD .neq v2 (aE 11) h2) fun v3 h3 =>
 bnd (gD v3 false (some ((env 1), h3)) h3) fun v4 h4 =>
 bnd (gD v3 false (bW v4 h4) h4) fun v5 h5 =>
 bnd (gD v3 false (aD .gtr v5 (aE 8) h5) h5) fun v6 h6 =>
 bnd (aO v3 (.b true) v6 h6) fun v7 h7 =>
 aP v7 (
 bnd (bB [(.s []), (aE 0), (aE 0), (aE 0), .l0, .l0] [] h7) fun v8 h8 =>
 bnd (aG 6 (env 6) v8 h8) fun _ h9 =>
 bnd (aK 6 (env 6) h9) fun v10 _ =>
 some (.t [v10, (.s []), (aE 1)], h9)) (
   qM r n (env 1) (env 2) (env 3) (env 6) h7)) = (K4 (qJ r n) 1 2 3 6) := by kernel_rfl
theorem cQf : D112 r n aDo x0 r112 = (K4 (qJ r n) 1 2 3 6) :=
 (bDz r n).trans
 ((bGj r n (qM r n)).trans (aTs r n))
theorem cNe : D112 r n c112 x0 r112 = D112 r n aBi x0 (K4 (qJ r n) 1 2 3 6) :=
 congrArg (fun k => D112 r n aBi x0 k) (cQf r n)
theorem cQh (q0 : dQ) : D112 r n aBi x0 (K4 q0 1 2 3 6) = fun (env : aY) (h : Hp) =>
 bnd (bQ (env 0) h) fun v1 h1 =>
 bnd (bK [(.s []), (aE 0), (aE 0), (aE 0), .l0, .l0] h1) fun v2 h2 =>
  q0 (env 1) (env 2) v1 v2 h2 := by kernel_rfl
theorem cBq : (fun (env : aY) (h : Hp) =>
 bnd (bQ (env 0) h) fun v1 h1 =>
 bnd (bK [(.s []), (aE 0), (aE 0), (aE 0), .l0, .l0] h1) fun v2 h2 =>
  qJ r n (env 1) (env 2) v1 v2 h2) = (K3 (s112 r n) 0 1 2) := by kernel_rfl
theorem dJm : D112 r n c112 x0 r112 = (K3 (s112 r n) 0 1 2) :=
 (cNe r n).trans
 ((cQh r n (qJ r n)).trans (cBq r n))
theorem cUe : aF CF r n 112 args h = s112 r n (aQ args 0) (aQ args 1) (aQ args 2) h :=
 (by kernel_rfl : aF CF r n 112 args h = D112 r n c112 x0 r112 (aJ args) h).trans ((congrFun (congrFun (dJm r n) (aJ args)) h).trans (by kernel_rfl))
noncomputable def s113 (r : RT) (n : Nat) (x0 x1 x2 : DV) (h0 : Hp) : aI :=
 bnd (bQ x2 h0) fun v1 h1 =>
 bnd (r 67 [x0, x1] h1) fun v2 h2 =>
 bnd (fZ .not v2 h2) fun v3 h3 =>
 aP v3 (
 some (.t [(aE 0), (aE 24)], h3)) (
 bnd (aK 6 v1 h3) fun v4 h4 =>
 bnd (r 37 [x0, x1] h4) fun v5 h5 =>
 cnd (bL (aK 6 v1 h5) v4 && true) (
 bnd (r 125 [v4, v5] h5) fun v6 h6 =>
 bnd (aD .neq v6 (aE 0) h6) fun v7 h7 =>
 aP v7 (
 some (.t [(aE 0), v6], h7)) (
 bnd (aB 0 v1 h7) fun v8 h8 =>
 bnd (aA v8 h8) fun v9 h9 =>
 bnd (r 44 [x0, v9] h9) fun v10 h10 =>
 bnd (aC 0 v10 h10) fun v11 h11 =>
 bnd (aC 1 v10 h11) fun v12 h12 =>
 bnd (aD .neq v12 (aE 0) h12) fun v13 h13 =>
 aP v13 (
 some (.t [(aE 0), v12], h13)) (
 bnd (aB 4 v1 h13) fun v14 h14 =>
 bnd (aA v14 h14) fun v15 h15 =>
 bnd (bB [(aE 0), (.s []), (aE 0), .l0] [(0, 1, (aE 4)), (3, 1, v15)] h15) fun v16 h16 =>
 bnd (r 126 [x0, v16] h16) fun v17 h17 =>
 bnd (aC 0 v17 h17) fun v18 h18 =>
 bnd (aC 1 v17 h18) fun v19 h19 =>
 bnd (aD .neq v19 (aE 0) h19) fun v20 h20 =>
 aP v20 (
 some (.t [(aE 0), v19], h20)) (
 bnd (aB 5 v1 h20) fun v21 h21 =>
 bnd (aA v21 h21) fun v22 h22 =>
 bnd (r 127 [v22] h22) fun v23 h23 =>
 bnd (aC 0 v23 h23) fun v24 h24 =>
 bnd (aC 1 v23 h24) fun v25 h25 =>
 bnd (r 128 [x0, v24] h25) fun v26 h26 =>
 bnd (aC 0 v26 h26) fun v27 h27 =>
 bnd (aC 1 v26 h27) fun v28 h28 =>
 bnd (aD .neq v28 (aE 0) h28) fun v29 h29 =>
 aP v29 (
 some (.t [(aE 0), v28], h29)) (
 bnd (r 30 [x0, (aE 14)] (resv 1 h29)) fun v30 h30 =>
 bnd (aB 1 v1 h30) fun v31 h31 =>
 bnd (aA v31 h31) fun v32 h32 =>
 cnd (bL (aA v31 (resv 1 h29)) v32 && true) (
 bnd (r 71 [v32] h32) fun v33 h33 =>
 bnd (aB 2 v1 h33) fun v34 h34 =>
 bnd (aA v34 h34) fun v35 h35 =>
 cnd (bL (aA v34 h30) v35 && (bL (aA v34 (resv 1 h29)) v35 && true)) (
 bnd (r 71 [v35] h35) fun v36 h36 =>
 bnd (aB 3 v1 h36) fun v37 h37 =>
 bnd (aA v37 h37) fun v38 h38 =>
 cnd (bL (aA v37 h33) v38 && (bL (aA v37 h30) v38 && (bL (aA v37 (resv 1 h29)) v38 && true))) (
 bnd (r 71 [v38] h38) fun v39 h39 =>
 bnd (bJ (bX 0 h29.next) [(aE 0), (aE 0), (aE 0), (aE 0), (aE 0), (aE 0), (aE 0)] 7 [(0, 1, v11), (1, 1, v33), (2, 1, v36), (3, 1, v39), (4, 1, v18), (5, 1, v27), (6, 1, x1)] h39) fun v40 h40 =>
 bnd (r 82 [x0, v30, (aE 0), v40] h40) fun v41 h41 =>
 bnd (aC 0 v41 h41) fun v42 h42 =>
 bnd (aC 1 v41 h42) fun v43 h43 =>
 some (.t [v42, v43], h43))))))))))
noncomputable abbrev c113 : Code := cf Tryz.f113
noncomputable abbrev r113 : K := aT CF Tryz.f113
noncomputable def D113 (r : RT) (n : Nat) (c : Code) (X : Nat → K) (k : K) : K := aM CF r 83 n c X r113 k
theorem dKp : D113 r n c113 x0 r113 = (K3 (s113 r n) 0 1 2) :=
 (by kernel_rfl)
theorem cZl : aF CF r n 113 args h = s113 r n (aQ args 0) (aQ args 1) (aQ args 2) h :=
 (by kernel_rfl : aF CF r n 113 args h = D113 r n c113 x0 r113 (aJ args) h).trans ((congrFun (congrFun (dKp r n) (aJ args)) h).trans (by kernel_rfl))
noncomputable def eU (r : RT) (n : Nat) (x0 x1 x3 : DV) (h0 : Hp) : aI :=
 bnd (r 51 [x0, x1, (aE 4)] h0) fun v1 h1 =>
 bnd (r 73 [x0, x3, v1] h1) fun v2 h2 =>
 bnd (aC 0 v2 h2) fun v3 h3 =>
 bnd (aC 1 v2 h3) fun v4 h4 =>
 bnd (aD .neq v4 (aE 0) h4) fun v5 h5 =>
 aP v5 (
 some (v4, h5)) (
 bnd (aS x0 h5) fun v6 h6 =>
 bnd (aB 0 v6 h6) fun v7 h7 =>
 bnd (aA v7 h7) fun v8 h8 =>
 bnd (zN [v8, x1, (aE 4), v3] h8) fun v9 h9 =>
 some (v9, h9))
noncomputable def aXl (r : RT) (n : Nat) (kk5 : fD) (x0 x1 x2 x3 x9 x10 : DV) (h0 : Hp) : aI :=
 bnd (aD .gtr x10 (aE 0) h0) fun v1 h1 =>
 bnd (gD v1 true (some (x0, h1)) h1) fun v2 h2 =>
 bnd (gD v1 true (aS v2 h2) h2) fun v3 h3 =>
 bnd (gD v1 true (aB 0 v3 h3) h3) fun v4 h4 =>
 bnd (gD v1 true (aA v4 h4) h4) fun v5 h5 =>
 bnd (gD v1 true (some (x9, h5)) h5) fun v6 h6 =>
 bnd (gD v1 true (isF [v5, v6] h6) h6) fun v7 h7 =>
 bnd (aO v1 v7 (.b false) h7) fun v8 h8 =>
 aP v8 (
 bnd (r 51 [x0, x9, (aE 0)] h8) fun v9 h9 =>
 bnd (r 51 [x0, v9, (aE 0)] h9) fun v10 h10 =>
 bnd (aD .eql v10 x2 h10) fun v11 h11 =>
 aP v11 (
 bnd (aS x0 h11) fun v12 h12 =>
 bnd (aB 0 v12 h12) fun v13 h13 =>
 bnd (aA v13 h13) fun v14 h14 =>
 bnd (zN [v14, x9, (aE 0), x3] h14) fun v15 h15 =>
 some (v15, h15)) (
 bnd (r 51 [x0, x9, (aE 1)] h11) fun v16 h16 =>
 bnd (aD .sub x10 (aE 1) h16) fun v17 h17 =>
    kk5 x0 x1 x2 x3 v16 v17 h17)) (
      eU r n x0 x1 x3 h8)
noncomputable def tC (r : RT) (n : Nat) (m : Nat) : fD :=
 Nat.rec (motive := fun _ => fD) (fun _ _ _ _ _ _ _ => none) (fun _ ih => aXl r n ih) m
noncomputable def bJx (r : RT) (n : Nat) : fD := tC r n n
noncomputable def aTy (r : RT) (n : Nat) (x0 x1 x2 x3 x9 x10 : DV) (h0 : Hp) : aI :=
 bJx r n x0 x1 x2 x3 x9 x10 h0
noncomputable def aSo (r : RT) (n : Nat) (x0 x1 x2 x3 x9 : DV) (h0 : Hp) : aI :=
 bnd (aS x0 h0) fun v1 h1 =>
 bnd (aB 0 v1 h1) fun v2 h2 =>
 bnd (aA v2 h2) fun v3 h3 =>
 bnd (aAk [v3] h3) fun v4 h4 =>
  aTy r n x0 x1 x2 x3 x9 v4 h4
noncomputable def aRt (r : RT) (n : Nat) (x0 x1 x2 x3 : DV) (h0 : Hp) : aI :=
 bnd (r 51 [x0, x1, (aE 4)] h0) fun v1 h1 =>
  aSo r n x0 x1 x2 x3 v1 h1
noncomputable def s114 (r : RT) (n : Nat) (x0 x1 x2 x3 : DV) (h0 : Hp) : aI :=
 aRt r n x0 x1 x2 x3 h0
noncomputable abbrev c114 : Code := cf Tryz.f114
noncomputable abbrev aEu : Code := cR c114
noncomputable abbrev aDg : Code := cR aEu
noncomputable abbrev cWl : Code := cR aDg
noncomputable abbrev xV : Code := cL aDg
noncomputable abbrev aSa : Code := cR xV
noncomputable abbrev aEx : Code := cL aSa
noncomputable abbrev nE : Code := cL aEx
noncomputable abbrev bSo : Code := cL xV
noncomputable abbrev bZe : Code := cL aEu
noncomputable abbrev bBf : Code := cL c114
noncomputable abbrev r114 : K := aT CF Tryz.f114
noncomputable def D114 (r : RT) (n : Nat) (c : Code) (X : Nat → K) (k : K) : K := aM CF r 69 n c X r114 k
theorem cLp : D114 r n cWl x0 r114 = (K3 (eU r n) 0 1 3) :=
 (by kernel_rfl)
theorem bRx (kk5 : fD) : D114 r n nE (xs x0 0 (K3 (eU r n) 0 1 3)) (K6 kk5 0 1 2 3 9 10) = (K6 (aXl r n kk5) 0 1 2 3 9 10) :=
 (by kernel_rfl)
theorem bMn (m : Nat) : aN (fun kk => D114 r n nE (xs x0 0 (K3 (eU r n) 0 1 3)) kk) m = (K6 (tC r n m) 0 1 2 3 9 10) := by
 induction m with
 | zero => exact (by kernel_rfl : aN (fun kk => D114 r n nE (xs x0 0 (K3 (eU r n) 0 1 3)) kk) 0 = (K6 (tC r n 0) 0 1 2 3 9 10))
 | succ m ih =>
  refine (by kernel_rfl : aN (fun kk => D114 r n nE (xs x0 0 (K3 (eU r n) 0 1 3)) kk) (m + 1) = D114 r n nE (xs x0 0 (K3 (eU r n) 0 1 3)) (aN (fun kk => D114 r n nE (xs x0 0 (K3 (eU r n) 0 1 3)) kk) m)).trans ?_
  rw [ih]
  exact (bRx r n (tC r n m)).trans (by kernel_rfl)
theorem cQl : D114 r n aEx (xs x0 0 (K3 (eU r n) 0 1 3)) (K3 (eU r n) 0 1 3) = (K6 (bJx r n) 0 1 2 3 9 10) :=
 (by kernel_rfl : D114 r n aEx (xs x0 0 (K3 (eU r n) 0 1 3)) (K3 (eU r n) 0 1 3) = aN (fun kk => D114 r n nE (xs x0 0 (K3 (eU r n) 0 1 3)) kk) n).trans ((bMn r n n).trans (by kernel_rfl))
theorem cIv : D114 r n aSa x0 (K3 (eU r n) 0 1 3) = (K6 (aTy r n) 0 1 2 3 9 10) :=
 (by kernel_rfl : D114 r n aSa x0 (K3 (eU r n) 0 1 3) = D114 r n aEx (xs x0 0 (K3 (eU r n) 0 1 3)) (K3 (eU r n) 0 1 3)).trans
 ((cQl r n).trans (by kernel_rfl))
theorem bKf : D114 r n aDg x0 r114 = D114 r n xV x0 (K3 (eU r n) 0 1 3) :=
 congrArg (fun k => D114 r n xV x0 k) (cLp r n)
theorem bTw : D114 r n xV x0 (K3 (eU r n) 0 1 3) = D114 r n bSo x0 (K6 (aTy r n) 0 1 2 3 9 10) :=
 congrArg (fun k => D114 r n bSo x0 k) (cIv r n)
theorem cEj : D114 r n aDg x0 r114 = (K5 (aSo r n) 0 1 2 3 9) :=
 (bKf r n).trans
 ((bTw r n).trans
 ((by kernel_rfl)))
theorem bUg : D114 r n aEu x0 r114 = D114 r n bZe x0 (K5 (aSo r n) 0 1 2 3 9) :=
 congrArg (fun k => D114 r n bZe x0 k) (cEj r n)
theorem cNq : D114 r n aEu x0 r114 = (K4 (aRt r n) 0 1 2 3) :=
 (bUg r n).trans
 ((by kernel_rfl))
theorem cXk : D114 r n c114 x0 r114 = D114 r n bBf x0 (K4 (aRt r n) 0 1 2 3) :=
 congrArg (fun k => D114 r n bBf x0 k) (cNq r n)
theorem dKa : D114 r n c114 x0 r114 = (K4 (s114 r n) 0 1 2 3) :=
 (cXk r n).trans
 ((by kernel_rfl))
theorem cYa : aF CF r n 114 args h = s114 r n (aQ args 0) (aQ args 1) (aQ args 2) (aQ args 3) h :=
 (by kernel_rfl : aF CF r n 114 args h = D114 r n c114 x0 r114 (aJ args) h).trans ((congrFun (congrFun (dKa r n) (aJ args)) h).trans (by kernel_rfl))
noncomputable def eQ (r : RT) (n : Nat) (x0 x6 : DV) (h0 : Hp) : aI :=
 bnd (dT x0 h0) fun v1 h1 =>
 bnd (bB [(aE 0), (.s []), (aE 0), (aE 0)] [(3, 1, v1)] h1) fun v2 h2 =>
 bnd (aL [(aE 0), (.s []), (aE 0), (aE 0)] 1 [(0, 4, v2)] h2) fun v3 h3 =>
 bnd (aZ 4 40 x6 v3 h3) fun v4 h4 =>
 some (.t [v4, (aE 0), (aE 0)], h4)
noncomputable def aDf (r : RT) (n : Nat) (kk7 : mM) (x0 x5 x6 : DV) (h0 : Hp) : aI :=
 bnd (r 130 [(.s [9, 10, 13, 32])] h0) fun v1 h1 =>
 bnd (dT x0 h1) fun v2 h2 =>
 bnd (r 129 [x5, v1, v2] h2) fun v3 h3 =>
 bnd (aS x5 h3) fun v4 h4 =>
 bnd (aB 1 v4 h4) fun v5 h5 =>
 bnd (aA v5 h5) fun v6 h6 =>
 bnd (dT x0 h6) fun v7 h7 =>
 bnd (aD .geq v6 v7 h7) fun v8 h8 =>
 aP v8 (
   eQ r n x0 x6 h8) (
 bnd (aS x5 h8) fun v9 h9 =>
 bnd (aB 1 v9 h9) fun v10 h10 =>
 bnd (aA v10 h10) fun v11 h11 =>
 bnd (fC x0 v11 h11) fun v12 h12 =>
 bnd (aD .eql v12 (.i .u8 (Int.ofNat 34)) h12) fun v13 h13 =>
 aP v13 (
 bnd (aS x5 h13) fun v14 h14 =>
 bnd (aB 1 v14 h14) fun v15 h15 =>
 bnd (aA v15 h15) fun v16 h16 =>
 bnd (aD .add v16 (aE 1) h16) fun v17 h17 =>
 bnd (fB x0 (some v17) none h17) fun v18 h18 =>
 bnd (r 131 [v18, (.i .u8 (Int.ofNat 34))] h18) fun v19 h19 =>
 bnd (aD .lss v19 (aE 0) h19) fun v20 h20 =>
 aP v20 (
 bnd (aS x5 h20) fun v21 h21 =>
 bnd (aB 1 v21 h21) fun v22 h22 =>
 bnd (aA v22 h22) fun v23 h23 =>
 some (.t [.l0, v23, (aE 11)], h23)) (
 bnd (aS x5 h20) fun v24 h24 =>
 bnd (aB 1 v24 h24) fun v25 h25 =>
 bnd (aA v25 h25) fun v26 h26 =>
 bnd (aD .add v19 (aE 2) h26) fun v27 h27 =>
 bnd (aD .add v26 v27 h27) fun v28 h28 =>
 bnd (aS x5 h28) fun v29 h29 =>
 bnd (aB 1 v29 h29) fun v30 h30 =>
 bnd (aG 1 v30 v28 h30) fun _ h31 =>
     kk7 x0 x5 x6 h31)) (
 bnd (r 132 [x5] h13) fun v32 h32 =>
 bnd (aC 0 v32 h32) fun v33 h33 =>
 bnd (aC 1 v32 h33) fun v34 h34 =>
 bnd (bK [(aE 0), (.s []), (aE 0), (aE 0)] h34) fun v35 h35 =>
 bnd (aG 4 v35 v33 h35) fun _ h36 =>
 bnd (aD .neq v34 (aE 0) h36) fun v37 h37 =>
 aP v37 (
 bnd (aB 3 v35 h37) fun v38 h38 =>
 bnd (aA v38 h38) fun v39 h39 =>
 some (.t [.l0, v39, v34], h39)) (
 bnd (aK 4 v35 h37) fun v40 h40 =>
 bnd (aL [(aE 0), (.s []), (aE 0), (aE 0)] 1 [(0, 4, v40)] h40) fun v41 h41 =>
 bnd (aZ 4 40 x6 v41 h41) fun v42 h42 =>
     kk7 x0 x5 v42 h42)))
noncomputable def uC (r : RT) (n : Nat) (m : Nat) : mM :=
 Nat.rec (motive := fun _ => mM) (fun _ _ _ _ => none) (fun _ ih => aDf r n ih) m
noncomputable def cBf (r : RT) (n : Nat) : mM := uC r n n
noncomputable def aOl (r : RT) (n : Nat) (x0 x5 x6 : DV) (h0 : Hp) : aI :=
 cBf r n x0 x5 x6 h0
noncomputable def aRq (r : RT) (n : Nat) (x0 x5 x6 : DV) (h0 : Hp) : aI :=
 aOl r n x0 x5 x6 h0
noncomputable def yB (r : RT) (n : Nat) (x0 x5 : DV) (h0 : Hp) : aI :=
 aRq r n x0 x5 .l0 h0
noncomputable def aEf (r : RT) (n : Nat) (x0 : DV) (h0 : Hp) : aI :=
 bnd (bB [(.s []), (aE 0)] [(0, 1, x0)] h0) fun v1 h1 =>
 bnd (bQ v1 h1) fun v2 h2 =>
  yB r n x0 v2 h2
noncomputable def aPc (r : RT) (n : Nat) (x0 : DV) (h0 : Hp) : aI :=
 bnd (dT x0 h0) fun v1 h1 =>
 bnd (aD .gtr v1 (aE 2000) h1) fun v2 h2 =>
 aP v2 (
 some (.t [.l0, (aE 0), (aE 12)], h2)) (
  aEf r n x0 h2)
noncomputable def s117 (r : RT) (n : Nat) (x0 : DV) (h0 : Hp) : aI :=
 aPc r n x0 h0
noncomputable abbrev c117 : Code := cf Tryz.f117
noncomputable abbrev aPz : Code := cR c117
noncomputable abbrev aHh : Code := cL aPz
noncomputable abbrev aHk : Code := cR aHh
noncomputable abbrev aDm : Code := cR aHk
noncomputable abbrev aHu : Code := cR aDm
noncomputable abbrev aBt : Code := cR aHu
noncomputable abbrev dDe : Code := cR aBt
noncomputable abbrev aJj : Code := cL aBt
noncomputable abbrev aJn : Code := cL aJj
noncomputable abbrev jK : Code := cL aJn
noncomputable abbrev bAq : Code := cL aHu
noncomputable abbrev aXb : Code := cL aDm
noncomputable abbrev aEi : Code := cL aHk
noncomputable abbrev aXi : Code := cL aHh
noncomputable abbrev aZa : Code := cL c117
noncomputable abbrev r117 : K := aT CF Tryz.f117
noncomputable def D117 (r : RT) (n : Nat) (c : Code) (X : Nat → K) (k : K) : K := aM CF r 80 n c X r117 k
theorem cLx : D117 r n dDe x0 r117 = (K2 (eQ r n) 0 6) :=
 (by kernel_rfl)
theorem bTg (kk7 : mM) (q0 : gF) : D117 r n jK (xs x0 0 (K2 q0 0 6)) (K3 kk7 0 5 6) = fun (env : aY) (h : Hp) =>
 bnd (r 130 [(.s [9, 10, 13, 32])] h) fun v1 h1 =>
 bnd (dT (env 0) h1) fun v2 h2 =>
 bnd (r 129 [(env 5), v1, v2] h2) fun v3 h3 =>
 bnd (aS (env 5) h3) fun v4 h4 =>
 bnd (aB 1 v4 h4) fun v5 h5 =>
 bnd (aA v5 h5) fun v6 h6 =>
 bnd (dT (env 0) h6) fun v7 h7 =>
 bnd (aD .geq v6 v7 h7) fun v8 h8 =>
 aP v8 (
   q0 (env 0) (env 6) h8) (
 bnd (aS (env 5) h8) fun v9 h9 =>
 bnd (aB 1 v9 h9) fun v10 h10 =>
 bnd (aA v10 h10) fun v11 h11 =>
 bnd (fC (env 0) v11 h11) fun v12 h12 =>
 bnd (aD .eql v12 (.i .u8 (Int.ofNat 34)) h12) fun v13 h13 =>
 aP v13 (
 bnd (aS (env 5) h13) fun v14 h14 =>
 bnd (aB 1 v14 h14) fun v15 h15 =>
 bnd (aA v15 h15) fun v16 h16 =>
 bnd (aD .add v16 (aE 1) h16) fun v17 h17 =>
 bnd (fB (env 0) (some v17) none h17) fun v18 h18 =>
 bnd (r 131 [v18, (.i .u8 (Int.ofNat 34))] h18) fun v19 h19 =>
 bnd (aD .lss v19 (aE 0) h19) fun v20 h20 =>
 aP v20 (
 bnd (aS (env 5) h20) fun v21 h21 =>
 bnd (aB 1 v21 h21) fun v22 h22 =>
 bnd (aA v22 h22) fun v23 h23 =>
 some (.t [.l0, v23, (aE 11)], h23)) (
 bnd (aS (env 5) h20) fun v24 h24 =>
 bnd (aB 1 v24 h24) fun v25 h25 =>
 bnd (aA v25 h25) fun v26 h26 =>
 bnd (aD .add v19 (aE 2) h26) fun v27 h27 =>
 bnd (aD .add v26 v27 h27) fun v28 h28 =>
 bnd (aS (env 5) h28) fun v29 h29 =>
 bnd (aB 1 v29 h29) fun v30 h30 =>
 bnd (aG 1 v30 v28 h30) fun _ h31 =>
     kk7 (env 0) (env 5) (env 6) h31)) (
 bnd (r 132 [(env 5)] h13) fun v32 h32 =>
 bnd (aC 0 v32 h32) fun v33 h33 =>
 bnd (aC 1 v32 h33) fun v34 h34 =>
 bnd (bK [(aE 0), (.s []), (aE 0), (aE 0)] h34) fun v35 h35 =>
 bnd (aG 4 v35 v33 h35) fun _ h36 =>
 bnd (aD .neq v34 (aE 0) h36) fun v37 h37 =>
 aP v37 (
 bnd (aB 3 v35 h37) fun v38 h38 =>
 bnd (aA v38 h38) fun v39 h39 =>
 some (.t [.l0, v39, v34], h39)) (
 bnd (aK 4 v35 h37) fun v40 h40 =>
 bnd (aL [(aE 0), (.s []), (aE 0), (aE 0)] 1 [(0, 4, v40)] h40) fun v41 h41 =>
 bnd (aZ 4 40 (env 6) v41 h41) fun v42 h42 =>
     kk7 (env 0) (env 5) v42 h42))) := by kernel_rfl
theorem bFn (kk7 : mM) : (fun (env : aY) (h : Hp) =>
 bnd (r 130 [(.s [9, 10, 13, 32])] h) fun v1 h1 =>
 bnd (dT (env 0) h1) fun v2 h2 =>
 bnd (r 129 [(env 5), v1, v2] h2) fun v3 h3 =>
 bnd (aS (env 5) h3) fun v4 h4 =>
 bnd (aB 1 v4 h4) fun v5 h5 =>
 bnd (aA v5 h5) fun v6 h6 =>
 bnd (dT (env 0) h6) fun v7 h7 =>
 bnd (aD .geq v6 v7 h7) fun v8 h8 =>
 aP v8 (
   eQ r n (env 0) (env 6) h8) (
 bnd (aS (env 5) h8) fun v9 h9 =>
 bnd (aB 1 v9 h9) fun v10 h10 =>
 bnd (aA v10 h10) fun v11 h11 =>
 bnd (fC (env 0) v11 h11) fun v12 h12 =>
 bnd (aD .eql v12 (.i .u8 (Int.ofNat 34)) h12) fun v13 h13 =>
 aP v13 (
 bnd (aS (env 5) h13) fun v14 h14 =>
 bnd (aB 1 v14 h14) fun v15 h15 =>
 bnd (aA v15 h15) fun v16 h16 =>
 bnd (aD .add v16 (aE 1) h16) fun v17 h17 =>
 bnd (fB (env 0) (some v17) none h17) fun v18 h18 =>
 bnd (r 131 [v18, (.i .u8 (Int.ofNat 34))] h18) fun v19 h19 =>
 bnd (aD .lss v19 (aE 0) h19) fun v20 h20 =>
 aP v20 (
 bnd (aS (env 5) h20) fun v21 h21 =>
 bnd (aB 1 v21 h21) fun v22 h22 =>
 bnd (aA v22 h22) fun v23 h23 =>
 some (.t [.l0, v23, (aE 11)], h23)) (
 bnd (aS (env 5) h20) fun v24 h24 =>
 bnd (aB 1 v24 h24) fun v25 h25 =>
 bnd (aA v25 h25) fun v26 h26 =>
 bnd (aD .add v19 (aE 2) h26) fun v27 h27 =>
 bnd (aD .add v26 v27 h27) fun v28 h28 =>
 bnd (aS (env 5) h28) fun v29 h29 =>
 bnd (aB 1 v29 h29) fun v30 h30 =>
 bnd (aG 1 v30 v28 h30) fun _ h31 =>
     kk7 (env 0) (env 5) (env 6) h31)) (
 bnd (r 132 [(env 5)] h13) fun v32 h32 =>
 bnd (aC 0 v32 h32) fun v33 h33 =>
 bnd (aC 1 v32 h33) fun v34 h34 =>
 bnd (bK [(aE 0), (.s []), (aE 0), (aE 0)] h34) fun v35 h35 =>
 bnd (aG 4 v35 v33 h35) fun _ h36 =>
 bnd (aD .neq v34 (aE 0) h36) fun v37 h37 =>
 aP v37 (
 bnd (aB 3 v35 h37) fun v38 h38 =>
 bnd (aA v38 h38) fun v39 h39 =>
 some (.t [.l0, v39, v34], h39)) (
 bnd (aK 4 v35 h37) fun v40 h40 =>
 bnd (aL [(aE 0), (.s []), (aE 0), (aE 0)] 1 [(0, 4, v40)] h40) fun v41 h41 =>
 bnd (aZ 4 40 (env 6) v41 h41) fun v42 h42 =>
     kk7 (env 0) (env 5) v42 h42)))) = (K3 (aDf r n kk7) 0 5 6) := by kernel_rfl
theorem bVd (kk7 : mM) : D117 r n jK (xs x0 0 (K2 (eQ r n) 0 6)) (K3 kk7 0 5 6) = (K3 (aDf r n kk7) 0 5 6) :=
 (bTg r n kk7 (eQ r n)).trans (bFn r n kk7)
theorem bRp (m : Nat) : aN (fun kk => D117 r n jK (xs x0 0 (K2 (eQ r n) 0 6)) kk) m = (K3 (uC r n m) 0 5 6) := by
 induction m with
 | zero => exact (by kernel_rfl : aN (fun kk => D117 r n jK (xs x0 0 (K2 (eQ r n) 0 6)) kk) 0 = (K3 (uC r n 0) 0 5 6))
 | succ m ih =>
  refine (by kernel_rfl : aN (fun kk => D117 r n jK (xs x0 0 (K2 (eQ r n) 0 6)) kk) (m + 1) = D117 r n jK (xs x0 0 (K2 (eQ r n) 0 6)) (aN (fun kk => D117 r n jK (xs x0 0 (K2 (eQ r n) 0 6)) kk) m)).trans ?_
  rw [ih]
  exact (bVd r n (uC r n m)).trans (by kernel_rfl)
theorem cCx : D117 r n aJn (xs x0 0 (K2 (eQ r n) 0 6)) (K2 (eQ r n) 0 6) = (K3 (cBf r n) 0 5 6) :=
 (by kernel_rfl : D117 r n aJn (xs x0 0 (K2 (eQ r n) 0 6)) (K2 (eQ r n) 0 6) = aN (fun kk => D117 r n jK (xs x0 0 (K2 (eQ r n) 0 6)) kk) n).trans ((bRp r n n).trans (by kernel_rfl))
theorem bUh : D117 r n aBt x0 r117 = D117 r n aJj x0 (K2 (eQ r n) 0 6) :=
 congrArg (fun k => D117 r n aJj x0 k) (cLx r n)
theorem cRr : D117 r n aBt x0 r117 = (K3 (aOl r n) 0 5 6) :=
 (bUh r n).trans
 ((by kernel_rfl : D117 r n aJj x0 (K2 (eQ r n) 0 6) = D117 r n aJn (xs x0 0 (K2 (eQ r n) 0 6)) (K2 (eQ r n) 0 6)).trans
 ((cCx r n).trans (by kernel_rfl)))
theorem bSx : D117 r n aHu x0 r117 = D117 r n bAq x0 (K3 (aOl r n) 0 5 6) :=
 congrArg (fun k => D117 r n bAq x0 k) (cRr r n)
theorem cHj : D117 r n aHu x0 r117 = (K3 (aRq r n) 0 5 6) :=
 (bSx r n).trans
 ((by kernel_rfl))
theorem cBa : D117 r n aDm x0 r117 = D117 r n aXb x0 (K3 (aRq r n) 0 5 6) :=
 congrArg (fun k => D117 r n aXb x0 k) (cHj r n)
theorem cMr : D117 r n aDm x0 r117 = (K2 (yB r n) 0 5) :=
 (cBa r n).trans
 ((by kernel_rfl))
theorem bJl : D117 r n aHk x0 r117 = D117 r n aEi x0 (K2 (yB r n) 0 5) :=
 congrArg (fun k => D117 r n aEi x0 k) (cMr r n)
theorem bJd (q0 : gF) : D117 r n aEi x0 (K2 q0 0 5) = fun (env : aY) (h : Hp) =>
 bnd (bB [(.s []), (aE 0)] [(0, 1, (env 0))] h) fun v1 h1 =>
 bnd (bQ v1 h1) fun v2 h2 =>
  q0 (env 0) v2 h2 := by kernel_rfl
theorem bGz : (fun (env : aY) (h : Hp) =>
 bnd (bB [(.s []), (aE 0)] [(0, 1, (env 0))] h) fun v1 h1 =>
 bnd (bQ v1 h1) fun v2 h2 =>
  yB r n (env 0) v2 h2) = (K1 (aEf r n) 0) := by kernel_rfl
theorem cMq : D117 r n aHk x0 r117 = (K1 (aEf r n) 0) :=
 (bJl r n).trans
 ((bJd r n (yB r n)).trans (bGz r n))
theorem cAn : D117 r n aHh x0 r117 = D117 r n aXi x0 (K1 (aEf r n) 0) :=
 congrArg (fun k => D117 r n aXi x0 k) (cMq r n)
theorem cGx : D117 r n aPz x0 r117 = (K1 (aPc r n) 0) :=
 (by kernel_rfl : D117 r n aPz x0 r117 = D117 r n aHh x0 r117).trans
 ((cAn r n).trans
 ((by kernel_rfl)))
theorem dFc : D117 r n c117 x0 r117 = D117 r n aZa x0 (K1 (aPc r n) 0) :=
 congrArg (fun k => D117 r n aZa x0 k) (cGx r n)
theorem dGi : D117 r n c117 x0 r117 = (K1 (s117 r n) 0) :=
 (dFc r n).trans
 ((by kernel_rfl))
theorem cTv : aF CF r n 117 args h = s117 r n (aQ args 0) h :=
 (by kernel_rfl : aF CF r n 117 args h = D117 r n c117 x0 r117 (aJ args) h).trans ((congrFun (congrFun (dGi r n) (aJ args)) h).trans (by kernel_rfl))
end Go.Dd

namespace Go.Dd
open Go.Proofs
variable (r : RT) (n : Nat) (args : List DV) (h : Hp)
noncomputable def bR (r : RT) (n : Nat) (x3 : DV) (h0 : Hp) : aI :=
 some (x3, h0)
noncomputable def fQ (r : RT) (n : Nat) (kk4 : gF) (x0 x3 : DV) (h0 : Hp) : aI :=
 bnd (r 135 [x0] h0) fun v1 h1 =>
 bnd (aL gS 1 [(0, 6, v1)] h1) fun v2 h2 =>
 bnd (aZ 6 104 x3 v2 h2) fun v3 h3 =>
 bnd (r 133 [x0, (aE 10), (.s [46])] h3) fun v4 h4 =>
 bnd (fZ .not v4 h4) fun v5 h5 =>
 aP v5 (
 some (v3, h5)) (
 bnd (r 134 [x0] h5) fun v6 h6 =>
  kk4 x0 v3 h6)
noncomputable def tJ (r : RT) (n : Nat) (kk4 : gF) (x3 : DV) (h0 : Hp) : aI :=
 some (x3, h0)
noncomputable def oW (r : RT) (n : Nat) (kk4 : gF) (x0 x3 : DV) (h0 : Hp) : aI :=
 bnd (r 133 [x0, (aE 10), (.s [46])] h0) fun v1 h1 =>
 aP v1 (
 bnd (r 134 [x0] h1) fun v2 h2 =>
  tJ r n kk4 x3 h2) (
  tJ r n kk4 x3 h1)
noncomputable def aJh (r : RT) (n : Nat) (kk4 : gF) (x0 x3 : DV) (h0 : Hp) : aI :=
 bnd (r 135 [x0] h0) fun v1 h1 =>
 bnd (aL gS 1 [(0, 6, v1)] h1) fun v2 h2 =>
 bnd (bB gS [(0, 1, (aE 10)), (5, 1, v2)] h2) fun v3 h3 =>
 bnd (aL gS 1 [(0, 6, v3)] h3) fun v4 h4 =>
 bnd (aZ 6 104 x3 v4 h4) fun v5 h5 =>
  oW r n kk4 x0 v5 h5
noncomputable def cBe (r : RT) (n : Nat) (kk4 : gF) (x0 x3 : DV) (h0 : Hp) : aI :=
 bnd (r 134 [x0] h0) fun v1 h1 =>
  aJh r n kk4 x0 x3 h1
noncomputable def aSi (r : RT) (n : Nat) (kk4 : gF) (x0 x3 x20 : DV) (h0 : Hp) : aI :=
 aP x20 (
  cBe r n kk4 x0 x3 h0) (
  fQ r n kk4 x0 x3 h0)
noncomputable def aOo (r : RT) (n : Nat) (kk4 : gF) (x0 x3 : DV) (h0 : Hp) : aI :=
 bnd (r 133 [x0, (aE 10), (.s [94])] h0) fun v1 h1 =>
  aSi r n kk4 x0 x3 v1 h1
noncomputable def bAo (r : RT) (n : Nat) (kk4 : gF) (x0 x3 : DV) (h0 : Hp) : aI :=
 bnd (aS x0 h0) fun v1 h1 =>
 bnd (aB 3 v1 h1) fun v2 h2 =>
 bnd (aA v2 h2) fun v3 h3 =>
 bnd (aD .eql v3 (aE 0) h3) fun v4 h4 =>
 bnd (gD v4 true (some (x0, h4)) h4) fun v5 h5 =>
 bnd (gD v4 true (r 133 [v5, (aE 0), (.s [])] h5) h5) fun v6 h6 =>
 bnd (gD v4 true (fZ .not v6 h6) h6) fun v7 h7 =>
 bnd (aO v4 v7 (.b false) h7) fun v8 h8 =>
 bnd (gD v8 true (some (x0, h8)) h8) fun v9 h9 =>
 bnd (gD v8 true (r 133 [v9, (aE 10), (.s [93])] h9) h9) fun v10 h10 =>
 bnd (gD v8 true (fZ .not v10 h10) h10) fun v11 h11 =>
 bnd (aO v8 v11 (.b false) h11) fun v12 h12 =>
 aP v12 (
   aOo r n kk4 x0 x3 h12) (
   bR r n x3 h12)
noncomputable def uF (r : RT) (n : Nat) (m : Nat) : gF :=
 Nat.rec (motive := fun _ => gF) (fun _ _ _ => none) (fun _ ih => bAo r n ih) m
noncomputable def bVz (r : RT) (n : Nat) : gF := uF r n n
noncomputable def aUb (r : RT) (n : Nat) (x0 x3 : DV) (h0 : Hp) : aI :=
 bVz r n x0 x3 h0
noncomputable def aOn (r : RT) (n : Nat) (x0 : DV) (h0 : Hp) : aI :=
 aUb r n x0 .l0 h0
noncomputable def s119 (r : RT) (n : Nat) (x0 : DV) (h0 : Hp) : aI :=
 aOn r n x0 h0
noncomputable abbrev c119 : Code := cf Tryz.f119
noncomputable abbrev aJb : Code := cR c119
noncomputable abbrev aJx : Code := cR aJb
noncomputable abbrev dEp : Code := cR aJx
noncomputable abbrev aDy : Code := cL aJx
noncomputable abbrev aFx : Code := cL aDy
noncomputable abbrev jR : Code := cL aFx
noncomputable abbrev aQu : Code := cR jR
noncomputable abbrev aEg : Code := cL aQu
noncomputable abbrev bSj : Code := cR aEg
noncomputable abbrev oU : Code := cL aEg
noncomputable abbrev pA : Code := cR oU
noncomputable abbrev pE : Code := cL pA
noncomputable abbrev sF : Code := cR pE
noncomputable abbrev tV : Code := cR sF
noncomputable abbrev cDc : Code := cR tV
noncomputable abbrev aZr : Code := cL tV
noncomputable abbrev aBe : Code := cL sF
noncomputable abbrev aZe : Code := cL pE
noncomputable abbrev cKz : Code := cR pA
noncomputable abbrev aWb : Code := cL oU
noncomputable abbrev bBt : Code := cL jR
noncomputable abbrev bBj : Code := cL aJb
noncomputable abbrev aWv : Code := cL c119
noncomputable abbrev r119 : K := aT CF Tryz.f119
noncomputable def D119 (r : RT) (n : Nat) (c : Code) (X : Nat → K) (k : K) : K := aM CF r 47 n c X r119 k
theorem cPd : D119 r n dEp x0 r119 = (K1 (bR r n) 3) :=
 (by kernel_rfl)
theorem bYa (kk4 : gF) (q0 : TT1) : D119 r n bSj (xs (xs x0 0 (K1 q0 3)) 1 (K2 kk4 0 3)) (K2 kk4 0 3) = fun (env : aY) (h : Hp) =>
 bnd (r 135 [(env 0)] h) fun v1 h1 =>
 bnd (aL gS 1 [(0, 6, v1)] h1) fun v2 h2 =>
 bnd (aZ 6 104 (env 3) v2 h2) fun v3 h3 =>
 bnd (r 133 [(env 0), (aE 10), (.s [46])] h3) fun v4 h4 =>
 bnd (fZ .not v4 h4) fun v5 h5 =>
 aP v5 (
 some (v3, h5)) (
 bnd (r 134 [(env 0)] h5) fun v6 h6 =>
      kk4 (env 0) v3 h6) := by kernel_rfl
theorem bEu (kk4 : gF) : (fun (env : aY) (h : Hp) =>
 bnd (r 135 [(env 0)] h) fun v1 h1 =>
 bnd (aL gS 1 [(0, 6, v1)] h1) fun v2 h2 =>
 bnd (aZ 6 104 (env 3) v2 h2) fun v3 h3 =>
 bnd (r 133 [(env 0), (aE 10), (.s [46])] h3) fun v4 h4 =>
 bnd (fZ .not v4 h4) fun v5 h5 =>
 aP v5 (
 some (v3, h5)) (
 bnd (r 134 [(env 0)] h5) fun v6 h6 =>
      kk4 (env 0) v3 h6)) = (K2 (fQ r n kk4) 0 3) := by kernel_rfl
theorem cDg (kk4 : gF) : D119 r n bSj (xs (xs x0 0 (K1 (bR r n) 3)) 1 (K2 kk4 0 3)) (K2 kk4 0 3) = (K2 (fQ r n kk4) 0 3) :=
 (bYa r n kk4 (bR r n)).trans (bEu r n kk4)
theorem bPm (kk4 : gF) : D119 r n cDc (xs (xs x0 0 (K1 (bR r n) 3)) 1 (K2 kk4 0 3)) (K2 (fQ r n kk4) 0 3) = (K1 (tJ r n kk4) 3) :=
 (by kernel_rfl)
theorem bGv (kk4 : gF) : D119 r n tV (xs (xs x0 0 (K1 (bR r n) 3)) 1 (K2 kk4 0 3)) (K2 (fQ r n kk4) 0 3) = D119 r n aZr (xs (xs x0 0 (K1 (bR r n) 3)) 1 (K2 kk4 0 3)) (K1 (tJ r n kk4) 3) :=
 congrArg (fun k => D119 r n aZr (xs (xs x0 0 (K1 (bR r n) 3)) 1 (K2 kk4 0 3)) k) (bPm r n kk4)
theorem bYc (kk4 : gF) : D119 r n tV (xs (xs x0 0 (K1 (bR r n) 3)) 1 (K2 kk4 0 3)) (K2 (fQ r n kk4) 0 3) = (K2 (oW r n kk4) 0 3) :=
 (bGv r n kk4).trans
 ((by kernel_rfl))
theorem cBk (kk4 : gF) : D119 r n sF (xs (xs x0 0 (K1 (bR r n) 3)) 1 (K2 kk4 0 3)) (K2 (fQ r n kk4) 0 3) = D119 r n aBe (xs (xs x0 0 (K1 (bR r n) 3)) 1 (K2 kk4 0 3)) (K2 (oW r n kk4) 0 3) :=
 congrArg (fun k => D119 r n aBe (xs (xs x0 0 (K1 (bR r n) 3)) 1 (K2 kk4 0 3)) k) (bYc r n kk4)
theorem bHx (kk4 : gF) (q0 : gF) (q1 : TT1) : D119 r n aBe (xs (xs x0 0 (K1 q1 3)) 1 (K2 kk4 0 3)) (K2 q0 0 3) = fun (env : aY) (h : Hp) =>
 bnd (r 135 [(env 0)] h) fun v1 h1 =>
 bnd (aL gS 1 [(0, 6, v1)] h1) fun v2 h2 =>
 bnd (bB gS [(0, 1, (aE 10)), (5, 1, v2)] h2) fun v3 h3 =>
 bnd (aL gS 1 [(0, 6, v3)] h3) fun v4 h4 =>
 bnd (aZ 6 104 (env 3) v4 h4) fun v5 h5 =>
  q0 (env 0) v5 h5 := by kernel_rfl
theorem bEe (kk4 : gF) : (fun (env : aY) (h : Hp) =>
 bnd (r 135 [(env 0)] h) fun v1 h1 =>
 bnd (aL gS 1 [(0, 6, v1)] h1) fun v2 h2 =>
 bnd (bB gS [(0, 1, (aE 10)), (5, 1, v2)] h2) fun v3 h3 =>
 bnd (aL gS 1 [(0, 6, v3)] h3) fun v4 h4 =>
 bnd (aZ 6 104 (env 3) v4 h4) fun v5 h5 =>
  oW r n kk4 (env 0) v5 h5) = (K2 (aJh r n kk4) 0 3) := by kernel_rfl
theorem cIi (kk4 : gF) : D119 r n sF (xs (xs x0 0 (K1 (bR r n) 3)) 1 (K2 kk4 0 3)) (K2 (fQ r n kk4) 0 3) = (K2 (aJh r n kk4) 0 3) :=
 (cBk r n kk4).trans
 ((bHx r n kk4 (oW r n kk4) (bR r n)).trans (bEe r n kk4))
theorem bOq (kk4 : gF) : D119 r n pE (xs (xs x0 0 (K1 (bR r n) 3)) 1 (K2 kk4 0 3)) (K2 (fQ r n kk4) 0 3) = D119 r n aZe (xs (xs x0 0 (K1 (bR r n) 3)) 1 (K2 kk4 0 3)) (K2 (aJh r n kk4) 0 3) :=
 congrArg (fun k => D119 r n aZe (xs (xs x0 0 (K1 (bR r n) 3)) 1 (K2 kk4 0 3)) k) (cIi r n kk4)
theorem cJx (kk4 : gF) : D119 r n pE (xs (xs x0 0 (K1 (bR r n) 3)) 1 (K2 kk4 0 3)) (K2 (fQ r n kk4) 0 3) = (K2 (cBe r n kk4) 0 3) :=
 (bOq r n kk4).trans
 ((by kernel_rfl))
theorem cJz (kk4 : gF) : D119 r n pA (xs (xs x0 0 (K1 (bR r n) 3)) 1 (K2 kk4 0 3)) (K2 (fQ r n kk4) 0 3) = (K3 (aSi r n kk4) 0 3 20) :=
 (by kernel_rfl : D119 r n pA (xs (xs x0 0 (K1 (bR r n) 3)) 1 (K2 kk4 0 3)) (K2 (fQ r n kk4) 0 3) = (fun (env : aY) (h : Hp) => aP (opr env (cC pA)) (D119 r n pE (xs (xs x0 0 (K1 (bR r n) 3)) 1 (K2 kk4 0 3)) (K2 (fQ r n kk4) 0 3) env h) (D119 r n cKz (xs (xs x0 0 (K1 (bR r n) 3)) 1 (K2 kk4 0 3)) (K2 (fQ r n kk4) 0 3) env h))).trans (by rw [cJx r n kk4]; kernel_rfl)
theorem cCn (kk4 : gF) : D119 r n aEg (xs (xs x0 0 (K1 (bR r n) 3)) 1 (K2 kk4 0 3)) (K2 kk4 0 3) = D119 r n oU (xs (xs x0 0 (K1 (bR r n) 3)) 1 (K2 kk4 0 3)) (K2 (fQ r n kk4) 0 3) :=
 congrArg (fun k => D119 r n oU (xs (xs x0 0 (K1 (bR r n) 3)) 1 (K2 kk4 0 3)) k) (cDg r n kk4)
theorem bLt (kk4 : gF) : D119 r n oU (xs (xs x0 0 (K1 (bR r n) 3)) 1 (K2 kk4 0 3)) (K2 (fQ r n kk4) 0 3) = D119 r n aWb (xs (xs x0 0 (K1 (bR r n) 3)) 1 (K2 kk4 0 3)) (K3 (aSi r n kk4) 0 3 20) :=
 congrArg (fun k => D119 r n aWb (xs (xs x0 0 (K1 (bR r n) 3)) 1 (K2 kk4 0 3)) k) (cJz r n kk4)
theorem cId (kk4 : gF) : D119 r n aQu (xs x0 0 (K1 (bR r n) 3)) (K2 kk4 0 3) = (K2 (aOo r n kk4) 0 3) :=
 (by kernel_rfl : D119 r n aQu (xs x0 0 (K1 (bR r n) 3)) (K2 kk4 0 3) = D119 r n aEg (xs (xs x0 0 (K1 (bR r n) 3)) 1 (K2 kk4 0 3)) (K2 kk4 0 3)).trans
 ((cCn r n kk4).trans
 ((bLt r n kk4).trans
 ((by kernel_rfl))))
theorem bKy (kk4 : gF) : D119 r n jR (xs x0 0 (K1 (bR r n) 3)) (K2 kk4 0 3) = D119 r n bBt (xs x0 0 (K1 (bR r n) 3)) (K2 (aOo r n kk4) 0 3) :=
 congrArg (fun k => D119 r n bBt (xs x0 0 (K1 (bR r n) 3)) k) (cId r n kk4)
theorem bJo (kk4 : gF) : D119 r n jR (xs x0 0 (K1 (bR r n) 3)) (K2 kk4 0 3) = (K2 (bAo r n kk4) 0 3) :=
 (bKy r n kk4).trans
 ((by kernel_rfl))
theorem bQu (m : Nat) : aN (fun kk => D119 r n jR (xs x0 0 (K1 (bR r n) 3)) kk) m = (K2 (uF r n m) 0 3) := by
 induction m with
 | zero => exact (by kernel_rfl : aN (fun kk => D119 r n jR (xs x0 0 (K1 (bR r n) 3)) kk) 0 = (K2 (uF r n 0) 0 3))
 | succ m ih =>
  refine (by kernel_rfl : aN (fun kk => D119 r n jR (xs x0 0 (K1 (bR r n) 3)) kk) (m + 1) = D119 r n jR (xs x0 0 (K1 (bR r n) 3)) (aN (fun kk => D119 r n jR (xs x0 0 (K1 (bR r n) 3)) kk) m)).trans ?_
  rw [ih]
  exact (bJo r n (uF r n m)).trans (by kernel_rfl)
theorem cJj : D119 r n aFx (xs x0 0 (K1 (bR r n) 3)) (K1 (bR r n) 3) = (K2 (bVz r n) 0 3) :=
 (by kernel_rfl : D119 r n aFx (xs x0 0 (K1 (bR r n) 3)) (K1 (bR r n) 3) = aN (fun kk => D119 r n jR (xs x0 0 (K1 (bR r n) 3)) kk) n).trans ((bQu r n n).trans (by kernel_rfl))
theorem bTi : D119 r n aJx x0 r119 = D119 r n aDy x0 (K1 (bR r n) 3) :=
 congrArg (fun k => D119 r n aDy x0 k) (cPd r n)
theorem cNc : D119 r n aJx x0 r119 = (K2 (aUb r n) 0 3) :=
 (bTi r n).trans
 ((by kernel_rfl : D119 r n aDy x0 (K1 (bR r n) 3) = D119 r n aFx (xs x0 0 (K1 (bR r n) 3)) (K1 (bR r n) 3)).trans
 ((cJj r n).trans (by kernel_rfl)))
theorem bDv : D119 r n aJb x0 r119 = D119 r n bBj x0 (K2 (aUb r n) 0 3) :=
 congrArg (fun k => D119 r n bBj x0 k) (cNc r n)
theorem cOm : D119 r n aJb x0 r119 = (K1 (aOn r n) 0) :=
 (bDv r n).trans
 ((by kernel_rfl))
theorem cPr : D119 r n c119 x0 r119 = D119 r n aWv x0 (K1 (aOn r n) 0) :=
 congrArg (fun k => D119 r n aWv x0 k) (cOm r n)
theorem dJl : D119 r n c119 x0 r119 = (K1 (s119 r n) 0) :=
 (cPr r n).trans
 ((by kernel_rfl))
theorem cWw : aF CF r n 119 args h = s119 r n (aQ args 0) h :=
 (by kernel_rfl : aF CF r n 119 args h = D119 r n c119 x0 r119 (aJ args) h).trans ((congrFun (congrFun (dJl r n) (aJ args)) h).trans (by kernel_rfl))
noncomputable def s120 (r : RT) (n : Nat) (x0 x1 x2 : DV) (h0 : Hp) : aI :=
 bnd (bK [(aE 0), (.s []), (aE 0), (aE 0)] h0) fun v1 h1 =>
 bnd (r 133 [x0, x1, x2] h1) fun v2 h2 =>
 bnd (fZ .not v2 h2) fun v3 h3 =>
 aP v3 (
 bnd (r 137 [x0, (aE 0)] h3) fun v4 h4 =>
 bnd (r 136 [x0, v4, (aE 13)] h4) fun v5 h5 =>
 bnd (bB [(aE 0), (.s []), (aE 0), (aE 0)] [] h5) fun v6 h6 =>
 bnd (aG 4 v1 v6 h6) fun _ h7 =>
 bnd (aK 4 v1 h7) fun v8 _ =>
 some (v8, h7)) (
 bnd (r 134 [x0] h3) fun v9 h9 =>
 bnd (aG 4 v1 v9 h9) fun _ h10 =>
 bnd (aK 4 v1 h10) fun v11 _ =>
 some (v11, h10))
noncomputable abbrev c120 : Code := cf Tryz.f120
noncomputable abbrev r120 : K := aT CF Tryz.f120
noncomputable def D120 (r : RT) (n : Nat) (c : Code) (X : Nat → K) (k : K) : K := aM CF r 19 n c X r120 k
theorem dFz : D120 r n c120 x0 r120 = (K3 (s120 r n) 0 1 2) :=
 (by kernel_rfl)
theorem dAi : aF CF r n 120 args h = s120 r n (aQ args 0) (aQ args 1) (aQ args 2) h :=
 (by kernel_rfl : aF CF r n 120 args h = D120 r n c120 x0 r120 (aJ args) h).trans ((congrFun (congrFun (dFz r n) (aJ args)) h).trans (by kernel_rfl))
noncomputable def bCh (r : RT) (n : Nat) (kk6 : mM) (x0 x1 x4 : DV) (h0 : Hp) : aI :=
 bnd (gD x4 false (some (x0, h0)) h0) fun v1 h1 =>
 bnd (gD x4 false (r 133 [v1, (aE 2), (.s [])] h1) h1) fun v2 h2 =>
 bnd (aO x4 (.b true) v2 h2) fun v3 h3 =>
 aP v3 (
 bnd (aS x1 h3) fun v4 h4 =>
 bnd (aB 1 v4 h4) fun v5 h5 =>
 bnd (aA v5 h5) fun v6 h6 =>
 bnd (r 120 [x0, (aE 2), (.s [])] h6) fun v7 h7 =>
 cnd (bL (aA v5 h7) v6 && true) (
 bnd (fI 1 v7 h7) fun v8 h8 =>
 bnd (fA .add v6 v8 h8) fun v9 h9 =>
 bnd (aS x1 h9) fun v10 h10 =>
 bnd (aB 1 v10 h10) fun v11 h11 =>
 bnd (aG 1 v11 v9 h11) fun v12 h12 =>
 bnd (aS x1 (resv 1 h12)) fun v13 h13 =>
 bnd (aB 3 v13 h13) fun v14 h14 =>
 bnd (aA v14 h14) fun v15 h15 =>
 bnd (aS x1 h15) fun v16 h16 =>
 bnd (aB 3 v16 h16) fun v17 h17 =>
 bnd (aA v17 h17) fun v18 h18 =>
 bnd (r 138 [x0, (aE 1), v18] h18) fun v19 h19 =>
 cnd (bL (aA v14 h19) v15 && true) (
 bnd (bJ (bX 0 h12.next) [(.s [])] 1 [(0, 1, v19)] h19) fun v20 h20 =>
 bnd (aZ 1 16 v15 v20 h20) fun v21 h21 =>
 bnd (aS x1 h21) fun v22 h22 =>
 bnd (aB 3 v22 h22) fun v23 h23 =>
 bnd (aG 1 v23 v21 h23) fun v24 h24 =>
      kk6 x0 x1 (.b false) h24))) (
 some (.t [], h3))
noncomputable def tO (r : RT) (n : Nat) (m : Nat) : mM :=
 Nat.rec (motive := fun _ => mM) (fun _ _ _ _ => none) (fun _ ih => bCh r n ih) m
noncomputable def bZh (r : RT) (n : Nat) : mM := tO r n n
noncomputable def aRd (r : RT) (n : Nat) (x0 x1 x4 : DV) (h0 : Hp) : aI :=
 bZh r n x0 x1 x4 h0
noncomputable def bOh (r : RT) (n : Nat) (x0 x1 : DV) (h0 : Hp) : aI :=
 aRd r n x0 x1 (.b true) h0
noncomputable def aSk (r : RT) (n : Nat) (x0 x1 x44 : DV) (h0 : Hp) : aI :=
 aP x44 (
 bnd (r 134 [x0] h0) fun v1 h1 =>
 bnd (fI 1 v1 h1) fun v2 h2 =>
 bnd (aS x1 h2) fun v3 h3 =>
 bnd (aB 1 v3 h3) fun v4 h4 =>
 bnd (aG 1 v4 v2 h4) fun _ h5 =>
 bnd (aS x1 (resv 1 h5)) fun v6 h6 =>
 bnd (aB 3 v6 h6) fun v7 h7 =>
 bnd (aA v7 h7) fun v8 h8 =>
 bnd (aS x1 h8) fun v9 h9 =>
 bnd (aB 3 v9 h9) fun v10 h10 =>
 bnd (aA v10 h10) fun v11 h11 =>
 bnd (r 138 [x0, (aE 1), v11] h11) fun v12 h12 =>
 cnd (bL (aA v7 h12) v8 && true) (
 bnd (bJ (bX 0 h5.next) [(.s [])] 1 [(0, 1, v12)] h12) fun v13 h13 =>
 bnd (aZ 1 16 v8 v13 h13) fun v14 h14 =>
 bnd (aS x1 h14) fun v15 h15 =>
 bnd (aB 3 v15 h15) fun v16 h16 =>
 bnd (aG 1 v16 v14 h16) fun v17 h17 =>
 some (.t [], h17))) (
  bOh r n x0 x1 h0)
noncomputable def bPp (r : RT) (n : Nat) (x0 x1 : DV) (h0 : Hp) : aI :=
 bnd (r 133 [x0, (aE 3), (.s [])] h0) fun v1 h1 =>
  aSk r n x0 x1 v1 h1
noncomputable def aPm (r : RT) (n : Nat) (x0 x1 x35 : DV) (h0 : Hp) : aI :=
 aP x35 (
 bnd (r 134 [x0] h0) fun v1 h1 =>
 bnd (fI 1 v1 h1) fun v2 h2 =>
 bnd (aS x1 h2) fun v3 h3 =>
 bnd (aB 1 v3 h3) fun v4 h4 =>
 bnd (aG 1 v4 v2 h4) fun _ h5 =>
 some (.t [], h5)) (
  bPp r n x0 x1 h0)
noncomputable def s121 (r : RT) (n : Nat) (x0 x1 : DV) (h0 : Hp) : aI :=
 bnd (r 133 [x0, (aE 1), (.s [])] h0) fun v1 h1 =>
  aPm r n x0 x1 v1 h1
noncomputable abbrev c121 : Code := cf Tryz.f121
noncomputable abbrev aFp : Code := cL c121
noncomputable abbrev yG : Code := cR aFp
noncomputable abbrev wG : Code := cR yG
noncomputable abbrev zD : Code := cR wG
noncomputable abbrev xP : Code := cR zD
noncomputable abbrev aQv : Code := cR xP
noncomputable abbrev aGg : Code := cL aQv
noncomputable abbrev nD : Code := cL aGg
noncomputable abbrev bRt : Code := cL xP
noncomputable abbrev cLo : Code := cL zD
noncomputable abbrev aZv : Code := cL wG
noncomputable abbrev cHx : Code := cL yG
noncomputable abbrev aXp : Code := cL aFp
noncomputable abbrev r121 : K := aT CF Tryz.f121
noncomputable def D121 (r : RT) (n : Nat) (c : Code) (X : Nat → K) (k : K) : K := aM CF r 68 n c X r121 k
theorem bNy (kk6 : mM) : D121 r n nD (xs (xs x0 0 r121) 1 r121) (K3 kk6 0 1 4) = (K3 (bCh r n kk6) 0 1 4) :=
 (by kernel_rfl)
theorem bOt (m : Nat) : aN (fun kk => D121 r n nD (xs (xs x0 0 r121) 1 r121) kk) m = (K3 (tO r n m) 0 1 4) := by
 induction m with
 | zero => exact (by kernel_rfl : aN (fun kk => D121 r n nD (xs (xs x0 0 r121) 1 r121) kk) 0 = (K3 (tO r n 0) 0 1 4))
 | succ m ih =>
  refine (by kernel_rfl : aN (fun kk => D121 r n nD (xs (xs x0 0 r121) 1 r121) kk) (m + 1) = D121 r n nD (xs (xs x0 0 r121) 1 r121) (aN (fun kk => D121 r n nD (xs (xs x0 0 r121) 1 r121) kk) m)).trans ?_
  rw [ih]
  exact (bNy r n (tO r n m)).trans (by kernel_rfl)
theorem cFl : D121 r n aGg (xs (xs x0 0 r121) 1 r121) r121 = (K3 (bZh r n) 0 1 4) :=
 (by kernel_rfl : D121 r n aGg (xs (xs x0 0 r121) 1 r121) r121 = aN (fun kk => D121 r n nD (xs (xs x0 0 r121) 1 r121) kk) n).trans ((bOt r n n).trans (by kernel_rfl))
theorem cGs : D121 r n aQv (xs x0 0 r121) r121 = (K3 (aRd r n) 0 1 4) :=
 (by kernel_rfl : D121 r n aQv (xs x0 0 r121) r121 = D121 r n aGg (xs (xs x0 0 r121) 1 r121) r121).trans
 ((cFl r n).trans (by kernel_rfl))
theorem bYq : D121 r n xP (xs x0 0 r121) r121 = D121 r n bRt (xs x0 0 r121) (K3 (aRd r n) 0 1 4) :=
 congrArg (fun k => D121 r n bRt (xs x0 0 r121) k) (cGs r n)
theorem cIl : D121 r n xP (xs x0 0 r121) r121 = (K2 (bOh r n) 0 1) :=
 (bYq r n).trans
 ((by kernel_rfl))
theorem cKn : D121 r n zD (xs x0 0 r121) r121 = (K3 (aSk r n) 0 1 44) :=
 (by kernel_rfl : D121 r n zD (xs x0 0 r121) r121 = (fun (env : aY) (h : Hp) => aP (opr env (cC zD)) (D121 r n cLo (xs x0 0 r121) r121 env h) (D121 r n xP (xs x0 0 r121) r121 env h))).trans (by rw [cIl r n]; kernel_rfl)
theorem bRl : D121 r n wG (xs x0 0 r121) r121 = D121 r n aZv (xs x0 0 r121) (K3 (aSk r n) 0 1 44) :=
 congrArg (fun k => D121 r n aZv (xs x0 0 r121) k) (cKn r n)
theorem cKe : D121 r n wG (xs x0 0 r121) r121 = (K2 (bPp r n) 0 1) :=
 (bRl r n).trans
 ((by kernel_rfl))
theorem cNr : D121 r n yG (xs x0 0 r121) r121 = (K3 (aPm r n) 0 1 35) :=
 (by kernel_rfl : D121 r n yG (xs x0 0 r121) r121 = (fun (env : aY) (h : Hp) => aP (opr env (cC yG)) (D121 r n cHx (xs x0 0 r121) r121 env h) (D121 r n wG (xs x0 0 r121) r121 env h))).trans (by rw [cKe r n]; kernel_rfl)
theorem cTs : D121 r n aFp (xs x0 0 r121) r121 = D121 r n aXp (xs x0 0 r121) (K3 (aPm r n) 0 1 35) :=
 congrArg (fun k => D121 r n aXp (xs x0 0 r121) k) (cNr r n)
theorem dLo : D121 r n c121 x0 r121 = (K2 (s121 r n) 0 1) :=
 (by kernel_rfl : D121 r n c121 x0 r121 = D121 r n aFp (xs x0 0 r121) r121).trans
 ((cTs r n).trans
 ((by kernel_rfl)))
theorem cUl : aF CF r n 121 args h = s121 r n (aQ args 0) (aQ args 1) h :=
 (by kernel_rfl : aF CF r n 121 args h = D121 r n c121 x0 r121 (aJ args) h).trans ((congrFun (congrFun (dLo r n) (aJ args)) h).trans (by kernel_rfl))
noncomputable def aHm (r : RT) (n : Nat) (x0 x3 : DV) (h0 : Hp) : aI :=
 bnd (r 120 [x0, (aE 3), (.s [62])] h0) fun v1 h1 =>
 bnd (aB 2 x3 h1) fun v2 h2 =>
 bnd (aA v2 h2) fun v3 h3 =>
 some (v3, h3)
noncomputable def vO (r : RT) (n : Nat) (x0 x3 : DV) (h0 : Hp) : aI :=
 bnd (aB 2 x3 h0) fun v1 h1 =>
 bnd (aA v1 h1) fun v2 h2 =>
 bnd (aD .gtr v2 (aE 255) h2) fun v3 h3 =>
 aP v3 (
 bnd (aK 4 x3 h3) fun v4 h4 =>
 bnd (r 136 [x0, v4, (aE 2)] h4) fun v5 h5 =>
  aHm r n x0 x3 h5) (
  aHm r n x0 x3 h3)
noncomputable def aGu (r : RT) (n : Nat) (x0 : DV) (h0 : Hp) : aI :=
 bnd (r 120 [x0, (aE 4), (.s [])] h0) fun v1 h1 =>
 bnd (bK [(aE 0), (.s []), (aE 0), (aE 0)] h1) fun v2 h2 =>
 bnd (aG 4 v2 v1 h2) fun _ h3 =>
  vO r n x0 v2 h3
noncomputable def aQg (r : RT) (n : Nat) (x0 : DV) (h0 : Hp) : aI :=
 bnd (r 120 [x0, (aE 2), (.s [112, 114, 105, 109, 105, 116, 105, 118, 101, 58])] h0) fun v1 h1 =>
  aGu r n x0 h1
noncomputable def aOu (r : RT) (n : Nat) (x0 : DV) (h0 : Hp) : aI :=
 bnd (r 134 [x0] h0) fun v1 h1 =>
  aQg r n x0 h1
noncomputable def aOr (r : RT) (n : Nat) (x0 : DV) (h0 : Hp) : aI :=
 bnd (r 133 [x0, (aE 3), (.s [60])] h0) fun v1 h1 =>
 bnd (fZ .not v1 h1) fun v2 h2 =>
 aP v2 (
 some ((aE 0), h2)) (
  aOu r n x0 h2)
noncomputable def s122 (r : RT) (n : Nat) (x0 : DV) (h0 : Hp) : aI :=
 aOr r n x0 h0
noncomputable abbrev c122 : Code := cf Tryz.f122
noncomputable abbrev aEe : Code := cR c122
noncomputable abbrev aCb : Code := cR aEe
noncomputable abbrev aIr : Code := cR aCb
noncomputable abbrev aGq : Code := cR aIr
noncomputable abbrev aHy : Code := cR aGq
noncomputable abbrev dBe : Code := cR aHy
noncomputable abbrev cBg : Code := cL aHy
noncomputable abbrev aOq : Code := cL aGq
noncomputable abbrev bWc : Code := cL aIr
noncomputable abbrev aZk : Code := cL aCb
noncomputable abbrev bAr : Code := cL aEe
noncomputable abbrev aWw : Code := cL c122
noncomputable abbrev r122 : K := aT CF Tryz.f122
noncomputable def D122 (r : RT) (n : Nat) (c : Code) (X : Nat → K) (k : K) : K := aM CF r 23 n c X r122 k
theorem cFx : D122 r n dBe x0 r122 = (K2 (aHm r n) 0 3) :=
 (by kernel_rfl)
theorem bMr : D122 r n aHy x0 r122 = D122 r n cBg x0 (K2 (aHm r n) 0 3) :=
 congrArg (fun k => D122 r n cBg x0 k) (cFx r n)
theorem cQz : D122 r n aHy x0 r122 = (K2 (vO r n) 0 3) :=
 (bMr r n).trans
 ((by kernel_rfl))
theorem bNc : D122 r n aGq x0 r122 = D122 r n aOq x0 (K2 (vO r n) 0 3) :=
 congrArg (fun k => D122 r n aOq x0 k) (cQz r n)
theorem bVc (q0 : gF) : D122 r n aOq x0 (K2 q0 0 3) = fun (env : aY) (h : Hp) =>
 bnd (r 120 [(env 0), (aE 4), (.s [])] h) fun v1 h1 =>
 bnd (bK [(aE 0), (.s []), (aE 0), (aE 0)] h1) fun v2 h2 =>
 bnd (aG 4 v2 v1 h2) fun _ h3 =>
  q0 (env 0) v2 h3 := by kernel_rfl
theorem bFk : (fun (env : aY) (h : Hp) =>
 bnd (r 120 [(env 0), (aE 4), (.s [])] h) fun v1 h1 =>
 bnd (bK [(aE 0), (.s []), (aE 0), (aE 0)] h1) fun v2 h2 =>
 bnd (aG 4 v2 v1 h2) fun _ h3 =>
  vO r n (env 0) v2 h3) = (K1 (aGu r n) 0) := by kernel_rfl
theorem cPn : D122 r n aGq x0 r122 = (K1 (aGu r n) 0) :=
 (bNc r n).trans
 ((bVc r n (vO r n)).trans (bFk r n))
theorem cAj : D122 r n aIr x0 r122 = D122 r n bWc x0 (K1 (aGu r n) 0) :=
 congrArg (fun k => D122 r n bWc x0 k) (cPn r n)
theorem cRf : D122 r n aIr x0 r122 = (K1 (aQg r n) 0) :=
 (cAj r n).trans
 ((by kernel_rfl))
theorem bPh : D122 r n aCb x0 r122 = D122 r n aZk x0 (K1 (aQg r n) 0) :=
 congrArg (fun k => D122 r n aZk x0 k) (cRf r n)
theorem cEo : D122 r n aCb x0 r122 = (K1 (aOu r n) 0) :=
 (bPh r n).trans
 ((by kernel_rfl))
theorem bXe : D122 r n aEe x0 r122 = D122 r n bAr x0 (K1 (aOu r n) 0) :=
 congrArg (fun k => D122 r n bAr x0 k) (cEo r n)
theorem cLc : D122 r n aEe x0 r122 = (K1 (aOr r n) 0) :=
 (bXe r n).trans
 ((by kernel_rfl))
theorem cVa : D122 r n c122 x0 r122 = D122 r n aWw x0 (K1 (aOr r n) 0) :=
 congrArg (fun k => D122 r n aWw x0 k) (cLc r n)
theorem dHb : D122 r n c122 x0 r122 = (K1 (s122 r n) 0) :=
 (cVa r n).trans
 ((by kernel_rfl))
theorem cXg : aF CF r n 122 args h = s122 r n (aQ args 0) h :=
 (by kernel_rfl : aF CF r n 122 args h = D122 r n c122 x0 r122 (aJ args) h).trans ((congrFun (congrFun (dHb r n) (aJ args)) h).trans (by kernel_rfl))
noncomputable def aIa (r : RT) (n : Nat) (x0 : DV) (h0 : Hp) : aI :=
 bnd (r 141 [x0, (aE 20), (aE 0), (aE 0)] h0) fun v1 h1 =>
 some (.t [], h1)
noncomputable def cO (r : RT) (n : Nat) (x0 x2 : DV) (h0 : Hp) : aI :=
 aP x2 (
 bnd (r 141 [x0, (aE 2), (aE 0), (aE 0)] h0) fun v1 h1 =>
  aIa r n x0 h1) (
 bnd (r 141 [x0, (aE 1), (aE 0), (aE 0)] h0) fun v2 h2 =>
  aIa r n x0 h2)
noncomputable def lD (r : RT) (n : Nat) (kk8 : fD) (x0 x2 x6 x22 x23 x24 : DV) (h0 : Hp) : aI :=
 bnd (aD .add x24 (aE 1) h0) fun v1 h1 =>
  kk8 x0 x2 x6 x22 x23 v1 h1
noncomputable def sH (r : RT) (n : Nat) (kk8 : fD) (x0 x2 x6 x22 x23 x24 : DV) (h0 : Hp) : aI :=
 bnd (aH 6 x22 x24 h0) fun v1 h1 =>
 bnd (aK 6 v1 h1) fun v2 h2 =>
 bnd (bK gS h2) fun v3 h3 =>
 bnd (aG 6 v3 v2 h3) fun _ h4 =>
 bnd (aK 6 v3 h4) fun v5 h5 =>
 bnd (r 140 [x0, v5] h5) fun v6 h6 =>
 bnd (aD .eql x24 x6 h6) fun v7 h7 =>
 bnd (gD v7 true (aB 0 v3 h7) h7) fun v8 h8 =>
 bnd (gD v7 true (aA v8 h8) h8) fun v9 h9 =>
 bnd (gD v7 true (aD .eql v9 (aE 10) h9) h9) fun v10 h10 =>
 bnd (aO v7 v10 (.b false) h10) fun v11 h11 =>
 aP v11 (
 some (.t [], h11)) (
 bnd (aD .eql x24 x6 h11) fun v12 h12 =>
 bnd (gD v12 true (some (x2, h12)) h12) fun v13 h13 =>
 bnd (aO v12 v13 (.b false) h13) fun v14 h14 =>
 aP v14 (
 bnd (r 141 [x0, (aE 20), (aE 0), (aE 0)] h14) fun v15 h15 =>
 some (.t [], h15)) (
 bnd (aB 0 v3 h14) fun v16 h16 =>
 bnd (aA v16 h16) fun v17 h17 =>
 bnd (aD .eql v17 (aE 10) h17) fun v18 h18 =>
 aP v18 (
    lD r n kk8 x0 x2 x6 x22 x23 x24 h18) (
 bnd (r 141 [x0, (aE 12), (aE 0), (aE 0)] h18) fun v19 h19 =>
    lD r n kk8 x0 x2 x6 x22 x23 x24 h19)))
noncomputable def aQa (r : RT) (n : Nat) (kk8 : fD) (x0 x2 x6 x22 x23 x24 x25 : DV) (h0 : Hp) : aI :=
 aP x25 (
  sH r n kk8 x0 x2 x6 x22 x23 x24 h0) (
  cO r n x0 x2 h0)
noncomputable def aWk (r : RT) (n : Nat) (kk8 : fD) (x0 x2 x6 x22 x23 x24 : DV) (h0 : Hp) : aI :=
 bnd (aD .lss x24 x23 h0) fun v1 h1 =>
  aQa r n kk8 x0 x2 x6 x22 x23 x24 v1 h1
noncomputable def sW (r : RT) (n : Nat) (m : Nat) : fD :=
 Nat.rec (motive := fun _ => fD) (fun _ _ _ _ _ _ _ => none) (fun _ ih => aWk r n ih) m
noncomputable def bHr (r : RT) (n : Nat) : fD := sW r n n
noncomputable def aOm (r : RT) (n : Nat) (x0 x2 x6 x22 x23 x24 : DV) (h0 : Hp) : aI :=
 bHr r n x0 x2 x6 x22 x23 x24 h0
noncomputable def aTn (r : RT) (n : Nat) (x0 x2 x4 x6 : DV) (h0 : Hp) : aI :=
 bnd (aB 5 x4 h0) fun v1 h1 =>
 bnd (aA v1 h1) fun v2 h2 =>
 bnd (bW v2 h2) fun v3 h3 =>
  aOm r n x0 x2 x6 v2 v3 (aE 0) h3
noncomputable def aQb (r : RT) (n : Nat) (x0 x2 x4 : DV) (h0 : Hp) : aI :=
 bnd (aB 5 x4 h0) fun v1 h1 =>
 bnd (aA v1 h1) fun v2 h2 =>
 bnd (bW v2 h2) fun v3 h3 =>
 bnd (aD .sub v3 (aE 1) h3) fun v4 h4 =>
  aTn r n x0 x2 x4 v4 h4
noncomputable def aRx (r : RT) (n : Nat) (x0 x2 x4 : DV) (h0 : Hp) : aI :=
 bnd (aB 4 x4 h0) fun v1 h1 =>
 bnd (aA v1 h1) fun v2 h2 =>
 bnd (r 139 [x0, v2, (.b false)] h2) fun v3 h3 =>
  aQb r n x0 x2 x4 h3
noncomputable def xK (r : RT) (n : Nat) (x0 x2 x4 : DV) (h0 : Hp) : aI :=
 bnd (aB 3 x4 h0) fun v1 h1 =>
 bnd (aA v1 h1) fun v2 h2 =>
 bnd (r 139 [x0, v2, (.b true)] h2) fun v3 h3 =>
  aRx r n x0 x2 x4 h3
noncomputable def s123 (r : RT) (n : Nat) (x0 x1 x2 : DV) (h0 : Hp) : aI :=
 bnd (bQ x1 h0) fun v1 h1 =>
  xK r n x0 x2 v1 h1
noncomputable abbrev c123 : Code := cf Tryz.f123
noncomputable abbrev aKq : Code := cR c123
noncomputable abbrev aAt : Code := cR aKq
noncomputable abbrev aDw : Code := cR aAt
noncomputable abbrev aCp : Code := cR aDw
noncomputable abbrev aBu : Code := cR aCp
noncomputable abbrev dCw : Code := cR aBu
noncomputable abbrev bJj : Code := cL aBu
noncomputable abbrev vH : Code := cL aCp
noncomputable abbrev aOk : Code := cR vH
noncomputable abbrev tH : Code := cL aOk
noncomputable abbrev hZ : Code := cL tH
noncomputable abbrev tE : Code := cR hZ
noncomputable abbrev uJ : Code := cR tE
noncomputable abbrev cKb : Code := cR uJ
noncomputable abbrev aHs : Code := cL uJ
noncomputable abbrev bCi : Code := cL tE
noncomputable abbrev bCl : Code := cL hZ
noncomputable abbrev aXm : Code := cL vH
noncomputable abbrev aWy : Code := cL aDw
noncomputable abbrev aXw : Code := cL aAt
noncomputable abbrev aZl : Code := cL aKq
noncomputable abbrev aKk : Code := cL c123
noncomputable abbrev r123 : K := aT CF Tryz.f123
noncomputable def D123 (r : RT) (n : Nat) (c : Code) (X : Nat → K) (k : K) : K := aM CF r 64 n c X r123 k
theorem cQe : D123 r n dCw x0 r123 = (K1 (aIa r n) 0) :=
 (by kernel_rfl)
theorem bTq : D123 r n aBu x0 r123 = D123 r n bJj x0 (K1 (aIa r n) 0) :=
 congrArg (fun k => D123 r n bJj x0 k) (cQe r n)
theorem cRq : D123 r n aBu x0 r123 = (K2 (cO r n) 0 2) :=
 (bTq r n).trans
 ((by kernel_rfl))
theorem bJn (kk8 : fD) : D123 r n cKb (xs x0 0 (K2 (cO r n) 0 2)) (K6 kk8 0 2 6 22 23 24) = (K6 (lD r n kk8) 0 2 6 22 23 24) :=
 (by kernel_rfl)
theorem bHk (kk8 : fD) : D123 r n uJ (xs x0 0 (K2 (cO r n) 0 2)) (K6 kk8 0 2 6 22 23 24) = D123 r n aHs (xs x0 0 (K2 (cO r n) 0 2)) (K6 (lD r n kk8) 0 2 6 22 23 24) :=
 congrArg (fun k => D123 r n aHs (xs x0 0 (K2 (cO r n) 0 2)) k) (bJn r n kk8)
theorem bDg (kk8 : fD) (q0 : fD) (q1 : gF) : D123 r n aHs (xs x0 0 (K2 q1 0 2)) (K6 q0 0 2 6 22 23 24) = fun (env : aY) (h : Hp) =>
 bnd (aH 6 (env 22) (env 24) h) fun v1 h1 =>
 bnd (aK 6 v1 h1) fun v2 h2 =>
 bnd (bK gS h2) fun v3 h3 =>
 bnd (aG 6 v3 v2 h3) fun _ h4 =>
 bnd (aK 6 v3 h4) fun v5 h5 =>
 bnd (r 140 [(env 0), v5] h5) fun v6 h6 =>
 bnd (aD .eql (env 24) (env 6) h6) fun v7 h7 =>
 bnd (gD v7 true (aB 0 v3 h7) h7) fun v8 h8 =>
 bnd (gD v7 true (aA v8 h8) h8) fun v9 h9 =>
 bnd (gD v7 true (aD .eql v9 (aE 10) h9) h9) fun v10 h10 =>
 bnd (aO v7 v10 (.b false) h10) fun v11 h11 =>
 aP v11 (
 some (.t [], h11)) (
 bnd (aD .eql (env 24) (env 6) h11) fun v12 h12 =>
 bnd (gD v12 true (some ((env 2), h12)) h12) fun v13 h13 =>
 bnd (aO v12 v13 (.b false) h13) fun v14 h14 =>
 aP v14 (
 bnd (r 141 [(env 0), (aE 20), (aE 0), (aE 0)] h14) fun v15 h15 =>
 some (.t [], h15)) (
 bnd (aB 0 v3 h14) fun v16 h16 =>
 bnd (aA v16 h16) fun v17 h17 =>
 bnd (aD .eql v17 (aE 10) h17) fun v18 h18 =>
 aP v18 (
     q0 (env 0) (env 2) (env 6) (env 22) (env 23) (env 24) h18) (
 bnd (r 141 [(env 0), (aE 12), (aE 0), (aE 0)] h18) fun v19 h19 =>
     q0 (env 0) (env 2) (env 6) (env 22) (env 23) (env 24) h19))) := by kernel_rfl
theorem aQe (kk8 : fD) : (fun (env : aY) (h : Hp) =>
 bnd (aH 6 (env 22) (env 24) h) fun v1 h1 =>
 bnd (aK 6 v1 h1) fun v2 h2 =>
 bnd (bK gS h2) fun v3 h3 =>
 bnd (aG 6 v3 v2 h3) fun _ h4 =>
 bnd (aK 6 v3 h4) fun v5 h5 =>
 bnd (r 140 [(env 0), v5] h5) fun v6 h6 =>
 bnd (aD .eql (env 24) (env 6) h6) fun v7 h7 =>
 bnd (gD v7 true (aB 0 v3 h7) h7) fun v8 h8 =>
 bnd (gD v7 true (aA v8 h8) h8) fun v9 h9 =>
 bnd (gD v7 true (aD .eql v9 (aE 10) h9) h9) fun v10 h10 =>
 bnd (aO v7 v10 (.b false) h10) fun v11 h11 =>
 aP v11 (
 some (.t [], h11)) (
 bnd (aD .eql (env 24) (env 6) h11) fun v12 h12 =>
 bnd (gD v12 true (some ((env 2), h12)) h12) fun v13 h13 =>
 bnd (aO v12 v13 (.b false) h13) fun v14 h14 =>
 aP v14 (
 bnd (r 141 [(env 0), (aE 20), (aE 0), (aE 0)] h14) fun v15 h15 =>
 some (.t [], h15)) (
 bnd (aB 0 v3 h14) fun v16 h16 =>
 bnd (aA v16 h16) fun v17 h17 =>
 bnd (aD .eql v17 (aE 10) h17) fun v18 h18 =>
 aP v18 (
     lD r n kk8 (env 0) (env 2) (env 6) (env 22) (env 23) (env 24) h18) (
 bnd (r 141 [(env 0), (aE 12), (aE 0), (aE 0)] h18) fun v19 h19 =>
     lD r n kk8 (env 0) (env 2) (env 6) (env 22) (env 23) (env 24) h19)))) = (K6 (sH r n kk8) 0 2 6 22 23 24) := by kernel_rfl
theorem bUi (kk8 : fD) : D123 r n uJ (xs x0 0 (K2 (cO r n) 0 2)) (K6 kk8 0 2 6 22 23 24) = (K6 (sH r n kk8) 0 2 6 22 23 24) :=
 (bHk r n kk8).trans
 ((bDg r n kk8 (lD r n kk8) (cO r n)).trans (aQe r n kk8))
theorem bLu (kk8 : fD) : D123 r n tE (xs x0 0 (K2 (cO r n) 0 2)) (K6 kk8 0 2 6 22 23 24) = D123 r n bCi (xs x0 0 (K2 (cO r n) 0 2)) (K6 (sH r n kk8) 0 2 6 22 23 24) :=
 congrArg (fun k => D123 r n bCi (xs x0 0 (K2 (cO r n) 0 2)) k) (bUi r n kk8)
theorem cNo (kk8 : fD) : D123 r n tE (xs x0 0 (K2 (cO r n) 0 2)) (K6 kk8 0 2 6 22 23 24) = (K7 (aQa r n kk8) 0 2 6 22 23 24 25) :=
 (bLu r n kk8).trans
 ((by kernel_rfl))
theorem cBl (kk8 : fD) : D123 r n hZ (xs x0 0 (K2 (cO r n) 0 2)) (K6 kk8 0 2 6 22 23 24) = D123 r n bCl (xs x0 0 (K2 (cO r n) 0 2)) (K7 (aQa r n kk8) 0 2 6 22 23 24 25) :=
 congrArg (fun k => D123 r n bCl (xs x0 0 (K2 (cO r n) 0 2)) k) (cNo r n kk8)
theorem bHq (kk8 : fD) : D123 r n hZ (xs x0 0 (K2 (cO r n) 0 2)) (K6 kk8 0 2 6 22 23 24) = (K6 (aWk r n kk8) 0 2 6 22 23 24) :=
 (cBl r n kk8).trans
 ((by kernel_rfl))
theorem bNb (m : Nat) : aN (fun kk => D123 r n hZ (xs x0 0 (K2 (cO r n) 0 2)) kk) m = (K6 (sW r n m) 0 2 6 22 23 24) := by
 induction m with
 | zero => exact (by kernel_rfl : aN (fun kk => D123 r n hZ (xs x0 0 (K2 (cO r n) 0 2)) kk) 0 = (K6 (sW r n 0) 0 2 6 22 23 24))
 | succ m ih =>
  refine (by kernel_rfl : aN (fun kk => D123 r n hZ (xs x0 0 (K2 (cO r n) 0 2)) kk) (m + 1) = D123 r n hZ (xs x0 0 (K2 (cO r n) 0 2)) (aN (fun kk => D123 r n hZ (xs x0 0 (K2 (cO r n) 0 2)) kk) m)).trans ?_
  rw [ih]
  exact (bHq r n (sW r n m)).trans (by kernel_rfl)
theorem cHc : D123 r n tH (xs x0 0 (K2 (cO r n) 0 2)) (K2 (cO r n) 0 2) = (K6 (bHr r n) 0 2 6 22 23 24) :=
 (by kernel_rfl : D123 r n tH (xs x0 0 (K2 (cO r n) 0 2)) (K2 (cO r n) 0 2) = aN (fun kk => D123 r n hZ (xs x0 0 (K2 (cO r n) 0 2)) kk) n).trans ((bNb r n n).trans (by kernel_rfl))
theorem cMk : D123 r n aOk x0 (K2 (cO r n) 0 2) = (K6 (aOm r n) 0 2 6 22 23 24) :=
 (by kernel_rfl : D123 r n aOk x0 (K2 (cO r n) 0 2) = D123 r n tH (xs x0 0 (K2 (cO r n) 0 2)) (K2 (cO r n) 0 2)).trans
 ((cHc r n).trans (by kernel_rfl))
theorem cCh : D123 r n aCp x0 r123 = D123 r n vH x0 (K2 (cO r n) 0 2) :=
 congrArg (fun k => D123 r n vH x0 k) (cRq r n)
theorem bOp : D123 r n vH x0 (K2 (cO r n) 0 2) = D123 r n aXm x0 (K6 (aOm r n) 0 2 6 22 23 24) :=
 congrArg (fun k => D123 r n aXm x0 k) (cMk r n)
theorem cJq : D123 r n aCp x0 r123 = (K4 (aTn r n) 0 2 4 6) :=
 (cCh r n).trans
 ((bOp r n).trans
 ((by kernel_rfl)))
theorem cBm : D123 r n aDw x0 r123 = D123 r n aWy x0 (K4 (aTn r n) 0 2 4 6) :=
 congrArg (fun k => D123 r n aWy x0 k) (cJq r n)
theorem cOv : D123 r n aDw x0 r123 = (K3 (aQb r n) 0 2 4) :=
 (cBm r n).trans
 ((by kernel_rfl))
theorem bXl : D123 r n aAt x0 r123 = D123 r n aXw x0 (K3 (aQb r n) 0 2 4) :=
 congrArg (fun k => D123 r n aXw x0 k) (cOv r n)
theorem cOd : D123 r n aAt x0 r123 = (K3 (aRx r n) 0 2 4) :=
 (bXl r n).trans
 ((by kernel_rfl))
theorem bEr : D123 r n aKq x0 r123 = D123 r n aZl x0 (K3 (aRx r n) 0 2 4) :=
 congrArg (fun k => D123 r n aZl x0 k) (cOd r n)
theorem cGa : D123 r n aKq x0 r123 = (K3 (xK r n) 0 2 4) :=
 (bEr r n).trans
 ((by kernel_rfl))
theorem cLy : D123 r n c123 x0 r123 = D123 r n aKk x0 (K3 (xK r n) 0 2 4) :=
 congrArg (fun k => D123 r n aKk x0 k) (cGa r n)
theorem cDd (q0 : mM) : D123 r n aKk x0 (K3 q0 0 2 4) = fun (env : aY) (h : Hp) =>
 bnd (bQ (env 1) h) fun v1 h1 =>
  q0 (env 0) (env 2) v1 h1 := by kernel_rfl
theorem bYy : (fun (env : aY) (h : Hp) =>
 bnd (bQ (env 1) h) fun v1 h1 =>
  xK r n (env 0) (env 2) v1 h1) = (K3 (s123 r n) 0 1 2) := by kernel_rfl
theorem dHd : D123 r n c123 x0 r123 = (K3 (s123 r n) 0 1 2) :=
 (cLy r n).trans
 ((cDd r n (xK r n)).trans (bYy r n))
theorem cXl : aF CF r n 123 args h = s123 r n (aQ args 0) (aQ args 1) (aQ args 2) h :=
 (by kernel_rfl : aF CF r n 123 args h = D123 r n c123 x0 r123 (aJ args) h).trans ((congrFun (congrFun (dHd r n) (aJ args)) h).trans (by kernel_rfl))
noncomputable def s124 (r : RT) (n : Nat) (x0 : DV) (h0 : Hp) : aI :=
 bnd (bQ x0 h0) fun v1 h1 =>
 bnd (aB 0 v1 h1) fun v2 h2 =>
 bnd (aA v2 h2) fun v3 h3 =>
 bnd (r 142 [v3] h3) fun v4 h4 =>
 bnd (aC 0 v4 h4) fun v5 h5 =>
 bnd (aC 1 v4 h5) fun v6 h6 =>
 bnd (aB 0 v1 h6) fun v7 h7 =>
 bnd (aA v7 h7) fun v8 h8 =>
 bnd (aD .geq v8 (aE 1) h8) fun v9 h9 =>
 bnd (gD v9 true (aB 0 v1 h9) h9) fun v10 h10 =>
 bnd (gD v9 true (aA v10 h10) h10) fun v11 h11 =>
 bnd (gD v9 true (aD .leq v11 (aE 20) h11) h11) fun v12 h12 =>
 bnd (aO v9 v12 (.b false) h12) fun v13 h13 =>
 bnd (gD v13 true (aB 1 v1 h13) h13) fun v14 h14 =>
 bnd (gD v13 true (aA v14 h14) h14) fun v15 h15 =>
 bnd (gD v13 true (some (v5, h15)) h15) fun v16 h16 =>
 bnd (gD v13 true (r 143 [v15, v16] h16) h16) fun v17 h17 =>
 bnd (aO v13 v17 (.b false) h17) fun v18 h18 =>
 bnd (gD v18 true (aB 2 v1 h18) h18) fun v19 h19 =>
 bnd (gD v18 true (aA v19 h19) h19) fun v20 h20 =>
 bnd (gD v18 true (some (v6, h20)) h20) fun v21 h21 =>
 bnd (gD v18 true (r 143 [v20, v21] h21) h21) fun v22 h22 =>
 bnd (aO v18 v22 (.b false) h22) fun v23 h23 =>
 some (v23, h23)
noncomputable abbrev c124 : Code := cf Tryz.f124
noncomputable abbrev r124 : K := aT CF Tryz.f124
noncomputable def D124 (r : RT) (n : Nat) (c : Code) (X : Nat → K) (k : K) : K := aM CF r 31 n c X r124 k
theorem dJq : D124 r n c124 x0 r124 = (K1 (s124 r n) 0) :=
 (by kernel_rfl)
theorem dEy : aF CF r n 124 args h = s124 r n (aQ args 0) h :=
 (by kernel_rfl : aF CF r n 124 args h = D124 r n c124 x0 r124 (aJ args) h).trans ((congrFun (congrFun (dJq r n) (aJ args)) h).trans (by kernel_rfl))
noncomputable def s125 (r : RT) (n : Nat) (x0 x1 : DV) (h0 : Hp) : aI :=
 bnd (bQ x0 h0) fun v1 h1 =>
 bnd (aK 6 v1 h1) fun v2 h2 =>
 bnd (r 144 [v2, x1] h2) fun v3 h3 =>
 bnd (aC 0 v3 h3) fun v4 h4 =>
 bnd (aC 1 v3 h4) fun v5 h5 =>
 some (v5, h5)
noncomputable abbrev c125 : Code := cf Tryz.f125
noncomputable abbrev r125 : K := aT CF Tryz.f125
noncomputable def D125 (r : RT) (n : Nat) (c : Code) (X : Nat → K) (k : K) : K := aM CF r 14 n c X r125 k
theorem dLi : D125 r n c125 x0 r125 = (K2 (s125 r n) 0 1) :=
 (by kernel_rfl)
theorem cWz : aF CF r n 125 args h = s125 r n (aQ args 0) (aQ args 1) h :=
 (by kernel_rfl : aF CF r n 125 args h = D125 r n c125 x0 r125 (aJ args) h).trans ((congrFun (congrFun (dLi r n) (aJ args)) h).trans (by kernel_rfl))
noncomputable def eF (r : RT) (n : Nat) (x0 x6 : DV) (h0 : Hp) : aI :=
 bnd (r 46 [x0, x6] h0) fun v1 h1 =>
 bnd (aC 0 v1 h1) fun v2 h2 =>
 bnd (aC 1 v1 h2) fun v3 h3 =>
 some (.t [v2, v3], h3)
noncomputable def aDu (r : RT) (n : Nat) (kk6 : cD) (x0 x6 x38 x39 x40 : DV) (h0 : Hp) : aI :=
 bnd (aD .lss x40 x39 h0) fun v1 h1 =>
 aP v1 (
 bnd (aH 4 x38 x40 h1) fun v2 h2 =>
 bnd (aK 4 v2 h2) fun v3 h3 =>
 bnd (bK [(aE 0), (.s []), (aE 0), .l0] h3) fun v4 h4 =>
 bnd (aG 4 v4 v3 h4) fun _ h5 =>
 bnd (aK 4 v4 h5) fun v6 h6 =>
 bnd (r 126 [x0, v6] h6) fun v7 h7 =>
 bnd (aC 0 v7 h7) fun v8 h8 =>
 bnd (aC 1 v7 h8) fun v9 h9 =>
 bnd (aD .neq v9 (aE 0) h9) fun v10 h10 =>
 aP v10 (
 some (.t [(aE 0), v9], h10)) (
 bnd (aL [(aE 0)] 1 [(0, 1, v8)] h10) fun v11 h11 =>
 bnd (aZ 1 8 x6 v11 h11) fun v12 h12 =>
 bnd (aD .add x40 (aE 1) h12) fun v13 h13 =>
    kk6 x0 v12 x38 x39 v13 h13)) (
      eF r n x0 x6 h1)
noncomputable def sQ (r : RT) (n : Nat) (m : Nat) : cD :=
 Nat.rec (motive := fun _ => cD) (fun _ _ _ _ _ _ => none) (fun _ ih => aDu r n ih) m
noncomputable def bSq (r : RT) (n : Nat) : cD := sQ r n n
noncomputable def aTt (r : RT) (n : Nat) (x0 x6 x38 x39 x40 : DV) (h0 : Hp) : aI :=
 bSq r n x0 x6 x38 x39 x40 h0
noncomputable def aRv (r : RT) (n : Nat) (x0 x3 x6 : DV) (h0 : Hp) : aI :=
 bnd (aB 3 x3 h0) fun v1 h1 =>
 bnd (aA v1 h1) fun v2 h2 =>
 bnd (bW v2 h2) fun v3 h3 =>
  aTt r n x0 x6 v2 v3 (aE 0) h3
noncomputable def aSn (r : RT) (n : Nat) (x0 x3 : DV) (h0 : Hp) : aI :=
 aRv r n x0 x3 .l0 h0
noncomputable def vF (r : RT) (n : Nat) (x0 x3 : DV) (h0 : Hp) : aI :=
 bnd (aB 0 x3 h0) fun v1 h1 =>
 bnd (aA v1 h1) fun v2 h2 =>
 bnd (aD .eql v2 (aE 1) h2) fun v3 h3 =>
 aP v3 (
 bnd (aB 2 x3 h3) fun v4 h4 =>
 bnd (aA v4 h4) fun v5 h5 =>
 bnd (r 42 [x0, v5] h5) fun v6 h6 =>
 bnd (aC 0 v6 h6) fun v7 h7 =>
 bnd (aC 1 v6 h7) fun v8 h8 =>
 some (.t [v7, v8], h8)) (
 bnd (aD .eql v2 (aE 2) h3) fun v9 h9 =>
 aP v9 (
 bnd (aB 1 x3 h9) fun v10 h10 =>
 bnd (aA v10 h10) fun v11 h11 =>
 bnd (r 43 [x0, v11] h11) fun v12 h12 =>
 bnd (aC 0 v12 h12) fun v13 h13 =>
 bnd (aC 1 v12 h13) fun v14 h14 =>
 some (.t [v13, v14], h14)) (
 bnd (aD .eql v2 (aE 3) h9) fun v15 h15 =>
 aP v15 (
 bnd (aB 1 x3 h15) fun v16 h16 =>
 bnd (aA v16 h16) fun v17 h17 =>
 bnd (r 44 [x0, v17] h17) fun v18 h18 =>
 bnd (aC 0 v18 h18) fun v19 h19 =>
 bnd (aC 1 v18 h19) fun v20 h20 =>
 some (.t [v19, v20], h20)) (
    aSn r n x0 x3 h15)))
noncomputable def s126 (r : RT) (n : Nat) (x0 x1 : DV) (h0 : Hp) : aI :=
 bnd (bQ x1 h0) fun v1 h1 =>
  vF r n x0 v1 h1
noncomputable abbrev c126 : Code := cf Tryz.f126
noncomputable abbrev aBa : Code := cR c126
noncomputable abbrev aIj : Code := cR aBa
noncomputable abbrev aGn : Code := cR aIj
noncomputable abbrev dAs : Code := cR aGn
noncomputable abbrev wI : Code := cL aGn
noncomputable abbrev aSb : Code := cR wI
noncomputable abbrev aGs : Code := cL aSb
noncomputable abbrev mG : Code := cL aGs
noncomputable abbrev bPd : Code := cL wI
noncomputable abbrev bCe : Code := cL aIj
noncomputable abbrev aZd : Code := cL aBa
noncomputable abbrev aId : Code := cL c126
noncomputable abbrev r126 : K := aT CF Tryz.f126
noncomputable def D126 (r : RT) (n : Nat) (c : Code) (X : Nat → K) (k : K) : K := aM CF r 63 n c X r126 k
theorem cQx : D126 r n dAs x0 r126 = (K2 (eF r n) 0 6) :=
 (by kernel_rfl)
theorem bJe (kk6 : cD) (q0 : gF) : D126 r n mG (xs x0 1 (K2 q0 0 6)) (K5 kk6 0 6 38 39 40) = fun (env : aY) (h : Hp) =>
 bnd (aD .lss (env 40) (env 39) h) fun v1 h1 =>
 aP v1 (
 bnd (aH 4 (env 38) (env 40) h1) fun v2 h2 =>
 bnd (aK 4 v2 h2) fun v3 h3 =>
 bnd (bK [(aE 0), (.s []), (aE 0), .l0] h3) fun v4 h4 =>
 bnd (aG 4 v4 v3 h4) fun _ h5 =>
 bnd (aK 4 v4 h5) fun v6 h6 =>
 bnd (r 126 [(env 0), v6] h6) fun v7 h7 =>
 bnd (aC 0 v7 h7) fun v8 h8 =>
 bnd (aC 1 v7 h8) fun v9 h9 =>
 bnd (aD .neq v9 (aE 0) h9) fun v10 h10 =>
 aP v10 (
 some (.t [(aE 0), v9], h10)) (
 bnd (aL [(aE 0)] 1 [(0, 1, v8)] h10) fun v11 h11 =>
 bnd (aZ 1 8 (env 6) v11 h11) fun v12 h12 =>
 bnd (aD .add (env 40) (aE 1) h12) fun v13 h13 =>
    kk6 (env 0) v12 (env 38) (env 39) v13 h13)) (
      q0 (env 0) (env 6) h1) := by kernel_rfl
theorem bDi (kk6 : cD) : (fun (env : aY) (h : Hp) =>
 bnd (aD .lss (env 40) (env 39) h) fun v1 h1 =>
 aP v1 (
 bnd (aH 4 (env 38) (env 40) h1) fun v2 h2 =>
 bnd (aK 4 v2 h2) fun v3 h3 =>
 bnd (bK [(aE 0), (.s []), (aE 0), .l0] h3) fun v4 h4 =>
 bnd (aG 4 v4 v3 h4) fun _ h5 =>
 bnd (aK 4 v4 h5) fun v6 h6 =>
 bnd (r 126 [(env 0), v6] h6) fun v7 h7 =>
 bnd (aC 0 v7 h7) fun v8 h8 =>
 bnd (aC 1 v7 h8) fun v9 h9 =>
 bnd (aD .neq v9 (aE 0) h9) fun v10 h10 =>
 aP v10 (
 some (.t [(aE 0), v9], h10)) (
 bnd (aL [(aE 0)] 1 [(0, 1, v8)] h10) fun v11 h11 =>
 bnd (aZ 1 8 (env 6) v11 h11) fun v12 h12 =>
 bnd (aD .add (env 40) (aE 1) h12) fun v13 h13 =>
    kk6 (env 0) v12 (env 38) (env 39) v13 h13)) (
      eF r n (env 0) (env 6) h1)) = (K5 (aDu r n kk6) 0 6 38 39 40) := by kernel_rfl
theorem cAb (kk6 : cD) : D126 r n mG (xs x0 1 (K2 (eF r n) 0 6)) (K5 kk6 0 6 38 39 40) = (K5 (aDu r n kk6) 0 6 38 39 40) :=
 (bJe r n kk6 (eF r n)).trans (bDi r n kk6)
theorem bPs (m : Nat) : aN (fun kk => D126 r n mG (xs x0 1 (K2 (eF r n) 0 6)) kk) m = (K5 (sQ r n m) 0 6 38 39 40) := by
 induction m with
 | zero => exact (by kernel_rfl : aN (fun kk => D126 r n mG (xs x0 1 (K2 (eF r n) 0 6)) kk) 0 = (K5 (sQ r n 0) 0 6 38 39 40))
 | succ m ih =>
  refine (by kernel_rfl : aN (fun kk => D126 r n mG (xs x0 1 (K2 (eF r n) 0 6)) kk) (m + 1) = D126 r n mG (xs x0 1 (K2 (eF r n) 0 6)) (aN (fun kk => D126 r n mG (xs x0 1 (K2 (eF r n) 0 6)) kk) m)).trans ?_
  rw [ih]
  exact (cAb r n (sQ r n m)).trans (by kernel_rfl)
theorem cGm : D126 r n aGs (xs x0 1 (K2 (eF r n) 0 6)) (K2 (eF r n) 0 6) = (K5 (bSq r n) 0 6 38 39 40) :=
 (by kernel_rfl : D126 r n aGs (xs x0 1 (K2 (eF r n) 0 6)) (K2 (eF r n) 0 6) = aN (fun kk => D126 r n mG (xs x0 1 (K2 (eF r n) 0 6)) kk) n).trans ((bPs r n n).trans (by kernel_rfl))
theorem cJt : D126 r n aSb x0 (K2 (eF r n) 0 6) = (K5 (aTt r n) 0 6 38 39 40) :=
 (by kernel_rfl : D126 r n aSb x0 (K2 (eF r n) 0 6) = D126 r n aGs (xs x0 1 (K2 (eF r n) 0 6)) (K2 (eF r n) 0 6)).trans
 ((cGm r n).trans (by kernel_rfl))
theorem bIm : D126 r n aGn x0 r126 = D126 r n wI x0 (K2 (eF r n) 0 6) :=
 congrArg (fun k => D126 r n wI x0 k) (cQx r n)
theorem cCl : D126 r n wI x0 (K2 (eF r n) 0 6) = D126 r n bPd x0 (K5 (aTt r n) 0 6 38 39 40) :=
 congrArg (fun k => D126 r n bPd x0 k) (cJt r n)
theorem cLf : D126 r n aGn x0 r126 = (K3 (aRv r n) 0 3 6) :=
 (bIm r n).trans
 ((cCl r n).trans
 ((by kernel_rfl)))
theorem bNk : D126 r n aIj x0 r126 = D126 r n bCe x0 (K3 (aRv r n) 0 3 6) :=
 congrArg (fun k => D126 r n bCe x0 k) (cLf r n)
theorem cMc : D126 r n aIj x0 r126 = (K2 (aSn r n) 0 3) :=
 (bNk r n).trans
 ((by kernel_rfl))
theorem bQh : D126 r n aBa x0 r126 = D126 r n aZd x0 (K2 (aSn r n) 0 3) :=
 congrArg (fun k => D126 r n aZd x0 k) (cMc r n)
theorem cLh : D126 r n aBa x0 r126 = (K2 (vF r n) 0 3) :=
 (bQh r n).trans
 ((by kernel_rfl))
theorem cZu : D126 r n c126 x0 r126 = D126 r n aId x0 (K2 (vF r n) 0 3) :=
 congrArg (fun k => D126 r n aId x0 k) (cLh r n)
theorem cTl (q0 : gF) : D126 r n aId x0 (K2 q0 0 3) = fun (env : aY) (h : Hp) =>
 bnd (bQ (env 1) h) fun v1 h1 =>
  q0 (env 0) v1 h1 := by kernel_rfl
theorem cLl : (fun (env : aY) (h : Hp) =>
 bnd (bQ (env 1) h) fun v1 h1 =>
  vF r n (env 0) v1 h1) = (K2 (s126 r n) 0 1) := by kernel_rfl
theorem dFw : D126 r n c126 x0 r126 = (K2 (s126 r n) 0 1) :=
 (cZu r n).trans
 ((cTl r n (vF r n)).trans (cLl r n))
theorem cUh : aF CF r n 126 args h = s126 r n (aQ args 0) (aQ args 1) h :=
 (by kernel_rfl : aF CF r n 126 args h = D126 r n c126 x0 r126 (aJ args) h).trans ((congrFun (congrFun (dFw r n) (aJ args)) h).trans (by kernel_rfl))
noncomputable def eA (r : RT) (n : Nat) (x4 : DV) (h0 : Hp) : aI :=
 some (.t [x4, (aE 0)], h0)
noncomputable def aJy (r : RT) (n : Nat) (kk6 : dQ) (x4 x10 x11 x12 : DV) (h0 : Hp) : aI :=
 bnd (aD .lss x12 x11 h0) fun v1 h1 =>
 aP v1 (
 bnd (aH 3 x10 x12 h1) fun v2 h2 =>
 bnd (aK 3 v2 h2) fun v3 h3 =>
 bnd (bK [(aE 0), (aE 0), (aE 0)] h3) fun v4 h4 =>
 bnd (aG 3 v4 v3 h4) fun _ h5 =>
 bnd (aK 3 v4 h5) fun v6 h6 =>
 bnd (r 124 [v6] h6) fun v7 h7 =>
 bnd (fZ .not v7 h7) fun v8 h8 =>
 aP v8 (
 some (.t [.l0, (aE 19)], h8)) (
 bnd (aB 0 v4 h8) fun v9 h9 =>
 bnd (aA v9 h9) fun v10 h10 =>
 bnd (eB .u8 v10 h10) fun v11 h11 =>
 bnd (aB 1 v4 h11) fun v12 h12 =>
 bnd (aA v12 h12) fun v13 h13 =>
 bnd (eB .u8 v13 h13) fun v14 h14 =>
 bnd (aB 2 v4 h14) fun v15 h15 =>
 bnd (aA v15 h15) fun v16 h16 =>
 bnd (eB .u8 v16 h16) fun v17 h17 =>
 bnd (aL [(.i .u8 (Int.ofNat 0)), (.i .u8 (Int.ofNat 0)), (.i .u8 (Int.ofNat 0))] 3 [(0, 1, v11), (1, 1, v14), (2, 1, v17)] h17) fun v18 h18 =>
 bnd (aZ 1 1 x4 v18 h18) fun v19 h19 =>
 bnd (aD .add x12 (aE 1) h19) fun v20 h20 =>
    kk6 v19 x10 x11 v20 h20)) (
      eA r n x4 h1)
noncomputable def sR (r : RT) (n : Nat) (m : Nat) : dQ :=
 Nat.rec (motive := fun _ => dQ) (fun _ _ _ _ _ => none) (fun _ ih => aJy r n ih) m
noncomputable def bKp (r : RT) (n : Nat) : dQ := sR r n n
noncomputable def aRi (r : RT) (n : Nat) (x4 x10 x11 x12 : DV) (h0 : Hp) : aI :=
 bKp r n x4 x10 x11 x12 h0
noncomputable def aUm (r : RT) (n : Nat) (x0 x4 : DV) (h0 : Hp) : aI :=
 bnd (bW x0 h0) fun v1 h1 =>
  aRi r n x4 x0 v1 (aE 0) h1
noncomputable def aRa (r : RT) (n : Nat) (x0 : DV) (h0 : Hp) : aI :=
 aUm r n x0 .l0 h0
noncomputable def aTb (r : RT) (n : Nat) (x0 : DV) (h0 : Hp) : aI :=
 bnd (bW x0 h0) fun v1 h1 =>
 bnd (aD .gtr v1 (aE 400) h1) fun v2 h2 =>
 aP v2 (
 some (.t [.l0, (aE 19)], h2)) (
  aRa r n x0 h2)
noncomputable def s127 (r : RT) (n : Nat) (x0 : DV) (h0 : Hp) : aI :=
 aTb r n x0 h0
noncomputable abbrev c127 : Code := cf Tryz.f127
noncomputable abbrev aDi : Code := cR c127
noncomputable abbrev aBq : Code := cR aDi
noncomputable abbrev aJq : Code := cR aBq
noncomputable abbrev cVs : Code := cR aJq
noncomputable abbrev vW : Code := cL aJq
noncomputable abbrev aQn : Code := cR vW
noncomputable abbrev aGd : Code := cL aQn
noncomputable abbrev lT : Code := cL aGd
noncomputable abbrev bVx : Code := cL vW
noncomputable abbrev aWg : Code := cL aBq
noncomputable abbrev bCn : Code := cL aDi
noncomputable abbrev bCs : Code := cL c127
noncomputable abbrev r127 : K := aT CF Tryz.f127
noncomputable def D127 (r : RT) (n : Nat) (c : Code) (X : Nat → K) (k : K) : K := aM CF r 33 n c X r127 k
theorem cEu : D127 r n cVs x0 r127 = (K1 (eA r n) 4) :=
 (by kernel_rfl)
theorem bSp (kk6 : dQ) (q0 : TT1) : D127 r n lT (xs x0 0 (K1 q0 4)) (K4 kk6 4 10 11 12) = fun (env : aY) (h : Hp) =>
 bnd (aD .lss (env 12) (env 11) h) fun v1 h1 =>
 aP v1 (
 bnd (aH 3 (env 10) (env 12) h1) fun v2 h2 =>
 bnd (aK 3 v2 h2) fun v3 h3 =>
 bnd (bK [(aE 0), (aE 0), (aE 0)] h3) fun v4 h4 =>
 bnd (aG 3 v4 v3 h4) fun _ h5 =>
 bnd (aK 3 v4 h5) fun v6 h6 =>
 bnd (r 124 [v6] h6) fun v7 h7 =>
 bnd (fZ .not v7 h7) fun v8 h8 =>
 aP v8 (
 some (.t [.l0, (aE 19)], h8)) (
 bnd (aB 0 v4 h8) fun v9 h9 =>
 bnd (aA v9 h9) fun v10 h10 =>
 bnd (eB .u8 v10 h10) fun v11 h11 =>
 bnd (aB 1 v4 h11) fun v12 h12 =>
 bnd (aA v12 h12) fun v13 h13 =>
 bnd (eB .u8 v13 h13) fun v14 h14 =>
 bnd (aB 2 v4 h14) fun v15 h15 =>
 bnd (aA v15 h15) fun v16 h16 =>
 bnd (eB .u8 v16 h16) fun v17 h17 =>
 bnd (aL [(.i .u8 (Int.ofNat 0)), (.i .u8 (Int.ofNat 0)), (.i .u8 (Int.ofNat 0))] 3 [(0, 1, v11), (1, 1, v14), (2, 1, v17)] h17) fun v18 h18 =>
 bnd (aZ 1 1 (env 4) v18 h18) fun v19 h19 =>
 bnd (aD .add (env 12) (aE 1) h19) fun v20 h20 =>
    kk6 v19 (env 10) (env 11) v20 h20)) (
      q0 (env 4) h1) := by kernel_rfl
theorem bHi (kk6 : dQ) : (fun (env : aY) (h : Hp) =>
 bnd (aD .lss (env 12) (env 11) h) fun v1 h1 =>
 aP v1 (
 bnd (aH 3 (env 10) (env 12) h1) fun v2 h2 =>
 bnd (aK 3 v2 h2) fun v3 h3 =>
 bnd (bK [(aE 0), (aE 0), (aE 0)] h3) fun v4 h4 =>
 bnd (aG 3 v4 v3 h4) fun _ h5 =>
 bnd (aK 3 v4 h5) fun v6 h6 =>
 bnd (r 124 [v6] h6) fun v7 h7 =>
 bnd (fZ .not v7 h7) fun v8 h8 =>
 aP v8 (
 some (.t [.l0, (aE 19)], h8)) (
 bnd (aB 0 v4 h8) fun v9 h9 =>
 bnd (aA v9 h9) fun v10 h10 =>
 bnd (eB .u8 v10 h10) fun v11 h11 =>
 bnd (aB 1 v4 h11) fun v12 h12 =>
 bnd (aA v12 h12) fun v13 h13 =>
 bnd (eB .u8 v13 h13) fun v14 h14 =>
 bnd (aB 2 v4 h14) fun v15 h15 =>
 bnd (aA v15 h15) fun v16 h16 =>
 bnd (eB .u8 v16 h16) fun v17 h17 =>
 bnd (aL [(.i .u8 (Int.ofNat 0)), (.i .u8 (Int.ofNat 0)), (.i .u8 (Int.ofNat 0))] 3 [(0, 1, v11), (1, 1, v14), (2, 1, v17)] h17) fun v18 h18 =>
 bnd (aZ 1 1 (env 4) v18 h18) fun v19 h19 =>
 bnd (aD .add (env 12) (aE 1) h19) fun v20 h20 =>
    kk6 v19 (env 10) (env 11) v20 h20)) (
      eA r n (env 4) h1)) = (K4 (aJy r n kk6) 4 10 11 12) := by kernel_rfl
theorem bIe (kk6 : dQ) : D127 r n lT (xs x0 0 (K1 (eA r n) 4)) (K4 kk6 4 10 11 12) = (K4 (aJy r n kk6) 4 10 11 12) :=
 (bSp r n kk6 (eA r n)).trans (bHi r n kk6)
theorem bXs (m : Nat) : aN (fun kk => D127 r n lT (xs x0 0 (K1 (eA r n) 4)) kk) m = (K4 (sR r n m) 4 10 11 12) := by
 induction m with
 | zero => exact (by kernel_rfl : aN (fun kk => D127 r n lT (xs x0 0 (K1 (eA r n) 4)) kk) 0 = (K4 (sR r n 0) 4 10 11 12))
 | succ m ih =>
  refine (by kernel_rfl : aN (fun kk => D127 r n lT (xs x0 0 (K1 (eA r n) 4)) kk) (m + 1) = D127 r n lT (xs x0 0 (K1 (eA r n) 4)) (aN (fun kk => D127 r n lT (xs x0 0 (K1 (eA r n) 4)) kk) m)).trans ?_
  rw [ih]
  exact (bIe r n (sR r n m)).trans (by kernel_rfl)
theorem cEk : D127 r n aGd (xs x0 0 (K1 (eA r n) 4)) (K1 (eA r n) 4) = (K4 (bKp r n) 4 10 11 12) :=
 (by kernel_rfl : D127 r n aGd (xs x0 0 (K1 (eA r n) 4)) (K1 (eA r n) 4) = aN (fun kk => D127 r n lT (xs x0 0 (K1 (eA r n) 4)) kk) n).trans ((bXs r n n).trans (by kernel_rfl))
theorem cNz : D127 r n aQn x0 (K1 (eA r n) 4) = (K4 (aRi r n) 4 10 11 12) :=
 (by kernel_rfl : D127 r n aQn x0 (K1 (eA r n) 4) = D127 r n aGd (xs x0 0 (K1 (eA r n) 4)) (K1 (eA r n) 4)).trans
 ((cEk r n).trans (by kernel_rfl))
theorem bRm : D127 r n aJq x0 r127 = D127 r n vW x0 (K1 (eA r n) 4) :=
 congrArg (fun k => D127 r n vW x0 k) (cEu r n)
theorem bMz : D127 r n vW x0 (K1 (eA r n) 4) = D127 r n bVx x0 (K4 (aRi r n) 4 10 11 12) :=
 congrArg (fun k => D127 r n bVx x0 k) (cNz r n)
theorem cHr : D127 r n aJq x0 r127 = (K2 (aUm r n) 0 4) :=
 (bRm r n).trans
 ((bMz r n).trans
 ((by kernel_rfl)))
theorem bLm : D127 r n aBq x0 r127 = D127 r n aWg x0 (K2 (aUm r n) 0 4) :=
 congrArg (fun k => D127 r n aWg x0 k) (cHr r n)
theorem cEb : D127 r n aBq x0 r127 = (K1 (aRa r n) 0) :=
 (bLm r n).trans
 ((by kernel_rfl))
theorem bPr : D127 r n aDi x0 r127 = D127 r n bCn x0 (K1 (aRa r n) 0) :=
 congrArg (fun k => D127 r n bCn x0 k) (cEb r n)
theorem cMo : D127 r n aDi x0 r127 = (K1 (aTb r n) 0) :=
 (bPr r n).trans
 ((by kernel_rfl))
theorem cVi : D127 r n c127 x0 r127 = D127 r n bCs x0 (K1 (aTb r n) 0) :=
 congrArg (fun k => D127 r n bCs x0 k) (cMo r n)
theorem dMb : D127 r n c127 x0 r127 = (K1 (s127 r n) 0) :=
 (cVi r n).trans
 ((by kernel_rfl))
theorem dCt : aF CF r n 127 args h = s127 r n (aQ args 0) h :=
 (by kernel_rfl : aF CF r n 127 args h = D127 r n c127 x0 r127 (aJ args) h).trans ((congrFun (congrFun (dMb r n) (aJ args)) h).trans (by kernel_rfl))
noncomputable def eT (r : RT) (n : Nat) (x0 x6 : DV) (h0 : Hp) : aI :=
 bnd (r 46 [x0, x6] h0) fun v1 h1 =>
 bnd (aC 0 v1 h1) fun v2 h2 =>
 bnd (aC 1 v1 h2) fun v3 h3 =>
 some (.t [v2, v3], h3)
noncomputable def aBm (r : RT) (n : Nat) (kk4 : mM) (x0 x1 x6 : DV) (h0 : Hp) : aI :=
 bnd (bW x1 h0) fun v1 h1 =>
 bnd (aD .gtr v1 (aE 0) h1) fun v2 h2 =>
 aP v2 (
 bnd (bW x1 h2) fun v3 h3 =>
 bnd (aPk v3 (aE 240) h3) fun v4 h4 =>
 bnd (r 30 [x0, (aE 10)] h4) fun v5 h5 =>
 bnd (cS 1 x1 none (some v4) h5) fun v6 h6 =>
 cnd (bL (cS 1 x1 none (some v4) h4) v6 && true) (
 bnd (gP v6 h6) fun v7 h7 =>
 cnd (bL (gP v6 h4) v7 && true) (
 bnd (r 83 [x0, v5, v7] h7) fun v8 h8 =>
 bnd (aC 0 v8 h8) fun v9 h9 =>
 bnd (aC 1 v8 h9) fun v10 h10 =>
 bnd (aD .neq v10 (aE 0) h10) fun v11 h11 =>
 aP v11 (
 some (.t [(aE 0), v10], h11)) (
 bnd (bJ (bX 0 h11.next) [(aE 0)] 1 [(0, 1, v9)] (resv 1 h11)) fun v12 h12 =>
 bnd (aZ 1 8 x6 v12 h12) fun v13 h13 =>
 bnd (cS 1 x1 (some v4) none h13) fun v14 h14 =>
 cnd (bL (cS 1 x1 (some v4) none (resv 1 h11)) v14 && true) (
    kk4 x0 v14 v13 h14))))) (
      eT r n x0 x6 h2)
noncomputable def sM (r : RT) (n : Nat) (m : Nat) : mM :=
 Nat.rec (motive := fun _ => mM) (fun _ _ _ _ => none) (fun _ ih => aBm r n ih) m
noncomputable def bRd (r : RT) (n : Nat) : mM := sM r n n
noncomputable def aOs (r : RT) (n : Nat) (x0 x1 x6 : DV) (h0 : Hp) : aI :=
 bRd r n x0 x1 x6 h0
noncomputable def aPn (r : RT) (n : Nat) (x0 x1 : DV) (h0 : Hp) : aI :=
 aOs r n x0 x1 .l0 h0
noncomputable def s128 (r : RT) (n : Nat) (x0 x1 : DV) (h0 : Hp) : aI :=
 aPn r n x0 x1 h0
noncomputable abbrev c128 : Code := cf Tryz.f128
noncomputable abbrev aIp : Code := cR c128
noncomputable abbrev aEy : Code := cR aIp
noncomputable abbrev cXn : Code := cR aEy
noncomputable abbrev aGk : Code := cL aEy
noncomputable abbrev aIo : Code := cL aGk
noncomputable abbrev mI : Code := cL aIo
noncomputable abbrev bTc : Code := cL aIp
noncomputable abbrev bSc : Code := cL c128
noncomputable abbrev r128 : K := aT CF Tryz.f128
noncomputable def D128 (r : RT) (n : Nat) (c : Code) (X : Nat → K) (k : K) : K := aM CF r 42 n c X r128 k
theorem cFk : D128 r n cXn x0 r128 = (K2 (eT r n) 0 6) :=
 (by kernel_rfl)
theorem bOk (kk4 : mM) (q0 : gF) : D128 r n mI (xs x0 0 (K2 q0 0 6)) (K3 kk4 0 1 6) = fun (env : aY) (h : Hp) =>
 bnd (bW (env 1) h) fun v1 h1 =>
 bnd (aD .gtr v1 (aE 0) h1) fun v2 h2 =>
 aP v2 (
 bnd (bW (env 1) h2) fun v3 h3 =>
 bnd (aPk v3 (aE 240) h3) fun v4 h4 =>
 bnd (r 30 [(env 0), (aE 10)] h4) fun v5 h5 =>
 bnd (cS 1 (env 1) none (some v4) h5) fun v6 h6 =>
 cnd (bL (cS 1 (env 1) none (some v4) h4) v6 && true) (
 bnd (gP v6 h6) fun v7 h7 =>
 cnd (bL (gP v6 h4) v7 && true) (
 bnd (r 83 [(env 0), v5, v7] h7) fun v8 h8 =>
 bnd (aC 0 v8 h8) fun v9 h9 =>
 bnd (aC 1 v8 h9) fun v10 h10 =>
 bnd (aD .neq v10 (aE 0) h10) fun v11 h11 =>
 aP v11 (
 some (.t [(aE 0), v10], h11)) (
 bnd (bJ (bX 0 h11.next) [(aE 0)] 1 [(0, 1, v9)] (resv 1 h11)) fun v12 h12 =>
 bnd (aZ 1 8 (env 6) v12 h12) fun v13 h13 =>
 bnd (cS 1 (env 1) (some v4) none h13) fun v14 h14 =>
 cnd (bL (cS 1 (env 1) (some v4) none (resv 1 h11)) v14 && true) (
    kk4 (env 0) v14 v13 h14))))) (
      q0 (env 0) (env 6) h2) := by kernel_rfl
theorem bGt (kk4 : mM) : (fun (env : aY) (h : Hp) =>
 bnd (bW (env 1) h) fun v1 h1 =>
 bnd (aD .gtr v1 (aE 0) h1) fun v2 h2 =>
 aP v2 (
 bnd (bW (env 1) h2) fun v3 h3 =>
 bnd (aPk v3 (aE 240) h3) fun v4 h4 =>
 bnd (r 30 [(env 0), (aE 10)] h4) fun v5 h5 =>
 bnd (cS 1 (env 1) none (some v4) h5) fun v6 h6 =>
 cnd (bL (cS 1 (env 1) none (some v4) h4) v6 && true) (
 bnd (gP v6 h6) fun v7 h7 =>
 cnd (bL (gP v6 h4) v7 && true) (
 bnd (r 83 [(env 0), v5, v7] h7) fun v8 h8 =>
 bnd (aC 0 v8 h8) fun v9 h9 =>
 bnd (aC 1 v8 h9) fun v10 h10 =>
 bnd (aD .neq v10 (aE 0) h10) fun v11 h11 =>
 aP v11 (
 some (.t [(aE 0), v10], h11)) (
 bnd (bJ (bX 0 h11.next) [(aE 0)] 1 [(0, 1, v9)] (resv 1 h11)) fun v12 h12 =>
 bnd (aZ 1 8 (env 6) v12 h12) fun v13 h13 =>
 bnd (cS 1 (env 1) (some v4) none h13) fun v14 h14 =>
 cnd (bL (cS 1 (env 1) (some v4) none (resv 1 h11)) v14 && true) (
    kk4 (env 0) v14 v13 h14))))) (
      eT r n (env 0) (env 6) h2)) = (K3 (aBm r n kk4) 0 1 6) := by kernel_rfl
theorem cBy (kk4 : mM) : D128 r n mI (xs x0 0 (K2 (eT r n) 0 6)) (K3 kk4 0 1 6) = (K3 (aBm r n kk4) 0 1 6) :=
 (bOk r n kk4 (eT r n)).trans (bGt r n kk4)
theorem bPu (m : Nat) : aN (fun kk => D128 r n mI (xs x0 0 (K2 (eT r n) 0 6)) kk) m = (K3 (sM r n m) 0 1 6) := by
 induction m with
 | zero => exact (by kernel_rfl : aN (fun kk => D128 r n mI (xs x0 0 (K2 (eT r n) 0 6)) kk) 0 = (K3 (sM r n 0) 0 1 6))
 | succ m ih =>
  refine (by kernel_rfl : aN (fun kk => D128 r n mI (xs x0 0 (K2 (eT r n) 0 6)) kk) (m + 1) = D128 r n mI (xs x0 0 (K2 (eT r n) 0 6)) (aN (fun kk => D128 r n mI (xs x0 0 (K2 (eT r n) 0 6)) kk) m)).trans ?_
  rw [ih]
  exact (cBy r n (sM r n m)).trans (by kernel_rfl)
theorem cHv : D128 r n aIo (xs x0 0 (K2 (eT r n) 0 6)) (K2 (eT r n) 0 6) = (K3 (bRd r n) 0 1 6) :=
 (by kernel_rfl : D128 r n aIo (xs x0 0 (K2 (eT r n) 0 6)) (K2 (eT r n) 0 6) = aN (fun kk => D128 r n mI (xs x0 0 (K2 (eT r n) 0 6)) kk) n).trans ((bPu r n n).trans (by kernel_rfl))
theorem bSy : D128 r n aEy x0 r128 = D128 r n aGk x0 (K2 (eT r n) 0 6) :=
 congrArg (fun k => D128 r n aGk x0 k) (cFk r n)
theorem cLs : D128 r n aEy x0 r128 = (K3 (aOs r n) 0 1 6) :=
 (bSy r n).trans
 ((by kernel_rfl : D128 r n aGk x0 (K2 (eT r n) 0 6) = D128 r n aIo (xs x0 0 (K2 (eT r n) 0 6)) (K2 (eT r n) 0 6)).trans
 ((cHv r n).trans (by kernel_rfl)))
theorem cAp : D128 r n aIp x0 r128 = D128 r n bTc x0 (K3 (aOs r n) 0 1 6) :=
 congrArg (fun k => D128 r n bTc x0 k) (cLs r n)
theorem cKc : D128 r n aIp x0 r128 = (K2 (aPn r n) 0 1) :=
 (cAp r n).trans
 ((by kernel_rfl))
theorem cTy : D128 r n c128 x0 r128 = D128 r n bSc x0 (K2 (aPn r n) 0 1) :=
 congrArg (fun k => D128 r n bSc x0 k) (cKc r n)
theorem dMd : D128 r n c128 x0 r128 = (K2 (s128 r n) 0 1) :=
 (cTy r n).trans
 ((by kernel_rfl))
theorem cVd : aF CF r n 128 args h = s128 r n (aQ args 0) (aQ args 1) h :=
 (by kernel_rfl : aF CF r n 128 args h = D128 r n c128 x0 r128 (aJ args) h).trans ((congrFun (congrFun (dMd r n) (aJ args)) h).trans (by kernel_rfl))
noncomputable def fH (r : RT) (n : Nat) (x0 x7 : DV) (h0 : Hp) : aI :=
 bnd (aS x0 h0) fun v1 h1 =>
 bnd (aB 0 v1 h1) fun v2 h2 =>
 bnd (aA v2 h2) fun v3 h3 =>
 bnd (aS x0 h3) fun v4 h4 =>
 bnd (aB 1 v4 h4) fun v5 h5 =>
 bnd (aA v5 h5) fun v6 h6 =>
 bnd (fB v3 (some x7) (some v6) h6) fun v7 h7 =>
 some (v7, h7)
noncomputable def aXu (r : RT) (n : Nat) (kk4 : dQ) (x0 x1 x2 x7 : DV) (h0 : Hp) : aI :=
 bnd (aS x0 h0) fun v1 h1 =>
 bnd (aB 1 v1 h1) fun v2 h2 =>
 bnd (aA v2 h2) fun v3 h3 =>
 bnd (aS x0 h3) fun v4 h4 =>
 bnd (aB 0 v4 h4) fun v5 h5 =>
 bnd (aA v5 h5) fun v6 h6 =>
 bnd (dT v6 h6) fun v7 h7 =>
 bnd (aD .lss v3 v7 h7) fun v8 h8 =>
 bnd (gD v8 true (some (x0, h8)) h8) fun v9 h9 =>
 bnd (gD v8 true (aS v9 h9) h9) fun v10 h10 =>
 bnd (gD v8 true (aB 1 v10 h10) h10) fun v11 h11 =>
 bnd (gD v8 true (aA v11 h11) h11) fun v12 h12 =>
 bnd (gD v8 true (some (x7, h12)) h12) fun v13 h13 =>
 bnd (gD v8 true (aD .sub v12 v13 h13) h13) fun v14 h14 =>
 bnd (gD v8 true (some (x2, h14)) h14) fun v15 h15 =>
 bnd (gD v8 true (aD .lss v14 v15 h15) h15) fun v16 h16 =>
 bnd (aO v8 v16 (.b false) h16) fun v17 h17 =>
 bnd (gD v17 true (some (x1, h17)) h17) fun v18 h18 =>
 bnd (gD v17 true (some (x0, h18)) h18) fun v19 h19 =>
 bnd (gD v17 true (aS v19 h19) h19) fun v20 h20 =>
 bnd (gD v17 true (aB 0 v20 h20) h20) fun v21 h21 =>
 bnd (gD v17 true (aA v21 h21) h21) fun v22 h22 =>
 bnd (gD v17 true (some (x0, h22)) h22) fun v23 h23 =>
 bnd (gD v17 true (aS v23 h23) h23) fun v24 h24 =>
 bnd (gD v17 true (aB 1 v24 h24) h24) fun v25 h25 =>
 bnd (gD v17 true (aA v25 h25) h25) fun v26 h26 =>
 bnd (gD v17 true (fC v22 v26 h26) h26) fun v27 h27 =>
 bnd (gD v17 true (cP CF r v18 [v27] h27) h27) fun v28 h28 =>
 bnd (aO v17 v28 (.b false) h28) fun v29 h29 =>
 aP v29 (
 bnd (aS x0 h29) fun v30 h30 =>
 bnd (aB 1 v30 h30) fun v31 h31 =>
 bnd (aA v31 h31) fun v32 h32 =>
 bnd (aD .add v32 (aE 1) h32) fun v33 h33 =>
 bnd (aS x0 h33) fun v34 h34 =>
 bnd (aB 1 v34 h34) fun v35 h35 =>
 bnd (aG 1 v35 v33 h35) fun _ h36 =>
      kk4 x0 x1 x2 x7 h36) (
      fH r n x0 x7 h29)
noncomputable def tB (r : RT) (n : Nat) (m : Nat) : dQ :=
 Nat.rec (motive := fun _ => dQ) (fun _ _ _ _ _ => none) (fun _ ih => aXu r n ih) m
noncomputable def bYv (r : RT) (n : Nat) : dQ := tB r n n
noncomputable def aSw (r : RT) (n : Nat) (x0 x1 x2 x7 : DV) (h0 : Hp) : aI :=
 bYv r n x0 x1 x2 x7 h0
noncomputable def aOa (r : RT) (n : Nat) (x0 x1 x2 : DV) (h0 : Hp) : aI :=
 bnd (aS x0 h0) fun v1 h1 =>
 bnd (aB 1 v1 h1) fun v2 h2 =>
 bnd (aA v2 h2) fun v3 h3 =>
  aSw r n x0 x1 x2 v3 h3
noncomputable def s129 (r : RT) (n : Nat) (x0 x1 x2 : DV) (h0 : Hp) : aI :=
 aOa r n x0 x1 x2 h0
noncomputable abbrev c129 : Code := cf Tryz.f129
noncomputable abbrev aIg : Code := cR c129
noncomputable abbrev aFu : Code := cR aIg
noncomputable abbrev cWx : Code := cR aFu
noncomputable abbrev aCi : Code := cL aFu
noncomputable abbrev aGv : Code := cL aCi
noncomputable abbrev oB : Code := cL aGv
noncomputable abbrev bLw : Code := cL aIg
noncomputable abbrev cBh : Code := cL c129
noncomputable abbrev r129 : K := aT CF Tryz.f129
noncomputable def D129 (r : RT) (n : Nat) (c : Code) (X : Nat → K) (k : K) : K := aM CF r 62 n c X r129 k
theorem cQk : D129 r n cWx x0 r129 = (K2 (fH r n) 0 7) :=
 (by kernel_rfl)
theorem bZf (kk4 : dQ) : D129 r n oB (xs x0 0 (K2 (fH r n) 0 7)) (K4 kk4 0 1 2 7) = (K4 (aXu r n kk4) 0 1 2 7) :=
 (by kernel_rfl)
theorem bRq (m : Nat) : aN (fun kk => D129 r n oB (xs x0 0 (K2 (fH r n) 0 7)) kk) m = (K4 (tB r n m) 0 1 2 7) := by
 induction m with
 | zero => exact (by kernel_rfl : aN (fun kk => D129 r n oB (xs x0 0 (K2 (fH r n) 0 7)) kk) 0 = (K4 (tB r n 0) 0 1 2 7))
 | succ m ih =>
  refine (by kernel_rfl : aN (fun kk => D129 r n oB (xs x0 0 (K2 (fH r n) 0 7)) kk) (m + 1) = D129 r n oB (xs x0 0 (K2 (fH r n) 0 7)) (aN (fun kk => D129 r n oB (xs x0 0 (K2 (fH r n) 0 7)) kk) m)).trans ?_
  rw [ih]
  exact (bZf r n (tB r n m)).trans (by kernel_rfl)
theorem cFt : D129 r n aGv (xs x0 0 (K2 (fH r n) 0 7)) (K2 (fH r n) 0 7) = (K4 (bYv r n) 0 1 2 7) :=
 (by kernel_rfl : D129 r n aGv (xs x0 0 (K2 (fH r n) 0 7)) (K2 (fH r n) 0 7) = aN (fun kk => D129 r n oB (xs x0 0 (K2 (fH r n) 0 7)) kk) n).trans ((bRq r n n).trans (by kernel_rfl))
theorem bYd : D129 r n aFu x0 r129 = D129 r n aCi x0 (K2 (fH r n) 0 7) :=
 congrArg (fun k => D129 r n aCi x0 k) (cQk r n)
theorem cPu : D129 r n aFu x0 r129 = (K4 (aSw r n) 0 1 2 7) :=
 (bYd r n).trans
 ((by kernel_rfl : D129 r n aCi x0 (K2 (fH r n) 0 7) = D129 r n aGv (xs x0 0 (K2 (fH r n) 0 7)) (K2 (fH r n) 0 7)).trans
 ((cFt r n).trans (by kernel_rfl)))
theorem bPb : D129 r n aIg x0 r129 = D129 r n bLw x0 (K4 (aSw r n) 0 1 2 7) :=
 congrArg (fun k => D129 r n bLw x0 k) (cPu r n)
theorem cLi : D129 r n aIg x0 r129 = (K3 (aOa r n) 0 1 2) :=
 (bPb r n).trans
 ((by kernel_rfl))
theorem dAd : D129 r n c129 x0 r129 = D129 r n cBh x0 (K3 (aOa r n) 0 1 2) :=
 congrArg (fun k => D129 r n cBh x0 k) (cLi r n)
theorem dLq : D129 r n c129 x0 r129 = (K3 (s129 r n) 0 1 2) :=
 (dAd r n).trans
 ((by kernel_rfl))
theorem dEn : aF CF r n 129 args h = s129 r n (aQ args 0) (aQ args 1) (aQ args 2) h :=
 (by kernel_rfl : aF CF r n 129 args h = D129 r n c129 x0 r129 (aJ args) h).trans ((congrFun (congrFun (dLq r n) (aJ args)) h).trans (by kernel_rfl))
noncomputable def s130 (r : RT) (n : Nat) (x0 : DV) (h0 : Hp) : aI :=
 bnd (bQ x0 h0) fun v1 h1 =>
 some ((.f 145 [] [v1]), h1)
noncomputable abbrev c130 : Code := cf Tryz.f130
noncomputable abbrev r130 : K := aT CF Tryz.f130
noncomputable def D130 (r : RT) (n : Nat) (c : Code) (X : Nat → K) (k : K) : K := aM CF r 4 n c X r130 k
theorem dHn : D130 r n c130 x0 r130 = (K1 (s130 r n) 0) :=
 (by kernel_rfl)
theorem cUi : aF CF r n 130 args h = s130 r n (aQ args 0) h :=
 (by kernel_rfl : aF CF r n 130 args h = D130 r n c130 x0 r130 (aJ args) h).trans ((congrFun (congrFun (dHn r n) (aJ args)) h).trans (by kernel_rfl))
noncomputable def s131 (r : RT) (n : Nat) (x0 x1 : DV) (h0 : Hp) : aI :=
 bnd (r 146 [x0, x1] h0) fun v1 h1 =>
 some (v1, h1)
noncomputable abbrev c131 : Code := cf Tryz.f131
noncomputable abbrev r131 : K := aT CF Tryz.f131
noncomputable def D131 (r : RT) (n : Nat) (c : Code) (X : Nat → K) (k : K) : K := aM CF r 8 n c X r131 k
theorem dLh : D131 r n c131 x0 r131 = (K2 (s131 r n) 0 1) :=
 (by kernel_rfl)
theorem cWu : aF CF r n 131 args h = s131 r n (aQ args 0) (aQ args 1) h :=
 (by kernel_rfl : aF CF r n 131 args h = D131 r n c131 x0 r131 (aJ args) h).trans ((congrFun (congrFun (dLh r n) (aJ args)) h).trans (by kernel_rfl))
end Go.Dd

namespace Go.Dd
open Go.Proofs
variable (r : RT) (n : Nat) (args : List DV) (h : Hp)
noncomputable def hC (r : RT) (n : Nat) (x2 x4 x5 : DV) (h0 : Hp) : aI :=
 bnd (aK 4 x4 h0) fun v1 h1 =>
 bnd (aG 4 x2 v1 h1) fun _ h2 =>
 bnd (aK 4 x2 h2) fun v3 _ =>
 some (.t [v3, x5], h2)
noncomputable def aPo (r : RT) (n : Nat) (x0 x2 x4 x5 x6 : DV) (h0 : Hp) : aI :=
 bnd (r 148 [x6] h0) fun v1 h1 =>
 aP v1 (
 bnd (aB 0 x4 h1) fun v2 h2 =>
 bnd (aG 1 v2 (aE 1) h2) fun _ h3 =>
 bnd (r 149 [x0] h3) fun v4 h4 =>
 bnd (aC 0 v4 h4) fun v5 h5 =>
 bnd (aC 1 v4 h5) fun v6 h6 =>
 bnd (aB 1 x4 h6) fun v7 h7 =>
 bnd (aG 1 v7 v5 h7) fun _ h8 =>
 bnd (aD .eql v6 (aE 0) h8) fun v9 h9 =>
 bnd (gD v9 true (some (x0, h9)) h9) fun v10 h10 =>
 bnd (gD v9 true (r 150 [v10] h10) h10) fun v11 h11 =>
 bnd (aO v9 v11 (.b false) h11) fun v12 h12 =>
 aP v12 (
 bnd (aB 1 x4 h12) fun v13 h13 =>
 bnd (aA v13 h13) fun v14 h14 =>
 bnd (fA .add v14 (.s [58]) h14) fun v15 h15 =>
 bnd (aB 0 x4 h15) fun v16 h16 =>
 bnd (aG 1 v16 (aE 2) h16) fun _ h17 =>
 bnd (aB 1 x4 h17) fun v18 h18 =>
 bnd (aG 1 v18 v15 h18) fun _ h19 =>
      hC r n x2 x4 v6 h19) (
      hC r n x2 x4 v6 h12)) (
 bnd (r 151 [x6] h1) fun v20 h20 =>
 aP v20 (
 bnd (aB 0 x4 h20) fun v21 h21 =>
 bnd (aG 1 v21 (aE 4) h21) fun _ h22 =>
 bnd (r 152 [x0] h22) fun v23 h23 =>
 bnd (aC 0 v23 h23) fun v24 h24 =>
 bnd (aC 1 v23 h24) fun v25 h25 =>
 bnd (aB 2 x4 h25) fun v26 h26 =>
 bnd (aG 1 v26 v24 h26) fun _ h27 =>
      hC r n x2 x4 v25 h27) (
 bnd (aD .eql x6 (.i .u8 (Int.ofNat 39)) h20) fun v28 h28 =>
 aP v28 (
 bnd (aS x0 h28) fun v29 h29 =>
 bnd (aB 1 v29 h29) fun v30 h30 =>
 bnd (aA v30 h30) fun v31 h31 =>
 bnd (aD .add v31 (aE 1) h31) fun v32 h32 =>
 bnd (aS x0 h32) fun v33 h33 =>
 bnd (aB 1 v33 h33) fun v34 h34 =>
 bnd (aG 1 v34 v32 h34) fun _ h35 =>
 bnd (aB 0 x4 h35) fun v36 h36 =>
 bnd (aG 1 v36 (aE 5) h36) fun _ h37 =>
 bnd (r 153 [x0] h37) fun v38 h38 =>
 bnd (aC 0 v38 h38) fun v39 h39 =>
 bnd (aC 1 v38 h39) fun v40 h40 =>
 bnd (aB 1 x4 h40) fun v41 h41 =>
 bnd (aG 1 v41 v39 h41) fun _ h42 =>
    hC r n x2 x4 v40 h42) (
 bnd (aD .eql x6 (.i .u8 (Int.ofNat 35)) h28) fun v43 h43 =>
 bnd (gD v43 true (some (x0, h43)) h43) fun v44 h44 =>
 bnd (gD v43 true (r 147 [v44, (aE 1)] h44) h44) fun v45 h45 =>
 bnd (gD v43 true (aD .eql v45 (.i .u8 (Int.ofNat 40)) h45) h45) fun v46 h46 =>
 bnd (aO v43 v46 (.b false) h46) fun v47 h47 =>
 aP v47 (
 bnd (aS x0 h47) fun v48 h48 =>
 bnd (aB 1 v48 h48) fun v49 h49 =>
 bnd (aA v49 h49) fun v50 h50 =>
 bnd (aD .add v50 (aE 2) h50) fun v51 h51 =>
 bnd (aS x0 h51) fun v52 h52 =>
 bnd (aB 1 v52 h52) fun v53 h53 =>
 bnd (aG 1 v53 v51 h53) fun _ h54 =>
 bnd (aB 0 x4 h54) fun v55 h55 =>
 bnd (aG 1 v55 (aE 7) h55) fun _ h56 =>
     hC r n x2 x4 x5 h56) (
 bnd (aD .eql x6 (.i .u8 (Int.ofNat 35)) h47) fun v57 h57 =>
 aP v57 (
 bnd (aS x0 h57) fun v58 h58 =>
 bnd (aB 1 v58 h58) fun v59 h59 =>
 bnd (aA v59 h59) fun v60 h60 =>
 bnd (aD .add v60 (aE 1) h60) fun v61 h61 =>
 bnd (aS x0 h61) fun v62 h62 =>
 bnd (aB 1 v62 h62) fun v63 h63 =>
 bnd (aG 1 v63 v61 h63) fun _ h64 =>
 bnd (aB 0 x4 h64) fun v65 h65 =>
 bnd (aG 1 v65 (aE 6) h65) fun _ h66 =>
 bnd (r 154 [x0] h66) fun v67 h67 =>
 bnd (aC 0 v67 h67) fun v68 h68 =>
 bnd (aC 1 v67 h68) fun v69 h69 =>
 bnd (aB 1 x4 h69) fun v70 h70 =>
 bnd (aG 1 v70 v68 h70) fun _ h71 =>
      hC r n x2 x4 v69 h71) (
 bnd (aD .eql x6 (.i .u8 (Int.ofNat 58)) h57) fun v72 h72 =>
 bnd (gD v72 true (some (x0, h72)) h72) fun v73 h73 =>
 bnd (gD v72 true (r 147 [v73, (aE 1)] h73) h73) fun v74 h74 =>
 bnd (gD v72 true (aD .eql v74 (.i .u8 (Int.ofNat 61)) h74) h74) fun v75 h75 =>
 bnd (aO v72 v75 (.b false) h75) fun v76 h76 =>
 aP v76 (
 bnd (aS x0 h76) fun v77 h77 =>
 bnd (aB 1 v77 h77) fun v78 h78 =>
 bnd (aA v78 h78) fun v79 h79 =>
 bnd (aD .add v79 (aE 2) h79) fun v80 h80 =>
 bnd (aS x0 h80) fun v81 h81 =>
 bnd (aB 1 v81 h81) fun v82 h82 =>
 bnd (aG 1 v82 v80 h82) fun _ h83 =>
 bnd (aB 0 x4 h83) fun v84 h84 =>
 bnd (aG 1 v84 (aE 9) h84) fun _ h85 =>
       hC r n x2 x4 x5 h85) (
 bnd (aD .eql x6 (.i .u8 (Int.ofNat 58)) h76) fun v86 h86 =>
 bnd (gD v86 true (some (x0, h86)) h86) fun v87 h87 =>
 bnd (gD v86 true (r 147 [v87, (aE 1)] h87) h87) fun v88 h88 =>
 bnd (gD v86 true (r 148 [v88] h88) h88) fun v89 h89 =>
 bnd (aO v86 v89 (.b false) h89) fun v90 h90 =>
 aP v90 (
 bnd (aS x0 h90) fun v91 h91 =>
 bnd (aB 1 v91 h91) fun v92 h92 =>
 bnd (aA v92 h92) fun v93 h93 =>
 bnd (aD .add v93 (aE 1) h93) fun v94 h94 =>
 bnd (aS x0 h94) fun v95 h95 =>
 bnd (aB 1 v95 h95) fun v96 h96 =>
 bnd (aG 1 v96 v94 h96) fun _ h97 =>
 bnd (aB 0 x4 h97) fun v98 h98 =>
 bnd (aG 1 v98 (aE 8) h98) fun _ h99 =>
 bnd (r 149 [x0] h99) fun v100 h100 =>
 bnd (aC 0 v100 h100) fun v101 h101 =>
 bnd (aC 1 v100 h101) fun v102 h102 =>
 bnd (aB 1 x4 h102) fun v103 h103 =>
 bnd (aG 1 v103 v101 h103) fun _ h104 =>
        hC r n x2 x4 v102 h104) (
 bnd (r 130 [(.s [43, 45, 42, 47, 60, 62, 61, 126, 44, 64, 38, 37])] h90) fun v105 h105 =>
 bnd (cP CF r v105 [x6] h105) fun v106 h106 =>
 aP v106 (
 bnd (r 130 [(.s [43, 45, 42, 47, 60, 62, 61, 126, 44, 64, 38, 37])] h106) fun v107 h107 =>
 bnd (r 129 [x0, v107, (aE 2)] h107) fun v108 h108 =>
 bnd (aB 0 x4 h108) fun v109 h109 =>
 bnd (aG 1 v109 (aE 3) h109) fun _ h110 =>
 bnd (aB 1 x4 h110) fun v111 h111 =>
 bnd (aG 1 v111 v108 h111) fun _ h112 =>
         hC r n x2 x4 x5 h112) (
 bnd (r 130 [(.s [94, 46, 59, 40, 41, 91, 93, 124])] h106) fun v113 h113 =>
 bnd (cP CF r v113 [x6] h113) fun v114 h114 =>
 aP v114 (
 bnd (r 130 [(.s [94, 46, 59, 40, 41, 91, 93, 124])] h114) fun v115 h115 =>
 bnd (r 129 [x0, v115, (aE 1)] h115) fun v116 h116 =>
 bnd (aB 0 x4 h116) fun v117 h117 =>
 bnd (aG 1 v117 (aE 10) h117) fun _ h118 =>
 bnd (aB 1 x4 h118) fun v119 h119 =>
 bnd (aG 1 v119 v116 h119) fun _ h120 =>
          hC r n x2 x4 x5 h120) (
          hC r n x2 x4 (aE 10) h114)))))))))
noncomputable def aUs (r : RT) (n : Nat) (x0 x2 x4 x5 : DV) (h0 : Hp) : aI :=
 bnd (r 147 [x0, (aE 0)] h0) fun v1 h1 =>
  aPo r n x0 x2 x4 x5 v1 h1
noncomputable def zG (r : RT) (n : Nat) (x0 x2 x4 : DV) (h0 : Hp) : aI :=
 aUs r n x0 x2 x4 (aE 0) h0
noncomputable def qY (r : RT) (n : Nat) (x0 x2 : DV) (h0 : Hp) : aI :=
 bnd (aS x0 h0) fun v1 h1 =>
 bnd (aB 1 v1 h1) fun v2 h2 =>
 bnd (aA v2 h2) fun v3 h3 =>
 bnd (bB [(aE 0), (.s []), (aE 0), (aE 0)] [(3, 1, v3)] h3) fun v4 h4 =>
 bnd (bK [(aE 0), (.s []), (aE 0), (aE 0)] h4) fun v5 h5 =>
 bnd (aG 4 v5 v4 h5) fun _ h6 =>
  zG r n x0 x2 v5 h6
noncomputable def s132 (r : RT) (n : Nat) (x0 : DV) (h0 : Hp) : aI :=
 bnd (bK [(aE 0), (.s []), (aE 0), (aE 0)] h0) fun v1 h1 =>
  qY r n x0 v1 h1
noncomputable abbrev c132 : Code := cf Tryz.f132
noncomputable abbrev aJi : Code := cR c132
noncomputable abbrev aEp : Code := cR aJi
noncomputable abbrev aFc : Code := cR aEp
noncomputable abbrev aGo : Code := cR aFc
noncomputable abbrev dEa : Code := cR aGo
noncomputable abbrev bRc : Code := cL aGo
noncomputable abbrev bQx : Code := cL aFc
noncomputable abbrev cAk : Code := cL aEp
noncomputable abbrev aSt : Code := cL aJi
noncomputable abbrev aJo : Code := cL c132
noncomputable abbrev r132 : K := aT CF Tryz.f132
noncomputable def D132 (r : RT) (n : Nat) (c : Code) (X : Nat → K) (k : K) : K := aM CF r 153 n c X r132 k
theorem cPc : D132 r n dEa x0 r132 = (K3 (hC r n) 2 4 5) :=
 (by kernel_rfl)
theorem bIv : D132 r n aGo x0 r132 = D132 r n bRc x0 (K3 (hC r n) 2 4 5) :=
 congrArg (fun k => D132 r n bRc x0 k) (cPc r n)
theorem cPl : D132 r n aGo x0 r132 = (K5 (aPo r n) 0 2 4 5 6) :=
 (bIv r n).trans
 ((by kernel_rfl))
theorem bLh : D132 r n aFc x0 r132 = D132 r n bQx x0 (K5 (aPo r n) 0 2 4 5 6) :=
 congrArg (fun k => D132 r n bQx x0 k) (cPl r n)
theorem cNp : D132 r n aFc x0 r132 = (K4 (aUs r n) 0 2 4 5) :=
 (bLh r n).trans
 ((by kernel_rfl))
theorem bKo : D132 r n aEp x0 r132 = D132 r n cAk x0 (K4 (aUs r n) 0 2 4 5) :=
 congrArg (fun k => D132 r n cAk x0 k) (cNp r n)
theorem cHb : D132 r n aEp x0 r132 = (K3 (zG r n) 0 2 4) :=
 (bKo r n).trans
 ((by kernel_rfl))
theorem bTf : D132 r n aJi x0 r132 = D132 r n aSt x0 (K3 (zG r n) 0 2 4) :=
 congrArg (fun k => D132 r n aSt x0 k) (cHb r n)
theorem bRh (q0 : mM) : D132 r n aSt x0 (K3 q0 0 2 4) = fun (env : aY) (h : Hp) =>
 bnd (aS (env 0) h) fun v1 h1 =>
 bnd (aB 1 v1 h1) fun v2 h2 =>
 bnd (aA v2 h2) fun v3 h3 =>
 bnd (bB [(aE 0), (.s []), (aE 0), (aE 0)] [(3, 1, v3)] h3) fun v4 h4 =>
 bnd (bK [(aE 0), (.s []), (aE 0), (aE 0)] h4) fun v5 h5 =>
 bnd (aG 4 v5 v4 h5) fun _ h6 =>
  q0 (env 0) (env 2) v5 h6 := by kernel_rfl
theorem bGd : (fun (env : aY) (h : Hp) =>
 bnd (aS (env 0) h) fun v1 h1 =>
 bnd (aB 1 v1 h1) fun v2 h2 =>
 bnd (aA v2 h2) fun v3 h3 =>
 bnd (bB [(aE 0), (.s []), (aE 0), (aE 0)] [(3, 1, v3)] h3) fun v4 h4 =>
 bnd (bK [(aE 0), (.s []), (aE 0), (aE 0)] h4) fun v5 h5 =>
 bnd (aG 4 v5 v4 h5) fun _ h6 =>
  zG r n (env 0) (env 2) v5 h6) = (K2 (qY r n) 0 2) := by kernel_rfl
theorem cKk : D132 r n aJi x0 r132 = (K2 (qY r n) 0 2) :=
 (bTf r n).trans
 ((bRh r n (zG r n)).trans (bGd r n))
theorem dDy : D132 r n c132 x0 r132 = D132 r n aJo x0 (K2 (qY r n) 0 2) :=
 congrArg (fun k => D132 r n aJo x0 k) (cKk r n)
theorem dEf (q0 : gF) : D132 r n aJo x0 (K2 q0 0 2) = fun (env : aY) (h : Hp) =>
 bnd (bK [(aE 0), (.s []), (aE 0), (aE 0)] h) fun v1 h1 =>
  q0 (env 0) v1 h1 := by kernel_rfl
theorem cKf : (fun (env : aY) (h : Hp) =>
 bnd (bK [(aE 0), (.s []), (aE 0), (aE 0)] h) fun v1 h1 =>
  qY r n (env 0) v1 h1) = (K1 (s132 r n) 0) := by kernel_rfl
theorem dFu : D132 r n c132 x0 r132 = (K1 (s132 r n) 0) :=
 (dDy r n).trans
 ((dEf r n (qY r n)).trans (cKf r n))
theorem cTm : aF CF r n 132 args h = s132 r n (aQ args 0) h :=
 (by kernel_rfl : aF CF r n 132 args h = D132 r n c132 x0 r132 (aJ args) h).trans ((congrFun (congrFun (dFu r n) (aJ args)) h).trans (by kernel_rfl))
noncomputable def s133 (r : RT) (n : Nat) (x0 x1 x2 : DV) (h0 : Hp) : aI :=
 bnd (r 137 [x0, (aE 0)] h0) fun v1 h1 =>
 bnd (bK [(aE 0), (.s []), (aE 0), (aE 0)] h1) fun v2 h2 =>
 bnd (aG 4 v2 v1 h2) fun _ h3 =>
 bnd (aS x0 h3) fun v4 h4 =>
 bnd (aB 3 v4 h4) fun v5 h5 =>
 bnd (aA v5 h5) fun v6 h6 =>
 bnd (aD .eql v6 (aE 0) h6) fun v7 h7 =>
 bnd (gD v7 true (aB 0 v2 h7) h7) fun v8 h8 =>
 bnd (gD v7 true (aA v8 h8) h8) fun v9 h9 =>
 bnd (gD v7 true (some (x1, h9)) h9) fun v10 h10 =>
 bnd (gD v7 true (aD .eql v9 v10 h10) h10) fun v11 h11 =>
 bnd (aO v7 v11 (.b false) h11) fun v12 h12 =>
 bnd (gD v12 true (some (x2, h12)) h12) fun v13 h13 =>
 bnd (gD v12 true (fA .eql v13 (.s []) h13) h13) fun v14 h14 =>
 bnd (gD v12 true (some (v14, h14)) h14) fun v15 h15 =>
 bnd (gD v15 false (aB 1 v2 h15) h15) fun v16 h16 =>
 bnd (gD v15 false (aA v16 h16) h16) fun v17 h17 =>
 bnd (gD v15 false (some (x2, h17)) h17) fun v18 h18 =>
 bnd (gD v15 false (fA .eql v17 v18 h18) h18) fun v19 h19 =>
 bnd (gD v12 true (aO v15 (.b true) v19 h19) h19) fun v20 h20 =>
 bnd (aO v12 v20 (.b false) h20) fun v21 h21 =>
 some (v21, h21)
noncomputable abbrev c133 : Code := cf Tryz.f133
noncomputable abbrev r133 : K := aT CF Tryz.f133
noncomputable def D133 (r : RT) (n : Nat) (c : Code) (X : Nat → K) (k : K) : K := aM CF r 31 n c X r133 k
theorem dHg : D133 r n c133 x0 r133 = (K3 (s133 r n) 0 1 2) :=
 (by kernel_rfl)
theorem cVq : aF CF r n 133 args h = s133 r n (aQ args 0) (aQ args 1) (aQ args 2) h :=
 (by kernel_rfl : aF CF r n 133 args h = D133 r n c133 x0 r133 (aJ args) h).trans ((congrFun (congrFun (dHg r n) (aJ args)) h).trans (by kernel_rfl))
noncomputable def aBz (r : RT) (n : Nat) (x2 x3 : DV) (h0 : Hp) : aI :=
 bnd (aK 4 x3 h0) fun v1 h1 =>
 bnd (aG 4 x2 v1 h1) fun _ h2 =>
 bnd (aK 4 x2 h2) fun v3 _ =>
 some (v3, h2)
noncomputable def vP (r : RT) (n : Nat) (x0 x2 x3 : DV) (h0 : Hp) : aI :=
 bnd (aB 0 x3 h0) fun v1 h1 =>
 bnd (aA v1 h1) fun v2 h2 =>
 bnd (aD .neq v2 (aE 0) h2) fun v3 h3 =>
 aP v3 (
 bnd (aS x0 h3) fun v4 h4 =>
 bnd (aB 0 v4 h4) fun v5 h5 =>
 bnd (aA v5 h5) fun v6 h6 =>
 bnd (cS 4 v6 (some (aE 1)) none h6) fun v7 h7 =>
 bnd (aS x0 h7) fun v8 h8 =>
 bnd (aB 0 v8 h8) fun v9 h9 =>
 bnd (aG 1 v9 v7 h9) fun _ h10 =>
  aBz r n x2 x3 h10) (
  aBz r n x2 x3 h3)
noncomputable def qH (r : RT) (n : Nat) (x0 x2 : DV) (h0 : Hp) : aI :=
 bnd (r 137 [x0, (aE 0)] h0) fun v1 h1 =>
 bnd (bK [(aE 0), (.s []), (aE 0), (aE 0)] h1) fun v2 h2 =>
 bnd (aG 4 v2 v1 h2) fun _ h3 =>
  vP r n x0 x2 v2 h3
noncomputable def s134 (r : RT) (n : Nat) (x0 : DV) (h0 : Hp) : aI :=
 bnd (bK [(aE 0), (.s []), (aE 0), (aE 0)] h0) fun v1 h1 =>
  qH r n x0 v1 h1
noncomputable abbrev c134 : Code := cf Tryz.f134
noncomputable abbrev aHd : Code := cR c134
noncomputable abbrev aIx : Code := cR aHd
noncomputable abbrev dEm : Code := cR aIx
noncomputable abbrev cBp : Code := cL aIx
noncomputable abbrev aSq : Code := cL aHd
noncomputable abbrev aSh : Code := cL c134
noncomputable abbrev r134 : K := aT CF Tryz.f134
noncomputable def D134 (r : RT) (n : Nat) (c : Code) (X : Nat → K) (k : K) : K := aM CF r 18 n c X r134 k
theorem cOj : D134 r n dEm x0 r134 = (K2 (aBz r n) 2 3) :=
 (by kernel_rfl)
theorem bQc : D134 r n aIx x0 r134 = D134 r n cBp x0 (K2 (aBz r n) 2 3) :=
 congrArg (fun k => D134 r n cBp x0 k) (cOj r n)
theorem cLt : D134 r n aIx x0 r134 = (K3 (vP r n) 0 2 3) :=
 (bQc r n).trans
 ((by kernel_rfl))
theorem bIb : D134 r n aHd x0 r134 = D134 r n aSq x0 (K3 (vP r n) 0 2 3) :=
 congrArg (fun k => D134 r n aSq x0 k) (cLt r n)
theorem bSh (q0 : mM) : D134 r n aSq x0 (K3 q0 0 2 3) = fun (env : aY) (h : Hp) =>
 bnd (r 137 [(env 0), (aE 0)] h) fun v1 h1 =>
 bnd (bK [(aE 0), (.s []), (aE 0), (aE 0)] h1) fun v2 h2 =>
 bnd (aG 4 v2 v1 h2) fun _ h3 =>
  q0 (env 0) (env 2) v2 h3 := by kernel_rfl
theorem bDp : (fun (env : aY) (h : Hp) =>
 bnd (r 137 [(env 0), (aE 0)] h) fun v1 h1 =>
 bnd (bK [(aE 0), (.s []), (aE 0), (aE 0)] h1) fun v2 h2 =>
 bnd (aG 4 v2 v1 h2) fun _ h3 =>
  vP r n (env 0) (env 2) v2 h3) = (K2 (qH r n) 0 2) := by kernel_rfl
theorem cOt : D134 r n aHd x0 r134 = (K2 (qH r n) 0 2) :=
 (bIb r n).trans
 ((bSh r n (vP r n)).trans (bDp r n))
theorem dAp : D134 r n c134 x0 r134 = D134 r n aSh x0 (K2 (qH r n) 0 2) :=
 congrArg (fun k => D134 r n aSh x0 k) (cOt r n)
theorem cTk (q0 : gF) : D134 r n aSh x0 (K2 q0 0 2) = fun (env : aY) (h : Hp) =>
 bnd (bK [(aE 0), (.s []), (aE 0), (aE 0)] h) fun v1 h1 =>
  q0 (env 0) v1 h1 := by kernel_rfl
theorem cEp : (fun (env : aY) (h : Hp) =>
 bnd (bK [(aE 0), (.s []), (aE 0), (aE 0)] h) fun v1 h1 =>
  qH r n (env 0) v1 h1) = (K1 (s134 r n) 0) := by kernel_rfl
theorem dMe : D134 r n c134 x0 r134 = (K1 (s134 r n) 0) :=
 (dAp r n).trans
 ((cTk r n (qH r n)).trans (cEp r n))
theorem dEo : aF CF r n 134 args h = s134 r n (aQ args 0) h :=
 (by kernel_rfl : aF CF r n 134 args h = D134 r n c134 x0 r134 (aJ args) h).trans ((congrFun (congrFun (dMe r n) (aJ args)) h).trans (by kernel_rfl))
noncomputable def s135 (r : RT) (n : Nat) (x0 : DV) (h0 : Hp) : aI :=
 bnd (bK gS h0) fun v1 h1 =>
 bnd (r 133 [x0, (aE 1), (.s [])] h1) fun v2 h2 =>
 bnd (gD v2 true (some (x0, h2)) h2) fun v3 h3 =>
 bnd (gD v2 true (r 137 [v3, (aE 1)] h3) h3) fun v4 h4 =>
 bnd (gD v2 true (fI 0 v4 h4) h4) fun v5 h5 =>
 bnd (gD v2 true (aD .eql v5 (aE 9) h5) h5) fun v6 h6 =>
 bnd (aO v2 v6 (.b false) h6) fun v7 h7 =>
 aP v7 (
 bnd (r 134 [x0] h7) fun v8 h8 =>
 bnd (fI 1 v8 h8) fun v9 h9 =>
 bnd (bB gS [(0, 1, (aE 6)), (1, 1, v9)] h9) fun v10 h10 =>
 bnd (bK gS h10) fun v11 h11 =>
 bnd (aG 6 v11 v10 h11) fun _ h12 =>
 bnd (r 134 [x0] h12) fun v13 h13 =>
 bnd (r 135 [x0] h13) fun v14 h14 =>
 bnd (aL gS 1 [(0, 6, v14)] h14) fun v15 h15 =>
 bnd (aB 5 v11 h15) fun v16 h16 =>
 bnd (aG 1 v16 v15 h16) fun _ h17 =>
 bnd (aK 6 v11 h17) fun v18 h18 =>
 bnd (aG 6 v1 v18 h18) fun _ h19 =>
 bnd (aK 6 v1 h19) fun v20 _ =>
 some (v20, h19)) (
 bnd (r 155 [x0] h7) fun v21 h21 =>
 bnd (aG 6 v1 v21 h21) fun _ h22 =>
 bnd (aK 6 v1 h22) fun v23 _ =>
 some (v23, h22))
noncomputable abbrev c135 : Code := cf Tryz.f135
noncomputable abbrev r135 : K := aT CF Tryz.f135
noncomputable def D135 (r : RT) (n : Nat) (c : Code) (X : Nat → K) (k : K) : K := aM CF r 25 n c X r135 k
theorem dIq : D135 r n c135 x0 r135 = (K1 (s135 r n) 0) :=
 (by kernel_rfl)
theorem cVk : aF CF r n 135 args h = s135 r n (aQ args 0) h :=
 (by kernel_rfl : aF CF r n 135 args h = D135 r n c135 x0 r135 (aJ args) h).trans ((congrFun (congrFun (dIq r n) (aJ args)) h).trans (by kernel_rfl))
noncomputable def s137 (r : RT) (n : Nat) (x0 x1 : DV) (h0 : Hp) : aI :=
 bnd (bK [(aE 0), (.s []), (aE 0), (aE 0)] h0) fun v1 h1 =>
 bnd (aS x0 h1) fun v2 h2 =>
 bnd (aB 0 v2 h2) fun v3 h3 =>
 bnd (aA v3 h3) fun v4 h4 =>
 bnd (aS x0 h4) fun v5 h5 =>
 bnd (aB 0 v5 h5) fun v6 h6 =>
 bnd (aA v6 h6) fun v7 h7 =>
 bnd (bW v7 h7) fun v8 h8 =>
 bnd (aD .sub v8 (aE 1) h8) fun v9 h9 =>
 bnd (aPk x1 v9 h9) fun v10 h10 =>
 bnd (aH 4 v4 v10 h10) fun v11 h11 =>
 bnd (aK 4 v11 h11) fun v12 h12 =>
 bnd (aG 4 v1 v12 h12) fun v13 h13 =>
 bnd (aK 4 v1 h13) fun v14 _ =>
 some (v14, h13)
noncomputable abbrev c137 : Code := cf Tryz.f137
noncomputable abbrev r137 : K := aT CF Tryz.f137
noncomputable def D137 (r : RT) (n : Nat) (c : Code) (X : Nat → K) (k : K) : K := aM CF r 19 n c X r137 k
theorem dHe : D137 r n c137 x0 r137 = (K2 (s137 r n) 0 1) :=
 (by kernel_rfl)
theorem cZt : aF CF r n 137 args h = s137 r n (aQ args 0) (aQ args 1) h :=
 (by kernel_rfl : aF CF r n 137 args h = D137 r n c137 x0 r137 (aJ args) h).trans ((congrFun (congrFun (dHe r n) (aJ args)) h).trans (by kernel_rfl))
noncomputable def aGx (r : RT) (n : Nat) (x7 : DV) (h0 : Hp) : aI :=
 bnd (aB 1 x7 h0) fun v1 h1 =>
 bnd (aA v1 h1) fun v2 h2 =>
 some (v2, h2)
noncomputable def yQ (r : RT) (n : Nat) (x0 x2 x7 : DV) (h0 : Hp) : aI :=
 bnd (bW x2 h0) fun v1 h1 =>
 bnd (aD .eql v1 (aE 4) h1) fun v2 h2 =>
 aP v2 (
 bnd (aK 4 x7 h2) fun v3 h3 =>
 bnd (r 136 [x0, v3, (aE 18)] h3) fun v4 h4 =>
  aGx r n x7 h4) (
  aGx r n x7 h2)
noncomputable def aDk (r : RT) (n : Nat) (x0 x1 x2 : DV) (h0 : Hp) : aI :=
 bnd (r 120 [x0, x1, (.s [])] h0) fun v1 h1 =>
 bnd (bK [(aE 0), (.s []), (aE 0), (aE 0)] h1) fun v2 h2 =>
 bnd (aG 4 v2 v1 h2) fun _ h3 =>
  yQ r n x0 x2 v2 h3
noncomputable def s138 (r : RT) (n : Nat) (x0 x1 x2 : DV) (h0 : Hp) : aI :=
 aDk r n x0 x1 x2 h0
noncomputable abbrev c138 : Code := cf Tryz.f138
noncomputable abbrev aGe : Code := cR c138
noncomputable abbrev aDj : Code := cR aGe
noncomputable abbrev cVm : Code := cR aDj
noncomputable abbrev cCd : Code := cL aDj
noncomputable abbrev aTw : Code := cL aGe
noncomputable abbrev bYp : Code := cL c138
noncomputable abbrev r138 : K := aT CF Tryz.f138
noncomputable def D138 (r : RT) (n : Nat) (c : Code) (X : Nat → K) (k : K) : K := aM CF r 19 n c X r138 k
theorem cOi : D138 r n cVm x0 r138 = (K1 (aGx r n) 7) :=
 (by kernel_rfl)
theorem bZj : D138 r n aDj x0 r138 = D138 r n cCd x0 (K1 (aGx r n) 7) :=
 congrArg (fun k => D138 r n cCd x0 k) (cOi r n)
theorem cNl : D138 r n aDj x0 r138 = (K3 (yQ r n) 0 2 7) :=
 (bZj r n).trans
 ((by kernel_rfl))
theorem bSv : D138 r n aGe x0 r138 = D138 r n aTw x0 (K3 (yQ r n) 0 2 7) :=
 congrArg (fun k => D138 r n aTw x0 k) (cNl r n)
theorem bWv (q0 : mM) : D138 r n aTw x0 (K3 q0 0 2 7) = fun (env : aY) (h : Hp) =>
 bnd (r 120 [(env 0), (env 1), (.s [])] h) fun v1 h1 =>
 bnd (bK [(aE 0), (.s []), (aE 0), (aE 0)] h1) fun v2 h2 =>
 bnd (aG 4 v2 v1 h2) fun _ h3 =>
  q0 (env 0) (env 2) v2 h3 := by kernel_rfl
theorem bGp : (fun (env : aY) (h : Hp) =>
 bnd (r 120 [(env 0), (env 1), (.s [])] h) fun v1 h1 =>
 bnd (bK [(aE 0), (.s []), (aE 0), (aE 0)] h1) fun v2 h2 =>
 bnd (aG 4 v2 v1 h2) fun _ h3 =>
  yQ r n (env 0) (env 2) v2 h3) = (K3 (aDk r n) 0 1 2) := by kernel_rfl
theorem cHs : D138 r n aGe x0 r138 = (K3 (aDk r n) 0 1 2) :=
 (bSv r n).trans
 ((bWv r n (yQ r n)).trans (bGp r n))
theorem cZc : D138 r n c138 x0 r138 = D138 r n bYp x0 (K3 (aDk r n) 0 1 2) :=
 congrArg (fun k => D138 r n bYp x0 k) (cHs r n)
theorem dFo : D138 r n c138 x0 r138 = (K3 (s138 r n) 0 1 2) :=
 (cZc r n).trans
 ((by kernel_rfl))
theorem cXv : aF CF r n 138 args h = s138 r n (aQ args 0) (aQ args 1) (aQ args 2) h :=
 (by kernel_rfl : aF CF r n 138 args h = D138 r n c138 x0 r138 (aJ args) h).trans ((congrFun (congrFun (dFo r n) (aJ args)) h).trans (by kernel_rfl))
noncomputable def dA (r : RT) (n : Nat) (kk2 : cD) (x0 x2 x10 x11 x12 : DV) (h0 : Hp) : aI :=
 bnd (aD .add x12 (aE 1) h0) fun v1 h1 =>
  kk2 x0 x2 x10 x11 v1 h1
noncomputable def vX (r : RT) (n : Nat) (kk2 : cD) (x0 x2 x7 x10 x11 x12 : DV) (h0 : Hp) : aI :=
 bnd (aS x0 h0) fun v1 h1 =>
 bnd (aB 8 v1 h1) fun v2 h2 =>
 bnd (aA v2 h2) fun v3 h3 =>
 bnd (aD .neq v3 (aE 0) h3) fun v4 h4 =>
 aP v4 (
 some (.t [], h4)) (
 bnd (aS x0 (resv 1 h4)) fun v5 h5 =>
 bnd (aB 6 v5 h5) fun v6 h6 =>
 bnd (aA v6 h6) fun v7 h7 =>
 bnd (aS x0 h7) fun v8 h8 =>
 bnd (aB 0 v8 h8) fun v9 h9 =>
 bnd (aB 2 v9 h9) fun v10 h10 =>
 bnd (aA v10 h10) fun v11 h11 =>
 bnd (bB [(.s []), (.b false), (.b false), (aE 0)] [(0, 1, x7), (1, 1, (.b false)), (2, 1, x2), (3, 1, v11)] h11) fun v12 h12 =>
 bnd (bJ (bX 0 h4.next) [(.s []), (.b false), (.b false), (aE 0)] 1 [(0, 4, v12)] h12) fun v13 h13 =>
 bnd (aZ 4 32 v7 v13 h13) fun v14 h14 =>
 bnd (aS x0 h14) fun v15 h15 =>
 bnd (aB 6 v15 h15) fun v16 h16 =>
 bnd (aG 1 v16 v14 h16) fun v17 h17 =>
 bnd (aS x0 h17) fun v18 h18 =>
 bnd (aB 0 v18 h18) fun v19 h19 =>
 bnd (aB 2 v19 h19) fun v20 h20 =>
 bnd (aA v20 h20) fun v21 h21 =>
 bnd (aD .add v21 (aE 1) h21) fun v22 h22 =>
 bnd (aS x0 h22) fun v23 h23 =>
 bnd (aB 0 v23 h23) fun v24 h24 =>
 bnd (aB 2 v24 h24) fun v25 h25 =>
 bnd (aG 1 v25 v22 h25) fun _ h26 =>
  dA r n kk2 x0 x2 x10 x11 x12 h26)
noncomputable def nV (r : RT) (n : Nat) (kk2 : cD) (x0 x2 x7 x10 x11 x12 : DV) (h0 : Hp) : aI :=
 bnd (aS x0 h0) fun v1 h1 =>
 bnd (aB 0 v1 h1) fun v2 h2 =>
 bnd (aB 2 v2 h2) fun v3 h3 =>
 bnd (aA v3 h3) fun v4 h4 =>
 bnd (aD .eql v4 (aE 24) h4) fun v5 h5 =>
 aP v5 (
 bnd (r 158 [x0, x7, (aE 18)] h5) fun v6 h6 =>
  vX r n kk2 x0 x2 x7 x10 x11 x12 h6) (
  vX r n kk2 x0 x2 x7 x10 x11 x12 h5)
noncomputable def aHe (r : RT) (n : Nat) (kk2 : cD) (x0 x2 x7 x10 x11 x12 : DV) (h0 : Hp) : aI :=
 bnd (r 156 [x0, x7] h0) fun v1 h1 =>
 bnd (aC 0 v1 h1) fun v2 h2 =>
 bnd (aC 1 v1 h2) fun v3 h3 =>
 bnd (bK [(.s []), (.b false), (.b false), (aE 0)] h3) fun v4 h4 =>
 bnd (aG 4 v4 v2 h4) fun _ h5 =>
 bnd (gD v3 false (some (x7, h5)) h5) fun v6 h6 =>
 bnd (gD v3 false (r 157 [v6] h6) h6) fun v7 h7 =>
 bnd (aO v3 (.b true) v7 h7) fun v8 h8 =>
 aP v8 (
 bnd (r 158 [x0, x7, (aE 16)] h8) fun v9 h9 =>
  nV r n kk2 x0 x2 x7 x10 x11 x12 h9) (
  nV r n kk2 x0 x2 x7 x10 x11 x12 h8)
noncomputable def aSe (r : RT) (n : Nat) (kk2 : cD) (x0 x2 x10 x11 x12 : DV) (h0 : Hp) : aI :=
 bnd (aH 1 x10 x12 h0) fun v1 h1 =>
 bnd (aA v1 h1) fun v2 h2 =>
  aHe r n kk2 x0 x2 v2 x10 x11 x12 h2
noncomputable def aRp (r : RT) (n : Nat) (kk2 : cD) (x0 x2 x10 x11 x12 x13 : DV) (h0 : Hp) : aI :=
 aP x13 (
  aSe r n kk2 x0 x2 x10 x11 x12 h0) (
 some (.t [], h0))
noncomputable def bAu (r : RT) (n : Nat) (kk2 : cD) (x0 x2 x10 x11 x12 : DV) (h0 : Hp) : aI :=
 bnd (aD .lss x12 x11 h0) fun v1 h1 =>
  aRp r n kk2 x0 x2 x10 x11 x12 v1 h1
noncomputable def tF (r : RT) (n : Nat) (m : Nat) : cD :=
 Nat.rec (motive := fun _ => cD) (fun _ _ _ _ _ _ => none) (fun _ ih => bAu r n ih) m
noncomputable def bNz (r : RT) (n : Nat) : cD := tF r n n
noncomputable def aRc (r : RT) (n : Nat) (x0 x2 x10 x11 x12 : DV) (h0 : Hp) : aI :=
 bNz r n x0 x2 x10 x11 x12 h0
noncomputable def s139 (r : RT) (n : Nat) (x0 x1 x2 : DV) (h0 : Hp) : aI :=
 bnd (bW x1 h0) fun v1 h1 =>
  aRc r n x0 x2 x1 v1 (aE 0) h1
noncomputable abbrev c139 : Code := cf Tryz.f139
noncomputable abbrev aSu : Code := cR c139
noncomputable abbrev aHv : Code := cL aSu
noncomputable abbrev jU : Code := cL aHv
noncomputable abbrev aIe : Code := cR jU
noncomputable abbrev aJz : Code := cR aIe
noncomputable abbrev cWi : Code := cR aJz
noncomputable abbrev aBp : Code := cL aJz
noncomputable abbrev aHf : Code := cL aBp
noncomputable abbrev aJa : Code := cR aHf
noncomputable abbrev tT : Code := cR aJa
noncomputable abbrev bBw : Code := cR tT
noncomputable abbrev aYd : Code := cL tT
noncomputable abbrev aBg : Code := cL aJa
noncomputable abbrev aXt : Code := cL aHf
noncomputable abbrev aWo : Code := cL aIe
noncomputable abbrev bAa : Code := cL jU
noncomputable abbrev aXo : Code := cL c139
noncomputable abbrev r139 : K := aT CF Tryz.f139
noncomputable def D139 (r : RT) (n : Nat) (c : Code) (X : Nat → K) (k : K) : K := aM CF r 71 n c X r139 k
theorem cGb (kk2 : cD) : D139 r n cWi (xs x0 0 r139) (K5 kk2 0 2 10 11 12) = (K5 (dA r n kk2) 0 2 10 11 12) :=
 (by kernel_rfl)
theorem bKj (kk2 : cD) (q0 : cD) : D139 r n bBw (xs (xs x0 0 r139) 1 (K5 q0 0 2 10 11 12)) (K5 q0 0 2 10 11 12) = fun (env : aY) (h : Hp) =>
 bnd (aS (env 0) h) fun v1 h1 =>
 bnd (aB 8 v1 h1) fun v2 h2 =>
 bnd (aA v2 h2) fun v3 h3 =>
 bnd (aD .neq v3 (aE 0) h3) fun v4 h4 =>
 aP v4 (
 some (.t [], h4)) (
 bnd (aS (env 0) (resv 1 h4)) fun v5 h5 =>
 bnd (aB 6 v5 h5) fun v6 h6 =>
 bnd (aA v6 h6) fun v7 h7 =>
 bnd (aS (env 0) h7) fun v8 h8 =>
 bnd (aB 0 v8 h8) fun v9 h9 =>
 bnd (aB 2 v9 h9) fun v10 h10 =>
 bnd (aA v10 h10) fun v11 h11 =>
 bnd (bB [(.s []), (.b false), (.b false), (aE 0)] [(0, 1, (env 7)), (1, 1, (.b false)), (2, 1, (env 2)), (3, 1, v11)] h11) fun v12 h12 =>
 bnd (bJ (bX 0 h4.next) [(.s []), (.b false), (.b false), (aE 0)] 1 [(0, 4, v12)] h12) fun v13 h13 =>
 bnd (aZ 4 32 v7 v13 h13) fun v14 h14 =>
 bnd (aS (env 0) h14) fun v15 h15 =>
 bnd (aB 6 v15 h15) fun v16 h16 =>
 bnd (aG 1 v16 v14 h16) fun v17 h17 =>
 bnd (aS (env 0) h17) fun v18 h18 =>
 bnd (aB 0 v18 h18) fun v19 h19 =>
 bnd (aB 2 v19 h19) fun v20 h20 =>
 bnd (aA v20 h20) fun v21 h21 =>
 bnd (aD .add v21 (aE 1) h21) fun v22 h22 =>
 bnd (aS (env 0) h22) fun v23 h23 =>
 bnd (aB 0 v23 h23) fun v24 h24 =>
 bnd (aB 2 v24 h24) fun v25 h25 =>
 bnd (aG 1 v25 v22 h25) fun _ h26 =>
      q0 (env 0) (env 2) (env 10) (env 11) (env 12) h26) := by kernel_rfl
theorem bFg (kk2 : cD) : (fun (env : aY) (h : Hp) =>
 bnd (aS (env 0) h) fun v1 h1 =>
 bnd (aB 8 v1 h1) fun v2 h2 =>
 bnd (aA v2 h2) fun v3 h3 =>
 bnd (aD .neq v3 (aE 0) h3) fun v4 h4 =>
 aP v4 (
 some (.t [], h4)) (
 bnd (aS (env 0) (resv 1 h4)) fun v5 h5 =>
 bnd (aB 6 v5 h5) fun v6 h6 =>
 bnd (aA v6 h6) fun v7 h7 =>
 bnd (aS (env 0) h7) fun v8 h8 =>
 bnd (aB 0 v8 h8) fun v9 h9 =>
 bnd (aB 2 v9 h9) fun v10 h10 =>
 bnd (aA v10 h10) fun v11 h11 =>
 bnd (bB [(.s []), (.b false), (.b false), (aE 0)] [(0, 1, (env 7)), (1, 1, (.b false)), (2, 1, (env 2)), (3, 1, v11)] h11) fun v12 h12 =>
 bnd (bJ (bX 0 h4.next) [(.s []), (.b false), (.b false), (aE 0)] 1 [(0, 4, v12)] h12) fun v13 h13 =>
 bnd (aZ 4 32 v7 v13 h13) fun v14 h14 =>
 bnd (aS (env 0) h14) fun v15 h15 =>
 bnd (aB 6 v15 h15) fun v16 h16 =>
 bnd (aG 1 v16 v14 h16) fun v17 h17 =>
 bnd (aS (env 0) h17) fun v18 h18 =>
 bnd (aB 0 v18 h18) fun v19 h19 =>
 bnd (aB 2 v19 h19) fun v20 h20 =>
 bnd (aA v20 h20) fun v21 h21 =>
 bnd (aD .add v21 (aE 1) h21) fun v22 h22 =>
 bnd (aS (env 0) h22) fun v23 h23 =>
 bnd (aB 0 v23 h23) fun v24 h24 =>
 bnd (aB 2 v24 h24) fun v25 h25 =>
 bnd (aG 1 v25 v22 h25) fun _ h26 =>
      dA r n kk2 (env 0) (env 2) (env 10) (env 11) (env 12) h26)) = (K6 (vX r n kk2) 0 2 7 10 11 12) := by kernel_rfl
theorem cGo (kk2 : cD) : D139 r n bBw (xs (xs x0 0 r139) 1 (K5 (dA r n kk2) 0 2 10 11 12)) (K5 (dA r n kk2) 0 2 10 11 12) = (K6 (vX r n kk2) 0 2 7 10 11 12) :=
 (bKj r n kk2 (dA r n kk2)).trans (bFg r n kk2)
theorem bRb (kk2 : cD) : D139 r n tT (xs (xs x0 0 r139) 1 (K5 (dA r n kk2) 0 2 10 11 12)) (K5 (dA r n kk2) 0 2 10 11 12) = D139 r n aYd (xs (xs x0 0 r139) 1 (K5 (dA r n kk2) 0 2 10 11 12)) (K6 (vX r n kk2) 0 2 7 10 11 12) :=
 congrArg (fun k => D139 r n aYd (xs (xs x0 0 r139) 1 (K5 (dA r n kk2) 0 2 10 11 12)) k) (cGo r n kk2)
theorem cKm (kk2 : cD) : D139 r n tT (xs (xs x0 0 r139) 1 (K5 (dA r n kk2) 0 2 10 11 12)) (K5 (dA r n kk2) 0 2 10 11 12) = (K6 (nV r n kk2) 0 2 7 10 11 12) :=
 (bRb r n kk2).trans
 ((by kernel_rfl))
theorem bRg (kk2 : cD) : D139 r n aJa (xs (xs x0 0 r139) 1 (K5 (dA r n kk2) 0 2 10 11 12)) (K5 (dA r n kk2) 0 2 10 11 12) = D139 r n aBg (xs (xs x0 0 r139) 1 (K5 (dA r n kk2) 0 2 10 11 12)) (K6 (nV r n kk2) 0 2 7 10 11 12) :=
 congrArg (fun k => D139 r n aBg (xs (xs x0 0 r139) 1 (K5 (dA r n kk2) 0 2 10 11 12)) k) (cKm r n kk2)
theorem bNm (kk2 : cD) (q0 : fD) (q1 : cD) : D139 r n aBg (xs (xs x0 0 r139) 1 (K5 q1 0 2 10 11 12)) (K6 q0 0 2 7 10 11 12) = fun (env : aY) (h : Hp) =>
 bnd (r 156 [(env 0), (env 7)] h) fun v1 h1 =>
 bnd (aC 0 v1 h1) fun v2 h2 =>
 bnd (aC 1 v1 h2) fun v3 h3 =>
 bnd (bK [(.s []), (.b false), (.b false), (aE 0)] h3) fun v4 h4 =>
 bnd (aG 4 v4 v2 h4) fun _ h5 =>
 bnd (gD v3 false (some ((env 7), h5)) h5) fun v6 h6 =>
 bnd (gD v3 false (r 157 [v6] h6) h6) fun v7 h7 =>
 bnd (aO v3 (.b true) v7 h7) fun v8 h8 =>
 aP v8 (
 bnd (r 158 [(env 0), (env 7), (aE 16)] h8) fun v9 h9 =>
      q0 (env 0) (env 2) (env 7) (env 10) (env 11) (env 12) h9) (
      q0 (env 0) (env 2) (env 7) (env 10) (env 11) (env 12) h8) := by kernel_rfl
theorem bFa (kk2 : cD) : (fun (env : aY) (h : Hp) =>
 bnd (r 156 [(env 0), (env 7)] h) fun v1 h1 =>
 bnd (aC 0 v1 h1) fun v2 h2 =>
 bnd (aC 1 v1 h2) fun v3 h3 =>
 bnd (bK [(.s []), (.b false), (.b false), (aE 0)] h3) fun v4 h4 =>
 bnd (aG 4 v4 v2 h4) fun _ h5 =>
 bnd (gD v3 false (some ((env 7), h5)) h5) fun v6 h6 =>
 bnd (gD v3 false (r 157 [v6] h6) h6) fun v7 h7 =>
 bnd (aO v3 (.b true) v7 h7) fun v8 h8 =>
 aP v8 (
 bnd (r 158 [(env 0), (env 7), (aE 16)] h8) fun v9 h9 =>
      nV r n kk2 (env 0) (env 2) (env 7) (env 10) (env 11) (env 12) h9) (
      nV r n kk2 (env 0) (env 2) (env 7) (env 10) (env 11) (env 12) h8)) = (K6 (aHe r n kk2) 0 2 7 10 11 12) := by kernel_rfl
theorem cCw (kk2 : cD) : D139 r n aJa (xs (xs x0 0 r139) 1 (K5 (dA r n kk2) 0 2 10 11 12)) (K5 (dA r n kk2) 0 2 10 11 12) = (K6 (aHe r n kk2) 0 2 7 10 11 12) :=
 (bRg r n kk2).trans
 ((bNm r n kk2 (nV r n kk2) (dA r n kk2)).trans (bFa r n kk2))
theorem bNe (kk2 : cD) : D139 r n aJz (xs x0 0 r139) (K5 kk2 0 2 10 11 12) = D139 r n aBp (xs x0 0 r139) (K5 (dA r n kk2) 0 2 10 11 12) :=
 congrArg (fun k => D139 r n aBp (xs x0 0 r139) k) (cGb r n kk2)
theorem bLz (kk2 : cD) : D139 r n aHf (xs (xs x0 0 r139) 1 (K5 (dA r n kk2) 0 2 10 11 12)) (K5 (dA r n kk2) 0 2 10 11 12) = D139 r n aXt (xs (xs x0 0 r139) 1 (K5 (dA r n kk2) 0 2 10 11 12)) (K6 (aHe r n kk2) 0 2 7 10 11 12) :=
 congrArg (fun k => D139 r n aXt (xs (xs x0 0 r139) 1 (K5 (dA r n kk2) 0 2 10 11 12)) k) (cCw r n kk2)
theorem cNn (kk2 : cD) : D139 r n aJz (xs x0 0 r139) (K5 kk2 0 2 10 11 12) = (K5 (aSe r n kk2) 0 2 10 11 12) :=
 (bNe r n kk2).trans
 ((by kernel_rfl : D139 r n aBp (xs x0 0 r139) (K5 (dA r n kk2) 0 2 10 11 12) = D139 r n aHf (xs (xs x0 0 r139) 1 (K5 (dA r n kk2) 0 2 10 11 12)) (K5 (dA r n kk2) 0 2 10 11 12)).trans
 ((bLz r n kk2).trans
 ((by kernel_rfl))))
theorem bId (kk2 : cD) : D139 r n aIe (xs x0 0 r139) (K5 kk2 0 2 10 11 12) = D139 r n aWo (xs x0 0 r139) (K5 (aSe r n kk2) 0 2 10 11 12) :=
 congrArg (fun k => D139 r n aWo (xs x0 0 r139) k) (cNn r n kk2)
theorem cHi (kk2 : cD) : D139 r n aIe (xs x0 0 r139) (K5 kk2 0 2 10 11 12) = (K6 (aRp r n kk2) 0 2 10 11 12 13) :=
 (bId r n kk2).trans
 ((by kernel_rfl))
theorem bVy (kk2 : cD) : D139 r n jU (xs x0 0 r139) (K5 kk2 0 2 10 11 12) = D139 r n bAa (xs x0 0 r139) (K6 (aRp r n kk2) 0 2 10 11 12 13) :=
 congrArg (fun k => D139 r n bAa (xs x0 0 r139) k) (cHi r n kk2)
theorem cCb (kk2 : cD) : D139 r n jU (xs x0 0 r139) (K5 kk2 0 2 10 11 12) = (K5 (bAu r n kk2) 0 2 10 11 12) :=
 (bVy r n kk2).trans
 ((by kernel_rfl))
theorem bXc (m : Nat) : aN (fun kk => D139 r n jU (xs x0 0 r139) kk) m = (K5 (tF r n m) 0 2 10 11 12) := by
 induction m with
 | zero => exact (by kernel_rfl : aN (fun kk => D139 r n jU (xs x0 0 r139) kk) 0 = (K5 (tF r n 0) 0 2 10 11 12))
 | succ m ih =>
  refine (by kernel_rfl : aN (fun kk => D139 r n jU (xs x0 0 r139) kk) (m + 1) = D139 r n jU (xs x0 0 r139) (aN (fun kk => D139 r n jU (xs x0 0 r139) kk) m)).trans ?_
  rw [ih]
  exact (cCb r n (tF r n m)).trans (by kernel_rfl)
theorem cFi : D139 r n aHv (xs x0 0 r139) r139 = (K5 (bNz r n) 0 2 10 11 12) :=
 (by kernel_rfl : D139 r n aHv (xs x0 0 r139) r139 = aN (fun kk => D139 r n jU (xs x0 0 r139) kk) n).trans ((bXc r n n).trans (by kernel_rfl))
theorem cNh : D139 r n aSu x0 r139 = (K5 (aRc r n) 0 2 10 11 12) :=
 (by kernel_rfl : D139 r n aSu x0 r139 = D139 r n aHv (xs x0 0 r139) r139).trans
 ((cFi r n).trans (by kernel_rfl))
theorem dFe : D139 r n c139 x0 r139 = D139 r n aXo x0 (K5 (aRc r n) 0 2 10 11 12) :=
 congrArg (fun k => D139 r n aXo x0 k) (cNh r n)
theorem dIi : D139 r n c139 x0 r139 = (K3 (s139 r n) 0 1 2) :=
 (dFe r n).trans
 ((by kernel_rfl))
theorem cUz : aF CF r n 139 args h = s139 r n (aQ args 0) (aQ args 1) (aQ args 2) h :=
 (by kernel_rfl : aF CF r n 139 args h = D139 r n c139 x0 r139 (aJ args) h).trans ((congrFun (congrFun (dIi r n) (aJ args)) h).trans (by kernel_rfl))
noncomputable def pR (r : RT) (n : Nat) (x0 x3 x11 x14 : DV) (h0 : Hp) : aI :=
 aP x14 (
 bnd (aK 6 x3 h0) fun v1 h1 =>
 bnd (r 160 [x0, v1] h1) fun v2 h2 =>
 bnd (kT [x0, v2] h2) fun v3 h3 =>
 bnd (r 141 [x0, (aE 6), v3, (aE 0)] h3) fun v4 h4 =>
 some (.t [], h4)) (
 bnd (aD .eql x11 (aE 5) h0) fun v5 h5 =>
 aP v5 (
 bnd (aB 1 x3 h5) fun v6 h6 =>
 bnd (aA v6 h6) fun v7 h7 =>
 bnd (r 161 [x0, v7] h7) fun v8 h8 =>
 some (.t [], h8)) (
 bnd (aD .eql x11 (aE 6) h5) fun v9 h9 =>
 aP v9 (
 bnd (aK 6 x3 h9) fun v10 h10 =>
 bnd (r 162 [x0, v10] h10) fun v11 h11 =>
 some (.t [], h11)) (
 bnd (aD .eql x11 (aE 7) h9) fun v12 h12 =>
 aP v12 (
 bnd (aK 6 x3 h12) fun v13 h13 =>
 bnd (r 163 [x0, v13] h13) fun v14 h14 =>
 some (.t [], h14)) (
 bnd (aD .eql x11 (aE 8) h12) fun v15 h15 =>
 aP v15 (
 bnd (aK 6 x3 h15) fun v16 h16 =>
 bnd (r 164 [x0, v16] h16) fun v17 h17 =>
 some (.t [], h17)) (
 bnd (aD .eql x11 (aE 9) h15) fun v18 h18 =>
 aP v18 (
 bnd (aS x0 h18) fun v19 h19 =>
 bnd (aB 0 v19 h19) fun v20 h20 =>
 bnd (aB 2 v20 h20) fun v21 h21 =>
 bnd (aA v21 h21) fun v22 h22 =>
 bnd (aB 3 x3 h22) fun v23 h23 =>
 bnd (aA v23 h23) fun v24 h24 =>
 bnd (bW v24 h24) fun v25 h25 =>
 bnd (r 141 [x0, (aE 18), v22, v25] h25) fun v26 h26 =>
 bnd (r 165 [x0, (aE 16)] h26) fun v27 h27 =>
 bnd (aK 6 x3 h27) fun v28 h28 =>
 bnd (r 166 [x0, v28] h28) fun v29 h29 =>
 bnd (r 141 [x0, (aE 19), (aE 0), (aE 0)] h29) fun v30 h30 =>
 bnd (cP CF r v27 [] h30) fun v31 h31 =>
 some (.t [], h31)) (
 bnd (aD .eql x11 (aE 10) h18) fun v32 h32 =>
 aP v32 (
 bnd (aK 6 x3 h32) fun v33 h33 =>
 bnd (r 167 [x0, v33] h33) fun v34 h34 =>
 aP v34 (
 bnd (aB 5 x3 h34) fun v35 h35 =>
 bnd (aA v35 h35) fun v36 h36 =>
 bnd (aH 6 v36 (aE 0) h36) fun v37 h37 =>
 bnd (aK 6 v37 h37) fun v38 h38 =>
 bnd (r 140 [x0, v38] h38) fun v39 h39 =>
 bnd (r 141 [x0, (aE 20), (aE 0), (aE 0)] h39) fun v40 h40 =>
 some (.t [], h40)) (
 some (.t [], h34))) (
 bnd (r 158 [x0, (.s []), (aE 1)] h32) fun v41 h41 =>
 some (.t [], h41))))))))
noncomputable def aSl (r : RT) (n : Nat) (x0 x3 x11 : DV) (h0 : Hp) : aI :=
 bnd (aD .eql x11 (aE 1) h0) fun v1 h1 =>
 aP v1 (
  pR r n x0 x3 x11 v1 h1) (
 bnd (aD .eql x11 (aE 2) h1) fun v2 h2 =>
 aP v2 (
   pR r n x0 x3 x11 v2 h2) (
 bnd (aD .eql x11 (aE 3) h2) fun v3 h3 =>
 aP v3 (
    pR r n x0 x3 x11 v3 h3) (
 bnd (aD .eql x11 (aE 4) h3) fun v4 h4 =>
    pR r n x0 x3 x11 v4 h4)))
noncomputable def aNz (r : RT) (n : Nat) (x0 x3 : DV) (h0 : Hp) : aI :=
 bnd (aB 0 x3 h0) fun v1 h1 =>
 bnd (aA v1 h1) fun v2 h2 =>
  aSl r n x0 x3 v2 h2
noncomputable def xB (r : RT) (n : Nat) (x0 x3 : DV) (h0 : Hp) : aI :=
 bnd (aS x0 h0) fun v1 h1 =>
 bnd (aB 8 v1 h1) fun v2 h2 =>
 bnd (aA v2 h2) fun v3 h3 =>
 bnd (aD .neq v3 (aE 0) h3) fun v4 h4 =>
 aP v4 (
 some (.t [], h4)) (
  aNz r n x0 x3 h4)
noncomputable def s140 (r : RT) (n : Nat) (x0 x1 : DV) (h0 : Hp) : aI :=
 bnd (bQ x1 h0) fun v1 h1 =>
  xB r n x0 v1 h1
noncomputable abbrev c140 : Code := cf Tryz.f140
noncomputable abbrev aDp : Code := cR c140
noncomputable abbrev aFz : Code := cR aDp
noncomputable abbrev aRw : Code := cR aFz
noncomputable abbrev aGh : Code := cL aRw
noncomputable abbrev dAv : Code := cR aGh
noncomputable abbrev cAf : Code := cL aGh
noncomputable abbrev bJv : Code := cL aFz
noncomputable abbrev bMe : Code := cL aDp
noncomputable abbrev aSv : Code := cL c140
noncomputable abbrev r140 : K := aT CF Tryz.f140
noncomputable def D140 (r : RT) (n : Nat) (c : Code) (X : Nat → K) (k : K) : K := aM CF r 81 n c X r140 k
theorem cHa : D140 r n dAv (xs x0 0 r140) r140 = (K4 (pR r n) 0 3 11 14) :=
 (by kernel_rfl)
theorem cAs : D140 r n aGh (xs x0 0 r140) r140 = D140 r n cAf (xs x0 0 r140) (K4 (pR r n) 0 3 11 14) :=
 congrArg (fun k => D140 r n cAf (xs x0 0 r140) k) (cHa r n)
theorem cGt : D140 r n aRw x0 r140 = (K3 (aSl r n) 0 3 11) :=
 (by kernel_rfl : D140 r n aRw x0 r140 = D140 r n aGh (xs x0 0 r140) r140).trans
 ((cAs r n).trans
 ((by kernel_rfl)))
theorem bIo : D140 r n aFz x0 r140 = D140 r n bJv x0 (K3 (aSl r n) 0 3 11) :=
 congrArg (fun k => D140 r n bJv x0 k) (cGt r n)
theorem cGw : D140 r n aFz x0 r140 = (K2 (aNz r n) 0 3) :=
 (bIo r n).trans
 ((by kernel_rfl))
theorem bWd : D140 r n aDp x0 r140 = D140 r n bMe x0 (K2 (aNz r n) 0 3) :=
 congrArg (fun k => D140 r n bMe x0 k) (cGw r n)
theorem cGv : D140 r n aDp x0 r140 = (K2 (xB r n) 0 3) :=
 (bWd r n).trans
 ((by kernel_rfl))
theorem cXt : D140 r n c140 x0 r140 = D140 r n aSv x0 (K2 (xB r n) 0 3) :=
 congrArg (fun k => D140 r n aSv x0 k) (cGv r n)
theorem dBi (q0 : gF) : D140 r n aSv x0 (K2 q0 0 3) = fun (env : aY) (h : Hp) =>
 bnd (bQ (env 1) h) fun v1 h1 =>
  q0 (env 0) v1 h1 := by kernel_rfl
theorem cOc : (fun (env : aY) (h : Hp) =>
 bnd (bQ (env 1) h) fun v1 h1 =>
  xB r n (env 0) v1 h1) = (K2 (s140 r n) 0 1) := by kernel_rfl
theorem dLj : D140 r n c140 x0 r140 = (K2 (s140 r n) 0 1) :=
 (cXt r n).trans
 ((dBi r n (xB r n)).trans (cOc r n))
theorem dAf : aF CF r n 140 args h = s140 r n (aQ args 0) (aQ args 1) h :=
 (by kernel_rfl : aF CF r n 140 args h = D140 r n c140 x0 r140 (aJ args) h).trans ((congrFun (congrFun (dLj r n) (aJ args)) h).trans (by kernel_rfl))
noncomputable def s141 (r : RT) (n : Nat) (x0 x1 x2 x3 : DV) (h0 : Hp) : aI :=
 bnd (aS x0 h0) fun v1 h1 =>
 bnd (aB 0 v1 h1) fun v2 h2 =>
 bnd (aB 5 v2 h2) fun v3 h3 =>
 bnd (aA v3 h3) fun v4 h4 =>
 bnd (bB [(aE 0), (aE 0), (aE 0)] [(0, 1, x1), (1, 1, x2), (2, 1, x3)] h4) fun v5 h5 =>
 bnd (aL [(aE 0), (aE 0), (aE 0)] 1 [(0, 3, v5)] h5) fun v6 h6 =>
 bnd (aZ 3 24 v4 v6 h6) fun v7 h7 =>
 bnd (aS x0 h7) fun v8 h8 =>
 bnd (aB 0 v8 h8) fun v9 h9 =>
 bnd (aB 5 v9 h9) fun v10 h10 =>
 bnd (aG 1 v10 v7 h10) fun _ h11 =>
 some (.t [], h11)
noncomputable abbrev c141 : Code := cf Tryz.f141
noncomputable abbrev r141 : K := aT CF Tryz.f141
noncomputable def D141 (r : RT) (n : Nat) (c : Code) (X : Nat → K) (k : K) : K := aM CF r 23 n c X r141 k
theorem dIh : D141 r n c141 x0 r141 = (K4 (s141 r n) 0 1 2 3) :=
 (by kernel_rfl)
theorem cTt : aF CF r n 141 args h = s141 r n (aQ args 0) (aQ args 1) (aQ args 2) (aQ args 3) h :=
 (by kernel_rfl : aF CF r n 141 args h = D141 r n c141 x0 r141 (aJ args) h).trans ((congrFun (congrFun (dIh r n) (aJ args)) h).trans (by kernel_rfl))
noncomputable def cG (r : RT) (n : Nat) (x2 x3 : DV) (h0 : Hp) : aI :=
 some (.t [x2, x3], h0)
noncomputable def cQ (r : RT) (n : Nat) (x3 : DV) (h0 : Hp) : aI :=
 cG r n (.b true) x3 h0
noncomputable def dK (r : RT) (n : Nat) (h0 : Hp) : aI :=
 cQ r n (.b true) h0
noncomputable def nY (r : RT) (n : Nat) (x2 x3 : DV) (h0 : Hp) : aI :=
 cG r n x2 x3 h0
noncomputable def lY (r : RT) (n : Nat) (x2 x3 x11 : DV) (h0 : Hp) : aI :=
 aP x11 (
  cQ r n x3 h0) (
  nY r n x2 x3 h0)
noncomputable def uS (r : RT) (n : Nat) (x2 x3 x4 : DV) (h0 : Hp) : aI :=
 bnd (aD .eql x4 (aE 6) h0) fun v1 h1 =>
 aP v1 (
  lY r n x2 x3 v1 h1) (
 bnd (aD .eql x4 (aE 7) h1) fun v2 h2 =>
 aP v2 (
   lY r n x2 x3 v2 h2) (
 bnd (aD .eql x4 (aE 8) h2) fun v3 h3 =>
 aP v3 (
    lY r n x2 x3 v3 h3) (
 bnd (aD .eql x4 (aE 9) h3) fun v4 h4 =>
 aP v4 (
     lY r n x2 x3 v4 h4) (
 bnd (aD .eql x4 (aE 10) h4) fun v5 h5 =>
 aP v5 (
      lY r n x2 x3 v5 h5) (
 bnd (aD .eql x4 (aE 11) h5) fun v6 h6 =>
      lY r n x2 x3 v6 h6)))))
noncomputable def nK (r : RT) (n : Nat) (x2 x3 x4 x5 : DV) (h0 : Hp) : aI :=
 aP x5 (
  dK r n h0) (
  uS r n x2 x3 x4 h0)
noncomputable def aTf (r : RT) (n : Nat) (x2 x3 x4 : DV) (h0 : Hp) : aI :=
 bnd (aD .eql x4 (aE 14) h0) fun v1 h1 =>
 aP v1 (
  nK r n x2 x3 x4 v1 h1) (
 bnd (aD .eql x4 (aE 15) h1) fun v2 h2 =>
 aP v2 (
   nK r n x2 x3 x4 v2 h2) (
 bnd (aD .eql x4 (aE 16) h2) fun v3 h3 =>
 aP v3 (
    nK r n x2 x3 x4 v3 h3) (
 bnd (aD .eql x4 (aE 17) h3) fun v4 h4 =>
 aP v4 (
     nK r n x2 x3 x4 v4 h4) (
 bnd (aD .eql x4 (aE 18) h4) fun v5 h5 =>
     nK r n x2 x3 x4 v5 h5))))
noncomputable def aRl (r : RT) (n : Nat) (x0 x2 x3 : DV) (h0 : Hp) : aI :=
 aTf r n x2 x3 x0 h0
noncomputable def s142 (r : RT) (n : Nat) (x0 : DV) (h0 : Hp) : aI :=
 aRl r n x0 (.b false) (.b false) h0
noncomputable abbrev c142 : Code := cf Tryz.f142
noncomputable abbrev aBj : Code := cR c142
noncomputable abbrev cXu : Code := cR aBj
noncomputable abbrev yF : Code := cL aBj
noncomputable abbrev aPd : Code := cR yF
noncomputable abbrev aEq : Code := cL aPd
noncomputable abbrev cXr : Code := cR aEq
noncomputable abbrev aCw : Code := cL aEq
noncomputable abbrev aDb : Code := cL aCw
noncomputable abbrev dBa : Code := cR aDb
noncomputable abbrev tA : Code := cL aDb
noncomputable abbrev tU : Code := cL tA
noncomputable abbrev cJl : Code := cR tU
noncomputable abbrev oV : Code := cL tU
noncomputable abbrev tW : Code := cR oV
noncomputable abbrev cEq : Code := cR tW
noncomputable abbrev aVr : Code := cL tW
noncomputable abbrev oI : Code := cL oV
noncomputable abbrev cKg : Code := cR oI
noncomputable abbrev bBv : Code := cL oI
noncomputable abbrev aXd : Code := cL yF
noncomputable abbrev bBz : Code := cL c142
noncomputable abbrev r142 : K := aT CF Tryz.f142
noncomputable def D142 (r : RT) (n : Nat) (c : Code) (X : Nat → K) (k : K) : K := aM CF r 20 n c X r142 k
theorem cEs : D142 r n cXu x0 r142 = (K2 (cG r n) 2 3) :=
 (by kernel_rfl)
theorem cEm : D142 r n cXr (xs x0 0 (K2 (cG r n) 2 3)) (K2 (cG r n) 2 3) = (K1 (cQ r n) 3) :=
 (by kernel_rfl)
theorem cJm : D142 r n dBa (xs (xs x0 0 (K2 (cG r n) 2 3)) 2 (K1 (cQ r n) 3)) (K1 (cQ r n) 3) = (K0 (dK r n)) :=
 (by kernel_rfl)
theorem cEh : D142 r n cJl (xs (xs (xs x0 0 (K2 (cG r n) 2 3)) 2 (K1 (cQ r n) 3)) 1 (K0 (dK r n))) (K0 (dK r n)) = (K2 (nY r n) 2 3) :=
 (by kernel_rfl)
theorem cMa : D142 r n cEq (xs (xs (xs x0 0 (K2 (cG r n) 2 3)) 2 (K1 (cQ r n) 3)) 1 (K0 (dK r n))) (K2 (nY r n) 2 3) = (K3 (lY r n) 2 3 11) :=
 (by kernel_rfl)
theorem bUy : D142 r n tW (xs (xs (xs x0 0 (K2 (cG r n) 2 3)) 2 (K1 (cQ r n) 3)) 1 (K0 (dK r n))) (K2 (nY r n) 2 3) = D142 r n aVr (xs (xs (xs x0 0 (K2 (cG r n) 2 3)) 2 (K1 (cQ r n) 3)) 1 (K0 (dK r n))) (K3 (lY r n) 2 3 11) :=
 congrArg (fun k => D142 r n aVr (xs (xs (xs x0 0 (K2 (cG r n) 2 3)) 2 (K1 (cQ r n) 3)) 1 (K0 (dK r n))) k) (cMa r n)
theorem cOb : D142 r n tW (xs (xs (xs x0 0 (K2 (cG r n) 2 3)) 2 (K1 (cQ r n) 3)) 1 (K0 (dK r n))) (K2 (nY r n) 2 3) = (K3 (uS r n) 2 3 4) :=
 (bUy r n).trans
 ((by kernel_rfl))
theorem cMx : D142 r n cKg (xs (xs (xs x0 0 (K2 (cG r n) 2 3)) 2 (K1 (cQ r n) 3)) 1 (K0 (dK r n))) (K3 (uS r n) 2 3 4) = (K4 (nK r n) 2 3 4 5) :=
 (by kernel_rfl)
theorem cCc : D142 r n aEq (xs x0 0 (K2 (cG r n) 2 3)) (K2 (cG r n) 2 3) = D142 r n aCw (xs x0 0 (K2 (cG r n) 2 3)) (K1 (cQ r n) 3) :=
 congrArg (fun k => D142 r n aCw (xs x0 0 (K2 (cG r n) 2 3)) k) (cEm r n)
theorem bWg : D142 r n aDb (xs (xs x0 0 (K2 (cG r n) 2 3)) 2 (K1 (cQ r n) 3)) (K1 (cQ r n) 3) = D142 r n tA (xs (xs x0 0 (K2 (cG r n) 2 3)) 2 (K1 (cQ r n) 3)) (K0 (dK r n)) :=
 congrArg (fun k => D142 r n tA (xs (xs x0 0 (K2 (cG r n) 2 3)) 2 (K1 (cQ r n) 3)) k) (cJm r n)
theorem bKd : D142 r n tU (xs (xs (xs x0 0 (K2 (cG r n) 2 3)) 2 (K1 (cQ r n) 3)) 1 (K0 (dK r n))) (K0 (dK r n)) = D142 r n oV (xs (xs (xs x0 0 (K2 (cG r n) 2 3)) 2 (K1 (cQ r n) 3)) 1 (K0 (dK r n))) (K2 (nY r n) 2 3) :=
 congrArg (fun k => D142 r n oV (xs (xs (xs x0 0 (K2 (cG r n) 2 3)) 2 (K1 (cQ r n) 3)) 1 (K0 (dK r n))) k) (cEh r n)
theorem bNj : D142 r n oV (xs (xs (xs x0 0 (K2 (cG r n) 2 3)) 2 (K1 (cQ r n) 3)) 1 (K0 (dK r n))) (K2 (nY r n) 2 3) = D142 r n oI (xs (xs (xs x0 0 (K2 (cG r n) 2 3)) 2 (K1 (cQ r n) 3)) 1 (K0 (dK r n))) (K3 (uS r n) 2 3 4) :=
 congrArg (fun k => D142 r n oI (xs (xs (xs x0 0 (K2 (cG r n) 2 3)) 2 (K1 (cQ r n) 3)) 1 (K0 (dK r n))) k) (cOb r n)
theorem bIr : D142 r n oI (xs (xs (xs x0 0 (K2 (cG r n) 2 3)) 2 (K1 (cQ r n) 3)) 1 (K0 (dK r n))) (K3 (uS r n) 2 3 4) = D142 r n bBv (xs (xs (xs x0 0 (K2 (cG r n) 2 3)) 2 (K1 (cQ r n) 3)) 1 (K0 (dK r n))) (K4 (nK r n) 2 3 4 5) :=
 congrArg (fun k => D142 r n bBv (xs (xs (xs x0 0 (K2 (cG r n) 2 3)) 2 (K1 (cQ r n) 3)) 1 (K0 (dK r n))) k) (cMx r n)
theorem cHl : D142 r n aPd x0 (K2 (cG r n) 2 3) = (K3 (aTf r n) 2 3 4) :=
 (by kernel_rfl : D142 r n aPd x0 (K2 (cG r n) 2 3) = D142 r n aEq (xs x0 0 (K2 (cG r n) 2 3)) (K2 (cG r n) 2 3)).trans
 ((cCc r n).trans
 ((by kernel_rfl : D142 r n aCw (xs x0 0 (K2 (cG r n) 2 3)) (K1 (cQ r n) 3) = D142 r n aDb (xs (xs x0 0 (K2 (cG r n) 2 3)) 2 (K1 (cQ r n) 3)) (K1 (cQ r n) 3)).trans
 ((bWg r n).trans
 ((by kernel_rfl : D142 r n tA (xs (xs x0 0 (K2 (cG r n) 2 3)) 2 (K1 (cQ r n) 3)) (K0 (dK r n)) = D142 r n tU (xs (xs (xs x0 0 (K2 (cG r n) 2 3)) 2 (K1 (cQ r n) 3)) 1 (K0 (dK r n))) (K0 (dK r n))).trans
 ((bKd r n).trans
 ((bNj r n).trans
 ((bIr r n).trans
 ((by kernel_rfl)))))))))
theorem bIp : D142 r n aBj x0 r142 = D142 r n yF x0 (K2 (cG r n) 2 3) :=
 congrArg (fun k => D142 r n yF x0 k) (cEs r n)
theorem bYz : D142 r n yF x0 (K2 (cG r n) 2 3) = D142 r n aXd x0 (K3 (aTf r n) 2 3 4) :=
 congrArg (fun k => D142 r n aXd x0 k) (cHl r n)
theorem cGf : D142 r n aBj x0 r142 = (K3 (aRl r n) 0 2 3) :=
 (bIp r n).trans
 ((bYz r n).trans
 ((by kernel_rfl)))
theorem cYq : D142 r n c142 x0 r142 = D142 r n bBz x0 (K3 (aRl r n) 0 2 3) :=
 congrArg (fun k => D142 r n bBz x0 k) (cGf r n)
theorem dLu : D142 r n c142 x0 r142 = (K1 (s142 r n) 0) :=
 (cYq r n).trans
 ((by kernel_rfl))
theorem cWm : aF CF r n 142 args h = s142 r n (aQ args 0) h :=
 (by kernel_rfl : aF CF r n 142 args h = D142 r n c142 x0 r142 (aJ args) h).trans ((congrFun (congrFun (dLu r n) (aJ args)) h).trans (by kernel_rfl))
noncomputable def s143 (r : RT) (n : Nat) (x0 x1 : DV) (h0 : Hp) : aI :=
 bnd (aD .eql x0 (aE 0) h0) fun v1 h1 =>
 bnd (gD v1 false (some (x1, h1)) h1) fun v2 h2 =>
 bnd (gD v1 false (some (v2, h2)) h2) fun v3 h3 =>
 bnd (gD v3 true (some (x0, h3)) h3) fun v4 h4 =>
 bnd (gD v3 true (aD .gtr v4 (aE 0) h4) h4) fun v5 h5 =>
 bnd (gD v1 false (aO v3 v5 (.b false) h5) h5) fun v6 h6 =>
 bnd (gD v1 false (some (v6, h6)) h6) fun v7 h7 =>
 bnd (gD v7 true (some (x0, h7)) h7) fun v8 h8 =>
 bnd (gD v7 true (aD .leq v8 (aE 255) h8) h8) fun v9 h9 =>
 bnd (gD v1 false (aO v7 v9 (.b false) h9) h9) fun v10 h10 =>
 bnd (aO v1 (.b true) v10 h10) fun v11 h11 =>
 some (v11, h11)
noncomputable abbrev c143 : Code := cf Tryz.f143
noncomputable abbrev r143 : K := aT CF Tryz.f143
noncomputable def D143 (r : RT) (n : Nat) (c : Code) (X : Nat → K) (k : K) : K := aM CF r 18 n c X r143 k
theorem dFp : D143 r n c143 x0 r143 = (K2 (s143 r n) 0 1) :=
 (by kernel_rfl)
theorem dBd : aF CF r n 143 args h = s143 r n (aQ args 0) (aQ args 1) h :=
 (by kernel_rfl : aF CF r n 143 args h = D143 r n c143 x0 r143 (aJ args) h).trans ((congrFun (congrFun (dFp r n) (aJ args)) h).trans (by kernel_rfl))
noncomputable def dZ (r : RT) (n : Nat) (x2 : DV) (h0 : Hp) : aI :=
 bnd (aB 5 x2 h0) fun v1 h1 =>
 bnd (aA v1 h1) fun v2 h2 =>
 bnd (r 173 [v2] h2) fun v3 h3 =>
 bnd (aB 5 x2 h3) fun v4 h4 =>
 bnd (aA v4 h4) fun v5 h5 =>
 bnd (r 174 [v5, v3] h5) fun v6 h6 =>
 bnd (fZ .not v6 h6) fun v7 h7 =>
 aP v7 (
 some (.t [.l0, (aE 19)], h7)) (
 bnd (aB 5 x2 h7) fun v8 h8 =>
 bnd (aA v8 h8) fun v9 h9 =>
 bnd (r 175 [v9, v3] h9) fun v10 h10 =>
 bnd (aC 0 v10 h10) fun v11 h11 =>
 bnd (aC 1 v10 h11) fun v12 h12 =>
 bnd (fZ .not v12 h12) fun v13 h13 =>
 aP v13 (
 some (.t [.l0, (aE 19)], h13)) (
 some (.t [v11, (aE 0)], h13)))
noncomputable def aAw (r : RT) (n : Nat) (kk7 : cD) (x1 x2 x60 x61 x62 : DV) (h0 : Hp) : aI :=
 bnd (aD .lss x62 x61 h0) fun v1 h1 =>
 aP v1 (
 bnd (aH 3 x60 x62 h1) fun v2 h2 =>
 bnd (aK 3 v2 h2) fun v3 h3 =>
 bnd (bK [(aE 0), (aE 0), (aE 0)] h3) fun v4 h4 =>
 bnd (aG 3 v4 v3 h4) fun _ h5 =>
 bnd (aK 3 v4 h5) fun v6 h6 =>
 bnd (r 124 [v6] h6) fun v7 h7 =>
 bnd (fZ .not v7 h7) fun v8 h8 =>
 bnd (gD v8 false (aK 6 x2 h8) h8) fun v9 h9 =>
 bnd (gD v8 false (aK 3 v4 h9) h9) fun v10 h10 =>
 bnd (gD v8 false (some (x1, h10)) h10) fun v11 h11 =>
 bnd (gD v8 false (r 172 [v9, v10, v11] h11) h11) fun v12 h12 =>
 bnd (gD v8 false (fZ .not v12 h12) h12) fun v13 h13 =>
 bnd (aO v8 (.b true) v13 h13) fun v14 h14 =>
 aP v14 (
 some (.t [.l0, (aE 19)], h14)) (
 bnd (aD .add x62 (aE 1) h14) fun v15 h15 =>
    kk7 x1 x2 x60 x61 v15 h15)) (
      dZ r n x2 h1)
noncomputable def sX (r : RT) (n : Nat) (m : Nat) : cD :=
 Nat.rec (motive := fun _ => cD) (fun _ _ _ _ _ _ => none) (fun _ ih => aAw r n ih) m
noncomputable def bNr (r : RT) (n : Nat) : cD := sX r n n
noncomputable def aTp (r : RT) (n : Nat) (x1 x2 x60 x61 x62 : DV) (h0 : Hp) : aI :=
 bNr r n x1 x2 x60 x61 x62 h0
noncomputable def aPw (r : RT) (n : Nat) (x1 x2 : DV) (h0 : Hp) : aI :=
 bnd (aB 5 x2 h0) fun v1 h1 =>
 bnd (aA v1 h1) fun v2 h2 =>
 bnd (bW v2 h2) fun v3 h3 =>
  aTp r n x1 x2 v2 v3 (aE 0) h3
noncomputable def aUe (r : RT) (n : Nat) (x1 x2 x6 x7 : DV) (h0 : Hp) : aI :=
 bnd (fZ .not x6 h0) fun v1 h1 =>
 bnd (gD v1 false (some (x7, h1)) h1) fun v2 h2 =>
 bnd (aO v1 (.b true) v2 h2) fun v3 h3 =>
 bnd (gD v3 false (aB 4 x2 h3) h3) fun v4 h4 =>
 bnd (gD v3 false (aA v4 h4) h4) fun v5 h5 =>
 bnd (gD v3 false (bW v5 h5) h5) fun v6 h6 =>
 bnd (gD v3 false (aD .gtr v6 (aE 60) h6) h6) fun v7 h7 =>
 bnd (aO v3 (.b true) v7 h7) fun v8 h8 =>
 bnd (gD v8 false (aB 5 x2 h8) h8) fun v9 h9 =>
 bnd (gD v8 false (aA v9 h9) h9) fun v10 h10 =>
 bnd (gD v8 false (bW v10 h10) h10) fun v11 h11 =>
 bnd (gD v8 false (r 168 [v11, (aE 1), (aE 400)] h11) h11) fun v12 h12 =>
 bnd (gD v8 false (fZ .not v12 h12) h12) fun v13 h13 =>
 bnd (aO v8 (.b true) v13 h13) fun v14 h14 =>
 aP v14 (
 some (.t [.l0, (aE 19)], h14)) (
  aPw r n x1 x2 h14)
noncomputable def aRb (r : RT) (n : Nat) (x1 x2 x6 : DV) (h0 : Hp) : aI :=
 bnd (aB 4 x2 h0) fun v1 h1 =>
 bnd (aA v1 h1) fun v2 h2 =>
 bnd (r 169 [v2, (.f 170 [] [])] h2) fun v3 h3 =>
  aUe r n x1 x2 x6 v3 h3
noncomputable def yJ (r : RT) (n : Nat) (x1 x2 : DV) (h0 : Hp) : aI :=
 bnd (r 168 [x1, (aE 0), (aE 8)] h0) fun v1 h1 =>
 bnd (gD v1 true (aB 0 x2 h1) h1) fun v2 h2 =>
 bnd (gD v1 true (aA v2 h2) h2) fun v3 h3 =>
 bnd (gD v1 true (dT v3 h3) h3) fun v4 h4 =>
 bnd (gD v1 true (r 168 [v4, (aE 1), (aE 60)] h4) h4) fun v5 h5 =>
 bnd (aO v1 v5 (.b false) h5) fun v6 h6 =>
 bnd (gD v6 true (aB 1 x2 h6) h6) fun v7 h7 =>
 bnd (gD v6 true (aA v7 h7) h7) fun v8 h8 =>
 bnd (gD v6 true (r 168 [v8, (aE 0), (aE 4)] h8) h8) fun v9 h9 =>
 bnd (aO v6 v9 (.b false) h9) fun v10 h10 =>
 bnd (gD v10 true (aB 2 x2 h10) h10) fun v11 h11 =>
 bnd (gD v10 true (aA v11 h11) h11) fun v12 h12 =>
 bnd (gD v10 true (aB 1 x2 h12) h12) fun v13 h13 =>
 bnd (gD v10 true (aA v13 h13) h13) fun v14 h14 =>
 bnd (gD v10 true (r 168 [v12, v14, (aE 24)] h14) h14) fun v15 h15 =>
 bnd (aO v10 v15 (.b false) h15) fun v16 h16 =>
 bnd (gD v16 true (aB 3 x2 h16) h16) fun v17 h17 =>
 bnd (gD v16 true (aA v17 h17) h17) fun v18 h18 =>
 bnd (gD v16 true (r 168 [v18, (aE 0), (aE 255)] h18) h18) fun v19 h19 =>
 bnd (aO v16 v19 (.b false) h19) fun v20 h20 =>
  aRb r n x1 x2 v20 h20
noncomputable def s144 (r : RT) (n : Nat) (x0 x1 : DV) (h0 : Hp) : aI :=
 bnd (bQ x0 h0) fun v1 h1 =>
  yJ r n x1 v1 h1
noncomputable abbrev c144 : Code := cf Tryz.f144
noncomputable abbrev aEr : Code := cR c144
noncomputable abbrev aJl : Code := cR aEr
noncomputable abbrev aIi : Code := cR aJl
noncomputable abbrev aIz : Code := cR aIi
noncomputable abbrev dCa : Code := cR aIz
noncomputable abbrev xA : Code := cL aIz
noncomputable abbrev aPs : Code := cR xA
noncomputable abbrev aCq : Code := cL aPs
noncomputable abbrev lZ : Code := cL aCq
noncomputable abbrev bAx : Code := cL xA
noncomputable abbrev bBd : Code := cL aIi
noncomputable abbrev bCa : Code := cL aJl
noncomputable abbrev bBo : Code := cL aEr
noncomputable abbrev aFt : Code := cL c144
noncomputable abbrev r144 : K := aT CF Tryz.f144
noncomputable def D144 (r : RT) (n : Nat) (c : Code) (X : Nat → K) (k : K) : K := aM CF r 95 n c X r144 k
theorem cPe : D144 r n dCa x0 r144 = (K1 (dZ r n) 2) :=
 (by kernel_rfl)
theorem bRu (kk7 : cD) (q0 : TT1) : D144 r n lZ (xs x0 0 (K1 q0 2)) (K5 kk7 1 2 60 61 62) = fun (env : aY) (h : Hp) =>
 bnd (aD .lss (env 62) (env 61) h) fun v1 h1 =>
 aP v1 (
 bnd (aH 3 (env 60) (env 62) h1) fun v2 h2 =>
 bnd (aK 3 v2 h2) fun v3 h3 =>
 bnd (bK [(aE 0), (aE 0), (aE 0)] h3) fun v4 h4 =>
 bnd (aG 3 v4 v3 h4) fun _ h5 =>
 bnd (aK 3 v4 h5) fun v6 h6 =>
 bnd (r 124 [v6] h6) fun v7 h7 =>
 bnd (fZ .not v7 h7) fun v8 h8 =>
 bnd (gD v8 false (aK 6 (env 2) h8) h8) fun v9 h9 =>
 bnd (gD v8 false (aK 3 v4 h9) h9) fun v10 h10 =>
 bnd (gD v8 false (some ((env 1), h10)) h10) fun v11 h11 =>
 bnd (gD v8 false (r 172 [v9, v10, v11] h11) h11) fun v12 h12 =>
 bnd (gD v8 false (fZ .not v12 h12) h12) fun v13 h13 =>
 bnd (aO v8 (.b true) v13 h13) fun v14 h14 =>
 aP v14 (
 some (.t [.l0, (aE 19)], h14)) (
 bnd (aD .add (env 62) (aE 1) h14) fun v15 h15 =>
    kk7 (env 1) (env 2) (env 60) (env 61) v15 h15)) (
      q0 (env 2) h1) := by kernel_rfl
theorem bEn (kk7 : cD) : (fun (env : aY) (h : Hp) =>
 bnd (aD .lss (env 62) (env 61) h) fun v1 h1 =>
 aP v1 (
 bnd (aH 3 (env 60) (env 62) h1) fun v2 h2 =>
 bnd (aK 3 v2 h2) fun v3 h3 =>
 bnd (bK [(aE 0), (aE 0), (aE 0)] h3) fun v4 h4 =>
 bnd (aG 3 v4 v3 h4) fun _ h5 =>
 bnd (aK 3 v4 h5) fun v6 h6 =>
 bnd (r 124 [v6] h6) fun v7 h7 =>
 bnd (fZ .not v7 h7) fun v8 h8 =>
 bnd (gD v8 false (aK 6 (env 2) h8) h8) fun v9 h9 =>
 bnd (gD v8 false (aK 3 v4 h9) h9) fun v10 h10 =>
 bnd (gD v8 false (some ((env 1), h10)) h10) fun v11 h11 =>
 bnd (gD v8 false (r 172 [v9, v10, v11] h11) h11) fun v12 h12 =>
 bnd (gD v8 false (fZ .not v12 h12) h12) fun v13 h13 =>
 bnd (aO v8 (.b true) v13 h13) fun v14 h14 =>
 aP v14 (
 some (.t [.l0, (aE 19)], h14)) (
 bnd (aD .add (env 62) (aE 1) h14) fun v15 h15 =>
    kk7 (env 1) (env 2) (env 60) (env 61) v15 h15)) (
      dZ r n (env 2) h1)) = (K5 (aAw r n kk7) 1 2 60 61 62) := by kernel_rfl
theorem bLo (kk7 : cD) : D144 r n lZ (xs x0 0 (K1 (dZ r n) 2)) (K5 kk7 1 2 60 61 62) = (K5 (aAw r n kk7) 1 2 60 61 62) :=
 (bRu r n kk7 (dZ r n)).trans (bEn r n kk7)
theorem bMd (m : Nat) : aN (fun kk => D144 r n lZ (xs x0 0 (K1 (dZ r n) 2)) kk) m = (K5 (sX r n m) 1 2 60 61 62) := by
 induction m with
 | zero => exact (by kernel_rfl : aN (fun kk => D144 r n lZ (xs x0 0 (K1 (dZ r n) 2)) kk) 0 = (K5 (sX r n 0) 1 2 60 61 62))
 | succ m ih =>
  refine (by kernel_rfl : aN (fun kk => D144 r n lZ (xs x0 0 (K1 (dZ r n) 2)) kk) (m + 1) = D144 r n lZ (xs x0 0 (K1 (dZ r n) 2)) (aN (fun kk => D144 r n lZ (xs x0 0 (K1 (dZ r n) 2)) kk) m)).trans ?_
  rw [ih]
  exact (bLo r n (sX r n m)).trans (by kernel_rfl)
theorem cMg : D144 r n aCq (xs x0 0 (K1 (dZ r n) 2)) (K1 (dZ r n) 2) = (K5 (bNr r n) 1 2 60 61 62) :=
 (by kernel_rfl : D144 r n aCq (xs x0 0 (K1 (dZ r n) 2)) (K1 (dZ r n) 2) = aN (fun kk => D144 r n lZ (xs x0 0 (K1 (dZ r n) 2)) kk) n).trans ((bMd r n n).trans (by kernel_rfl))
theorem cMv : D144 r n aPs x0 (K1 (dZ r n) 2) = (K5 (aTp r n) 1 2 60 61 62) :=
 (by kernel_rfl : D144 r n aPs x0 (K1 (dZ r n) 2) = D144 r n aCq (xs x0 0 (K1 (dZ r n) 2)) (K1 (dZ r n) 2)).trans
 ((cMg r n).trans (by kernel_rfl))
theorem cBt : D144 r n aIz x0 r144 = D144 r n xA x0 (K1 (dZ r n) 2) :=
 congrArg (fun k => D144 r n xA x0 k) (cPe r n)
theorem cBr : D144 r n xA x0 (K1 (dZ r n) 2) = D144 r n bAx x0 (K5 (aTp r n) 1 2 60 61 62) :=
 congrArg (fun k => D144 r n bAx x0 k) (cMv r n)
theorem cGg : D144 r n aIz x0 r144 = (K2 (aPw r n) 1 2) :=
 (cBt r n).trans
 ((cBr r n).trans
 ((by kernel_rfl)))
theorem bYe : D144 r n aIi x0 r144 = D144 r n bBd x0 (K2 (aPw r n) 1 2) :=
 congrArg (fun k => D144 r n bBd x0 k) (cGg r n)
theorem cRm : D144 r n aIi x0 r144 = (K4 (aUe r n) 1 2 6 7) :=
 (bYe r n).trans
 ((by kernel_rfl))
theorem bVp : D144 r n aJl x0 r144 = D144 r n bCa x0 (K4 (aUe r n) 1 2 6 7) :=
 congrArg (fun k => D144 r n bCa x0 k) (cRm r n)
theorem cQa : D144 r n aJl x0 r144 = (K3 (aRb r n) 1 2 6) :=
 (bVp r n).trans
 ((by kernel_rfl))
theorem bUa : D144 r n aEr x0 r144 = D144 r n bBo x0 (K3 (aRb r n) 1 2 6) :=
 congrArg (fun k => D144 r n bBo x0 k) (cQa r n)
theorem cFc : D144 r n aEr x0 r144 = (K2 (yJ r n) 1 2) :=
 (bUa r n).trans
 ((by kernel_rfl))
theorem cZn : D144 r n c144 x0 r144 = D144 r n aFt x0 (K2 (yJ r n) 1 2) :=
 congrArg (fun k => D144 r n aFt x0 k) (cFc r n)
theorem dAt (q0 : gF) : D144 r n aFt x0 (K2 q0 1 2) = fun (env : aY) (h : Hp) =>
 bnd (bQ (env 0) h) fun v1 h1 =>
  q0 (env 1) v1 h1 := by kernel_rfl
theorem cMs : (fun (env : aY) (h : Hp) =>
 bnd (bQ (env 0) h) fun v1 h1 =>
  yJ r n (env 1) v1 h1) = (K2 (s144 r n) 0 1) := by kernel_rfl
theorem dKh : D144 r n c144 x0 r144 = (K2 (s144 r n) 0 1) :=
 (cZn r n).trans
 ((dAt r n (yJ r n)).trans (cMs r n))
theorem dDw : aF CF r n 144 args h = s144 r n (aQ args 0) (aQ args 1) h :=
 (by kernel_rfl : aF CF r n 144 args h = D144 r n c144 x0 r144 (aJ args) h).trans ((congrFun (congrFun (dKh r n) (aJ args)) h).trans (by kernel_rfl))
noncomputable def s145 (r : RT) (n : Nat) (x0 x1 : DV) (h0 : Hp) : aI :=
 bnd (aA x1 h0) fun v1 h1 =>
 bnd (r 131 [v1, x0] h1) fun v2 h2 =>
 bnd (aD .geq v2 (aE 0) h2) fun v3 h3 =>
 some (v3, h3)
noncomputable abbrev c145 : Code := cf Tryz.f145
noncomputable abbrev r145 : K := aT CF Tryz.f145
noncomputable def D145 (r : RT) (n : Nat) (c : Code) (X : Nat → K) (k : K) : K := aM CF r 8 n c X r145 k
theorem dFt : D145 r n c145 x0 r145 = (K2 (s145 r n) 0 1) :=
 (by kernel_rfl)
theorem cTn : aF CF r n 145 args h = s145 r n (aQ args 0) (aQ args 1) h :=
 (by kernel_rfl : aF CF r n 145 args h = D145 r n c145 x0 r145 (aJ args) h).trans ((congrFun (congrFun (dFt r n) (aJ args)) h).trans (by kernel_rfl))
noncomputable def s146 (r : RT) (n : Nat) (x0 x1 : DV) (h0 : Hp) : aI :=
 bnd (lK [x0, x1] h0) fun v1 h1 =>
 some (v1, h1)
noncomputable abbrev c146 : Code := cf Tryz.f146
noncomputable abbrev r146 : K := aT CF Tryz.f146
noncomputable def D146 (r : RT) (n : Nat) (c : Code) (X : Nat → K) (k : K) : K := aM CF r 8 n c X r146 k
theorem dMc : D146 r n c146 x0 r146 = (K2 (s146 r n) 0 1) :=
 (by kernel_rfl)
theorem cXa : aF CF r n 146 args h = s146 r n (aQ args 0) (aQ args 1) h :=
 (by kernel_rfl : aF CF r n 146 args h = D146 r n c146 x0 r146 (aJ args) h).trans ((congrFun (congrFun (dMc r n) (aJ args)) h).trans (by kernel_rfl))
noncomputable def s147 (r : RT) (n : Nat) (x0 x1 : DV) (h0 : Hp) : aI :=
 bnd (aS x0 h0) fun v1 h1 =>
 bnd (aB 1 v1 h1) fun v2 h2 =>
 bnd (aA v2 h2) fun v3 h3 =>
 bnd (aD .add v3 x1 h3) fun v4 h4 =>
 bnd (aS x0 h4) fun v5 h5 =>
 bnd (aB 0 v5 h5) fun v6 h6 =>
 bnd (aA v6 h6) fun v7 h7 =>
 bnd (dT v7 h7) fun v8 h8 =>
 bnd (aD .geq v4 v8 h8) fun v9 h9 =>
 aP v9 (
 some ((.i .u8 (Int.ofNat 0)), h9)) (
 bnd (aS x0 h9) fun v10 h10 =>
 bnd (aB 0 v10 h10) fun v11 h11 =>
 bnd (aA v11 h11) fun v12 h12 =>
 bnd (aS x0 h12) fun v13 h13 =>
 bnd (aB 1 v13 h13) fun v14 h14 =>
 bnd (aA v14 h14) fun v15 h15 =>
 bnd (aD .add v15 x1 h15) fun v16 h16 =>
 bnd (fC v12 v16 h16) fun v17 h17 =>
 some (v17, h17))
noncomputable abbrev c147 : Code := cf Tryz.f147
noncomputable abbrev r147 : K := aT CF Tryz.f147
noncomputable def D147 (r : RT) (n : Nat) (c : Code) (X : Nat → K) (k : K) : K := aM CF r 28 n c X r147 k
theorem dLd : D147 r n c147 x0 r147 = (K2 (s147 r n) 0 1) :=
 (by kernel_rfl)
theorem dFf : aF CF r n 147 args h = s147 r n (aQ args 0) (aQ args 1) h :=
 (by kernel_rfl : aF CF r n 147 args h = D147 r n c147 x0 r147 (aJ args) h).trans ((congrFun (congrFun (dLd r n) (aJ args)) h).trans (by kernel_rfl))
noncomputable def s148 (r : RT) (n : Nat) (x0 : DV) (h0 : Hp) : aI :=
 bnd (aD .geq x0 (.i .u8 (Int.ofNat 97)) h0) fun v1 h1 =>
 bnd (gD v1 true (some (x0, h1)) h1) fun v2 h2 =>
 bnd (gD v1 true (aD .leq v2 (.i .u8 (Int.ofNat 122)) h2) h2) fun v3 h3 =>
 bnd (aO v1 v3 (.b false) h3) fun v4 h4 =>
 bnd (gD v4 false (some (x0, h4)) h4) fun v5 h5 =>
 bnd (gD v4 false (aD .geq v5 (.i .u8 (Int.ofNat 65)) h5) h5) fun v6 h6 =>
 bnd (gD v4 false (some (v6, h6)) h6) fun v7 h7 =>
 bnd (gD v7 true (some (x0, h7)) h7) fun v8 h8 =>
 bnd (gD v7 true (aD .leq v8 (.i .u8 (Int.ofNat 90)) h8) h8) fun v9 h9 =>
 bnd (gD v4 false (aO v7 v9 (.b false) h9) h9) fun v10 h10 =>
 bnd (aO v4 (.b true) v10 h10) fun v11 h11 =>
 some (v11, h11)
noncomputable abbrev c148 : Code := cf Tryz.f148
noncomputable abbrev r148 : K := aT CF Tryz.f148
noncomputable def D148 (r : RT) (n : Nat) (c : Code) (X : Nat → K) (k : K) : K := aM CF r 17 n c X r148 k
theorem dKw : D148 r n c148 x0 r148 = (K1 (s148 r n) 0) :=
 (by kernel_rfl)
theorem cTw : aF CF r n 148 args h = s148 r n (aQ args 0) h :=
 (by kernel_rfl : aF CF r n 148 args h = D148 r n c148 x0 r148 (aJ args) h).trans ((congrFun (congrFun (dKw r n) (aJ args)) h).trans (by kernel_rfl))
noncomputable def s149 (r : RT) (n : Nat) (x0 : DV) (h0 : Hp) : aI :=
 bnd (aS x0 h0) fun v1 h1 =>
 bnd (aB 0 v1 h1) fun v2 h2 =>
 bnd (aA v2 h2) fun v3 h3 =>
 bnd (dT v3 h3) fun v4 h4 =>
 bnd (r 129 [x0, (.f 177 [] []), v4] h4) fun v5 h5 =>
 bnd (dT v5 h5) fun v6 h6 =>
 bnd (aD .gtr v6 (aE 24) h6) fun v7 h7 =>
 aP v7 (
 some (.t [(.s []), (aE 12)], h7)) (
 some (.t [v5, (aE 0)], h7))
noncomputable abbrev c149 : Code := cf Tryz.f149
noncomputable abbrev r149 : K := aT CF Tryz.f149
noncomputable def D149 (r : RT) (n : Nat) (c : Code) (X : Nat → K) (k : K) : K := aM CF r 16 n c X r149 k
theorem dHo : D149 r n c149 x0 r149 = (K1 (s149 r n) 0) :=
 (by kernel_rfl)
theorem dAh : aF CF r n 149 args h = s149 r n (aQ args 0) h :=
 (by kernel_rfl : aF CF r n 149 args h = D149 r n c149 x0 r149 (aJ args) h).trans ((congrFun (congrFun (dHo r n) (aJ args)) h).trans (by kernel_rfl))
noncomputable def s150 (r : RT) (n : Nat) (x0 : DV) (h0 : Hp) : aI :=
 bnd (r 147 [x0, (aE 0)] h0) fun v1 h1 =>
 bnd (aD .neq v1 (.i .u8 (Int.ofNat 58)) h1) fun v2 h2 =>
 bnd (gD v2 false (some (x0, h2)) h2) fun v3 h3 =>
 bnd (gD v2 false (r 147 [v3, (aE 1)] h3) h3) fun v4 h4 =>
 bnd (gD v2 false (aD .eql v4 (.i .u8 (Int.ofNat 61)) h4) h4) fun v5 h5 =>
 bnd (aO v2 (.b true) v5 h5) fun v6 h6 =>
 aP v6 (
 some ((.b false), h6)) (
 bnd (aS x0 h6) fun v7 h7 =>
 bnd (aB 1 v7 h7) fun v8 h8 =>
 bnd (aA v8 h8) fun v9 h9 =>
 bnd (aD .add v9 (aE 1) h9) fun v10 h10 =>
 bnd (aS x0 h10) fun v11 h11 =>
 bnd (aB 1 v11 h11) fun v12 h12 =>
 bnd (aG 1 v12 v10 h12) fun _ h13 =>
 some ((.b true), h13))
noncomputable abbrev c150 : Code := cf Tryz.f150
noncomputable abbrev r150 : K := aT CF Tryz.f150
noncomputable def D150 (r : RT) (n : Nat) (c : Code) (X : Nat → K) (k : K) : K := aM CF r 18 n c X r150 k
theorem dKf : D150 r n c150 x0 r150 = (K1 (s150 r n) 0) :=
 (by kernel_rfl)
theorem cYz : aF CF r n 150 args h = s150 r n (aQ args 0) h :=
 (by kernel_rfl : aF CF r n 150 args h = D150 r n c150 x0 r150 (aJ args) h).trans ((congrFun (congrFun (dKf r n) (aJ args)) h).trans (by kernel_rfl))
noncomputable def s151 (r : RT) (n : Nat) (x0 : DV) (h0 : Hp) : aI :=
 bnd (aD .geq x0 (.i .u8 (Int.ofNat 48)) h0) fun v1 h1 =>
 bnd (gD v1 true (some (x0, h1)) h1) fun v2 h2 =>
 bnd (gD v1 true (aD .leq v2 (.i .u8 (Int.ofNat 57)) h2) h2) fun v3 h3 =>
 bnd (aO v1 v3 (.b false) h3) fun v4 h4 =>
 some (v4, h4)
noncomputable abbrev c151 : Code := cf Tryz.f151
noncomputable abbrev r151 : K := aT CF Tryz.f151
noncomputable def D151 (r : RT) (n : Nat) (c : Code) (X : Nat → K) (k : K) : K := aM CF r 9 n c X r151 k
theorem dIp : D151 r n c151 x0 r151 = (K1 (s151 r n) 0) :=
 (by kernel_rfl)
theorem dCi : aF CF r n 151 args h = s151 r n (aQ args 0) h :=
 (by kernel_rfl : aF CF r n 151 args h = D151 r n c151 x0 r151 (aJ args) h).trans ((congrFun (congrFun (dIp r n) (aJ args)) h).trans (by kernel_rfl))
noncomputable def eS (r : RT) (n : Nat) (x4 : DV) (h0 : Hp) : aI :=
 some (.t [x4, (aE 0)], h0)
noncomputable def bAb (r : RT) (n : Nat) (kk5 : gF) (x4 x14 : DV) (h0 : Hp) : aI :=
 bnd (wZ x14 h0) fun v1 h1 =>
 bnd (aC 0 v1 h1) fun v2 h2 =>
 aP v2 (
 bnd (aC 2 v1 h2) fun v3 h3 =>
 bnd (aD .gtr x4 (aE 115292150460684697) h3) fun v4 h4 =>
 aP v4 (
 some (.t [(aE 0), (aE 2)], h4)) (
 bnd (aD .mul x4 (aE 10) h4) fun v5 h5 =>
 bnd (aD .sub v3 (.i .i32 (Int.ofNat 48)) h5) fun v6 h6 =>
 bnd (eB .i64 v6 h6) fun v7 h7 =>
 bnd (aD .add v5 v7 h7) fun v8 h8 =>
 bnd (aD .gtr v8 (aE 1152921504606846976) h8) fun v9 h9 =>
 aP v9 (
 some (.t [(aE 0), (aE 2)], h9)) (
     kk5 v8 x14 h9))) (
   eS r n x4 h2)
noncomputable def tY (r : RT) (n : Nat) (m : Nat) : gF :=
 Nat.rec (motive := fun _ => gF) (fun _ _ _ => none) (fun _ ih => bAb r n ih) m
noncomputable def bNp (r : RT) (n : Nat) : gF := tY r n n
noncomputable def aPu (r : RT) (n : Nat) (x4 x14 : DV) (h0 : Hp) : aI :=
 bNp r n x4 x14 h0
noncomputable def aOz (r : RT) (n : Nat) (x0 x4 : DV) (h0 : Hp) : aI :=
 bnd (aS x0 h0) fun v1 h1 =>
 bnd (aB 0 v1 h1) fun v2 h2 =>
 bnd (aA v2 h2) fun v3 h3 =>
 bnd (dT v3 h3) fun v4 h4 =>
 bnd (r 129 [x0, (.f 151 [] []), v4] h4) fun v5 h5 =>
 bnd (nW v5 h5) fun v6 h6 =>
  aPu r n x4 v6 h6
noncomputable def aRh (r : RT) (n : Nat) (x0 : DV) (h0 : Hp) : aI :=
 aOz r n x0 (aE 0) h0
noncomputable def s152 (r : RT) (n : Nat) (x0 : DV) (h0 : Hp) : aI :=
 aRh r n x0 h0
noncomputable abbrev c152 : Code := cf Tryz.f152
noncomputable abbrev aCv : Code := cR c152
noncomputable abbrev aFe : Code := cR aCv
noncomputable abbrev cUy : Code := cR aFe
noncomputable abbrev vY : Code := cL aFe
noncomputable abbrev aOw : Code := cR vY
noncomputable abbrev aHj : Code := cL aOw
noncomputable abbrev nM : Code := cL aHj
noncomputable abbrev bIc : Code := cL vY
noncomputable abbrev bTh : Code := cL aCv
noncomputable abbrev bCw : Code := cL c152
noncomputable abbrev r152 : K := aT CF Tryz.f152
noncomputable def D152 (r : RT) (n : Nat) (c : Code) (X : Nat → K) (k : K) : K := aM CF r 29 n c X r152 k
theorem cDn : D152 r n cUy x0 r152 = (K1 (eS r n) 4) :=
 (by kernel_rfl)
theorem bVu (kk5 : gF) : D152 r n nM (xs x0 0 (K1 (eS r n) 4)) (K2 kk5 4 14) = (K2 (bAb r n kk5) 4 14) :=
 (by kernel_rfl)
theorem bXf (m : Nat) : aN (fun kk => D152 r n nM (xs x0 0 (K1 (eS r n) 4)) kk) m = (K2 (tY r n m) 4 14) := by
 induction m with
 | zero => exact (by kernel_rfl : aN (fun kk => D152 r n nM (xs x0 0 (K1 (eS r n) 4)) kk) 0 = (K2 (tY r n 0) 4 14))
 | succ m ih =>
  refine (by kernel_rfl : aN (fun kk => D152 r n nM (xs x0 0 (K1 (eS r n) 4)) kk) (m + 1) = D152 r n nM (xs x0 0 (K1 (eS r n) 4)) (aN (fun kk => D152 r n nM (xs x0 0 (K1 (eS r n) 4)) kk) m)).trans ?_
  rw [ih]
  exact (bVu r n (tY r n m)).trans (by kernel_rfl)
theorem cJc : D152 r n aHj (xs x0 0 (K1 (eS r n) 4)) (K1 (eS r n) 4) = (K2 (bNp r n) 4 14) :=
 (by kernel_rfl : D152 r n aHj (xs x0 0 (K1 (eS r n) 4)) (K1 (eS r n) 4) = aN (fun kk => D152 r n nM (xs x0 0 (K1 (eS r n) 4)) kk) n).trans ((bXf r n n).trans (by kernel_rfl))
theorem cOk : D152 r n aOw x0 (K1 (eS r n) 4) = (K2 (aPu r n) 4 14) :=
 (by kernel_rfl : D152 r n aOw x0 (K1 (eS r n) 4) = D152 r n aHj (xs x0 0 (K1 (eS r n) 4)) (K1 (eS r n) 4)).trans
 ((cJc r n).trans (by kernel_rfl))
theorem bLp : D152 r n aFe x0 r152 = D152 r n vY x0 (K1 (eS r n) 4) :=
 congrArg (fun k => D152 r n vY x0 k) (cDn r n)
theorem bUt : D152 r n vY x0 (K1 (eS r n) 4) = D152 r n bIc x0 (K2 (aPu r n) 4 14) :=
 congrArg (fun k => D152 r n bIc x0 k) (cOk r n)
theorem cHw : D152 r n aFe x0 r152 = (K2 (aOz r n) 0 4) :=
 (bLp r n).trans
 ((bUt r n).trans
 ((by kernel_rfl)))
theorem bIg : D152 r n aCv x0 r152 = D152 r n bTh x0 (K2 (aOz r n) 0 4) :=
 congrArg (fun k => D152 r n bTh x0 k) (cHw r n)
theorem cQb : D152 r n aCv x0 r152 = (K1 (aRh r n) 0) :=
 (bIg r n).trans
 ((by kernel_rfl))
theorem dEs : D152 r n c152 x0 r152 = D152 r n bCw x0 (K1 (aRh r n) 0) :=
 congrArg (fun k => D152 r n bCw x0 k) (cQb r n)
theorem dFv : D152 r n c152 x0 r152 = (K1 (s152 r n) 0) :=
 (dEs r n).trans
 ((by kernel_rfl))
theorem cXc : aF CF r n 152 args h = s152 r n (aQ args 0) h :=
 (by kernel_rfl : aF CF r n 152 args h = D152 r n c152 x0 r152 (aJ args) h).trans ((congrFun (congrFun (dFv r n) (aJ args)) h).trans (by kernel_rfl))
end Go.Dd

namespace Go.Dd
open Go.Proofs
variable (r : RT) (n : Nat) (args : List DV) (h : Hp)
noncomputable def s156 (r : RT) (n : Nat) (x0 x1 : DV) (h0 : Hp) : aI :=
 bnd (bQ x1 h0) fun v1 h1 =>
 bnd (bK [(.s []), (.b false), (.b false), (aE 0)] h1) fun v2 h2 =>
 bnd (aS x0 h2) fun v3 h3 =>
 bnd (aB 6 v3 h3) fun v4 h4 =>
 bnd (aA v4 h4) fun v5 h5 =>
 bnd (r 185 [v5, (.f 186 [] [v1])] h5) fun v6 h6 =>
 bnd (aD .lss v6 (aE 0) h6) fun v7 h7 =>
 aP v7 (
 bnd (bB [(.s []), (.b false), (.b false), (aE 0)] [] h7) fun v8 h8 =>
 bnd (aG 4 v2 v8 h8) fun _ h9 =>
 bnd (aK 4 v2 h9) fun v10 _ =>
 some (.t [v10, (.b false)], h9)) (
 bnd (aS x0 h7) fun v11 h11 =>
 bnd (aB 6 v11 h11) fun v12 h12 =>
 bnd (aA v12 h12) fun v13 h13 =>
 bnd (aH 4 v13 v6 h13) fun v14 h14 =>
 bnd (aK 4 v14 h14) fun v15 h15 =>
 bnd (aG 4 v2 v15 h15) fun _ h16 =>
 bnd (aK 4 v2 h16) fun v17 _ =>
 some (.t [v17, (.b true)], h16))
noncomputable abbrev c156 : Code := cf Tryz.f156
noncomputable abbrev r156 : K := aT CF Tryz.f156
noncomputable def D156 (r : RT) (n : Nat) (c : Code) (X : Nat → K) (k : K) : K := aM CF r 23 n c X r156 k
theorem dHm : D156 r n c156 x0 r156 = (K2 (s156 r n) 0 1) :=
 (by kernel_rfl)
theorem dEq : aF CF r n 156 args h = s156 r n (aQ args 0) (aQ args 1) h :=
 (by kernel_rfl : aF CF r n 156 args h = D156 r n c156 x0 r156 (aJ args) h).trans ((congrFun (congrFun (dHm r n) (aJ args)) h).trans (by kernel_rfl))
noncomputable def gN (r : RT) (n : Nat) (h0 : Hp) : aI :=
 some ((.b false), h0)
noncomputable def lN (r : RT) (n : Nat) (x4 : DV) (h0 : Hp) : aI :=
 aP x4 (
 some ((.b true), h0)) (
  gN r n h0)
noncomputable def aOj (r : RT) (n : Nat) (x3 : DV) (h0 : Hp) : aI :=
 bnd (fA .eql x3 (.s [115, 101, 108, 102]) h0) fun v1 h1 =>
 aP v1 (
  lN r n v1 h1) (
 bnd (fA .eql x3 (.s [115, 117, 112, 101, 114]) h1) fun v2 h2 =>
 aP v2 (
   lN r n v2 h2) (
 bnd (fA .eql x3 (.s [110, 105, 108]) h2) fun v3 h3 =>
 aP v3 (
    lN r n v3 h3) (
 bnd (fA .eql x3 (.s [116, 114, 117, 101]) h3) fun v4 h4 =>
 aP v4 (
     lN r n v4 h4) (
 bnd (fA .eql x3 (.s [102, 97, 108, 115, 101]) h4) fun v5 h5 =>
 aP v5 (
      lN r n v5 h5) (
 bnd (fA .eql x3 (.s [116, 104, 105, 115, 67, 111, 110, 116, 101, 120, 116]) h5) fun v6 h6 =>
      lN r n v6 h6)))))
noncomputable def aPe (r : RT) (n : Nat) (x0 : DV) (h0 : Hp) : aI :=
 aOj r n x0 h0
noncomputable def s157 (r : RT) (n : Nat) (x0 : DV) (h0 : Hp) : aI :=
 aPe r n x0 h0
noncomputable abbrev c157 : Code := cf Tryz.f157
noncomputable abbrev aKu : Code := cR c157
noncomputable abbrev cXo : Code := cR aKu
noncomputable abbrev xH : Code := cL aKu
noncomputable abbrev aUx : Code := cR xH
noncomputable abbrev aBv : Code := cL aUx
noncomputable abbrev cWn : Code := cR aBv
noncomputable abbrev bMs : Code := cL aBv
noncomputable abbrev bPx : Code := cL xH
noncomputable abbrev cAg : Code := cL c157
noncomputable abbrev r157 : K := aT CF Tryz.f157
noncomputable def D157 (r : RT) (n : Nat) (c : Code) (X : Nat → K) (k : K) : K := aM CF r 11 n c X r157 k
theorem cIw : D157 r n cXo x0 r157 = (K0 (gN r n)) :=
 (by kernel_rfl)
theorem cNi : D157 r n cWn (xs x0 0 (K0 (gN r n))) (K0 (gN r n)) = (K1 (lN r n) 4) :=
 (by kernel_rfl)
theorem bYw : D157 r n aBv (xs x0 0 (K0 (gN r n))) (K0 (gN r n)) = D157 r n bMs (xs x0 0 (K0 (gN r n))) (K1 (lN r n) 4) :=
 congrArg (fun k => D157 r n bMs (xs x0 0 (K0 (gN r n))) k) (cNi r n)
theorem cIr : D157 r n aUx x0 (K0 (gN r n)) = (K1 (aOj r n) 3) :=
 (by kernel_rfl : D157 r n aUx x0 (K0 (gN r n)) = D157 r n aBv (xs x0 0 (K0 (gN r n))) (K0 (gN r n))).trans
 ((bYw r n).trans
 ((by kernel_rfl)))
theorem bOn : D157 r n aKu x0 r157 = D157 r n xH x0 (K0 (gN r n)) :=
 congrArg (fun k => D157 r n xH x0 k) (cIw r n)
theorem bNh : D157 r n xH x0 (K0 (gN r n)) = D157 r n bPx x0 (K1 (aOj r n) 3) :=
 congrArg (fun k => D157 r n bPx x0 k) (cIr r n)
theorem cMw : D157 r n aKu x0 r157 = (K1 (aPe r n) 0) :=
 (bOn r n).trans
 ((bNh r n).trans
 ((by kernel_rfl)))
theorem dAa : D157 r n c157 x0 r157 = D157 r n cAg x0 (K1 (aPe r n) 0) :=
 congrArg (fun k => D157 r n cAg x0 k) (cMw r n)
theorem dHf : D157 r n c157 x0 r157 = (K1 (s157 r n) 0) :=
 (dAa r n).trans
 ((by kernel_rfl))
theorem dEu : aF CF r n 157 args h = s157 r n (aQ args 0) h :=
 (by kernel_rfl : aF CF r n 157 args h = D157 r n c157 x0 r157 (aJ args) h).trans ((congrFun (congrFun (dHf r n) (aJ args)) h).trans (by kernel_rfl))
noncomputable def aHn (r : RT) (n : Nat) (x0 x1 : DV) (h0 : Hp) : aI :=
 bnd (r 156 [x0, x1] h0) fun v1 h1 =>
 bnd (aC 0 v1 h1) fun v2 h2 =>
 bnd (aC 1 v1 h2) fun v3 h3 =>
 bnd (bK [(.s []), (.b false), (.b false), (aE 0)] h3) fun v4 h4 =>
 bnd (aG 4 v4 v2 h4) fun _ h5 =>
 bnd (gD v3 true (aB 1 v4 h5) h5) fun v6 h6 =>
 bnd (gD v3 true (aA v6 h6) h6) fun v7 h7 =>
 bnd (aO v3 v7 (.b false) h7) fun v8 h8 =>
 aP v8 (
 bnd (aB 3 v4 h8) fun v9 h9 =>
 bnd (aA v9 h9) fun v10 h10 =>
 bnd (r 141 [x0, (aE 8), v10, (aE 0)] h10) fun v11 h11 =>
 some (.t [], h11)) (
 aP v3 (
 bnd (aB 3 v4 h8) fun v12 h12 =>
 bnd (aA v12 h12) fun v13 h13 =>
 bnd (r 141 [x0, (aE 7), v13, (aE 0)] h13) fun v14 h14 =>
 some (.t [], h14)) (
 bnd (r 190 [x1] h8) fun v15 h15 =>
 aP v15 (
 bnd (r 191 [x0, x1] h15) fun v16 h16 =>
 bnd (r 141 [x0, (aE 9), v16, (aE 0)] h16) fun v17 h17 =>
 some (.t [], h17)) (
 bnd (r 158 [x0, x1, (aE 15)] h15) fun v18 h18 =>
 some (.t [], h18))))
noncomputable def s161 (r : RT) (n : Nat) (x0 x1 : DV) (h0 : Hp) : aI :=
 bnd (fA .eql x1 (.s [115, 101, 108, 102]) h0) fun v1 h1 =>
 aP v1 (
 bnd (r 141 [x0, (aE 1), (aE 0), (aE 0)] h1) fun v2 h2 =>
 some (.t [], h2)) (
 bnd (fA .eql x1 (.s [110, 105, 108]) h1) fun v3 h3 =>
 aP v3 (
 bnd (r 141 [x0, (aE 2), (aE 0), (aE 0)] h3) fun v4 h4 =>
 some (.t [], h4)) (
 bnd (fA .eql x1 (.s [116, 114, 117, 101]) h3) fun v5 h5 =>
 aP v5 (
 bnd (r 141 [x0, (aE 3), (aE 0), (aE 0)] h5) fun v6 h6 =>
 some (.t [], h6)) (
 bnd (fA .eql x1 (.s [102, 97, 108, 115, 101]) h5) fun v7 h7 =>
 aP v7 (
 bnd (r 141 [x0, (aE 4), (aE 0), (aE 0)] h7) fun v8 h8 =>
 some (.t [], h8)) (
 bnd (fA .eql x1 (.s [116, 104, 105, 115, 67, 111, 110, 116, 101, 120, 116]) h7) fun v9 h9 =>
 aP v9 (
 bnd (r 141 [x0, (aE 5), (aE 0), (aE 0)] h9) fun v10 h10 =>
 some (.t [], h10)) (
 bnd (fA .eql x1 (.s [115, 117, 112, 101, 114]) h9) fun v11 h11 =>
 aP v11 (
 bnd (r 158 [x0, x1, (aE 15)] h11) fun v12 h12 =>
       aHn r n x0 x1 h12) (
       aHn r n x0 x1 h11))))))
noncomputable abbrev c161 : Code := cf Tryz.f161
noncomputable abbrev dDz : Code := cR c161
noncomputable abbrev bMt : Code := cL c161
noncomputable abbrev r161 : K := aT CF Tryz.f161
noncomputable def D161 (r : RT) (n : Nat) (c : Code) (X : Nat → K) (k : K) : K := aM CF r 65 n c X r161 k
theorem cIs : D161 r n dDz x0 r161 = (K2 (aHn r n) 0 1) :=
 (by kernel_rfl)
theorem dDt : D161 r n c161 x0 r161 = D161 r n bMt x0 (K2 (aHn r n) 0 1) :=
 congrArg (fun k => D161 r n bMt x0 k) (cIs r n)
theorem dGf : D161 r n c161 x0 r161 = (K2 (s161 r n) 0 1) :=
 (dDt r n).trans
 ((by kernel_rfl))
theorem dAo : aF CF r n 161 args h = s161 r n (aQ args 0) (aQ args 1) h :=
 (by kernel_rfl : aF CF r n 161 args h = D161 r n c161 x0 r161 (aJ args) h).trans ((congrFun (congrFun (dGf r n) (aJ args)) h).trans (by kernel_rfl))
noncomputable def s163 (r : RT) (n : Nat) (x0 x1 : DV) (h0 : Hp) : aI :=
 bnd (bQ x1 h0) fun v1 h1 =>
 bnd (aB 5 v1 h1) fun v2 h2 =>
 bnd (aA v2 h2) fun v3 h3 =>
 bnd (bW v3 h3) fun v4 h4 =>
 bnd (aD .eql v4 (aE 0) h4) fun v5 h5 =>
 aP v5 (
 bnd (r 158 [x0, (.s []), (aE 1)] h5) fun v6 h6 =>
 some (.t [], h6)) (
 bnd (aK 6 v1 h5) fun v7 h7 =>
 bnd (r 192 [x0, v7] h7) fun v8 h8 =>
 bnd (gD v8 false (some (x0, h8)) h8) fun v9 h9 =>
 bnd (gD v8 false (aK 6 v1 h9) h9) fun v10 h10 =>
 bnd (gD v8 false (r 193 [v9, v10] h10) h10) fun v11 h11 =>
 bnd (aO v8 (.b true) v11 h11) fun v12 h12 =>
 aP v12 (
 some (.t [], h12)) (
 bnd (aB 5 v1 h12) fun v13 h13 =>
 bnd (aA v13 h13) fun v14 h14 =>
 bnd (aH 6 v14 (aE 0) h14) fun v15 h15 =>
 bnd (aK 6 v15 h15) fun v16 h16 =>
 bnd (r 195 [x0, v16] h16) fun v17 h17 =>
 bnd (aB 1 v1 h17) fun v18 h18 =>
 bnd (aA v18 h18) fun v19 h19 =>
 cnd (bL (aA v18 h12) v19 && true) (
 bnd (aB 5 v1 h19) fun v20 h20 =>
 bnd (aA v20 h20) fun v21 h21 =>
 cnd (bL (aA v20 h12) v21 && true) (
 bnd (cS 6 v21 (some (aE 1)) none h21) fun v22 h22 =>
 cnd (bL (cS 6 v21 (some (aE 1)) none h12) v22 && true) (
 bnd (r 194 [x0, v17, v19, v22] h22) fun v23 h23 =>
 some (.t [], h23))))))
noncomputable abbrev c163 : Code := cf Tryz.f163
noncomputable abbrev r163 : K := aT CF Tryz.f163
noncomputable def D163 (r : RT) (n : Nat) (c : Code) (X : Nat → K) (k : K) : K := aM CF r 31 n c X r163 k
theorem dIs : D163 r n c163 x0 r163 = (K2 (s163 r n) 0 1) :=
 (by kernel_rfl)
theorem cYo : aF CF r n 163 args h = s163 r n (aQ args 0) (aQ args 1) h :=
 (by kernel_rfl : aF CF r n 163 args h = D163 r n c163 x0 r163 (aJ args) h).trans ((congrFun (congrFun (dIs r n) (aJ args)) h).trans (by kernel_rfl))
noncomputable def aCz (r : RT) (n : Nat) (x3 : DV) (h0 : Hp) : aI :=
 bnd (aB 5 x3 h0) fun v1 h1 =>
 bnd (aA v1 h1) fun v2 h2 =>
 bnd (bW v2 h2) fun v3 h3 =>
 bnd (aD .eql v3 (aE 1) h3) fun v4 h4 =>
 some (v4, h4)
noncomputable def wM (r : RT) (n : Nat) (x0 x3 : DV) (h0 : Hp) : aI :=
 bnd (aB 5 x3 h0) fun v1 h1 =>
 bnd (aA v1 h1) fun v2 h2 =>
 bnd (bW v2 h2) fun v3 h3 =>
 bnd (aD .neq v3 (aE 1) h3) fun v4 h4 =>
 aP v4 (
 bnd (r 158 [x0, (.s []), (aE 1)] h4) fun v5 h5 =>
  aCz r n x3 h5) (
  aCz r n x3 h4)
noncomputable def s167 (r : RT) (n : Nat) (x0 x1 : DV) (h0 : Hp) : aI :=
 bnd (bQ x1 h0) fun v1 h1 =>
  wM r n x0 v1 h1
noncomputable abbrev c167 : Code := cf Tryz.f167
noncomputable abbrev aBb : Code := cR c167
noncomputable abbrev cUt : Code := cR aBb
noncomputable abbrev bZs : Code := cL aBb
noncomputable abbrev aSf : Code := cL c167
noncomputable abbrev r167 : K := aT CF Tryz.f167
noncomputable def D167 (r : RT) (n : Nat) (c : Code) (X : Nat → K) (k : K) : K := aM CF r 15 n c X r167 k
theorem cDr : D167 r n cUt x0 r167 = (K1 (aCz r n) 3) :=
 (by kernel_rfl)
theorem bHy : D167 r n aBb x0 r167 = D167 r n bZs x0 (K1 (aCz r n) 3) :=
 congrArg (fun k => D167 r n bZs x0 k) (cDr r n)
theorem cLd : D167 r n aBb x0 r167 = (K2 (wM r n) 0 3) :=
 (bHy r n).trans
 ((by kernel_rfl))
theorem cUv : D167 r n c167 x0 r167 = D167 r n aSf x0 (K2 (wM r n) 0 3) :=
 congrArg (fun k => D167 r n aSf x0 k) (cLd r n)
theorem cVf (q0 : gF) : D167 r n aSf x0 (K2 q0 0 3) = fun (env : aY) (h : Hp) =>
 bnd (bQ (env 1) h) fun v1 h1 =>
  q0 (env 0) v1 h1 := by kernel_rfl
theorem cDt : (fun (env : aY) (h : Hp) =>
 bnd (bQ (env 1) h) fun v1 h1 =>
  wM r n (env 0) v1 h1) = (K2 (s167 r n) 0 1) := by kernel_rfl
theorem dHs : D167 r n c167 x0 r167 = (K2 (s167 r n) 0 1) :=
 (cUv r n).trans
 ((cVf r n (wM r n)).trans (cDt r n))
theorem dEc : aF CF r n 167 args h = s167 r n (aQ args 0) (aQ args 1) h :=
 (by kernel_rfl : aF CF r n 167 args h = D167 r n c167 x0 r167 (aJ args) h).trans ((congrFun (congrFun (dHs r n) (aJ args)) h).trans (by kernel_rfl))
noncomputable def s168 (r : RT) (n : Nat) (x0 x1 x2 : DV) (h0 : Hp) : aI :=
 bnd (aD .geq x0 x1 h0) fun v1 h1 =>
 bnd (gD v1 true (some (x0, h1)) h1) fun v2 h2 =>
 bnd (gD v1 true (some (x2, h2)) h2) fun v3 h3 =>
 bnd (gD v1 true (aD .leq v2 v3 h3) h3) fun v4 h4 =>
 bnd (aO v1 v4 (.b false) h4) fun v5 h5 =>
 some (v5, h5)
noncomputable abbrev c168 : Code := cf Tryz.f168
noncomputable abbrev r168 : K := aT CF Tryz.f168
noncomputable def D168 (r : RT) (n : Nat) (c : Code) (X : Nat → K) (k : K) : K := aM CF r 15 n c X r168 k
theorem dGk : D168 r n c168 x0 r168 = (K3 (s168 r n) 0 1 2) :=
 (by kernel_rfl)
theorem dAb : aF CF r n 168 args h = s168 r n (aQ args 0) (aQ args 1) (aQ args 2) h :=
 (by kernel_rfl : aF CF r n 168 args h = D168 r n c168 x0 r168 (aJ args) h).trans ((congrFun (congrFun (dGk r n) (aJ args)) h).trans (by kernel_rfl))
noncomputable def s169 (r : RT) (n : Nat) (x0 x1 : DV) (h0 : Hp) : aI :=
 bnd (r 187 [x0, x1] h0) fun v1 h1 =>
 bnd (aD .geq v1 (aE 0) h1) fun v2 h2 =>
 some (v2, h2)
noncomputable abbrev c169 : Code := cf Tryz.f169
noncomputable abbrev r169 : K := aT CF Tryz.f169
noncomputable def D169 (r : RT) (n : Nat) (c : Code) (X : Nat → K) (k : K) : K := aM CF r 9 n c X r169 k
theorem dHu : D169 r n c169 x0 r169 = (K2 (s169 r n) 0 1) :=
 (by kernel_rfl)
theorem dDc : aF CF r n 169 args h = s169 r n (aQ args 0) (aQ args 1) h :=
 (by kernel_rfl : aF CF r n 169 args h = D169 r n c169 x0 r169 (aJ args) h).trans ((congrFun (congrFun (dHu r n) (aJ args)) h).trans (by kernel_rfl))
noncomputable def s170 (r : RT) (n : Nat) (x0 : DV) (h0 : Hp) : aI :=
 bnd (bQ x0 h0) fun v1 h1 =>
 bnd (aK 4 v1 h1) fun v2 h2 =>
 bnd (r 171 [v2, (aE 20)] h2) fun v3 h3 =>
 bnd (fZ .not v3 h3) fun v4 h4 =>
 some (v4, h4)
noncomputable abbrev c170 : Code := cf Tryz.f170
noncomputable abbrev r170 : K := aT CF Tryz.f170
noncomputable def D170 (r : RT) (n : Nat) (c : Code) (X : Nat → K) (k : K) : K := aM CF r 6 n c X r170 k
theorem dJi : D170 r n c170 x0 r170 = (K1 (s170 r n) 0) :=
 (by kernel_rfl)
theorem dAe : aF CF r n 170 args h = s170 r n (aQ args 0) h :=
 (by kernel_rfl : aF CF r n 170 args h = D170 r n c170 x0 r170 (aJ args) h).trans ((congrFun (congrFun (dJi r n) (aJ args)) h).trans (by kernel_rfl))
noncomputable def s171 (r : RT) (n : Nat) (x0 x1 : DV) (h0 : Hp) : aI :=
 bnd (bQ x0 h0) fun v1 h1 =>
 bnd (bQ x1 h1) fun v2 h2 =>
 bnd (aB 0 v1 h2) fun v3 h3 =>
 bnd (aA v3 h3) fun v4 h4 =>
 bnd (aD .eql v4 (aE 1) h4) fun v5 h5 =>
 aP v5 (
 bnd (aB 1 v1 h5) fun v6 h6 =>
 bnd (aA v6 h6) fun v7 h7 =>
 bnd (fA .eql v7 (.s []) h7) fun v8 h8 =>
 bnd (gD v8 true (aB 3 v1 h8) h8) fun v9 h9 =>
 bnd (gD v8 true (aA v9 h9) h9) fun v10 h10 =>
 bnd (gD v8 true (bW v10 h10) h10) fun v11 h11 =>
 bnd (gD v8 true (aD .eql v11 (aE 0) h11) h11) fun v12 h12 =>
 bnd (aO v8 v12 (.b false) h12) fun v13 h13 =>
 bnd (gD v13 true (aB 2 v1 h13) h13) fun v14 h14 =>
 bnd (gD v13 true (aA v14 h14) h14) fun v15 h15 =>
 bnd (gD v13 true (r 168 [v15, (.i .i64 (Int.negSucc 1152921504606846975)), (aE 1152921504606846976)] h15) h15) fun v16 h16 =>
 bnd (aO v13 v16 (.b false) h16) fun v17 h17 =>
 some (v17, h17)) (
 bnd (aD .eql v4 (aE 2) h5) fun v18 h18 =>
 aP v18 (
 bnd (aB 2 v1 h18) fun v19 h19 =>
 bnd (aA v19 h19) fun v20 h20 =>
 bnd (aD .eql v20 (aE 0) h20) fun v21 h21 =>
 bnd (gD v21 true (aB 3 v1 h21) h21) fun v22 h22 =>
 bnd (gD v21 true (aA v22 h22) h22) fun v23 h23 =>
 bnd (gD v21 true (bW v23 h23) h23) fun v24 h24 =>
 bnd (gD v21 true (aD .eql v24 (aE 0) h24) h24) fun v25 h25 =>
 bnd (aO v21 v25 (.b false) h25) fun v26 h26 =>
 bnd (gD v26 true (aB 1 v1 h26) h26) fun v27 h27 =>
 bnd (gD v26 true (aA v27 h27) h27) fun v28 h28 =>
 bnd (gD v26 true (dT v28 h28) h28) fun v29 h29 =>
 bnd (gD v26 true (aD .leq v29 (aE 250) h29) h29) fun v30 h30 =>
 bnd (aO v26 v30 (.b false) h30) fun v31 h31 =>
 some (v31, h31)) (
 bnd (aD .eql v4 (aE 3) h18) fun v32 h32 =>
 aP v32 (
 bnd (aB 2 v1 h32) fun v33 h33 =>
 bnd (aA v33 h33) fun v34 h34 =>
 bnd (aD .eql v34 (aE 0) h34) fun v35 h35 =>
 bnd (gD v35 true (aB 3 v1 h35) h35) fun v36 h36 =>
 bnd (gD v35 true (aA v36 h36) h36) fun v37 h37 =>
 bnd (gD v35 true (bW v37 h37) h37) fun v38 h38 =>
 bnd (gD v35 true (aD .eql v38 (aE 0) h38) h38) fun v39 h39 =>
 bnd (aO v35 v39 (.b false) h39) fun v40 h40 =>
 bnd (gD v40 true (aB 1 v1 h40) h40) fun v41 h41 =>
 bnd (gD v40 true (aA v41 h41) h41) fun v42 h42 =>
 bnd (gD v40 true (dT v42 h42) h42) fun v43 h43 =>
 bnd (gD v40 true (r 168 [v43, (aE 1), (aE 60)] h43) h43) fun v44 h44 =>
 bnd (aO v40 v44 (.b false) h44) fun v45 h45 =>
 some (v45, h45)) (
 bnd (aD .eql v4 (aE 4) h32) fun v46 h46 =>
 aP v46 (
 bnd (aB 3 v1 h46) fun v47 h47 =>
 bnd (aA v47 h47) fun v48 h48 =>
 bnd (r 169 [v48, (.f 199 [] [v2])] h48) fun v49 h49 =>
 bnd (aB 2 v1 h49) fun v50 h50 =>
 bnd (aA v50 h50) fun v51 h51 =>
 bnd (aD .eql v51 (aE 0) h51) fun v52 h52 =>
 bnd (gD v52 true (aB 1 v1 h52) h52) fun v53 h53 =>
 bnd (gD v52 true (aA v53 h53) h53) fun v54 h54 =>
 bnd (gD v52 true (fA .eql v54 (.s []) h54) h54) fun v55 h55 =>
 bnd (aO v52 v55 (.b false) h55) fun v56 h56 =>
 bnd (gD v56 true (aA v2 h56) h56) fun v57 h57 =>
 bnd (gD v56 true (aD .gtr v57 (aE 0) h57) h57) fun v58 h58 =>
 bnd (aO v56 v58 (.b false) h58) fun v59 h59 =>
 bnd (gD v59 true (aB 3 v1 h59) h59) fun v60 h60 =>
 bnd (gD v59 true (aA v60 h60) h60) fun v61 h61 =>
 bnd (gD v59 true (bW v61 h61) h61) fun v62 h62 =>
 bnd (gD v59 true (aD .leq v62 (aE 250) h62) h62) fun v63 h63 =>
 bnd (aO v59 v63 (.b false) h63) fun v64 h64 =>
 bnd (gD v64 true (some (v49, h64)) h64) fun v65 h65 =>
 bnd (gD v64 true (fZ .not v65 h65) h65) fun v66 h66 =>
 bnd (aO v64 v66 (.b false) h66) fun v67 h67 =>
 some (v67, h67)) (
 some ((.b false), h46)))))
noncomputable abbrev c171 : Code := cf Tryz.f171
noncomputable abbrev r171 : K := aT CF Tryz.f171
noncomputable def D171 (r : RT) (n : Nat) (c : Code) (X : Nat → K) (k : K) : K := aM CF r 86 n c X r171 k
theorem dIb : D171 r n c171 x0 r171 = (K2 (s171 r n) 0 1) :=
 (by kernel_rfl)
theorem dAl : aF CF r n 171 args h = s171 r n (aQ args 0) (aQ args 1) h :=
 (by kernel_rfl : aF CF r n 171 args h = D171 r n c171 x0 r171 (aJ args) h).trans ((congrFun (congrFun (dIb r n) (aJ args)) h).trans (by kernel_rfl))
end Go.Dd

namespace Go.Dd
open Go.Proofs
variable (r : RT) (n : Nat) (args : List DV) (h : Hp)
noncomputable def bC (r : RT) (n : Nat) (h0 : Hp) : aI :=
 some ((.b true), h0)
noncomputable def tM (r : RT) (n : Nat) (x2 x3 x4 x27 x51 : DV) (h0 : Hp) : aI :=
 aP x51 (
 bnd (aB 1 x4 h0) fun v1 h1 =>
 bnd (aA v1 h1) fun v2 h2 =>
 bnd (aD .lss v2 x2 h2) fun v3 h3 =>
 some (v3, h3)) (
 bnd (aD .eql x27 (aE 18) h0) fun v4 h4 =>
 aP v4 (
 bnd (aB 2 x4 h4) fun v5 h5 =>
 bnd (aA v5 h5) fun v6 h6 =>
 bnd (aD .leq v6 (aE 4) h6) fun v7 h7 =>
 bnd (gD v7 true (aB 1 x4 h7) h7) fun v8 h8 =>
 bnd (gD v7 true (aA v8 h8) h8) fun v9 h9 =>
 bnd (gD v7 true (aB 2 x4 h9) h9) fun v10 h10 =>
 bnd (gD v7 true (aA v10 h10) h10) fun v11 h11 =>
 bnd (gD v7 true (aD .add v9 v11 h11) h11) fun v12 h12 =>
 bnd (gD v7 true (aB 2 x3 h12) h12) fun v13 h13 =>
 bnd (gD v7 true (aA v13 h13) h13) fun v14 h14 =>
 bnd (gD v7 true (aD .leq v12 v14 h14) h14) fun v15 h15 =>
 bnd (aO v7 v15 (.b false) h15) fun v16 h16 =>
 some (v16, h16)) (
   bC r n h4))
noncomputable def aXr (r : RT) (n : Nat) (x2 x3 x4 x27 : DV) (h0 : Hp) : aI :=
 bnd (aD .eql x27 (aE 8) h0) fun v1 h1 =>
 aP v1 (
  tM r n x2 x3 x4 x27 v1 h1) (
 bnd (aD .eql x27 (aE 11) h1) fun v2 h2 =>
  tM r n x2 x3 x4 x27 v2 h2)
noncomputable def uD (r : RT) (n : Nat) (x2 x3 x4 x27 x43 : DV) (h0 : Hp) : aI :=
 aP x43 (
 bnd (aB 1 x4 h0) fun v1 h1 =>
 bnd (aA v1 h1) fun v2 h2 =>
 bnd (aB 2 x3 h2) fun v3 h3 =>
 bnd (aA v3 h3) fun v4 h4 =>
 bnd (aD .lss v2 v4 h4) fun v5 h5 =>
 some (v5, h5)) (
  aXr r n x2 x3 x4 x27 h0)
noncomputable def bBp (r : RT) (n : Nat) (x2 x3 x4 x27 : DV) (h0 : Hp) : aI :=
 bnd (aD .eql x27 (aE 7) h0) fun v1 h1 =>
 aP v1 (
  uD r n x2 x3 x4 x27 v1 h1) (
 bnd (aD .eql x27 (aE 10) h1) fun v2 h2 =>
  uD r n x2 x3 x4 x27 v2 h2)
noncomputable def sJ (r : RT) (n : Nat) (x2 x3 x4 x8 x27 x34 : DV) (h0 : Hp) : aI :=
 aP x34 (
 bnd (gD x8 true (aB 2 x4 h0) h0) fun v1 h1 =>
 bnd (gD x8 true (aA v1 h1) h1) fun v2 h2 =>
 bnd (gD x8 true (aD .leq v2 (aE 4) h2) h2) fun v3 h3 =>
 bnd (aO x8 v3 (.b false) h3) fun v4 h4 =>
 some (v4, h4)) (
  bBp r n x2 x3 x4 x27 h0)
noncomputable def bMh (r : RT) (n : Nat) (x2 x3 x4 x8 x27 : DV) (h0 : Hp) : aI :=
 bnd (aD .eql x27 (aE 14) h0) fun v1 h1 =>
 aP v1 (
  sJ r n x2 x3 x4 x8 x27 v1 h1) (
 bnd (aD .eql x27 (aE 15) h1) fun v2 h2 =>
  sJ r n x2 x3 x4 x8 x27 v2 h2)
noncomputable def aTh (r : RT) (n : Nat) (x2 x3 x4 x8 x27 x31 : DV) (h0 : Hp) : aI :=
 aP x31 (
 some (x8, h0)) (
  bMh r n x2 x3 x4 x8 x27 h0)
noncomputable def bJk (r : RT) (n : Nat) (x2 x3 x4 x8 x27 : DV) (h0 : Hp) : aI :=
 bnd (aD .eql x27 (aE 9) h0) fun v1 h1 =>
  aTh r n x2 x3 x4 x8 x27 v1 h1
noncomputable def aUn (r : RT) (n : Nat) (x2 x3 x4 x7 x8 x27 x28 : DV) (h0 : Hp) : aI :=
 aP x28 (
 some (x7, h0)) (
  bJk r n x2 x3 x4 x8 x27 h0)
noncomputable def aVc (r : RT) (n : Nat) (x2 x3 x4 x7 x8 x27 : DV) (h0 : Hp) : aI :=
 bnd (aD .eql x27 (aE 6) h0) fun v1 h1 =>
  aUn r n x2 x3 x4 x7 x8 x27 v1 h1
noncomputable def aPy (r : RT) (n : Nat) (x2 x3 x4 x7 x8 : DV) (h0 : Hp) : aI :=
 bnd (aB 0 x4 h0) fun v1 h1 =>
 bnd (aA v1 h1) fun v2 h2 =>
  aVc r n x2 x3 x4 x7 x8 v2 h2
noncomputable def aPf (r : RT) (n : Nat) (x2 x3 x4 x7 : DV) (h0 : Hp) : aI :=
 bnd (gD x7 true (aB 4 x3 h0) h0) fun v1 h1 =>
 bnd (gD x7 true (aA v1 h1) h1) fun v2 h2 =>
 bnd (gD x7 true (aB 1 x4 h2) h2) fun v3 h3 =>
 bnd (gD x7 true (aA v3 h3) h3) fun v4 h4 =>
 bnd (gD x7 true (aH 4 v2 v4 h4) h4) fun v5 h5 =>
 bnd (gD x7 true (aB 0 v5 h5) h5) fun v6 h6 =>
 bnd (gD x7 true (aA v6 h6) h6) fun v7 h7 =>
 bnd (gD x7 true (aD .eql v7 (aE 3) h7) h7) fun v8 h8 =>
 bnd (aO x7 v8 (.b false) h8) fun v9 h9 =>
  aPy r n x2 x3 x4 x7 v9 h9
noncomputable def vN (r : RT) (n : Nat) (x2 x3 x4 : DV) (h0 : Hp) : aI :=
 bnd (aB 1 x4 h0) fun v1 h1 =>
 bnd (aA v1 h1) fun v2 h2 =>
 bnd (aB 4 x3 h2) fun v3 h3 =>
 bnd (aA v3 h3) fun v4 h4 =>
 bnd (bW v4 h4) fun v5 h5 =>
 bnd (aD .lss v2 v5 h5) fun v6 h6 =>
  aPf r n x2 x3 x4 v6 h6
noncomputable def s172 (r : RT) (n : Nat) (x0 x1 x2 : DV) (h0 : Hp) : aI :=
 bnd (bQ x0 h0) fun v1 h1 =>
 bnd (bQ x1 h1) fun v2 h2 =>
  vN r n x2 v1 v2 h2
noncomputable abbrev c172 : Code := cf Tryz.f172
noncomputable abbrev aFr : Code := cR c172
noncomputable abbrev aJv : Code := cR aFr
noncomputable abbrev aCj : Code := cR aJv
noncomputable abbrev cXs : Code := cR aCj
noncomputable abbrev xM : Code := cL aCj
noncomputable abbrev aTr : Code := cR xM
noncomputable abbrev aFg : Code := cL aTr
noncomputable abbrev yA : Code := cR aFg
noncomputable abbrev vC : Code := cR yA
noncomputable abbrev oO : Code := cR vC
noncomputable abbrev oZ : Code := cR oO
noncomputable abbrev oT : Code := cR oZ
noncomputable abbrev oR : Code := cR oT
noncomputable abbrev pB : Code := cR oR
noncomputable abbrev oL : Code := cR pB
noncomputable abbrev cPq : Code := cR oL
noncomputable abbrev aYx : Code := cL oL
noncomputable abbrev cQj : Code := cL pB
noncomputable abbrev bAg : Code := cL oR
noncomputable abbrev cQv : Code := cL oT
noncomputable abbrev aVj : Code := cL oZ
noncomputable abbrev cRp : Code := cL oO
noncomputable abbrev bCr : Code := cL vC
noncomputable abbrev cQn : Code := cL yA
noncomputable abbrev aXk : Code := cL aFg
noncomputable abbrev bAj : Code := cL xM
noncomputable abbrev bCo : Code := cL aJv
noncomputable abbrev bAh : Code := cL aFr
noncomputable abbrev aEj : Code := cL c172
noncomputable abbrev r172 : K := aT CF Tryz.f172
noncomputable def D172 (r : RT) (n : Nat) (c : Code) (X : Nat → K) (k : K) : K := aM CF r 73 n c X r172 k
theorem cHq : D172 r n cXs x0 r172 = (K0 (bC r n)) :=
 (by kernel_rfl)
theorem bVe : D172 r n cPq (xs x0 0 (K0 (bC r n))) (K0 (bC r n)) = (K5 (tM r n) 2 3 4 27 51) :=
 (by kernel_rfl)
theorem bHe : D172 r n oL (xs x0 0 (K0 (bC r n))) (K0 (bC r n)) = D172 r n aYx (xs x0 0 (K0 (bC r n))) (K5 (tM r n) 2 3 4 27 51) :=
 congrArg (fun k => D172 r n aYx (xs x0 0 (K0 (bC r n))) k) (bVe r n)
theorem bJp : D172 r n oL (xs x0 0 (K0 (bC r n))) (K0 (bC r n)) = (K4 (aXr r n) 2 3 4 27) :=
 (bHe r n).trans
 ((by kernel_rfl))
theorem bOu : D172 r n pB (xs x0 0 (K0 (bC r n))) (K0 (bC r n)) = (K5 (uD r n) 2 3 4 27 43) :=
 (by kernel_rfl : D172 r n pB (xs x0 0 (K0 (bC r n))) (K0 (bC r n)) = (fun (env : aY) (h : Hp) => aP (opr env (cC pB)) (D172 r n cQj (xs x0 0 (K0 (bC r n))) (K0 (bC r n)) env h) (D172 r n oL (xs x0 0 (K0 (bC r n))) (K0 (bC r n)) env h))).trans (by rw [bJp r n]; kernel_rfl)
theorem bFx : D172 r n oR (xs x0 0 (K0 (bC r n))) (K0 (bC r n)) = D172 r n bAg (xs x0 0 (K0 (bC r n))) (K5 (uD r n) 2 3 4 27 43) :=
 congrArg (fun k => D172 r n bAg (xs x0 0 (K0 (bC r n))) k) (bOu r n)
theorem bSd : D172 r n oR (xs x0 0 (K0 (bC r n))) (K0 (bC r n)) = (K4 (bBp r n) 2 3 4 27) :=
 (bFx r n).trans
 ((by kernel_rfl))
theorem bQn : D172 r n oT (xs x0 0 (K0 (bC r n))) (K0 (bC r n)) = (K6 (sJ r n) 2 3 4 8 27 34) :=
 (by kernel_rfl : D172 r n oT (xs x0 0 (K0 (bC r n))) (K0 (bC r n)) = (fun (env : aY) (h : Hp) => aP (opr env (cC oT)) (D172 r n cQv (xs x0 0 (K0 (bC r n))) (K0 (bC r n)) env h) (D172 r n oR (xs x0 0 (K0 (bC r n))) (K0 (bC r n)) env h))).trans (by rw [bSd r n]; kernel_rfl)
theorem bRo : D172 r n oZ (xs x0 0 (K0 (bC r n))) (K0 (bC r n)) = D172 r n aVj (xs x0 0 (K0 (bC r n))) (K6 (sJ r n) 2 3 4 8 27 34) :=
 congrArg (fun k => D172 r n aVj (xs x0 0 (K0 (bC r n))) k) (bQn r n)
theorem cEy : D172 r n oZ (xs x0 0 (K0 (bC r n))) (K0 (bC r n)) = (K5 (bMh r n) 2 3 4 8 27) :=
 (bRo r n).trans
 ((by kernel_rfl))
theorem cOu : D172 r n oO (xs x0 0 (K0 (bC r n))) (K0 (bC r n)) = (K6 (aTh r n) 2 3 4 8 27 31) :=
 (by kernel_rfl : D172 r n oO (xs x0 0 (K0 (bC r n))) (K0 (bC r n)) = (fun (env : aY) (h : Hp) => aP (opr env (cC oO)) (D172 r n cRp (xs x0 0 (K0 (bC r n))) (K0 (bC r n)) env h) (D172 r n oZ (xs x0 0 (K0 (bC r n))) (K0 (bC r n)) env h))).trans (by rw [cEy r n]; kernel_rfl)
theorem bKz : D172 r n vC (xs x0 0 (K0 (bC r n))) (K0 (bC r n)) = D172 r n bCr (xs x0 0 (K0 (bC r n))) (K6 (aTh r n) 2 3 4 8 27 31) :=
 congrArg (fun k => D172 r n bCr (xs x0 0 (K0 (bC r n))) k) (cOu r n)
theorem cIz : D172 r n vC (xs x0 0 (K0 (bC r n))) (K0 (bC r n)) = (K5 (bJk r n) 2 3 4 8 27) :=
 (bKz r n).trans
 ((by kernel_rfl))
theorem cFr : D172 r n yA (xs x0 0 (K0 (bC r n))) (K0 (bC r n)) = (K7 (aUn r n) 2 3 4 7 8 27 28) :=
 (by kernel_rfl : D172 r n yA (xs x0 0 (K0 (bC r n))) (K0 (bC r n)) = (fun (env : aY) (h : Hp) => aP (opr env (cC yA)) (D172 r n cQn (xs x0 0 (K0 (bC r n))) (K0 (bC r n)) env h) (D172 r n vC (xs x0 0 (K0 (bC r n))) (K0 (bC r n)) env h))).trans (by rw [cIz r n]; kernel_rfl)
theorem bUb : D172 r n aFg (xs x0 0 (K0 (bC r n))) (K0 (bC r n)) = D172 r n aXk (xs x0 0 (K0 (bC r n))) (K7 (aUn r n) 2 3 4 7 8 27 28) :=
 congrArg (fun k => D172 r n aXk (xs x0 0 (K0 (bC r n))) k) (cFr r n)
theorem cDp : D172 r n aTr x0 (K0 (bC r n)) = (K6 (aVc r n) 2 3 4 7 8 27) :=
 (by kernel_rfl : D172 r n aTr x0 (K0 (bC r n)) = D172 r n aFg (xs x0 0 (K0 (bC r n))) (K0 (bC r n))).trans
 ((bUb r n).trans
 ((by kernel_rfl)))
theorem bTn : D172 r n aCj x0 r172 = D172 r n xM x0 (K0 (bC r n)) :=
 congrArg (fun k => D172 r n xM x0 k) (cHq r n)
theorem bMa : D172 r n xM x0 (K0 (bC r n)) = D172 r n bAj x0 (K6 (aVc r n) 2 3 4 7 8 27) :=
 congrArg (fun k => D172 r n bAj x0 k) (cDp r n)
theorem cMt : D172 r n aCj x0 r172 = (K5 (aPy r n) 2 3 4 7 8) :=
 (bTn r n).trans
 ((bMa r n).trans
 ((by kernel_rfl)))
theorem bNa : D172 r n aJv x0 r172 = D172 r n bCo x0 (K5 (aPy r n) 2 3 4 7 8) :=
 congrArg (fun k => D172 r n bCo x0 k) (cMt r n)
theorem cIk : D172 r n aJv x0 r172 = (K4 (aPf r n) 2 3 4 7) :=
 (bNa r n).trans
 ((by kernel_rfl))
theorem bHu : D172 r n aFr x0 r172 = D172 r n bAh x0 (K4 (aPf r n) 2 3 4 7) :=
 congrArg (fun k => D172 r n bAh x0 k) (cIk r n)
theorem cFh : D172 r n aFr x0 r172 = (K3 (vN r n) 2 3 4) :=
 (bHu r n).trans
 ((by kernel_rfl))
theorem cFo : D172 r n c172 x0 r172 = D172 r n aEj x0 (K3 (vN r n) 2 3 4) :=
 congrArg (fun k => D172 r n aEj x0 k) (cFh r n)
theorem cMd (q0 : mM) : D172 r n aEj x0 (K3 q0 2 3 4) = fun (env : aY) (h : Hp) =>
 bnd (bQ (env 0) h) fun v1 h1 =>
 bnd (bQ (env 1) h1) fun v2 h2 =>
  q0 (env 2) v1 v2 h2 := by kernel_rfl
theorem bVk : (fun (env : aY) (h : Hp) =>
 bnd (bQ (env 0) h) fun v1 h1 =>
 bnd (bQ (env 1) h1) fun v2 h2 =>
  vN r n (env 2) v1 v2 h2) = (K3 (s172 r n) 0 1 2) := by kernel_rfl
theorem dLp : D172 r n c172 x0 r172 = (K3 (s172 r n) 0 1 2) :=
 (cFo r n).trans
 ((cMd r n (vN r n)).trans (bVk r n))
theorem dCg : aF CF r n 172 args h = s172 r n (aQ args 0) (aQ args 1) (aQ args 2) h :=
 (by kernel_rfl : aF CF r n 172 args h = D172 r n c172 x0 r172 (aJ args) h).trans ((congrFun (congrFun (dLp r n) (aJ args)) h).trans (by kernel_rfl))
noncomputable def eM (r : RT) (n : Nat) (x3 : DV) (h0 : Hp) : aI :=
 some (x3, h0)
noncomputable def aWj (r : RT) (n : Nat) (kk6 : dQ) (x3 x4 x11 x12 : DV) (h0 : Hp) : aI :=
 bnd (aD .lss x12 x11 h0) fun v1 h1 =>
 aP v1 (
 bnd (cP CF r x4 [x12] h1) fun v2 h2 =>
 bnd (aH 1 x3 x12 h2) fun v3 h3 =>
 bnd (aG 1 v3 v2 h3) fun _ h4 =>
 bnd (aD .add x12 (aE 1) h4) fun v5 h5 =>
      kk6 x3 x4 x11 v5 h5) (
      eM r n x3 h1)
noncomputable def tZ (r : RT) (n : Nat) (m : Nat) : dQ :=
 Nat.rec (motive := fun _ => dQ) (fun _ _ _ _ _ => none) (fun _ ih => aWj r n ih) m
noncomputable def bNl (r : RT) (n : Nat) : dQ := tZ r n n
noncomputable def aQy (r : RT) (n : Nat) (x3 x4 x11 x12 : DV) (h0 : Hp) : aI :=
 bNl r n x3 x4 x11 x12 h0
noncomputable def aRf (r : RT) (n : Nat) (x1 x3 x4 : DV) (h0 : Hp) : aI :=
 bnd (aA x1 h0) fun v1 h1 =>
 bnd (bW v1 h1) fun v2 h2 =>
  aQy r n x3 x4 v2 (aE 0) h2
noncomputable def vB (r : RT) (n : Nat) (x1 x3 : DV) (h0 : Hp) : aI :=
 aRf r n x1 x3 (.f 200 [] [x1]) h0
noncomputable def qW (r : RT) (n : Nat) (x1 : DV) (h0 : Hp) : aI :=
 bnd (aA x1 h0) fun v1 h1 =>
 bnd (bW v1 h1) fun v2 h2 =>
 bnd (cH 1 8 [(aE 0)] v2 v2 h2) fun v3 h3 =>
  vB r n x1 v3 h3
noncomputable def s173 (r : RT) (n : Nat) (x0 : DV) (h0 : Hp) : aI :=
 bnd (bQ x0 h0) fun v1 h1 =>
  qW r n v1 h1
noncomputable abbrev c173 : Code := cf Tryz.f173
noncomputable abbrev aFs : Code := cR c173
noncomputable abbrev aHc : Code := cR aFs
noncomputable abbrev aDq : Code := cR aHc
noncomputable abbrev dDm : Code := cR aDq
noncomputable abbrev wV : Code := cL aDq
noncomputable abbrev aUw : Code := cR wV
noncomputable abbrev aKh : Code := cL aUw
noncomputable abbrev oD : Code := cL aKh
noncomputable abbrev bOy : Code := cL wV
noncomputable abbrev bBn : Code := cL aHc
noncomputable abbrev aIb : Code := cL aFs
noncomputable abbrev aEw : Code := cL c173
noncomputable abbrev r173 : K := aT CF Tryz.f173
noncomputable def D173 (r : RT) (n : Nat) (c : Code) (X : Nat → K) (k : K) : K := aM CF r 23 n c X r173 k
theorem cIb : D173 r n dDm x0 r173 = (K1 (eM r n) 3) :=
 (by kernel_rfl)
theorem bLl (kk6 : dQ) : D173 r n oD (xs x0 0 (K1 (eM r n) 3)) (K4 kk6 3 4 11 12) = (K4 (aWj r n kk6) 3 4 11 12) :=
 (by kernel_rfl)
theorem bQq (m : Nat) : aN (fun kk => D173 r n oD (xs x0 0 (K1 (eM r n) 3)) kk) m = (K4 (tZ r n m) 3 4 11 12) := by
 induction m with
 | zero => exact (by kernel_rfl : aN (fun kk => D173 r n oD (xs x0 0 (K1 (eM r n) 3)) kk) 0 = (K4 (tZ r n 0) 3 4 11 12))
 | succ m ih =>
  refine (by kernel_rfl : aN (fun kk => D173 r n oD (xs x0 0 (K1 (eM r n) 3)) kk) (m + 1) = D173 r n oD (xs x0 0 (K1 (eM r n) 3)) (aN (fun kk => D173 r n oD (xs x0 0 (K1 (eM r n) 3)) kk) m)).trans ?_
  rw [ih]
  exact (bLl r n (tZ r n m)).trans (by kernel_rfl)
theorem cJk : D173 r n aKh (xs x0 0 (K1 (eM r n) 3)) (K1 (eM r n) 3) = (K4 (bNl r n) 3 4 11 12) :=
 (by kernel_rfl : D173 r n aKh (xs x0 0 (K1 (eM r n) 3)) (K1 (eM r n) 3) = aN (fun kk => D173 r n oD (xs x0 0 (K1 (eM r n) 3)) kk) n).trans ((bQq r n n).trans (by kernel_rfl))
theorem cDa : D173 r n aUw x0 (K1 (eM r n) 3) = (K4 (aQy r n) 3 4 11 12) :=
 (by kernel_rfl : D173 r n aUw x0 (K1 (eM r n) 3) = D173 r n aKh (xs x0 0 (K1 (eM r n) 3)) (K1 (eM r n) 3)).trans
 ((cJk r n).trans (by kernel_rfl))
theorem bSa : D173 r n aDq x0 r173 = D173 r n wV x0 (K1 (eM r n) 3) :=
 congrArg (fun k => D173 r n wV x0 k) (cIb r n)
theorem bQr : D173 r n wV x0 (K1 (eM r n) 3) = D173 r n bOy x0 (K4 (aQy r n) 3 4 11 12) :=
 congrArg (fun k => D173 r n bOy x0 k) (cDa r n)
theorem cNt : D173 r n aDq x0 r173 = (K3 (aRf r n) 1 3 4) :=
 (bSa r n).trans
 ((bQr r n).trans
 ((by kernel_rfl)))
theorem bLf : D173 r n aHc x0 r173 = D173 r n bBn x0 (K3 (aRf r n) 1 3 4) :=
 congrArg (fun k => D173 r n bBn x0 k) (cNt r n)
theorem cFz : D173 r n aHc x0 r173 = (K2 (vB r n) 1 3) :=
 (bLf r n).trans
 ((by kernel_rfl))
theorem bRr : D173 r n aFs x0 r173 = D173 r n aIb x0 (K2 (vB r n) 1 3) :=
 congrArg (fun k => D173 r n aIb x0 k) (cFz r n)
theorem bHo (q0 : gF) : D173 r n aIb x0 (K2 q0 1 3) = fun (env : aY) (h : Hp) =>
 bnd (aA (env 1) h) fun v1 h1 =>
 bnd (bW v1 h1) fun v2 h2 =>
 bnd (cH 1 8 [(aE 0)] v2 v2 h2) fun v3 h3 =>
  q0 (env 1) v3 h3 := by kernel_rfl
theorem bGe : (fun (env : aY) (h : Hp) =>
 bnd (aA (env 1) h) fun v1 h1 =>
 bnd (bW v1 h1) fun v2 h2 =>
 bnd (cH 1 8 [(aE 0)] v2 v2 h2) fun v3 h3 =>
  vB r n (env 1) v3 h3) = (K1 (qW r n) 1) := by kernel_rfl
theorem cGz : D173 r n aFs x0 r173 = (K1 (qW r n) 1) :=
 (bRr r n).trans
 ((bHo r n (vB r n)).trans (bGe r n))
theorem dCh : D173 r n c173 x0 r173 = D173 r n aEw x0 (K1 (qW r n) 1) :=
 congrArg (fun k => D173 r n aEw x0 k) (cGz r n)
theorem cXd (q0 : TT1) : D173 r n aEw x0 (K1 q0 1) = fun (env : aY) (h : Hp) =>
 bnd (bQ (env 0) h) fun v1 h1 =>
  q0 v1 h1 := by kernel_rfl
theorem cLm : (fun (env : aY) (h : Hp) =>
 bnd (bQ (env 0) h) fun v1 h1 =>
  qW r n v1 h1) = (K1 (s173 r n) 0) := by kernel_rfl
theorem dJz : D173 r n c173 x0 r173 = (K1 (s173 r n) 0) :=
 (dCh r n).trans
 ((cXd r n (qW r n)).trans (cLm r n))
theorem cZh : aF CF r n 173 args h = s173 r n (aQ args 0) h :=
 (by kernel_rfl : aF CF r n 173 args h = D173 r n c173 x0 r173 (aJ args) h).trans ((congrFun (congrFun (dJz r n) (aJ args)) h).trans (by kernel_rfl))
noncomputable def bH (r : RT) (n : Nat) (h0 : Hp) : aI :=
 some ((.b true), h0)
noncomputable def cF (r : RT) (n : Nat) (kk4 : cD) (x0 x1 x11 x12 x13 : DV) (h0 : Hp) : aI :=
 bnd (aD .add x13 (aE 1) h0) fun v1 h1 =>
  kk4 x0 x1 x11 x12 v1 h1
noncomputable def fS (r : RT) (n : Nat) (kk4 : cD) (x0 x1 x5 x6 x11 x12 x13 : DV) (h0 : Hp) : aI :=
 bnd (aK 3 x6 h0) fun v1 h1 =>
 bnd (r 202 [v1] h1) fun v2 h2 =>
 bnd (aD .geq v2 (aE 0) h2) fun v3 h3 =>
 bnd (gD v3 true (some (v2, h3)) h3) fun v4 h4 =>
 bnd (gD v3 true (some (x0, h4)) h4) fun v5 h5 =>
 bnd (gD v3 true (bW v5 h5) h5) fun v6 h6 =>
 bnd (gD v3 true (aD .geq v4 v6 h6) h6) fun v7 h7 =>
 bnd (gD v3 true (some (v7, h7)) h7) fun v8 h8 =>
 bnd (gD v8 false (some (x1, h8)) h8) fun v9 h9 =>
 bnd (gD v8 false (some (v2, h9)) h9) fun v10 h10 =>
 bnd (gD v8 false (aH 1 v9 v10 h10) h10) fun v11 h11 =>
 bnd (gD v8 false (aA v11 h11) h11) fun v12 h12 =>
 bnd (gD v8 false (some (x1, h12)) h12) fun v13 h13 =>
 bnd (gD v8 false (some (x5, h13)) h13) fun v14 h14 =>
 bnd (gD v8 false (aH 1 v13 v14 h14) h14) fun v15 h15 =>
 bnd (gD v8 false (aA v15 h15) h15) fun v16 h16 =>
 bnd (gD v8 false (aD .neq v12 v16 h16) h16) fun v17 h17 =>
 bnd (gD v3 true (aO v8 (.b true) v17 h17) h17) fun v18 h18 =>
 bnd (aO v3 v18 (.b false) h18) fun v19 h19 =>
 aP v19 (
 some ((.b false), h19)) (
  cF r n kk4 x0 x1 x11 x12 x13 h19)
noncomputable def uB (r : RT) (n : Nat) (kk4 : cD) (x0 x1 x5 x6 x7 x8 x9 x11 x12 x13 : DV) (h0 : Hp) : aI :=
 bnd (fZ .not x8 h0) fun v1 h1 =>
 bnd (gD v1 false (some (x7, h1)) h1) fun v2 h2 =>
 bnd (gD v1 false (some (x9, h2)) h2) fun v3 h3 =>
 bnd (gD v1 false (aD .gtr v2 v3 h3) h3) fun v4 h4 =>
 bnd (aO v1 (.b true) v4 h4) fun v5 h5 =>
 aP v5 (
 some ((.b false), h5)) (
  fS r n kk4 x0 x1 x5 x6 x11 x12 x13 h5)
noncomputable def aCe (r : RT) (n : Nat) (kk4 : cD) (x0 x1 x5 x6 x7 x8 x9 x11 x12 x13 : DV) (h0 : Hp) : aI :=
 bnd (aH 1 x1 x5 h0) fun v1 h1 =>
 bnd (aA v1 h1) fun v2 h2 =>
 bnd (aD .geq v2 (aE 0) h2) fun v3 h3 =>
 aP v3 (
 bnd (aH 1 x1 x5 h3) fun v4 h4 =>
 bnd (aA v4 h4) fun v5 h5 =>
 bnd (r 201 [x0, v5] h5) fun v6 h6 =>
 bnd (aC 0 v6 h6) fun v7 h7 =>
 bnd (aC 1 v6 h7) fun v8 h8 =>
  uB r n kk4 x0 x1 x5 x6 x7 x8 v7 x11 x12 x13 h8) (
  uB r n kk4 x0 x1 x5 x6 x7 x8 x9 x11 x12 x13 h3)
noncomputable def aHa (r : RT) (n : Nat) (kk4 : cD) (x0 x1 x5 x6 x7 x8 x11 x12 x13 : DV) (h0 : Hp) : aI :=
 bnd (bW x0 h0) fun v1 h1 =>
  aCe r n kk4 x0 x1 x5 x6 x7 x8 v1 x11 x12 x13 h1
noncomputable def aYp (r : RT) (n : Nat) (kk4 : cD) (x0 x1 x5 x6 x11 x12 x13 : DV) (h0 : Hp) : aI :=
 bnd (r 201 [x0, x5] h0) fun v1 h1 =>
 bnd (aC 0 v1 h1) fun v2 h2 =>
 bnd (aC 1 v1 h2) fun v3 h3 =>
  aHa r n kk4 x0 x1 x5 x6 v2 v3 x11 x12 x13 h3
noncomputable def aIs (r : RT) (n : Nat) (kk4 : cD) (x0 x1 x5 x6 x11 x12 x13 x20 : DV) (h0 : Hp) : aI :=
 aP x20 (
  aYp r n kk4 x0 x1 x5 x6 x11 x12 x13 h0) (
  fS r n kk4 x0 x1 x5 x6 x11 x12 x13 h0)
noncomputable def xS (r : RT) (n : Nat) (kk4 : cD) (x0 x1 x5 x6 x11 x12 x13 : DV) (h0 : Hp) : aI :=
 bnd (aB 0 x6 h0) fun v1 h1 =>
 bnd (aA v1 h1) fun v2 h2 =>
 bnd (aD .eql v2 (aE 18) h2) fun v3 h3 =>
  aIs r n kk4 x0 x1 x5 x6 x11 x12 x13 v3 h3
noncomputable def aGi (r : RT) (n : Nat) (kk4 : cD) (x0 x1 x11 x12 x13 : DV) (h0 : Hp) : aI :=
 bnd (aH 3 x11 x13 h0) fun v1 h1 =>
 bnd (aK 3 v1 h1) fun v2 h2 =>
 bnd (bK [(aE 0), (aE 0), (aE 0)] h2) fun v3 h3 =>
 bnd (aG 3 v3 v2 h3) fun _ h4 =>
  xS r n kk4 x0 x1 x13 v3 x11 x12 x13 h4
noncomputable def aOy (r : RT) (n : Nat) (kk4 : cD) (x0 x1 x11 x12 x13 x14 : DV) (h0 : Hp) : aI :=
 aP x14 (
  aGi r n kk4 x0 x1 x11 x12 x13 h0) (
  bH r n h0)
noncomputable def bCx (r : RT) (n : Nat) (kk4 : cD) (x0 x1 x11 x12 x13 : DV) (h0 : Hp) : aI :=
 bnd (aD .lss x13 x12 h0) fun v1 h1 =>
  aOy r n kk4 x0 x1 x11 x12 x13 v1 h1
noncomputable def uA (r : RT) (n : Nat) (m : Nat) : cD :=
 Nat.rec (motive := fun _ => cD) (fun _ _ _ _ _ _ => none) (fun _ ih => bCx r n ih) m
noncomputable def bMq (r : RT) (n : Nat) : cD := uA r n n
noncomputable def aOp (r : RT) (n : Nat) (x0 x1 x11 x12 x13 : DV) (h0 : Hp) : aI :=
 bMq r n x0 x1 x11 x12 x13 h0
noncomputable def aSg (r : RT) (n : Nat) (x0 x1 : DV) (h0 : Hp) : aI :=
 bnd (bW x0 h0) fun v1 h1 =>
  aOp r n x0 x1 x0 v1 (aE 0) h1
noncomputable def s174 (r : RT) (n : Nat) (x0 x1 : DV) (h0 : Hp) : aI :=
 aSg r n x0 x1 h0
noncomputable abbrev c174 : Code := cf Tryz.f174
noncomputable abbrev aBn : Code := cR c174
noncomputable abbrev dBx : Code := cR aBn
noncomputable abbrev yO : Code := cL aBn
noncomputable abbrev aUk : Code := cR yO
noncomputable abbrev aEa : Code := cL aUk
noncomputable abbrev jL : Code := cL aEa
noncomputable abbrev aCg : Code := cR jL
noncomputable abbrev aAu : Code := cR aCg
noncomputable abbrev cXh : Code := cR aAu
noncomputable abbrev tS : Code := cL aAu
noncomputable abbrev sE : Code := cL tS
noncomputable abbrev sT : Code := cR sE
noncomputable abbrev cLg : Code := cR sT
noncomputable abbrev oS : Code := cL sT
noncomputable abbrev oP : Code := cR oS
noncomputable abbrev oM : Code := cL oP
noncomputable abbrev sN : Code := cR oM
noncomputable abbrev tD : Code := cR sN
noncomputable abbrev cNx : Code := cR tD
noncomputable abbrev aYy : Code := cL tD
noncomputable abbrev aWa : Code := cL sN
noncomputable abbrev aYe : Code := cL oM
noncomputable abbrev cCv : Code := cR oP
noncomputable abbrev aZt : Code := cL oS
noncomputable abbrev aBr : Code := cL sE
noncomputable abbrev aWr : Code := cL aCg
noncomputable abbrev bBa : Code := cL jL
noncomputable abbrev aWt : Code := cL yO
noncomputable abbrev aVy : Code := cL c174
noncomputable abbrev r174 : K := aT CF Tryz.f174
noncomputable def D174 (r : RT) (n : Nat) (c : Code) (X : Nat → K) (k : K) : K := aM CF r 72 n c X r174 k
theorem cKd : D174 r n dBx x0 r174 = (K0 (bH r n)) :=
 (by kernel_rfl)
theorem cDv (kk4 : cD) : D174 r n cXh (xs x0 0 (K0 (bH r n))) (K5 kk4 0 1 11 12 13) = (K5 (cF r n kk4) 0 1 11 12 13) :=
 (by kernel_rfl)
theorem cJg (kk4 : cD) : D174 r n cLg (xs (xs x0 0 (K0 (bH r n))) 1 (K5 (cF r n kk4) 0 1 11 12 13)) (K5 (cF r n kk4) 0 1 11 12 13) = (K7 (fS r n kk4) 0 1 5 6 11 12 13) :=
 (by kernel_rfl)
theorem cBu (kk4 : cD) : D174 r n cNx (xs (xs x0 0 (K0 (bH r n))) 1 (K5 (cF r n kk4) 0 1 11 12 13)) (K7 (fS r n kk4) 0 1 5 6 11 12 13) = (K10 (uB r n kk4) 0 1 5 6 7 8 9 11 12 13) :=
 (by kernel_rfl)
theorem bFb (kk4 : cD) : D174 r n tD (xs (xs x0 0 (K0 (bH r n))) 1 (K5 (cF r n kk4) 0 1 11 12 13)) (K7 (fS r n kk4) 0 1 5 6 11 12 13) = D174 r n aYy (xs (xs x0 0 (K0 (bH r n))) 1 (K5 (cF r n kk4) 0 1 11 12 13)) (K10 (uB r n kk4) 0 1 5 6 7 8 9 11 12 13) :=
 congrArg (fun k => D174 r n aYy (xs (xs x0 0 (K0 (bH r n))) 1 (K5 (cF r n kk4) 0 1 11 12 13)) k) (cBu r n kk4)
theorem bSe (kk4 : cD) : D174 r n tD (xs (xs x0 0 (K0 (bH r n))) 1 (K5 (cF r n kk4) 0 1 11 12 13)) (K7 (fS r n kk4) 0 1 5 6 11 12 13) = (K10 (aCe r n kk4) 0 1 5 6 7 8 9 11 12 13) :=
 (bFb r n kk4).trans
 ((by kernel_rfl))
theorem bHa (kk4 : cD) : D174 r n sN (xs (xs x0 0 (K0 (bH r n))) 1 (K5 (cF r n kk4) 0 1 11 12 13)) (K7 (fS r n kk4) 0 1 5 6 11 12 13) = D174 r n aWa (xs (xs x0 0 (K0 (bH r n))) 1 (K5 (cF r n kk4) 0 1 11 12 13)) (K10 (aCe r n kk4) 0 1 5 6 7 8 9 11 12 13) :=
 congrArg (fun k => D174 r n aWa (xs (xs x0 0 (K0 (bH r n))) 1 (K5 (cF r n kk4) 0 1 11 12 13)) k) (bSe r n kk4)
theorem bSm (kk4 : cD) : D174 r n sN (xs (xs x0 0 (K0 (bH r n))) 1 (K5 (cF r n kk4) 0 1 11 12 13)) (K7 (fS r n kk4) 0 1 5 6 11 12 13) = (K9 (aHa r n kk4) 0 1 5 6 7 8 11 12 13) :=
 (bHa r n kk4).trans
 ((by kernel_rfl))
theorem bDo (kk4 : cD) : D174 r n oM (xs (xs x0 0 (K0 (bH r n))) 1 (K5 (cF r n kk4) 0 1 11 12 13)) (K7 (fS r n kk4) 0 1 5 6 11 12 13) = D174 r n aYe (xs (xs x0 0 (K0 (bH r n))) 1 (K5 (cF r n kk4) 0 1 11 12 13)) (K9 (aHa r n kk4) 0 1 5 6 7 8 11 12 13) :=
 congrArg (fun k => D174 r n aYe (xs (xs x0 0 (K0 (bH r n))) 1 (K5 (cF r n kk4) 0 1 11 12 13)) k) (bSm r n kk4)
theorem bOl (kk4 : cD) : D174 r n oM (xs (xs x0 0 (K0 (bH r n))) 1 (K5 (cF r n kk4) 0 1 11 12 13)) (K7 (fS r n kk4) 0 1 5 6 11 12 13) = (K7 (aYp r n kk4) 0 1 5 6 11 12 13) :=
 (bDo r n kk4).trans
 ((by kernel_rfl))
theorem bZr (kk4 : cD) : D174 r n oP (xs (xs x0 0 (K0 (bH r n))) 1 (K5 (cF r n kk4) 0 1 11 12 13)) (K7 (fS r n kk4) 0 1 5 6 11 12 13) = (K8 (aIs r n kk4) 0 1 5 6 11 12 13 20) :=
 (by kernel_rfl : D174 r n oP (xs (xs x0 0 (K0 (bH r n))) 1 (K5 (cF r n kk4) 0 1 11 12 13)) (K7 (fS r n kk4) 0 1 5 6 11 12 13) = (fun (env : aY) (h : Hp) => aP (opr env (cC oP)) (D174 r n oM (xs (xs x0 0 (K0 (bH r n))) 1 (K5 (cF r n kk4) 0 1 11 12 13)) (K7 (fS r n kk4) 0 1 5 6 11 12 13) env h) (D174 r n cCv (xs (xs x0 0 (K0 (bH r n))) 1 (K5 (cF r n kk4) 0 1 11 12 13)) (K7 (fS r n kk4) 0 1 5 6 11 12 13) env h))).trans (by rw [bOl r n kk4]; kernel_rfl)
theorem bTt (kk4 : cD) : D174 r n sT (xs (xs x0 0 (K0 (bH r n))) 1 (K5 (cF r n kk4) 0 1 11 12 13)) (K5 (cF r n kk4) 0 1 11 12 13) = D174 r n oS (xs (xs x0 0 (K0 (bH r n))) 1 (K5 (cF r n kk4) 0 1 11 12 13)) (K7 (fS r n kk4) 0 1 5 6 11 12 13) :=
 congrArg (fun k => D174 r n oS (xs (xs x0 0 (K0 (bH r n))) 1 (K5 (cF r n kk4) 0 1 11 12 13)) k) (cJg r n kk4)
theorem bQf (kk4 : cD) : D174 r n oS (xs (xs x0 0 (K0 (bH r n))) 1 (K5 (cF r n kk4) 0 1 11 12 13)) (K7 (fS r n kk4) 0 1 5 6 11 12 13) = D174 r n aZt (xs (xs x0 0 (K0 (bH r n))) 1 (K5 (cF r n kk4) 0 1 11 12 13)) (K8 (aIs r n kk4) 0 1 5 6 11 12 13 20) :=
 congrArg (fun k => D174 r n aZt (xs (xs x0 0 (K0 (bH r n))) 1 (K5 (cF r n kk4) 0 1 11 12 13)) k) (bZr r n kk4)
theorem cJi (kk4 : cD) : D174 r n sT (xs (xs x0 0 (K0 (bH r n))) 1 (K5 (cF r n kk4) 0 1 11 12 13)) (K5 (cF r n kk4) 0 1 11 12 13) = (K7 (xS r n kk4) 0 1 5 6 11 12 13) :=
 (bTt r n kk4).trans
 ((bQf r n kk4).trans
 ((by kernel_rfl)))
theorem bWl (kk4 : cD) : D174 r n aAu (xs x0 0 (K0 (bH r n))) (K5 kk4 0 1 11 12 13) = D174 r n tS (xs x0 0 (K0 (bH r n))) (K5 (cF r n kk4) 0 1 11 12 13) :=
 congrArg (fun k => D174 r n tS (xs x0 0 (K0 (bH r n))) k) (cDv r n kk4)
theorem bWr (kk4 : cD) : D174 r n sE (xs (xs x0 0 (K0 (bH r n))) 1 (K5 (cF r n kk4) 0 1 11 12 13)) (K5 (cF r n kk4) 0 1 11 12 13) = D174 r n aBr (xs (xs x0 0 (K0 (bH r n))) 1 (K5 (cF r n kk4) 0 1 11 12 13)) (K7 (xS r n kk4) 0 1 5 6 11 12 13) :=
 congrArg (fun k => D174 r n aBr (xs (xs x0 0 (K0 (bH r n))) 1 (K5 (cF r n kk4) 0 1 11 12 13)) k) (cJi r n kk4)
theorem bVq (kk4 : cD) (q0 : TT7) (q1 : Hp → aI) (q2 : cD) : D174 r n aBr (xs (xs x0 0 (K0 q1)) 1 (K5 q2 0 1 11 12 13)) (K7 q0 0 1 5 6 11 12 13) = fun (env : aY) (h : Hp) =>
 bnd (aH 3 (env 11) (env 13) h) fun v1 h1 =>
 bnd (aK 3 v1 h1) fun v2 h2 =>
 bnd (bK [(aE 0), (aE 0), (aE 0)] h2) fun v3 h3 =>
 bnd (aG 3 v3 v2 h3) fun _ h4 =>
  q0 (env 0) (env 1) (env 13) v3 (env 11) (env 12) (env 13) h4 := by kernel_rfl
theorem bDy (kk4 : cD) : (fun (env : aY) (h : Hp) =>
 bnd (aH 3 (env 11) (env 13) h) fun v1 h1 =>
 bnd (aK 3 v1 h1) fun v2 h2 =>
 bnd (bK [(aE 0), (aE 0), (aE 0)] h2) fun v3 h3 =>
 bnd (aG 3 v3 v2 h3) fun _ h4 =>
  xS r n kk4 (env 0) (env 1) (env 13) v3 (env 11) (env 12) (env 13) h4) = (K5 (aGi r n kk4) 0 1 11 12 13) := by kernel_rfl
theorem cKx (kk4 : cD) : D174 r n aAu (xs x0 0 (K0 (bH r n))) (K5 kk4 0 1 11 12 13) = (K5 (aGi r n kk4) 0 1 11 12 13) :=
 (bWl r n kk4).trans
 ((by kernel_rfl : D174 r n tS (xs x0 0 (K0 (bH r n))) (K5 (cF r n kk4) 0 1 11 12 13) = D174 r n sE (xs (xs x0 0 (K0 (bH r n))) 1 (K5 (cF r n kk4) 0 1 11 12 13)) (K5 (cF r n kk4) 0 1 11 12 13)).trans
 ((bWr r n kk4).trans
 ((bVq r n kk4 (xS r n kk4) (bH r n) (cF r n kk4)).trans (bDy r n kk4))))
theorem cCj (kk4 : cD) : D174 r n aCg (xs x0 0 (K0 (bH r n))) (K5 kk4 0 1 11 12 13) = D174 r n aWr (xs x0 0 (K0 (bH r n))) (K5 (aGi r n kk4) 0 1 11 12 13) :=
 congrArg (fun k => D174 r n aWr (xs x0 0 (K0 (bH r n))) k) (cKx r n kk4)
theorem cQt (kk4 : cD) : D174 r n aCg (xs x0 0 (K0 (bH r n))) (K5 kk4 0 1 11 12 13) = (K6 (aOy r n kk4) 0 1 11 12 13 14) :=
 (cCj r n kk4).trans
 ((by kernel_rfl))
theorem bGi (kk4 : cD) : D174 r n jL (xs x0 0 (K0 (bH r n))) (K5 kk4 0 1 11 12 13) = D174 r n bBa (xs x0 0 (K0 (bH r n))) (K6 (aOy r n kk4) 0 1 11 12 13 14) :=
 congrArg (fun k => D174 r n bBa (xs x0 0 (K0 (bH r n))) k) (cQt r n kk4)
theorem bYf (kk4 : cD) : D174 r n jL (xs x0 0 (K0 (bH r n))) (K5 kk4 0 1 11 12 13) = (K5 (bCx r n kk4) 0 1 11 12 13) :=
 (bGi r n kk4).trans
 ((by kernel_rfl))
theorem bQw (m : Nat) : aN (fun kk => D174 r n jL (xs x0 0 (K0 (bH r n))) kk) m = (K5 (uA r n m) 0 1 11 12 13) := by
 induction m with
 | zero => exact (by kernel_rfl : aN (fun kk => D174 r n jL (xs x0 0 (K0 (bH r n))) kk) 0 = (K5 (uA r n 0) 0 1 11 12 13))
 | succ m ih =>
  refine (by kernel_rfl : aN (fun kk => D174 r n jL (xs x0 0 (K0 (bH r n))) kk) (m + 1) = D174 r n jL (xs x0 0 (K0 (bH r n))) (aN (fun kk => D174 r n jL (xs x0 0 (K0 (bH r n))) kk) m)).trans ?_
  rw [ih]
  exact (bYf r n (uA r n m)).trans (by kernel_rfl)
theorem cPg : D174 r n aEa (xs x0 0 (K0 (bH r n))) (K0 (bH r n)) = (K5 (bMq r n) 0 1 11 12 13) :=
 (by kernel_rfl : D174 r n aEa (xs x0 0 (K0 (bH r n))) (K0 (bH r n)) = aN (fun kk => D174 r n jL (xs x0 0 (K0 (bH r n))) kk) n).trans ((bQw r n n).trans (by kernel_rfl))
theorem cDj : D174 r n aUk x0 (K0 (bH r n)) = (K5 (aOp r n) 0 1 11 12 13) :=
 (by kernel_rfl : D174 r n aUk x0 (K0 (bH r n)) = D174 r n aEa (xs x0 0 (K0 (bH r n))) (K0 (bH r n))).trans
 ((cPg r n).trans (by kernel_rfl))
theorem bGm : D174 r n aBn x0 r174 = D174 r n yO x0 (K0 (bH r n)) :=
 congrArg (fun k => D174 r n yO x0 k) (cKd r n)
theorem bFe : D174 r n yO x0 (K0 (bH r n)) = D174 r n aWt x0 (K5 (aOp r n) 0 1 11 12 13) :=
 congrArg (fun k => D174 r n aWt x0 k) (cDj r n)
theorem cIn : D174 r n aBn x0 r174 = (K2 (aSg r n) 0 1) :=
 (bGm r n).trans
 ((bFe r n).trans
 ((by kernel_rfl)))
theorem cHy : D174 r n c174 x0 r174 = D174 r n aVy x0 (K2 (aSg r n) 0 1) :=
 congrArg (fun k => D174 r n aVy x0 k) (cIn r n)
theorem dIf : D174 r n c174 x0 r174 = (K2 (s174 r n) 0 1) :=
 (cHy r n).trans
 ((by kernel_rfl))
theorem dBy : aF CF r n 174 args h = s174 r n (aQ args 0) (aQ args 1) h :=
 (by kernel_rfl : aF CF r n 174 args h = D174 r n c174 x0 r174 (aJ args) h).trans ((congrFun (congrFun (dIf r n) (aJ args)) h).trans (by kernel_rfl))
noncomputable def bT (r : RT) (n : Nat) (x6 x9 : DV) (h0 : Hp) : aI :=
 bnd (aA x6 h0) fun v1 h1 =>
 bnd (aA x9 h1) fun v2 h2 =>
 some (.t [v1, v2], h2)
noncomputable def sB (r : RT) (n : Nat) (kk9 : fD) (x2 x3 x6 x7 x9 x10 x11 x14 : DV) (h0 : Hp) : aI :=
 bnd (aD .add x11 (aE 1) h0) fun v1 h1 =>
 bnd (aA x3 h1) fun v2 h2 =>
 bnd (aH 1 v2 x11 h2) fun v3 h3 =>
 bnd (aA v3 h3) fun v4 h4 =>
 bnd (cP CF r x10 [v1, v4, x14] h4) fun v5 h5 =>
  kk9 x2 x3 x6 x7 x9 x10 h5
noncomputable def aHt (r : RT) (n : Nat) (kk9 : fD) (x2 x3 x6 x7 x9 x10 x11 x12 x13 x14 : DV) (h0 : Hp) : aI :=
 bnd (aB 0 x12 h0) fun v1 h1 =>
 bnd (aA v1 h1) fun v2 h2 =>
 bnd (aD .eql v2 (aE 19) h2) fun v3 h3 =>
 aP v3 (
 bnd (aD .neq x13 (aE 1) h3) fun v4 h4 =>
 bnd (gD v4 false (aA x3 h4) h4) fun v5 h5 =>
 bnd (gD v4 false (some (x11, h5)) h5) fun v6 h6 =>
 bnd (gD v4 false (aH 1 v5 v6 h6) h6) fun v7 h7 =>
 bnd (gD v4 false (aA v7 h7) h7) fun v8 h8 =>
 bnd (gD v4 false (aD .lss v8 (aE 0) h8) h8) fun v9 h9 =>
 bnd (aO v4 (.b true) v9 h9) fun v10 h10 =>
 aP v10 (
 some (.t [.l0, (.b false)], h10)) (
   kk9 x2 x3 x6 x7 x9 x10 h10)) (
 bnd (aD .eql v2 (aE 20) h3) fun v11 h11 =>
 aP v11 (
   kk9 x2 x3 x6 x7 x9 x10 h11) (
 bnd (aD .eql v2 (aE 16) h11) fun v12 h12 =>
 aP v12 (
 bnd (aK 3 x12 h12) fun v13 h13 =>
 bnd (r 202 [v13] h13) fun v14 h14 =>
 bnd (aA x3 h14) fun v15 h15 =>
 cnd (bL (aA x3 h12) v15 && true) (
 bnd (aH 1 v15 x11 h15) fun v16 h16 =>
 bnd (aA v16 h16) fun v17 h17 =>
 cnd (bL (aA v16 h12) v17 && true) (
 bnd (cP CF r x10 [v14, v17, x14] h17) fun v18 h18 =>
    kk9 x2 x3 x6 x7 x9 x10 h18))) (
 bnd (aD .eql v2 (aE 17) h12) fun v19 h19 =>
 aP v19 (
 bnd (aK 3 x12 h19) fun v20 h20 =>
 bnd (r 202 [v20] h20) fun v21 h21 =>
 bnd (aA x3 h21) fun v22 h22 =>
 cnd (bL (aA x3 h19) v22 && true) (
 bnd (aH 1 v22 x11 h22) fun v23 h23 =>
 bnd (aA v23 h23) fun v24 h24 =>
 cnd (bL (aA v23 h19) v24 && true) (
 bnd (cP CF r x10 [v21, v24, x14] h24) fun v25 h25 =>
     sB r n kk9 x2 x3 x6 x7 x9 x10 x11 x14 h25))) (
     sB r n kk9 x2 x3 x6 x7 x9 x10 x11 x14 h19))))
noncomputable def aCc (r : RT) (n : Nat) (kk9 : fD) (x2 x3 x6 x7 x9 x10 x11 x12 x13 x14 : DV) (h0 : Hp) : aI :=
 bnd (aK 3 x12 h0) fun v1 h1 =>
 bnd (r 205 [v1] h1) fun v2 h2 =>
 bnd (aD .lss x13 v2 h2) fun v3 h3 =>
 bnd (gD v3 false (some (x14, h3)) h3) fun v4 h4 =>
 bnd (gD v3 false (aD .gtr v4 (aE 24) h4) h4) fun v5 h5 =>
 bnd (aO v3 (.b true) v5 h5) fun v6 h6 =>
 aP v6 (
 some (.t [.l0, (.b false)], h6)) (
  aHt r n kk9 x2 x3 x6 x7 x9 x10 x11 x12 x13 x14 h6)
noncomputable def aGp (r : RT) (n : Nat) (kk9 : fD) (x2 x3 x6 x7 x9 x10 x11 x12 x13 : DV) (h0 : Hp) : aI :=
 bnd (aK 3 x12 h0) fun v1 h1 =>
 bnd (r 204 [v1] h1) fun v2 h2 =>
 bnd (aD .add x13 v2 h2) fun v3 h3 =>
  aCc r n kk9 x2 x3 x6 x7 x9 x10 x11 x12 x13 v3 h3
noncomputable def aJm (r : RT) (n : Nat) (kk9 : fD) (x2 x3 x6 x7 x9 x10 x11 : DV) (h0 : Hp) : aI :=
 bnd (aA x2 (resv 1 h0)) fun v1 h1 =>
 bnd (aH 3 v1 x11 h1) fun v2 h2 =>
 bnd (aK 3 v2 h2) fun v3 h3 =>
 bnd (aA x6 h3) fun v4 h4 =>
 bnd (aH 1 v4 x11 h4) fun v5 h5 =>
 bnd (aA v5 h5) fun v6 h6 =>
 bnd (lE (bX 0 h0.next) [(aE 0), (aE 0), (aE 0)] h6) fun v7 h7 =>
 bnd (aG 3 v7 v3 h7) fun v8 h8 =>
 cnd (bL (aA v5 h8) v6 && (bL (aA x6 h8) v4 && true)) (
  aGp r n kk9 x2 x3 x6 x7 x9 x10 x11 v7 v6 h8)
noncomputable def aIt (r : RT) (n : Nat) (kk9 : fD) (x2 x3 x6 x7 x9 x10 x11 : DV) (h0 : Hp) : aI :=
 bnd (aA x7 h0) fun v1 h1 =>
 bnd (aA x7 h1) fun v2 h2 =>
 bnd (bW v2 h2) fun v3 h3 =>
 bnd (aD .sub v3 (aE 1) h3) fun v4 h4 =>
 bnd (cS 1 v1 none (some v4) h4) fun v5 h5 =>
 bnd (aG 1 x7 v5 h5) fun _ h6 =>
  aJm r n kk9 x2 x3 x6 x7 x9 x10 x11 h6
noncomputable def aIl (r : RT) (n : Nat) (kk9 : fD) (x2 x3 x6 x7 x9 x10 : DV) (h0 : Hp) : aI :=
 bnd (aA x7 h0) fun v1 h1 =>
 bnd (aA x7 h1) fun v2 h2 =>
 bnd (bW v2 h2) fun v3 h3 =>
 bnd (aD .sub v3 (aE 1) h3) fun v4 h4 =>
 bnd (aH 1 v1 v4 h4) fun v5 h5 =>
 bnd (aA v5 h5) fun v6 h6 =>
  aIt r n kk9 x2 x3 x6 x7 x9 x10 v6 h6
noncomputable def aYh (r : RT) (n : Nat) (kk9 : fD) (x2 x3 x6 x7 x9 x10 : DV) (h0 : Hp) : aI :=
 bnd (aA x7 h0) fun v1 h1 =>
 bnd (bW v1 h1) fun v2 h2 =>
 bnd (aD .gtr v2 (aE 0) h2) fun v3 h3 =>
 bnd (gD v3 true (aA x9 h3) h3) fun v4 h4 =>
 bnd (aO v3 v4 (.b false) h4) fun v5 h5 =>
 aP v5 (
   aIl r n kk9 x2 x3 x6 x7 x9 x10 h5) (
   bT r n x6 x9 h5)
noncomputable def rY (r : RT) (n : Nat) (m : Nat) : fD :=
 Nat.rec (motive := fun _ => fD) (fun _ _ _ _ _ _ _ => none) (fun _ ih => aYh r n ih) m
noncomputable def bQb (r : RT) (n : Nat) : fD := rY r n n
noncomputable def aSd (r : RT) (n : Nat) (x2 x3 x6 x7 x9 x10 : DV) (h0 : Hp) : aI :=
 bQb r n x2 x3 x6 x7 x9 x10 h0
noncomputable def aRj (r : RT) (n : Nat) (x2 x3 x6 x7 x9 x10 : DV) (h0 : Hp) : aI :=
 aSd r n x2 x3 x6 x7 x9 x10 h0
noncomputable def xW (r : RT) (n : Nat) (x2 x3 x6 x7 x9 : DV) (h0 : Hp) : aI :=
 aRj r n x2 x3 x6 x7 x9 (.f 203 [] [x2, x3, x6, x9, x7]) h0
noncomputable def cK (r : RT) (n : Nat) (x2 x3 x6 x7 : DV) (h0 : Hp) : aI :=
 bnd (bK [(.b false)] h0) fun v1 h1 =>
 bnd (aG 1 v1 (.b true) h1) fun _ h2 =>
  xW r n x2 x3 x6 x7 v1 h2
noncomputable def kN (r : RT) (n : Nat) (kk18 : fD) (x2 x3 x6 x7 x19 x20 : DV) (h0 : Hp) : aI :=
 bnd (aD .add x20 (aE 1) h0) fun v1 h1 =>
  kk18 x2 x3 x6 x7 x19 v1 h1
noncomputable def sC (r : RT) (n : Nat) (kk18 : fD) (x2 x3 x6 x7 x19 x20 : DV) (h0 : Hp) : aI :=
 bnd (aA x6 h0) fun v1 h1 =>
 bnd (aH 1 v1 x20 h1) fun v2 h2 =>
 bnd (aG 1 v2 (.i .i64 (Int.negSucc 0)) h2) fun _ h3 =>
 bnd (aD .eql x20 (aE 0) h3) fun v4 h4 =>
 bnd (gD v4 false (some (x20, h4)) h4) fun v5 h5 =>
 bnd (gD v4 false (aD .gtr v5 (aE 1) h5) h5) fun v6 h6 =>
 bnd (gD v4 false (some (v6, h6)) h6) fun v7 h7 =>
 bnd (gD v7 true (aA x2 h7) h7) fun v8 h8 =>
 bnd (gD v7 true (some (x20, h8)) h8) fun v9 h9 =>
 bnd (gD v7 true (aD .sub v9 (aE 2) h9) h9) fun v10 h10 =>
 bnd (gD v7 true (aH 3 v8 v10 h10) h10) fun v11 h11 =>
 bnd (gD v7 true (aB 0 v11 h11) h11) fun v12 h12 =>
 bnd (gD v7 true (aA v12 h12) h12) fun v13 h13 =>
 bnd (gD v7 true (aD .eql v13 (aE 18) h13) h13) fun v14 h14 =>
 bnd (gD v4 false (aO v7 v14 (.b false) h14) h14) fun v15 h15 =>
 bnd (gD v4 false (some (v15, h15)) h15) fun v16 h16 =>
 bnd (gD v16 true (aA x3 h16) h16) fun v17 h17 =>
 bnd (gD v16 true (some (x20, h17)) h17) fun v18 h18 =>
 bnd (gD v16 true (aH 1 v17 v18 h18) h18) fun v19 h19 =>
 bnd (gD v16 true (aA v19 h19) h19) fun v20 h20 =>
 bnd (gD v16 true (some (x20, h20)) h20) fun v21 h21 =>
 bnd (gD v16 true (aD .sub v21 (aE 2) h21) h21) fun v22 h22 =>
 bnd (gD v16 true (aD .eql v20 v22 h22) h22) fun v23 h23 =>
 bnd (gD v4 false (aO v16 v23 (.b false) h23) h23) fun v24 h24 =>
 bnd (aO v4 (.b true) v24 h24) fun v25 h25 =>
 aP v25 (
 bnd (aA x6 h25) fun v26 h26 =>
 bnd (aH 1 v26 x20 h26) fun v27 h27 =>
 bnd (aG 1 v27 (aE 0) h27) fun _ h28 =>
 bnd (aA x7 h28) fun v29 h29 =>
 bnd (aL [(aE 0)] 1 [(0, 1, x20)] h29) fun v30 h30 =>
 bnd (aZ 1 8 v29 v30 h30) fun v31 h31 =>
 bnd (aG 1 x7 v31 h31) fun _ h32 =>
  kN r n kk18 x2 x3 x6 x7 x19 x20 h32) (
  kN r n kk18 x2 x3 x6 x7 x19 x20 h25)
noncomputable def aGb (r : RT) (n : Nat) (kk18 : fD) (x2 x3 x6 x7 x19 x20 x21 : DV) (h0 : Hp) : aI :=
 aP x21 (
  sC r n kk18 x2 x3 x6 x7 x19 x20 h0) (
  cK r n x2 x3 x6 x7 h0)
noncomputable def aMq (r : RT) (n : Nat) (kk18 : fD) (x2 x3 x6 x7 x19 x20 : DV) (h0 : Hp) : aI :=
 bnd (aD .lss x20 x19 h0) fun v1 h1 =>
  aGb r n kk18 x2 x3 x6 x7 x19 x20 v1 h1
noncomputable def oJ (r : RT) (n : Nat) (m : Nat) : fD :=
 Nat.rec (motive := fun _ => fD) (fun _ _ _ _ _ _ _ => none) (fun _ ih => aMq r n ih) m
noncomputable def aZh (r : RT) (n : Nat) : fD := oJ r n n
noncomputable def aGc (r : RT) (n : Nat) (x2 x3 x6 x7 x19 x20 : DV) (h0 : Hp) : aI :=
 aZh r n x2 x3 x6 x7 x19 x20 h0
noncomputable def uR (r : RT) (n : Nat) (x2 x3 x6 x7 : DV) (h0 : Hp) : aI :=
 bnd (aA x6 h0) fun v1 h1 =>
 bnd (bW v1 h1) fun v2 h2 =>
  aGc r n x2 x3 x6 x7 v2 (aE 0) h2
noncomputable def qR (r : RT) (n : Nat) (x2 x3 x6 : DV) (h0 : Hp) : aI :=
 bnd (bK [.l0] h0) fun v1 h1 =>
  uR r n x2 x3 x6 v1 h1
noncomputable def qF (r : RT) (n : Nat) (x2 x3 : DV) (h0 : Hp) : aI :=
 bnd (aA x2 h0) fun v1 h1 =>
 bnd (bW v1 h1) fun v2 h2 =>
 bnd (cH 1 8 [(aE 0)] v2 v2 h2) fun v3 h3 =>
 bnd (bK [.l0] h3) fun v4 h4 =>
 bnd (aG 1 v4 v3 h4) fun _ h5 =>
  qR r n x2 x3 v4 h5
noncomputable def s175 (r : RT) (n : Nat) (x0 x1 : DV) (h0 : Hp) : aI :=
 bnd (bQ x0 h0) fun v1 h1 =>
 bnd (bQ x1 h1) fun v2 h2 =>
  qF r n v1 v2 h2
noncomputable abbrev c175 : Code := cf Tryz.f175
noncomputable abbrev aVd : Code := cR c175
noncomputable abbrev aDs : Code := cL aVd
noncomputable abbrev aHo : Code := cR aDs
noncomputable abbrev aCt : Code := cR aHo
noncomputable abbrev aIh : Code := cR aCt
noncomputable abbrev aBf : Code := cR aIh
noncomputable abbrev aDc : Code := cR aBf
noncomputable abbrev aCf : Code := cR aDc
noncomputable abbrev dBz : Code := cR aCf
noncomputable abbrev uH : Code := cL aCf
noncomputable abbrev uO : Code := cL uH
noncomputable abbrev hU : Code := cL uO
noncomputable abbrev aKa : Code := cR hU
noncomputable abbrev tP : Code := cL aKa
noncomputable abbrev sK : Code := cR tP
noncomputable abbrev tK : Code := cR sK
noncomputable abbrev tN : Code := cR tK
noncomputable abbrev sG : Code := cR tN
noncomputable abbrev sI : Code := cR sG
noncomputable abbrev cQq : Code := cR sI
noncomputable abbrev aXz : Code := cL sI
noncomputable abbrev aXs : Code := cL sG
noncomputable abbrev aYt : Code := cL tN
noncomputable abbrev aWp : Code := cL tK
noncomputable abbrev aYs : Code := cL sK
noncomputable abbrev aVs : Code := cL tP
noncomputable abbrev aZw : Code := cL hU
noncomputable abbrev bBb : Code := cL aDc
noncomputable abbrev aWm : Code := cL aBf
noncomputable abbrev aHi : Code := cL aIh
noncomputable abbrev pC : Code := cL aCt
noncomputable abbrev aAy : Code := cR pC
noncomputable abbrev sP : Code := cL aAy
noncomputable abbrev hD : Code := cL sP
noncomputable abbrev uK : Code := cR hD
noncomputable abbrev sA : Code := cR uK
noncomputable abbrev cNw : Code := cR sA
noncomputable abbrev aJp : Code := cL sA
noncomputable abbrev bCm : Code := cL uK
noncomputable abbrev aWu : Code := cL hD
noncomputable abbrev aXg : Code := cL pC
noncomputable abbrev aDt : Code := cL aHo
noncomputable abbrev aGf : Code := cL aDs
noncomputable abbrev aCo : Code := cL c175
noncomputable abbrev r175 : K := aT CF Tryz.f175
noncomputable def D175 (r : RT) (n : Nat) (c : Code) (X : Nat → K) (k : K) : K := aM CF r 144 n c X r175 k
theorem cLz : D175 r n dBz x0 r175 = (K2 (bT r n) 6 9) :=
 (by kernel_rfl)
theorem bPn (kk9 : fD) : D175 r n cQq (xs (xs x0 2 (K2 (bT r n) 6 9)) 3 (K6 kk9 2 3 6 7 9 10)) (K6 kk9 2 3 6 7 9 10) = (K8 (sB r n kk9) 2 3 6 7 9 10 11 14) :=
 (by kernel_rfl)
theorem bEl (kk9 : fD) : D175 r n sI (xs (xs x0 2 (K2 (bT r n) 6 9)) 3 (K6 kk9 2 3 6 7 9 10)) (K6 kk9 2 3 6 7 9 10) = D175 r n aXz (xs (xs x0 2 (K2 (bT r n) 6 9)) 3 (K6 kk9 2 3 6 7 9 10)) (K8 (sB r n kk9) 2 3 6 7 9 10 11 14) :=
 congrArg (fun k => D175 r n aXz (xs (xs x0 2 (K2 (bT r n) 6 9)) 3 (K6 kk9 2 3 6 7 9 10)) k) (bPn r n kk9)
theorem bJb (kk9 : fD) : D175 r n sI (xs (xs x0 2 (K2 (bT r n) 6 9)) 3 (K6 kk9 2 3 6 7 9 10)) (K6 kk9 2 3 6 7 9 10) = (K10 (aHt r n kk9) 2 3 6 7 9 10 11 12 13 14) :=
 (bEl r n kk9).trans
 ((by kernel_rfl))
theorem bGl (kk9 : fD) : D175 r n sG (xs (xs x0 2 (K2 (bT r n) 6 9)) 3 (K6 kk9 2 3 6 7 9 10)) (K6 kk9 2 3 6 7 9 10) = D175 r n aXs (xs (xs x0 2 (K2 (bT r n) 6 9)) 3 (K6 kk9 2 3 6 7 9 10)) (K10 (aHt r n kk9) 2 3 6 7 9 10 11 12 13 14) :=
 congrArg (fun k => D175 r n aXs (xs (xs x0 2 (K2 (bT r n) 6 9)) 3 (K6 kk9 2 3 6 7 9 10)) k) (bJb r n kk9)
theorem cBx (kk9 : fD) : D175 r n sG (xs (xs x0 2 (K2 (bT r n) 6 9)) 3 (K6 kk9 2 3 6 7 9 10)) (K6 kk9 2 3 6 7 9 10) = (K10 (aCc r n kk9) 2 3 6 7 9 10 11 12 13 14) :=
 (bGl r n kk9).trans
 ((by kernel_rfl))
theorem bDw (kk9 : fD) : D175 r n tN (xs (xs x0 2 (K2 (bT r n) 6 9)) 3 (K6 kk9 2 3 6 7 9 10)) (K6 kk9 2 3 6 7 9 10) = D175 r n aYt (xs (xs x0 2 (K2 (bT r n) 6 9)) 3 (K6 kk9 2 3 6 7 9 10)) (K10 (aCc r n kk9) 2 3 6 7 9 10 11 12 13 14) :=
 congrArg (fun k => D175 r n aYt (xs (xs x0 2 (K2 (bT r n) 6 9)) 3 (K6 kk9 2 3 6 7 9 10)) k) (cBx r n kk9)
theorem bZz (kk9 : fD) : D175 r n tN (xs (xs x0 2 (K2 (bT r n) 6 9)) 3 (K6 kk9 2 3 6 7 9 10)) (K6 kk9 2 3 6 7 9 10) = (K9 (aGp r n kk9) 2 3 6 7 9 10 11 12 13) :=
 (bDw r n kk9).trans
 ((by kernel_rfl))
theorem bGc (kk9 : fD) : D175 r n tK (xs (xs x0 2 (K2 (bT r n) 6 9)) 3 (K6 kk9 2 3 6 7 9 10)) (K6 kk9 2 3 6 7 9 10) = D175 r n aWp (xs (xs x0 2 (K2 (bT r n) 6 9)) 3 (K6 kk9 2 3 6 7 9 10)) (K9 (aGp r n kk9) 2 3 6 7 9 10 11 12 13) :=
 congrArg (fun k => D175 r n aWp (xs (xs x0 2 (K2 (bT r n) 6 9)) 3 (K6 kk9 2 3 6 7 9 10)) k) (bZz r n kk9)
theorem bXt (kk9 : fD) : D175 r n tK (xs (xs x0 2 (K2 (bT r n) 6 9)) 3 (K6 kk9 2 3 6 7 9 10)) (K6 kk9 2 3 6 7 9 10) = (K7 (aJm r n kk9) 2 3 6 7 9 10 11) :=
 (bGc r n kk9).trans
 ((by kernel_rfl))
theorem bHd (kk9 : fD) : D175 r n sK (xs (xs x0 2 (K2 (bT r n) 6 9)) 3 (K6 kk9 2 3 6 7 9 10)) (K6 kk9 2 3 6 7 9 10) = D175 r n aYs (xs (xs x0 2 (K2 (bT r n) 6 9)) 3 (K6 kk9 2 3 6 7 9 10)) (K7 (aJm r n kk9) 2 3 6 7 9 10 11) :=
 congrArg (fun k => D175 r n aYs (xs (xs x0 2 (K2 (bT r n) 6 9)) 3 (K6 kk9 2 3 6 7 9 10)) k) (bXt r n kk9)
theorem bOf (kk9 : fD) : D175 r n sK (xs (xs x0 2 (K2 (bT r n) 6 9)) 3 (K6 kk9 2 3 6 7 9 10)) (K6 kk9 2 3 6 7 9 10) = (K7 (aIt r n kk9) 2 3 6 7 9 10 11) :=
 (bHd r n kk9).trans
 ((by kernel_rfl))
theorem bDe (kk9 : fD) : D175 r n tP (xs (xs x0 2 (K2 (bT r n) 6 9)) 3 (K6 kk9 2 3 6 7 9 10)) (K6 kk9 2 3 6 7 9 10) = D175 r n aVs (xs (xs x0 2 (K2 (bT r n) 6 9)) 3 (K6 kk9 2 3 6 7 9 10)) (K7 (aIt r n kk9) 2 3 6 7 9 10 11) :=
 congrArg (fun k => D175 r n aVs (xs (xs x0 2 (K2 (bT r n) 6 9)) 3 (K6 kk9 2 3 6 7 9 10)) k) (bOf r n kk9)
theorem bRj (kk9 : fD) : D175 r n aKa (xs x0 2 (K2 (bT r n) 6 9)) (K6 kk9 2 3 6 7 9 10) = (K6 (aIl r n kk9) 2 3 6 7 9 10) :=
 (by kernel_rfl : D175 r n aKa (xs x0 2 (K2 (bT r n) 6 9)) (K6 kk9 2 3 6 7 9 10) = D175 r n tP (xs (xs x0 2 (K2 (bT r n) 6 9)) 3 (K6 kk9 2 3 6 7 9 10)) (K6 kk9 2 3 6 7 9 10)).trans
 ((bDe r n kk9).trans
 ((by kernel_rfl)))
theorem bJm (kk9 : fD) : D175 r n hU (xs x0 2 (K2 (bT r n) 6 9)) (K6 kk9 2 3 6 7 9 10) = D175 r n aZw (xs x0 2 (K2 (bT r n) 6 9)) (K6 (aIl r n kk9) 2 3 6 7 9 10) :=
 congrArg (fun k => D175 r n aZw (xs x0 2 (K2 (bT r n) 6 9)) k) (bRj r n kk9)
theorem bMg (kk9 : fD) : D175 r n hU (xs x0 2 (K2 (bT r n) 6 9)) (K6 kk9 2 3 6 7 9 10) = (K6 (aYh r n kk9) 2 3 6 7 9 10) :=
 (bJm r n kk9).trans
 ((by kernel_rfl))
theorem bXb (m : Nat) : aN (fun kk => D175 r n hU (xs x0 2 (K2 (bT r n) 6 9)) kk) m = (K6 (rY r n m) 2 3 6 7 9 10) := by
 induction m with
 | zero => exact (by kernel_rfl : aN (fun kk => D175 r n hU (xs x0 2 (K2 (bT r n) 6 9)) kk) 0 = (K6 (rY r n 0) 2 3 6 7 9 10))
 | succ m ih =>
  refine (by kernel_rfl : aN (fun kk => D175 r n hU (xs x0 2 (K2 (bT r n) 6 9)) kk) (m + 1) = D175 r n hU (xs x0 2 (K2 (bT r n) 6 9)) (aN (fun kk => D175 r n hU (xs x0 2 (K2 (bT r n) 6 9)) kk) m)).trans ?_
  rw [ih]
  exact (bMg r n (rY r n m)).trans (by kernel_rfl)
theorem cHd : D175 r n uO (xs x0 2 (K2 (bT r n) 6 9)) (K2 (bT r n) 6 9) = (K6 (bQb r n) 2 3 6 7 9 10) :=
 (by kernel_rfl : D175 r n uO (xs x0 2 (K2 (bT r n) 6 9)) (K2 (bT r n) 6 9) = aN (fun kk => D175 r n hU (xs x0 2 (K2 (bT r n) 6 9)) kk) n).trans ((bXb r n n).trans (by kernel_rfl))
theorem bVi : D175 r n aCf x0 r175 = D175 r n uH x0 (K2 (bT r n) 6 9) :=
 congrArg (fun k => D175 r n uH x0 k) (cLz r n)
theorem cOp : D175 r n aCf x0 r175 = (K6 (aSd r n) 2 3 6 7 9 10) :=
 (bVi r n).trans
 ((by kernel_rfl : D175 r n uH x0 (K2 (bT r n) 6 9) = D175 r n uO (xs x0 2 (K2 (bT r n) 6 9)) (K2 (bT r n) 6 9)).trans
 ((cHd r n).trans (by kernel_rfl)))
theorem bQm : D175 r n aDc x0 r175 = D175 r n bBb x0 (K6 (aSd r n) 2 3 6 7 9 10) :=
 congrArg (fun k => D175 r n bBb x0 k) (cOp r n)
theorem cIm : D175 r n aDc x0 r175 = (K6 (aRj r n) 2 3 6 7 9 10) :=
 (bQm r n).trans
 ((by kernel_rfl))
theorem bFt : D175 r n aBf x0 r175 = D175 r n aWm x0 (K6 (aRj r n) 2 3 6 7 9 10) :=
 congrArg (fun k => D175 r n aWm x0 k) (cIm r n)
theorem cDb : D175 r n aBf x0 r175 = (K5 (xW r n) 2 3 6 7 9) :=
 (bFt r n).trans
 ((by kernel_rfl))
theorem bGu : D175 r n aIh x0 r175 = D175 r n aHi x0 (K5 (xW r n) 2 3 6 7 9) :=
 congrArg (fun k => D175 r n aHi x0 k) (cDb r n)
theorem bGa (q0 : cD) : D175 r n aHi x0 (K5 q0 2 3 6 7 9) = fun (env : aY) (h : Hp) =>
 bnd (bK [(.b false)] h) fun v1 h1 =>
 bnd (aG 1 v1 (.b true) h1) fun _ h2 =>
  q0 (env 2) (env 3) (env 6) (env 7) v1 h2 := by kernel_rfl
theorem aPr : (fun (env : aY) (h : Hp) =>
 bnd (bK [(.b false)] h) fun v1 h1 =>
 bnd (aG 1 v1 (.b true) h1) fun _ h2 =>
  xW r n (env 2) (env 3) (env 6) (env 7) v1 h2) = (K4 (cK r n) 2 3 6 7) := by kernel_rfl
theorem cGj : D175 r n aIh x0 r175 = (K4 (cK r n) 2 3 6 7) :=
 (bGu r n).trans
 ((bGa r n (xW r n)).trans (aPr r n))
theorem bOo (kk18 : fD) : D175 r n cNw (xs x0 0 (K4 (cK r n) 2 3 6 7)) (K6 kk18 2 3 6 7 19 20) = (K6 (kN r n kk18) 2 3 6 7 19 20) :=
 (by kernel_rfl)
theorem aPt (kk18 : fD) : D175 r n sA (xs x0 0 (K4 (cK r n) 2 3 6 7)) (K6 kk18 2 3 6 7 19 20) = D175 r n aJp (xs x0 0 (K4 (cK r n) 2 3 6 7)) (K6 (kN r n kk18) 2 3 6 7 19 20) :=
 congrArg (fun k => D175 r n aJp (xs x0 0 (K4 (cK r n) 2 3 6 7)) k) (bOo r n kk18)
theorem aPg (kk18 : fD) (q0 : fD) (q1 : dQ) : D175 r n aJp (xs x0 0 (K4 q1 2 3 6 7)) (K6 q0 2 3 6 7 19 20) = fun (env : aY) (h : Hp) =>
 bnd (aA (env 6) h) fun v1 h1 =>
 bnd (aH 1 v1 (env 20) h1) fun v2 h2 =>
 bnd (aG 1 v2 (.i .i64 (Int.negSucc 0)) h2) fun _ h3 =>
 bnd (aD .eql (env 20) (aE 0) h3) fun v4 h4 =>
 bnd (gD v4 false (some ((env 20), h4)) h4) fun v5 h5 =>
 bnd (gD v4 false (aD .gtr v5 (aE 1) h5) h5) fun v6 h6 =>
 bnd (gD v4 false (some (v6, h6)) h6) fun v7 h7 =>
 bnd (gD v7 true (aA (env 2) h7) h7) fun v8 h8 =>
 bnd (gD v7 true (some ((env 20), h8)) h8) fun v9 h9 =>
 bnd (gD v7 true (aD .sub v9 (aE 2) h9) h9) fun v10 h10 =>
 bnd (gD v7 true (aH 3 v8 v10 h10) h10) fun v11 h11 =>
 bnd (gD v7 true (aB 0 v11 h11) h11) fun v12 h12 =>
 bnd (gD v7 true (aA v12 h12) h12) fun v13 h13 =>
 bnd (gD v7 true (aD .eql v13 (aE 18) h13) h13) fun v14 h14 =>
 bnd (gD v4 false (aO v7 v14 (.b false) h14) h14) fun v15 h15 =>
 bnd (gD v4 false (some (v15, h15)) h15) fun v16 h16 =>
 bnd (gD v16 true (aA (env 3) h16) h16) fun v17 h17 =>
 bnd (gD v16 true (some ((env 20), h17)) h17) fun v18 h18 =>
 bnd (gD v16 true (aH 1 v17 v18 h18) h18) fun v19 h19 =>
 bnd (gD v16 true (aA v19 h19) h19) fun v20 h20 =>
 bnd (gD v16 true (some ((env 20), h20)) h20) fun v21 h21 =>
 bnd (gD v16 true (aD .sub v21 (aE 2) h21) h21) fun v22 h22 =>
 bnd (gD v16 true (aD .eql v20 v22 h22) h22) fun v23 h23 =>
 bnd (gD v4 false (aO v16 v23 (.b false) h23) h23) fun v24 h24 =>
 bnd (aO v4 (.b true) v24 h24) fun v25 h25 =>
 aP v25 (
 bnd (aA (env 6) h25) fun v26 h26 =>
 bnd (aH 1 v26 (env 20) h26) fun v27 h27 =>
 bnd (aG 1 v27 (aE 0) h27) fun _ h28 =>
 bnd (aA (env 7) h28) fun v29 h29 =>
 bnd (aL [(aE 0)] 1 [(0, 1, (env 20))] h29) fun v30 h30 =>
 bnd (aZ 1 8 v29 v30 h30) fun v31 h31 =>
 bnd (aG 1 (env 7) v31 h31) fun _ h32 =>
      q0 (env 2) (env 3) (env 6) (env 7) (env 19) (env 20) h32) (
      q0 (env 2) (env 3) (env 6) (env 7) (env 19) (env 20) h25) := by kernel_rfl
theorem aMw (kk18 : fD) : (fun (env : aY) (h : Hp) =>
 bnd (aA (env 6) h) fun v1 h1 =>
 bnd (aH 1 v1 (env 20) h1) fun v2 h2 =>
 bnd (aG 1 v2 (.i .i64 (Int.negSucc 0)) h2) fun _ h3 =>
 bnd (aD .eql (env 20) (aE 0) h3) fun v4 h4 =>
 bnd (gD v4 false (some ((env 20), h4)) h4) fun v5 h5 =>
 bnd (gD v4 false (aD .gtr v5 (aE 1) h5) h5) fun v6 h6 =>
 bnd (gD v4 false (some (v6, h6)) h6) fun v7 h7 =>
 bnd (gD v7 true (aA (env 2) h7) h7) fun v8 h8 =>
 bnd (gD v7 true (some ((env 20), h8)) h8) fun v9 h9 =>
 bnd (gD v7 true (aD .sub v9 (aE 2) h9) h9) fun v10 h10 =>
 bnd (gD v7 true (aH 3 v8 v10 h10) h10) fun v11 h11 =>
 bnd (gD v7 true (aB 0 v11 h11) h11) fun v12 h12 =>
 bnd (gD v7 true (aA v12 h12) h12) fun v13 h13 =>
 bnd (gD v7 true (aD .eql v13 (aE 18) h13) h13) fun v14 h14 =>
 bnd (gD v4 false (aO v7 v14 (.b false) h14) h14) fun v15 h15 =>
 bnd (gD v4 false (some (v15, h15)) h15) fun v16 h16 =>
 bnd (gD v16 true (aA (env 3) h16) h16) fun v17 h17 =>
 bnd (gD v16 true (some ((env 20), h17)) h17) fun v18 h18 =>
 bnd (gD v16 true (aH 1 v17 v18 h18) h18) fun v19 h19 =>
 bnd (gD v16 true (aA v19 h19) h19) fun v20 h20 =>
 bnd (gD v16 true (some ((env 20), h20)) h20) fun v21 h21 =>
 bnd (gD v16 true (aD .sub v21 (aE 2) h21) h21) fun v22 h22 =>
 bnd (gD v16 true (aD .eql v20 v22 h22) h22) fun v23 h23 =>
 bnd (gD v4 false (aO v16 v23 (.b false) h23) h23) fun v24 h24 =>
 bnd (aO v4 (.b true) v24 h24) fun v25 h25 =>
 aP v25 (
 bnd (aA (env 6) h25) fun v26 h26 =>
 bnd (aH 1 v26 (env 20) h26) fun v27 h27 =>
 bnd (aG 1 v27 (aE 0) h27) fun _ h28 =>
 bnd (aA (env 7) h28) fun v29 h29 =>
 bnd (aL [(aE 0)] 1 [(0, 1, (env 20))] h29) fun v30 h30 =>
 bnd (aZ 1 8 v29 v30 h30) fun v31 h31 =>
 bnd (aG 1 (env 7) v31 h31) fun _ h32 =>
      kN r n kk18 (env 2) (env 3) (env 6) (env 7) (env 19) (env 20) h32) (
      kN r n kk18 (env 2) (env 3) (env 6) (env 7) (env 19) (env 20) h25)) = (K6 (sC r n kk18) 2 3 6 7 19 20) := by kernel_rfl
theorem bLx (kk18 : fD) : D175 r n sA (xs x0 0 (K4 (cK r n) 2 3 6 7)) (K6 kk18 2 3 6 7 19 20) = (K6 (sC r n kk18) 2 3 6 7 19 20) :=
 (aPt r n kk18).trans
 ((aPg r n kk18 (kN r n kk18) (cK r n)).trans (aMw r n kk18))
theorem aUi (kk18 : fD) : D175 r n uK (xs x0 0 (K4 (cK r n) 2 3 6 7)) (K6 kk18 2 3 6 7 19 20) = D175 r n bCm (xs x0 0 (K4 (cK r n) 2 3 6 7)) (K6 (sC r n kk18) 2 3 6 7 19 20) :=
 congrArg (fun k => D175 r n bCm (xs x0 0 (K4 (cK r n) 2 3 6 7)) k) (bLx r n kk18)
theorem bKv (kk18 : fD) : D175 r n uK (xs x0 0 (K4 (cK r n) 2 3 6 7)) (K6 kk18 2 3 6 7 19 20) = (K7 (aGb r n kk18) 2 3 6 7 19 20 21) :=
 (aUi r n kk18).trans
 ((by kernel_rfl))
theorem aSs (kk18 : fD) : D175 r n hD (xs x0 0 (K4 (cK r n) 2 3 6 7)) (K6 kk18 2 3 6 7 19 20) = D175 r n aWu (xs x0 0 (K4 (cK r n) 2 3 6 7)) (K7 (aGb r n kk18) 2 3 6 7 19 20 21) :=
 congrArg (fun k => D175 r n aWu (xs x0 0 (K4 (cK r n) 2 3 6 7)) k) (bKv r n kk18)
theorem bEb (kk18 : fD) : D175 r n hD (xs x0 0 (K4 (cK r n) 2 3 6 7)) (K6 kk18 2 3 6 7 19 20) = (K6 (aMq r n kk18) 2 3 6 7 19 20) :=
 (aSs r n kk18).trans
 ((by kernel_rfl))
theorem bEd (m : Nat) : aN (fun kk => D175 r n hD (xs x0 0 (K4 (cK r n) 2 3 6 7)) kk) m = (K6 (oJ r n m) 2 3 6 7 19 20) := by
 induction m with
 | zero => exact (by kernel_rfl : aN (fun kk => D175 r n hD (xs x0 0 (K4 (cK r n) 2 3 6 7)) kk) 0 = (K6 (oJ r n 0) 2 3 6 7 19 20))
 | succ m ih =>
  refine (by kernel_rfl : aN (fun kk => D175 r n hD (xs x0 0 (K4 (cK r n) 2 3 6 7)) kk) (m + 1) = D175 r n hD (xs x0 0 (K4 (cK r n) 2 3 6 7)) (aN (fun kk => D175 r n hD (xs x0 0 (K4 (cK r n) 2 3 6 7)) kk) m)).trans ?_
  rw [ih]
  exact (bEb r n (oJ r n m)).trans (by kernel_rfl)
theorem bXu : D175 r n sP (xs x0 0 (K4 (cK r n) 2 3 6 7)) (K4 (cK r n) 2 3 6 7) = (K6 (aZh r n) 2 3 6 7 19 20) :=
 (by kernel_rfl : D175 r n sP (xs x0 0 (K4 (cK r n) 2 3 6 7)) (K4 (cK r n) 2 3 6 7) = aN (fun kk => D175 r n hD (xs x0 0 (K4 (cK r n) 2 3 6 7)) kk) n).trans ((bEd r n n).trans (by kernel_rfl))
theorem bTz : D175 r n aAy x0 (K4 (cK r n) 2 3 6 7) = (K6 (aGc r n) 2 3 6 7 19 20) :=
 (by kernel_rfl : D175 r n aAy x0 (K4 (cK r n) 2 3 6 7) = D175 r n sP (xs x0 0 (K4 (cK r n) 2 3 6 7)) (K4 (cK r n) 2 3 6 7)).trans
 ((bXu r n).trans (by kernel_rfl))
theorem bGn : D175 r n aCt x0 r175 = D175 r n pC x0 (K4 (cK r n) 2 3 6 7) :=
 congrArg (fun k => D175 r n pC x0 k) (cGj r n)
theorem bDh : D175 r n pC x0 (K4 (cK r n) 2 3 6 7) = D175 r n aXg x0 (K6 (aGc r n) 2 3 6 7 19 20) :=
 congrArg (fun k => D175 r n aXg x0 k) (bTz r n)
theorem cDu : D175 r n aCt x0 r175 = (K4 (uR r n) 2 3 6 7) :=
 (bGn r n).trans
 ((bDh r n).trans
 ((by kernel_rfl)))
theorem bGh : D175 r n aHo x0 r175 = D175 r n aDt x0 (K4 (uR r n) 2 3 6 7) :=
 congrArg (fun k => D175 r n aDt x0 k) (cDu r n)
theorem bEk (q0 : dQ) : D175 r n aDt x0 (K4 q0 2 3 6 7) = fun (env : aY) (h : Hp) =>
 bnd (bK [.l0] h) fun v1 h1 =>
  q0 (env 2) (env 3) (env 6) v1 h1 := by kernel_rfl
theorem aQc : (fun (env : aY) (h : Hp) =>
 bnd (bK [.l0] h) fun v1 h1 =>
  uR r n (env 2) (env 3) (env 6) v1 h1) = (K3 (qR r n) 2 3 6) := by kernel_rfl
theorem cJf : D175 r n aHo x0 r175 = (K3 (qR r n) 2 3 6) :=
 (bGh r n).trans
 ((bEk r n (uR r n)).trans (aQc r n))
theorem bFw : D175 r n aDs x0 r175 = D175 r n aGf x0 (K3 (qR r n) 2 3 6) :=
 congrArg (fun k => D175 r n aGf x0 k) (cJf r n)
theorem bFp (q0 : mM) : D175 r n aGf x0 (K3 q0 2 3 6) = fun (env : aY) (h : Hp) =>
 bnd (aA (env 2) h) fun v1 h1 =>
 bnd (bW v1 h1) fun v2 h2 =>
 bnd (cH 1 8 [(aE 0)] v2 v2 h2) fun v3 h3 =>
 bnd (bK [.l0] h3) fun v4 h4 =>
 bnd (aG 1 v4 v3 h4) fun _ h5 =>
  q0 (env 2) (env 3) v4 h5 := by kernel_rfl
theorem aTl : (fun (env : aY) (h : Hp) =>
 bnd (aA (env 2) h) fun v1 h1 =>
 bnd (bW v1 h1) fun v2 h2 =>
 bnd (cH 1 8 [(aE 0)] v2 v2 h2) fun v3 h3 =>
 bnd (bK [.l0] h3) fun v4 h4 =>
 bnd (aG 1 v4 v3 h4) fun _ h5 =>
  qR r n (env 2) (env 3) v4 h5) = (K2 (qF r n) 2 3) := by kernel_rfl
theorem cNs : D175 r n aVd x0 r175 = (K2 (qF r n) 2 3) :=
 (by kernel_rfl : D175 r n aVd x0 r175 = D175 r n aDs x0 r175).trans
 ((bFw r n).trans
 ((bFp r n (qR r n)).trans (aTl r n)))
theorem cPk : D175 r n c175 x0 r175 = D175 r n aCo x0 (K2 (qF r n) 2 3) :=
 congrArg (fun k => D175 r n aCo x0 k) (cNs r n)
theorem cIg (q0 : gF) : D175 r n aCo x0 (K2 q0 2 3) = fun (env : aY) (h : Hp) =>
 bnd (bQ (env 0) h) fun v1 h1 =>
 bnd (bQ (env 1) h1) fun v2 h2 =>
  q0 v1 v2 h2 := by kernel_rfl
theorem bZn : (fun (env : aY) (h : Hp) =>
 bnd (bQ (env 0) h) fun v1 h1 =>
 bnd (bQ (env 1) h1) fun v2 h2 =>
  qF r n v1 v2 h2) = (K2 (s175 r n) 0 1) := by kernel_rfl
theorem dGg : D175 r n c175 x0 r175 = (K2 (s175 r n) 0 1) :=
 (cPk r n).trans
 ((cIg r n (qF r n)).trans (bZn r n))
theorem dDh : aF CF r n 175 args h = s175 r n (aQ args 0) (aQ args 1) h :=
 (by kernel_rfl : aF CF r n 175 args h = D175 r n c175 x0 r175 (aJ args) h).trans ((congrFun (congrFun (dGg r n) (aJ args)) h).trans (by kernel_rfl))
noncomputable def s177 (r : RT) (n : Nat) (x0 : DV) (h0 : Hp) : aI :=
 bnd (r 148 [x0] h0) fun v1 h1 =>
 bnd (gD v1 false (some (x0, h1)) h1) fun v2 h2 =>
 bnd (gD v1 false (r 151 [v2] h2) h2) fun v3 h3 =>
 bnd (aO v1 (.b true) v3 h3) fun v4 h4 =>
 some (v4, h4)
noncomputable abbrev c177 : Code := cf Tryz.f177
noncomputable abbrev r177 : K := aT CF Tryz.f177
noncomputable def D177 (r : RT) (n : Nat) (c : Code) (X : Nat → K) (k : K) : K := aM CF r 9 n c X r177 k
theorem dLm : D177 r n c177 x0 r177 = (K1 (s177 r n) 0) :=
 (by kernel_rfl)
theorem dAg : aF CF r n 177 args h = s177 r n (aQ args 0) h :=
 (by kernel_rfl : aF CF r n 177 args h = D177 r n c177 x0 r177 (aJ args) h).trans ((congrFun (congrFun (dLm r n) (aJ args)) h).trans (by kernel_rfl))
end Go.Dd

