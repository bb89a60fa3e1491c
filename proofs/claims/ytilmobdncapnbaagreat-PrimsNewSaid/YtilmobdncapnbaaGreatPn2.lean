/- A part of the proof: Q3 Q4 Q5 Q6 Q7: each text has a comment of its own. -/
import Derived.Test.YtilmobdncapnbaaGreatPn1
set_option linter.unusedVariables false
set_option linter.unusedSimpArgs false
set_option linter.constructorNameAsVariable false
set_option maxRecDepth 100000
namespace Go.Dd
open Go.Proofs
variable (r : RT) (n : Nat) (args : List DV) (h : Hp)
noncomputable def s95 (r : RT) (n : Nat) (x0 : DV) (h0 : Hp) : aH :=
 aT x0 (
 some (.t [(aE 2), (aE 0)], h0)) (
 some (.t [(aE 4), (aE 0)], h0))
noncomputable abbrev c95 : Code := cf Tryz.f95
noncomputable abbrev r95 : K := aP CF Tryz.f95
noncomputable def D95 (r : RT) (n : Nat) (c : Code) (X : Nat → K) (k : K) : K := aN CF r 5 n c X r95 k
theorem dRu : D95 r n c95 x0 r95 = (K1 (s95 r n) 0) :=
 (by kernel_rfl)
theorem dOe : aF CF r n 95 args h = s95 r n (aU args 0) h :=
 (by kernel_rfl : aF CF r n 95 args h = D95 r n c95 x0 r95 (aI args) h).trans ((congrFun (congrFun (dRu r n) (aI args)) h).trans (by kernel_rfl))
noncomputable def s99 (r : RT) (n : Nat) (x0 : DV) (h0 : Hp) : aH :=
 bnd (bN iJ h0) fun v1 h1 =>
 bnd (r 110 [x0, (.f 111 [] [])] h1) fun v2 h2 =>
 bnd (aC 0 v2 h2) fun v3 h3 =>
 bnd (aC 1 v2 h3) fun v4 h4 =>
 bnd (aC 2 v2 h4) fun v5 h5 =>
 bnd (aG 6 v1 v3 h5) fun _ h6 =>
 bnd (aK 6 v1 h6) fun v7 _ =>
 some (.t [v7, v4, v5], h6)
noncomputable abbrev c99 : Code := cf Tryz.f99
noncomputable abbrev r99 : K := aP CF Tryz.f99
noncomputable def D99 (r : RT) (n : Nat) (c : Code) (X : Nat → K) (k : K) : K := aN CF r 10 n c X r99 k
theorem dPn : D99 r n c99 x0 r99 = (K1 (s99 r n) 0) :=
 (by kernel_rfl)
theorem dNg : aF CF r n 99 args h = s99 r n (aU args 0) h :=
 (by kernel_rfl : aF CF r n 99 args h = D99 r n c99 x0 r99 (aI args) h).trans ((congrFun (congrFun (dPn r n) (aI args)) h).trans (by kernel_rfl))
noncomputable def s100 (r : RT) (n : Nat) (x0 x1 : DV) (h0 : Hp) : aH :=
 bnd (bR x0 h0) fun v1 h1 =>
 bnd (bN [(.s []), (aE 0), (aE 0), (aE 0), .l0, .l0] h1) fun v2 h2 =>
 bnd (aK 6 v1 h2) fun v3 h3 =>
 bnd (r 112 [v3, x1, (.b false)] h3) fun v4 h4 =>
 bnd (aC 0 v4 h4) fun v5 h5 =>
 bnd (aC 1 v4 h5) fun v6 h6 =>
 bnd (aC 2 v4 h6) fun v7 h7 =>
 bnd (aG 6 v2 v5 h7) fun _ h8 =>
 bnd (aK 6 v2 h8) fun v9 _ =>
 some (.t [v9, v6, v7], h8)
noncomputable abbrev c100 : Code := cf Tryz.f100
noncomputable abbrev r100 : K := aP CF Tryz.f100
noncomputable def D100 (r : RT) (n : Nat) (c : Code) (X : Nat → K) (k : K) : K := aN CF r 13 n c X r100 k
theorem dJu : D100 r n c100 x0 r100 = (K2 (s100 r n) 0 1) :=
 (by kernel_rfl)
theorem dEc : aF CF r n 100 args h = s100 r n (aU args 0) (aU args 1) h :=
 (by kernel_rfl : aF CF r n 100 args h = D100 r n c100 x0 r100 (aI args) h).trans ((congrFun (congrFun (dJu r n) (aI args)) h).trans (by kernel_rfl))
noncomputable def s101 (r : RT) (n : Nat) (x0 x1 x2 : DV) (h0 : Hp) : aH :=
 bnd (bR x2 h0) fun v1 h1 =>
 bnd (aK 6 v1 h1) fun v2 h2 =>
 bnd (r 113 [x0, x1, v2] h2) fun v3 h3 =>
 bnd (aC 0 v3 h3) fun v4 h4 =>
 bnd (aC 1 v3 h4) fun v5 h5 =>
 bnd (aD .neq v5 (aE 0) h5) fun v6 h6 =>
 aT v6 (
 some (.t [(aE 0), v5], h6)) (
 bnd (r 51 [x0, v4, (aE 0)] h6) fun v7 h7 =>
 bnd (r 114 [x0, x1, v7, v4] h7) fun v8 h8 =>
 bnd (aD .neq v8 (aE 0) h8) fun v9 h9 =>
 aT v9 (
 some (.t [(aE 0), v8], h9)) (
 some (.t [v4, (aE 0)], h9)))
noncomputable abbrev c101 : Code := cf Tryz.f101
noncomputable abbrev r101 : K := aP CF Tryz.f101
noncomputable def D101 (r : RT) (n : Nat) (c : Code) (X : Nat → K) (k : K) : K := aN CF r 32 n c X r101 k
theorem dKt : D101 r n c101 x0 r101 = (K3 (s101 r n) 0 1 2) :=
 (by kernel_rfl)
theorem dFb : aF CF r n 101 args h = s101 r n (aU args 0) (aU args 1) (aU args 2) h :=
 (by kernel_rfl : aF CF r n 101 args h = D101 r n c101 x0 r101 (aI args) h).trans ((congrFun (congrFun (dKt r n) (aI args)) h).trans (by kernel_rfl))
noncomputable def s110 (r : RT) (n : Nat) (x0 x1 : DV) (h0 : Hp) : aH :=
 bnd (bN iJ h0) fun v1 h1 =>
 bnd (r 117 [x0] h1) fun v2 h2 =>
 bnd (aC 0 v2 h2) fun v3 h3 =>
 bnd (aC 1 v2 h3) fun v4 h4 =>
 bnd (aC 2 v2 h4) fun v5 h5 =>
 bnd (aD .neq v5 (aE 0) h5) fun v6 h6 =>
 aT v6 (
 bnd (bB iJ [] h6) fun v7 h7 =>
 bnd (aG 6 v1 v7 h7) fun _ h8 =>
 bnd (aK 6 v1 h8) fun v9 _ =>
 some (.t [v9, v4, v5], h8)) (
 bnd (bB [.l0, (aE 0), (aE 0), (aE 0)] [(0, 1, v3)] h6) fun v10 h10 =>
 bnd (bR v10 h10) fun v11 h11 =>
 bnd (cZ CF r x1 [v11] h11) fun v12 h12 =>
 bnd (bN iJ h12) fun v13 h13 =>
 bnd (aG 6 v13 v12 h13) fun _ h14 =>
 bnd (r 118 [v11] h14) fun v15 h15 =>
 bnd (aB 4 v13 h15) fun v16 h16 =>
 bnd (aG 1 v16 v15 h16) fun _ h17 =>
 bnd (r 119 [v11] h17) fun v18 h18 =>
 bnd (aB 5 v13 h18) fun v19 h19 =>
 bnd (aG 1 v19 v18 h19) fun _ h20 =>
 bnd (r 120 [v11, (aE 0), (.s [])] h20) fun v21 h21 =>
 bnd (aQ v11 h21) fun v22 h22 =>
 bnd (aB 3 v22 h22) fun v23 h23 =>
 bnd (aA v23 h23) fun v24 h24 =>
 bnd (aD .neq v24 (aE 0) h24) fun v25 h25 =>
 aT v25 (
 bnd (bB iJ [] h25) fun v26 h26 =>
 bnd (aQ v11 h26) fun v27 h27 =>
 bnd (aB 2 v27 h27) fun v28 h28 =>
 bnd (aA v28 h28) fun v29 h29 =>
 bnd (aQ v11 h29) fun v30 h30 =>
 bnd (aB 3 v30 h30) fun v31 h31 =>
 bnd (aA v31 h31) fun v32 h32 =>
 bnd (aG 6 v1 v26 h32) fun v33 h33 =>
 cnd (bI (aA v31 h33) v32 && (bI (aA v28 h33) v29 && true)) (
 bnd (aK 6 v1 h33) fun v34 _ =>
 some (.t [v34, v29, v32], h33))) (
 bnd (aK 6 v13 h25) fun v35 h35 =>
 bnd (aG 6 v1 v35 h35) fun _ h36 =>
 bnd (aK 6 v1 h36) fun v37 _ =>
 some (.t [v37, (aE 0), (aE 0)], h36)))
noncomputable abbrev c110 : Code := cf Tryz.f110
noncomputable abbrev r110 : K := aP CF Tryz.f110
noncomputable def D110 (r : RT) (n : Nat) (c : Code) (X : Nat → K) (k : K) : K := aN CF r 52 n c X r110 k
theorem dIy : D110 r n c110 x0 r110 = (K2 (s110 r n) 0 1) :=
 (by kernel_rfl)
theorem dBy : aF CF r n 110 args h = s110 r n (aU args 0) (aU args 1) h :=
 (by kernel_rfl : aF CF r n 110 args h = D110 r n c110 x0 r110 (aI args) h).trans ((congrFun (congrFun (dIy r n) (aI args)) h).trans (by kernel_rfl))
noncomputable def s111 (r : RT) (n : Nat) (x0 : DV) (h0 : Hp) : aH :=
 bnd (bN iJ h0) fun v1 h1 =>
 bnd (bB iJ [(0, 1, (aE 11))] h1) fun v2 h2 =>
 bnd (bN iJ h2) fun v3 h3 =>
 bnd (aG 6 v3 v2 h3) fun _ h4 =>
 bnd (r 121 [x0, v3] h4) fun v5 h5 =>
 bnd (r 122 [x0] h5) fun v6 h6 =>
 bnd (aB 2 v3 h6) fun v7 h7 =>
 bnd (aG 1 v7 v6 h7) fun _ h8 =>
 bnd (aK 6 v3 h8) fun v9 h9 =>
 bnd (aG 6 v1 v9 h9) fun _ h10 =>
 bnd (aK 6 v1 h10) fun v11 _ =>
 some (v11, h10)
noncomputable abbrev c111 : Code := cf Tryz.f111
noncomputable abbrev r111 : K := aP CF Tryz.f111
noncomputable def D111 (r : RT) (n : Nat) (c : Code) (X : Nat → K) (k : K) : K := aN CF r 11 n c X r111 k
theorem dKk : D111 r n c111 x0 r111 = (K1 (s111 r n) 0) :=
 (by kernel_rfl)
theorem cWh : aF CF r n 111 args h = s111 r n (aU args 0) h :=
 (by kernel_rfl : aF CF r n 111 args h = D111 r n c111 x0 r111 (aI args) h).trans ((congrFun (congrFun (dKk r n) (aI args)) h).trans (by kernel_rfl))
noncomputable def eD (r : RT) (n : Nat) (x6 x9 : DV) (h0 : Hp) : aH :=
 bnd (aQ x9 h0) fun v1 h1 =>
 bnd (aB 0 v1 h1) fun v2 h2 =>
 bnd (aK 6 v2 h2) fun v3 h3 =>
 bnd (aG 6 x6 v3 h3) fun _ h4 =>
 bnd (aK 6 x6 h4) fun v5 _ =>
 some (.t [v5, (.s []), (aE 0)], h4)
noncomputable def aGu (r : RT) (n : Nat) (kk9 : cG) (x6 x9 x94 x95 x96 : DV) (h0 : Hp) : aH :=
 bnd (aD .lss x96 x95 h0) fun v1 h1 =>
 aT v1 (
 bnd (aJ 3 x94 x96 h1) fun v2 h2 =>
 bnd (aK 3 v2 h2) fun v3 h3 =>
 bnd (bN [(aE 0), (aE 0), (aE 0)] h3) fun v4 h4 =>
 bnd (aG 3 v4 v3 h4) fun _ h5 =>
 bnd (aK 3 v4 h5) fun v6 h6 =>
 bnd (r 124 [v6] h6) fun v7 h7 =>
 bnd (hY .not v7 h7) fun v8 h8 =>
 aT v8 (
 bnd (bB [(.s []), (aE 0), (aE 0), (aE 0), .l0, .l0] [] h8) fun v9 h9 =>
 bnd (aG 6 x6 v9 h9) fun _ h10 =>
 bnd (aK 6 x6 h10) fun v11 _ =>
 some (.t [v11, (.s []), (aE 12)], h10)) (
 bnd (aD .add x96 (aE 1) h8) fun v12 h12 =>
    kk9 x6 x9 x94 x95 v12 h12)) (
      eD r n x6 x9 h1)
noncomputable def uC (r : RT) (n : Nat) (m : Nat) : cG :=
 Nat.rec (motive := fun _ => cG) (fun _ _ _ _ _ _ => none) (fun _ ih => aGu r n ih) m
noncomputable def bOc (r : RT) (n : Nat) : cG := uC r n n
noncomputable def aVh (r : RT) (n : Nat) (x6 x9 x94 x95 x96 : DV) (h0 : Hp) : aH :=
 bOc r n x6 x9 x94 x95 x96 h0
noncomputable def yA (r : RT) (n : Nat) (x6 x9 : DV) (h0 : Hp) : aH :=
 bnd (aQ x9 h0) fun v1 h1 =>
 bnd (aB 0 v1 h1) fun v2 h2 =>
 bnd (aB 5 v2 h2) fun v3 h3 =>
 bnd (aA v3 h3) fun v4 h4 =>
 bnd (cA v4 h4) fun v5 h5 =>
  aVh r n x6 x9 v4 v5 (aE 0) h5
noncomputable def aHx (r : RT) (n : Nat) (x6 x9 : DV) (h0 : Hp) : aH :=
 bnd (aQ x9 h0) fun v1 h1 =>
 bnd (aB 8 v1 h1) fun v2 h2 =>
 bnd (aA v2 h2) fun v3 h3 =>
 bnd (aD .neq v3 (aE 0) h3) fun v4 h4 =>
 aT v4 (
 bnd (bB [(.s []), (aE 0), (aE 0), (aE 0), .l0, .l0] [] h4) fun v5 h5 =>
 bnd (aQ x9 h5) fun v6 h6 =>
 bnd (aB 7 v6 h6) fun v7 h7 =>
 bnd (aA v7 h7) fun v8 h8 =>
 bnd (aQ x9 h8) fun v9 h9 =>
 bnd (aB 8 v9 h9) fun v10 h10 =>
 bnd (aA v10 h10) fun v11 h11 =>
 bnd (aG 6 x6 v5 h11) fun v12 h12 =>
 cnd (bI (aA v10 h12) v11 && (bI (aA v7 h12) v8 && true)) (
 bnd (aK 6 x6 h12) fun v13 _ =>
 some (.t [v13, v8, v11], h12))) (
 bnd (aQ x9 h4) fun v14 h14 =>
 bnd (aB 0 v14 h14) fun v15 h15 =>
 bnd (aB 4 v15 h15) fun v16 h16 =>
 bnd (aA v16 h16) fun v17 h17 =>
 bnd (cA v17 h17) fun v18 h18 =>
 bnd (aD .gtr v18 (aE 60) h18) fun v19 h19 =>
 aT v19 (
 bnd (bB [(.s []), (aE 0), (aE 0), (aE 0), .l0, .l0] [] h19) fun v20 h20 =>
 bnd (aG 6 x6 v20 h20) fun _ h21 =>
 bnd (aK 6 x6 h21) fun v22 _ =>
 some (.t [v22, (.s []), (aE 18)], h21)) (
 bnd (aQ x9 h19) fun v23 h23 =>
 bnd (aB 0 v23 h23) fun v24 h24 =>
 bnd (aB 5 v24 h24) fun v25 h25 =>
 bnd (aA v25 h25) fun v26 h26 =>
 bnd (cA v26 h26) fun v27 h27 =>
 bnd (aD .gtr v27 (aE 400) h27) fun v28 h28 =>
 aT v28 (
 bnd (bB [(.s []), (aE 0), (aE 0), (aE 0), .l0, .l0] [] h28) fun v29 h29 =>
 bnd (aG 6 x6 v29 h29) fun _ h30 =>
 bnd (aK 6 x6 h30) fun v31 _ =>
 some (.t [v31, (.s []), (aE 12)], h30)) (
    yA r n x6 x9 h28)))
noncomputable def eF (r : RT) (n : Nat) (x2 x3 x6 x9 : DV) (h0 : Hp) : aH :=
 bnd (aK 6 x3 h0) fun v1 h1 =>
 bnd (r 123 [x9, v1, x2] h1) fun v2 h2 =>
  aHx r n x6 x9 h2
noncomputable def wT (r : RT) (n : Nat) (kk11 : TT7) (x2 x3 x6 x9 x33 x34 x35 : DV) (h0 : Hp) : aH :=
 bnd (aD .lss x35 x34 h0) fun v1 h1 =>
 aT v1 (
 bnd (aJ 1 x33 x35 h1) fun v2 h2 =>
 bnd (aA v2 h2) fun v3 h3 =>
 bnd (aQ x9 h3) fun v4 h4 =>
 bnd (aB 6 v4 h4) fun v5 h5 =>
 bnd (aA v5 h5) fun v6 h6 =>
 bnd (bB [(.s []), (.b false), (.b false), (aE 0)] [(0, 1, v3), (1, 1, (.b true)), (2, 1, (.b false)), (3, 1, x35)] h6) fun v7 h7 =>
 bnd (aL [(.s []), (.b false), (.b false), (aE 0)] 1 [(0, 4, v7)] h7) fun v8 h8 =>
 bnd (aY 4 32 v6 v8 h8) fun v9 h9 =>
 bnd (aQ x9 h9) fun v10 h10 =>
 bnd (aB 6 v10 h10) fun v11 h11 =>
 bnd (aG 1 v11 v9 h11) fun _ h12 =>
 bnd (aD .add x35 (aE 1) h12) fun v13 h13 =>
      kk11 x2 x3 x6 x9 x33 x34 v13 h13) (
      eF r n x2 x3 x6 x9 h1)
noncomputable def pX (r : RT) (n : Nat) (m : Nat) : TT7 :=
 Nat.rec (motive := fun _ => TT7) (fun _ _ _ _ _ _ _ _ => none) (fun _ ih => wT r n ih) m
noncomputable def bDk (r : RT) (n : Nat) : TT7 := pX r n n
noncomputable def aJa (r : RT) (n : Nat) (x2 x3 x6 x9 x33 x34 x35 : DV) (h0 : Hp) : aH :=
 bDk r n x2 x3 x6 x9 x33 x34 x35 h0
noncomputable def wJ (r : RT) (n : Nat) (x1 x2 x3 x6 x9 : DV) (h0 : Hp) : aH :=
 bnd (cA x1 h0) fun v1 h1 =>
  aJa r n x2 x3 x6 x9 x1 v1 (aE 0) h1
noncomputable def sA (r : RT) (n : Nat) (x1 x2 x3 x6 : DV) (h0 : Hp) : aH :=
 bnd (aB 1 x3 h0) fun v1 h1 =>
 bnd (aA v1 h1) fun v2 h2 =>
 bnd (aB 3 x3 h2) fun v3 h3 =>
 bnd (aA v3 h3) fun v4 h4 =>
 bnd (cA v4 h4) fun v5 h5 =>
 bnd (aB 2 x3 h5) fun v6 h6 =>
 bnd (aA v6 h6) fun v7 h7 =>
 bnd (bB [(.s []), (aE 0), (aE 0), (aE 0), .l0, .l0] [(0, 1, v2), (1, 1, v5), (3, 1, v7)] h7) fun v8 h8 =>
 bnd (bB [(.s []), (aE 0), (aE 0), (aE 0), .l0, .l0, .l0, (.s []), (aE 0)] [(0, 6, v8)] h8) fun v9 h9 =>
 bnd (bR v9 h9) fun v10 h10 =>
  wJ r n x1 x2 x3 x6 v10 h10
noncomputable def rY (r : RT) (n : Nat) (x1 x2 x3 x6 : DV) (h0 : Hp) : aH :=
 bnd (aB 0 x3 h0) fun v1 h1 =>
 bnd (aA v1 h1) fun v2 h2 =>
 bnd (aD .neq v2 (aE 11) h2) fun v3 h3 =>
 bnd (gD v3 false (some (x1, h3)) h3) fun v4 h4 =>
 bnd (gD v3 false (cA v4 h4) h4) fun v5 h5 =>
 bnd (gD v3 false (aD .gtr v5 (aE 8) h5) h5) fun v6 h6 =>
 bnd (aR v3 (.b true) v6 h6) fun v7 h7 =>
 aT v7 (
 bnd (bB [(.s []), (aE 0), (aE 0), (aE 0), .l0, .l0] [] h7) fun v8 h8 =>
 bnd (aG 6 x6 v8 h8) fun _ h9 =>
 bnd (aK 6 x6 h9) fun v10 _ =>
 some (.t [v10, (.s []), (aE 1)], h9)) (
  sA r n x1 x2 x3 x6 h7)
noncomputable def s112 (r : RT) (n : Nat) (x0 x1 x2 : DV) (h0 : Hp) : aH :=
 bnd (bR x0 h0) fun v1 h1 =>
 bnd (bN [(.s []), (aE 0), (aE 0), (aE 0), .l0, .l0] h1) fun v2 h2 =>
  rY r n x1 x2 v1 v2 h2
noncomputable abbrev c112 : Code := cf Tryz.f112
noncomputable abbrev aJh : Code := cR c112
noncomputable abbrev aIm : Code := cR aJh
noncomputable abbrev aKb : Code := cR aIm
noncomputable abbrev aDh : Code := cR aKb
noncomputable abbrev aIz : Code := cR aDh
noncomputable abbrev aIo : Code := cR aIz
noncomputable abbrev cXc : Code := cR aIo
noncomputable abbrev xC : Code := cL aIo
noncomputable abbrev aRe : Code := cR xC
noncomputable abbrev tB : Code := cL aRe
noncomputable abbrev jV : Code := cL tB
noncomputable abbrev aWc : Code := cL xC
noncomputable abbrev aFo : Code := cL aIz
noncomputable abbrev aWw : Code := cL aDh
noncomputable abbrev pZ : Code := cL aKb
noncomputable abbrev aEu : Code := cR pZ
noncomputable abbrev uQ : Code := cL aEu
noncomputable abbrev jW : Code := cL uQ
noncomputable abbrev bCh : Code := cL pZ
noncomputable abbrev aHm : Code := cL aIm
noncomputable abbrev aJk : Code := cL aJh
noncomputable abbrev aHg : Code := cL c112
noncomputable abbrev r112 : K := aP CF Tryz.f112
noncomputable def D112 (r : RT) (n : Nat) (c : Code) (X : Nat → K) (k : K) : K := aN CF r 109 n c X r112 k
theorem cTo : D112 r n cXc x0 r112 = (K2 (eD r n) 6 9) :=
 (by kernel_rfl)
theorem bUk (kk9 : cG) (q0 : gO) : D112 r n jV (xs x0 3 (K2 q0 6 9)) (K5 kk9 6 9 94 95 96) = fun (env : aV) (h : Hp) =>
 bnd (aD .lss (env 96) (env 95) h) fun v1 h1 =>
 aT v1 (
 bnd (aJ 3 (env 94) (env 96) h1) fun v2 h2 =>
 bnd (aK 3 v2 h2) fun v3 h3 =>
 bnd (bN [(aE 0), (aE 0), (aE 0)] h3) fun v4 h4 =>
 bnd (aG 3 v4 v3 h4) fun _ h5 =>
 bnd (aK 3 v4 h5) fun v6 h6 =>
 bnd (r 124 [v6] h6) fun v7 h7 =>
 bnd (hY .not v7 h7) fun v8 h8 =>
 aT v8 (
 bnd (bB [(.s []), (aE 0), (aE 0), (aE 0), .l0, .l0] [] h8) fun v9 h9 =>
 bnd (aG 6 (env 6) v9 h9) fun _ h10 =>
 bnd (aK 6 (env 6) h10) fun v11 _ =>
 some (.t [v11, (.s []), (aE 12)], h10)) (
 bnd (aD .add (env 96) (aE 1) h8) fun v12 h12 =>
    kk9 (env 6) (env 9) (env 94) (env 95) v12 h12)) (
      q0 (env 6) (env 9) h1) := by kernel_rfl
theorem bEi (kk9 : cG) : (fun (env : aV) (h : Hp) =>
 bnd (aD .lss (env 96) (env 95) h) fun v1 h1 =>
 aT v1 (
 bnd (aJ 3 (env 94) (env 96) h1) fun v2 h2 =>
 bnd (aK 3 v2 h2) fun v3 h3 =>
 bnd (bN [(aE 0), (aE 0), (aE 0)] h3) fun v4 h4 =>
 bnd (aG 3 v4 v3 h4) fun _ h5 =>
 bnd (aK 3 v4 h5) fun v6 h6 =>
 bnd (r 124 [v6] h6) fun v7 h7 =>
 bnd (hY .not v7 h7) fun v8 h8 =>
 aT v8 (
 bnd (bB [(.s []), (aE 0), (aE 0), (aE 0), .l0, .l0] [] h8) fun v9 h9 =>
 bnd (aG 6 (env 6) v9 h9) fun _ h10 =>
 bnd (aK 6 (env 6) h10) fun v11 _ =>
 some (.t [v11, (.s []), (aE 12)], h10)) (
 bnd (aD .add (env 96) (aE 1) h8) fun v12 h12 =>
    kk9 (env 6) (env 9) (env 94) (env 95) v12 h12)) (
      eD r n (env 6) (env 9) h1)) = (K5 (aGu r n kk9) 6 9 94 95 96) := by kernel_rfl
theorem bJp (kk9 : cG) : D112 r n jV (xs x0 3 (K2 (eD r n) 6 9)) (K5 kk9 6 9 94 95 96) = (K5 (aGu r n kk9) 6 9 94 95 96) :=
 (bUk r n kk9 (eD r n)).trans (bEi r n kk9)
theorem bWv (m : Nat) : aM (fun kk => D112 r n jV (xs x0 3 (K2 (eD r n) 6 9)) kk) m = (K5 (uC r n m) 6 9 94 95 96) := by
 induction m with
 | zero => exact (by kernel_rfl : aM (fun kk => D112 r n jV (xs x0 3 (K2 (eD r n) 6 9)) kk) 0 = (K5 (uC r n 0) 6 9 94 95 96))
 | succ m ih =>
  refine (by kernel_rfl : aM (fun kk => D112 r n jV (xs x0 3 (K2 (eD r n) 6 9)) kk) (m + 1) = D112 r n jV (xs x0 3 (K2 (eD r n) 6 9)) (aM (fun kk => D112 r n jV (xs x0 3 (K2 (eD r n) 6 9)) kk) m)).trans ?_
  rw [ih]
  exact (bJp r n (uC r n m)).trans (by kernel_rfl)
theorem cQs : D112 r n tB (xs x0 3 (K2 (eD r n) 6 9)) (K2 (eD r n) 6 9) = (K5 (bOc r n) 6 9 94 95 96) :=
 (by kernel_rfl : D112 r n tB (xs x0 3 (K2 (eD r n) 6 9)) (K2 (eD r n) 6 9) = aM (fun kk => D112 r n jV (xs x0 3 (K2 (eD r n) 6 9)) kk) n).trans ((bWv r n n).trans (by kernel_rfl))
theorem cMa : D112 r n aRe x0 (K2 (eD r n) 6 9) = (K5 (aVh r n) 6 9 94 95 96) :=
 (by kernel_rfl : D112 r n aRe x0 (K2 (eD r n) 6 9) = D112 r n tB (xs x0 3 (K2 (eD r n) 6 9)) (K2 (eD r n) 6 9)).trans
 ((cQs r n).trans (by kernel_rfl))
theorem bXv : D112 r n aIo x0 r112 = D112 r n xC x0 (K2 (eD r n) 6 9) :=
 congrArg (fun k => D112 r n xC x0 k) (cTo r n)
theorem bJt : D112 r n xC x0 (K2 (eD r n) 6 9) = D112 r n aWc x0 (K5 (aVh r n) 6 9 94 95 96) :=
 congrArg (fun k => D112 r n aWc x0 k) (cMa r n)
theorem cEs : D112 r n aIo x0 r112 = (K2 (yA r n) 6 9) :=
 (bXv r n).trans
 ((bJt r n).trans
 ((by kernel_rfl)))
theorem bYz : D112 r n aIz x0 r112 = D112 r n aFo x0 (K2 (yA r n) 6 9) :=
 congrArg (fun k => D112 r n aFo x0 k) (cEs r n)
theorem bLt (q0 : gO) : D112 r n aFo x0 (K2 q0 6 9) = fun (env : aV) (h : Hp) =>
 bnd (aQ (env 9) h) fun v1 h1 =>
 bnd (aB 8 v1 h1) fun v2 h2 =>
 bnd (aA v2 h2) fun v3 h3 =>
 bnd (aD .neq v3 (aE 0) h3) fun v4 h4 =>
 aT v4 (
 bnd (bB [(.s []), (aE 0), (aE 0), (aE 0), .l0, .l0] [] h4) fun v5 h5 =>
 bnd (aQ (env 9) h5) fun v6 h6 =>
 bnd (aB 7 v6 h6) fun v7 h7 =>
 bnd (aA v7 h7) fun v8 h8 =>
 bnd (aQ (env 9) h8) fun v9 h9 =>
 bnd (aB 8 v9 h9) fun v10 h10 =>
 bnd (aA v10 h10) fun v11 h11 =>
 bnd (aG 6 (env 6) v5 h11) fun v12 h12 =>
 cnd (bI (aA v10 h12) v11 && (bI (aA v7 h12) v8 && true)) (
 bnd (aK 6 (env 6) h12) fun v13 _ =>
 some (.t [v13, v8, v11], h12))) (
 bnd (aQ (env 9) h4) fun v14 h14 =>
 bnd (aB 0 v14 h14) fun v15 h15 =>
 bnd (aB 4 v15 h15) fun v16 h16 =>
 bnd (aA v16 h16) fun v17 h17 =>
 bnd (cA v17 h17) fun v18 h18 =>
 bnd (aD .gtr v18 (aE 60) h18) fun v19 h19 =>
 aT v19 (
 bnd (bB [(.s []), (aE 0), (aE 0), (aE 0), .l0, .l0] [] h19) fun v20 h20 =>
 bnd (aG 6 (env 6) v20 h20) fun _ h21 =>
 bnd (aK 6 (env 6) h21) fun v22 _ =>
 some (.t [v22, (.s []), (aE 18)], h21)) (
 bnd (aQ (env 9) h19) fun v23 h23 =>
 bnd (aB 0 v23 h23) fun v24 h24 =>
 bnd (aB 5 v24 h24) fun v25 h25 =>
 bnd (aA v25 h25) fun v26 h26 =>
 bnd (cA v26 h26) fun v27 h27 =>
 bnd (aD .gtr v27 (aE 400) h27) fun v28 h28 =>
 aT v28 (
 bnd (bB [(.s []), (aE 0), (aE 0), (aE 0), .l0, .l0] [] h28) fun v29 h29 =>
 bnd (aG 6 (env 6) v29 h29) fun _ h30 =>
 bnd (aK 6 (env 6) h30) fun v31 _ =>
 some (.t [v31, (.s []), (aE 12)], h30)) (
     q0 (env 6) (env 9) h28))) := by kernel_rfl
theorem bFy : (fun (env : aV) (h : Hp) =>
 bnd (aQ (env 9) h) fun v1 h1 =>
 bnd (aB 8 v1 h1) fun v2 h2 =>
 bnd (aA v2 h2) fun v3 h3 =>
 bnd (aD .neq v3 (aE 0) h3) fun v4 h4 =>
 aT v4 (
 bnd (bB [(.s []), (aE 0), (aE 0), (aE 0), .l0, .l0] [] h4) fun v5 h5 =>
 bnd (aQ (env 9) h5) fun v6 h6 =>
 bnd (aB 7 v6 h6) fun v7 h7 =>
 bnd (aA v7 h7) fun v8 h8 =>
 bnd (aQ (env 9) h8) fun v9 h9 =>
 bnd (aB 8 v9 h9) fun v10 h10 =>
 bnd (aA v10 h10) fun v11 h11 =>
 bnd (aG 6 (env 6) v5 h11) fun v12 h12 =>
 cnd (bI (aA v10 h12) v11 && (bI (aA v7 h12) v8 && true)) (
 bnd (aK 6 (env 6) h12) fun v13 _ =>
 some (.t [v13, v8, v11], h12))) (
 bnd (aQ (env 9) h4) fun v14 h14 =>
 bnd (aB 0 v14 h14) fun v15 h15 =>
 bnd (aB 4 v15 h15) fun v16 h16 =>
 bnd (aA v16 h16) fun v17 h17 =>
 bnd (cA v17 h17) fun v18 h18 =>
 bnd (aD .gtr v18 (aE 60) h18) fun v19 h19 =>
 aT v19 (
 bnd (bB [(.s []), (aE 0), (aE 0), (aE 0), .l0, .l0] [] h19) fun v20 h20 =>
 bnd (aG 6 (env 6) v20 h20) fun _ h21 =>
 bnd (aK 6 (env 6) h21) fun v22 _ =>
 some (.t [v22, (.s []), (aE 18)], h21)) (
 bnd (aQ (env 9) h19) fun v23 h23 =>
 bnd (aB 0 v23 h23) fun v24 h24 =>
 bnd (aB 5 v24 h24) fun v25 h25 =>
 bnd (aA v25 h25) fun v26 h26 =>
 bnd (cA v26 h26) fun v27 h27 =>
 bnd (aD .gtr v27 (aE 400) h27) fun v28 h28 =>
 aT v28 (
 bnd (bB [(.s []), (aE 0), (aE 0), (aE 0), .l0, .l0] [] h28) fun v29 h29 =>
 bnd (aG 6 (env 6) v29 h29) fun _ h30 =>
 bnd (aK 6 (env 6) h30) fun v31 _ =>
 some (.t [v31, (.s []), (aE 12)], h30)) (
     yA r n (env 6) (env 9) h28)))) = (K2 (aHx r n) 6 9) := by kernel_rfl
theorem cOi : D112 r n aIz x0 r112 = (K2 (aHx r n) 6 9) :=
 (bYz r n).trans
 ((bLt r n (yA r n)).trans (bFy r n))
theorem cEd : D112 r n aDh x0 r112 = D112 r n aWw x0 (K2 (aHx r n) 6 9) :=
 congrArg (fun k => D112 r n aWw x0 k) (cOi r n)
theorem cQp : D112 r n aDh x0 r112 = (K4 (eF r n) 2 3 6 9) :=
 (cEd r n).trans
 ((by kernel_rfl))
theorem bHd (kk11 : TT7) (q0 : dM) : D112 r n jW (xs x0 0 (K4 q0 2 3 6 9)) (K7 kk11 2 3 6 9 33 34 35) = fun (env : aV) (h : Hp) =>
 bnd (aD .lss (env 35) (env 34) h) fun v1 h1 =>
 aT v1 (
 bnd (aJ 1 (env 33) (env 35) h1) fun v2 h2 =>
 bnd (aA v2 h2) fun v3 h3 =>
 bnd (aQ (env 9) h3) fun v4 h4 =>
 bnd (aB 6 v4 h4) fun v5 h5 =>
 bnd (aA v5 h5) fun v6 h6 =>
 bnd (bB [(.s []), (.b false), (.b false), (aE 0)] [(0, 1, v3), (1, 1, (.b true)), (2, 1, (.b false)), (3, 1, (env 35))] h6) fun v7 h7 =>
 bnd (aL [(.s []), (.b false), (.b false), (aE 0)] 1 [(0, 4, v7)] h7) fun v8 h8 =>
 bnd (aY 4 32 v6 v8 h8) fun v9 h9 =>
 bnd (aQ (env 9) h9) fun v10 h10 =>
 bnd (aB 6 v10 h10) fun v11 h11 =>
 bnd (aG 1 v11 v9 h11) fun _ h12 =>
 bnd (aD .add (env 35) (aE 1) h12) fun v13 h13 =>
      kk11 (env 2) (env 3) (env 6) (env 9) (env 33) (env 34) v13 h13) (
      q0 (env 2) (env 3) (env 6) (env 9) h1) := by kernel_rfl
theorem aQw (kk11 : TT7) : (fun (env : aV) (h : Hp) =>
 bnd (aD .lss (env 35) (env 34) h) fun v1 h1 =>
 aT v1 (
 bnd (aJ 1 (env 33) (env 35) h1) fun v2 h2 =>
 bnd (aA v2 h2) fun v3 h3 =>
 bnd (aQ (env 9) h3) fun v4 h4 =>
 bnd (aB 6 v4 h4) fun v5 h5 =>
 bnd (aA v5 h5) fun v6 h6 =>
 bnd (bB [(.s []), (.b false), (.b false), (aE 0)] [(0, 1, v3), (1, 1, (.b true)), (2, 1, (.b false)), (3, 1, (env 35))] h6) fun v7 h7 =>
 bnd (aL [(.s []), (.b false), (.b false), (aE 0)] 1 [(0, 4, v7)] h7) fun v8 h8 =>
 bnd (aY 4 32 v6 v8 h8) fun v9 h9 =>
 bnd (aQ (env 9) h9) fun v10 h10 =>
 bnd (aB 6 v10 h10) fun v11 h11 =>
 bnd (aG 1 v11 v9 h11) fun _ h12 =>
 bnd (aD .add (env 35) (aE 1) h12) fun v13 h13 =>
      kk11 (env 2) (env 3) (env 6) (env 9) (env 33) (env 34) v13 h13) (
      eF r n (env 2) (env 3) (env 6) (env 9) h1)) = (K7 (wT r n kk11) 2 3 6 9 33 34 35) := by kernel_rfl
theorem bGy (kk11 : TT7) : D112 r n jW (xs x0 0 (K4 (eF r n) 2 3 6 9)) (K7 kk11 2 3 6 9 33 34 35) = (K7 (wT r n kk11) 2 3 6 9 33 34 35) :=
 (bHd r n kk11 (eF r n)).trans (aQw r n kk11)
theorem bIg (m : Nat) : aM (fun kk => D112 r n jW (xs x0 0 (K4 (eF r n) 2 3 6 9)) kk) m = (K7 (pX r n m) 2 3 6 9 33 34 35) := by
 induction m with
 | zero => exact (by kernel_rfl : aM (fun kk => D112 r n jW (xs x0 0 (K4 (eF r n) 2 3 6 9)) kk) 0 = (K7 (pX r n 0) 2 3 6 9 33 34 35))
 | succ m ih =>
  refine (by kernel_rfl : aM (fun kk => D112 r n jW (xs x0 0 (K4 (eF r n) 2 3 6 9)) kk) (m + 1) = D112 r n jW (xs x0 0 (K4 (eF r n) 2 3 6 9)) (aM (fun kk => D112 r n jW (xs x0 0 (K4 (eF r n) 2 3 6 9)) kk) m)).trans ?_
  rw [ih]
  exact (bGy r n (pX r n m)).trans (by kernel_rfl)
theorem bWa : D112 r n uQ (xs x0 0 (K4 (eF r n) 2 3 6 9)) (K4 (eF r n) 2 3 6 9) = (K7 (bDk r n) 2 3 6 9 33 34 35) :=
 (by kernel_rfl : D112 r n uQ (xs x0 0 (K4 (eF r n) 2 3 6 9)) (K4 (eF r n) 2 3 6 9) = aM (fun kk => D112 r n jW (xs x0 0 (K4 (eF r n) 2 3 6 9)) kk) n).trans ((bIg r n n).trans (by kernel_rfl))
theorem bZe : D112 r n aEu x0 (K4 (eF r n) 2 3 6 9) = (K7 (aJa r n) 2 3 6 9 33 34 35) :=
 (by kernel_rfl : D112 r n aEu x0 (K4 (eF r n) 2 3 6 9) = D112 r n uQ (xs x0 0 (K4 (eF r n) 2 3 6 9)) (K4 (eF r n) 2 3 6 9)).trans
 ((bWa r n).trans (by kernel_rfl))
theorem bKe : D112 r n aKb x0 r112 = D112 r n pZ x0 (K4 (eF r n) 2 3 6 9) :=
 congrArg (fun k => D112 r n pZ x0 k) (cQp r n)
theorem bOa : D112 r n pZ x0 (K4 (eF r n) 2 3 6 9) = D112 r n bCh x0 (K7 (aJa r n) 2 3 6 9 33 34 35) :=
 congrArg (fun k => D112 r n bCh x0 k) (bZe r n)
theorem cIm : D112 r n aKb x0 r112 = (K5 (wJ r n) 1 2 3 6 9) :=
 (bKe r n).trans
 ((bOa r n).trans
 ((by kernel_rfl)))
theorem bGq : D112 r n aIm x0 r112 = D112 r n aHm x0 (K5 (wJ r n) 1 2 3 6 9) :=
 congrArg (fun k => D112 r n aHm x0 k) (cIm r n)
theorem bHp (q0 : cG) : D112 r n aHm x0 (K5 q0 1 2 3 6 9) = fun (env : aV) (h : Hp) =>
 bnd (aB 1 (env 3) h) fun v1 h1 =>
 bnd (aA v1 h1) fun v2 h2 =>
 bnd (aB 3 (env 3) h2) fun v3 h3 =>
 bnd (aA v3 h3) fun v4 h4 =>
 bnd (cA v4 h4) fun v5 h5 =>
 bnd (aB 2 (env 3) h5) fun v6 h6 =>
 bnd (aA v6 h6) fun v7 h7 =>
 bnd (bB [(.s []), (aE 0), (aE 0), (aE 0), .l0, .l0] [(0, 1, v2), (1, 1, v5), (3, 1, v7)] h7) fun v8 h8 =>
 bnd (bB [(.s []), (aE 0), (aE 0), (aE 0), .l0, .l0, .l0, (.s []), (aE 0)] [(0, 6, v8)] h8) fun v9 h9 =>
 bnd (bR v9 h9) fun v10 h10 =>
  q0 (env 1) (env 2) (env 3) (env 6) v10 h10 := by kernel_rfl
theorem aPg : (fun (env : aV) (h : Hp) =>
 bnd (aB 1 (env 3) h) fun v1 h1 =>
 bnd (aA v1 h1) fun v2 h2 =>
 bnd (aB 3 (env 3) h2) fun v3 h3 =>
 bnd (aA v3 h3) fun v4 h4 =>
 bnd (cA v4 h4) fun v5 h5 =>
 bnd (aB 2 (env 3) h5) fun v6 h6 =>
 bnd (aA v6 h6) fun v7 h7 =>
 bnd (bB [(.s []), (aE 0), (aE 0), (aE 0), .l0, .l0] [(0, 1, v2), (1, 1, v5), (3, 1, v7)] h7) fun v8 h8 =>
 bnd (bB [(.s []), (aE 0), (aE 0), (aE 0), .l0, .l0, .l0, (.s []), (aE 0)] [(0, 6, v8)] h8) fun v9 h9 =>
 bnd (bR v9 h9) fun v10 h10 =>
  wJ r n (env 1) (env 2) (env 3) (env 6) v10 h10) = (K4 (sA r n) 1 2 3 6) := by kernel_rfl
theorem cSz : D112 r n aIm x0 r112 = (K4 (sA r n) 1 2 3 6) :=
 (bGq r n).trans
 ((bHp r n (wJ r n)).trans (aPg r n))
theorem bHn : D112 r n aJh x0 r112 = D112 r n aJk x0 (K4 (sA r n) 1 2 3 6) :=
 congrArg (fun k => D112 r n aJk x0 k) (cSz r n)
theorem bGn (q0 : dM) : D112 r n aJk x0 (K4 q0 1 2 3 6) = fun (env : aV) (h : Hp) =>
 bnd (aB 0 (env 3) h) fun v1 h1 =>
 bnd (aA v1 h1) fun v2 h2 =>
 bnd (aD .neq v2 (aE 11) h2) fun v3 h3 =>
 bnd (gD v3 false (some ((env 1), h3)) h3) fun v4 h4 =>
 bnd (gD v3 false (cA v4 h4) h4) fun v5 h5 =>
 bnd (gD v3 false (aD .gtr v5 (aE 8) h5) h5) fun v6 h6 =>
 bnd (aR v3 (.b true) v6 h6) fun v7 h7 =>
 aT v7 (
 bnd (bB [(.s []), (aE 0), (aE 0), (aE 0), .l0, .l0] [] h7) fun v8 h8 =>
 bnd (aG 6 (env 6) v8 h8) fun _ h9 =>
 bnd (aK 6 (env 6) h9) fun v10 _ =>
 some (.t [v10, (.s []), (aE 1)], h9)) (
   q0 (env 1) (env 2) (env 3) (env 6) h7) := by kernel_rfl
theorem aQz : (fun (env : aV) (h : Hp) =>
 bnd (aB 0 (env 3) h) fun v1 h1 =>
 bnd (aA v1 h1) fun v2 h2 =>
 bnd (aD .neq v2 (aE 11) h2) fun v3 h3 =>
 bnd (gD v3 false (some ((env 1), h3)) h3) fun v4 h4 =>
 bnd (gD v3 false (cA v4 h4) h4) fun v5 h5 =>
 bnd (gD v3 false (aD .gtr v5 (aE 8) h5) h5) fun v6 h6 =>
 bnd (aR v3 (.b true) v6 h6) fun v7 h7 =>
 aT v7 (
 bnd (bB [(.s []), (aE 0), (aE 0), (aE 0), .l0, .l0] [] h7) fun v8 h8 =>
 bnd (aG 6 (env 6) v8 h8) fun _ h9 =>
 bnd (aK 6 (env 6) h9) fun v10 _ =>
 some (.t [v10, (.s []), (aE 1)], h9)) (
   sA r n (env 1) (env 2) (env 3) (env 6) h7)) = (K4 (rY r n) 1 2 3 6) := by kernel_rfl
theorem cIl : D112 r n aJh x0 r112 = (K4 (rY r n) 1 2 3 6) :=
 (bHn r n).trans
 ((bGn r n (sA r n)).trans (aQz r n))
theorem cNl : D112 r n c112 x0 r112 = D112 r n aHg x0 (K4 (rY r n) 1 2 3 6) :=
 congrArg (fun k => D112 r n aHg x0 k) (cIl r n)
theorem cKo (q0 : dM) : D112 r n aHg x0 (K4 q0 1 2 3 6) = fun (env : aV) (h : Hp) =>
 bnd (bR (env 0) h) fun v1 h1 =>
 bnd (bN [(.s []), (aE 0), (aE 0), (aE 0), .l0, .l0] h1) fun v2 h2 =>
  q0 (env 1) (env 2) v1 v2 h2 := by kernel_rfl
theorem bLd : (fun (env : aV) (h : Hp) =>
 bnd (bR (env 0) h) fun v1 h1 =>
 bnd (bN [(.s []), (aE 0), (aE 0), (aE 0), .l0, .l0] h1) fun v2 h2 =>
  rY r n (env 1) (env 2) v1 v2 h2) = (K3 (s112 r n) 0 1 2) := by kernel_rfl
theorem dLq : D112 r n c112 x0 r112 = (K3 (s112 r n) 0 1 2) :=
 (cNl r n).trans
 ((cKo r n (rY r n)).trans (bLd r n))
theorem dGm : aF CF r n 112 args h = s112 r n (aU args 0) (aU args 1) (aU args 2) h :=
 (by kernel_rfl : aF CF r n 112 args h = D112 r n c112 x0 r112 (aI args) h).trans ((congrFun (congrFun (dLq r n) (aI args)) h).trans (by kernel_rfl))
noncomputable def s113 (r : RT) (n : Nat) (x0 x1 x2 : DV) (h0 : Hp) : aH :=
 bnd (bR x2 h0) fun v1 h1 =>
 bnd (r 67 [x0, x1] h1) fun v2 h2 =>
 bnd (hY .not v2 h2) fun v3 h3 =>
 aT v3 (
 some (.t [(aE 0), (aE 24)], h3)) (
 bnd (aK 6 v1 h3) fun v4 h4 =>
 bnd (r 37 [x0, x1] h4) fun v5 h5 =>
 cnd (bI (aK 6 v1 h5) v4 && true) (
 bnd (r 125 [v4, v5] h5) fun v6 h6 =>
 bnd (aD .neq v6 (aE 0) h6) fun v7 h7 =>
 aT v7 (
 some (.t [(aE 0), v6], h7)) (
 bnd (aB 0 v1 h7) fun v8 h8 =>
 bnd (aA v8 h8) fun v9 h9 =>
 bnd (r 44 [x0, v9] h9) fun v10 h10 =>
 bnd (aC 0 v10 h10) fun v11 h11 =>
 bnd (aC 1 v10 h11) fun v12 h12 =>
 bnd (aD .neq v12 (aE 0) h12) fun v13 h13 =>
 aT v13 (
 some (.t [(aE 0), v12], h13)) (
 bnd (aB 4 v1 h13) fun v14 h14 =>
 bnd (aA v14 h14) fun v15 h15 =>
 bnd (bB [(aE 0), (.s []), (aE 0), .l0] [(0, 1, (aE 4)), (3, 1, v15)] h15) fun v16 h16 =>
 bnd (r 126 [x0, v16] h16) fun v17 h17 =>
 bnd (aC 0 v17 h17) fun v18 h18 =>
 bnd (aC 1 v17 h18) fun v19 h19 =>
 bnd (aD .neq v19 (aE 0) h19) fun v20 h20 =>
 aT v20 (
 some (.t [(aE 0), v19], h20)) (
 bnd (aB 5 v1 h20) fun v21 h21 =>
 bnd (aA v21 h21) fun v22 h22 =>
 bnd (r 127 [v22] h22) fun v23 h23 =>
 bnd (aC 0 v23 h23) fun v24 h24 =>
 bnd (aC 1 v23 h24) fun v25 h25 =>
 bnd (r 128 [x0, v24] h25) fun v26 h26 =>
 bnd (aC 0 v26 h26) fun v27 h27 =>
 bnd (aC 1 v26 h27) fun v28 h28 =>
 bnd (aD .neq v28 (aE 0) h28) fun v29 h29 =>
 aT v29 (
 some (.t [(aE 0), v28], h29)) (
 bnd (r 30 [x0, (aE 14)] (resv 1 h29)) fun v30 h30 =>
 bnd (aB 1 v1 h30) fun v31 h31 =>
 bnd (aA v31 h31) fun v32 h32 =>
 cnd (bI (aA v31 (resv 1 h29)) v32 && true) (
 bnd (r 71 [v32] h32) fun v33 h33 =>
 bnd (aB 2 v1 h33) fun v34 h34 =>
 bnd (aA v34 h34) fun v35 h35 =>
 cnd (bI (aA v34 h30) v35 && (bI (aA v34 (resv 1 h29)) v35 && true)) (
 bnd (r 71 [v35] h35) fun v36 h36 =>
 bnd (aB 3 v1 h36) fun v37 h37 =>
 bnd (aA v37 h37) fun v38 h38 =>
 cnd (bI (aA v37 h33) v38 && (bI (aA v37 h30) v38 && (bI (aA v37 (resv 1 h29)) v38 && true))) (
 bnd (r 71 [v38] h38) fun v39 h39 =>
 bnd (bL (bZ 0 h29.next) [(aE 0), (aE 0), (aE 0), (aE 0), (aE 0), (aE 0), (aE 0)] 7 [(0, 1, v11), (1, 1, v33), (2, 1, v36), (3, 1, v39), (4, 1, v18), (5, 1, v27), (6, 1, x1)] h39) fun v40 h40 =>
 bnd (r 82 [x0, v30, (aE 0), v40] h40) fun v41 h41 =>
 bnd (aC 0 v41 h41) fun v42 h42 =>
 bnd (aC 1 v41 h42) fun v43 h43 =>
 some (.t [v42, v43], h43))))))))))
noncomputable abbrev c113 : Code := cf Tryz.f113
noncomputable abbrev r113 : K := aP CF Tryz.f113
noncomputable def D113 (r : RT) (n : Nat) (c : Code) (X : Nat → K) (k : K) : K := aN CF r 83 n c X r113 k
theorem dOo : D113 r n c113 x0 r113 = (K3 (s113 r n) 0 1 2) :=
 (by kernel_rfl)
theorem cXa : aF CF r n 113 args h = s113 r n (aU args 0) (aU args 1) (aU args 2) h :=
 (by kernel_rfl : aF CF r n 113 args h = D113 r n c113 x0 r113 (aI args) h).trans ((congrFun (congrFun (dOo r n) (aI args)) h).trans (by kernel_rfl))
noncomputable def eQ (r : RT) (n : Nat) (x0 x1 x3 : DV) (h0 : Hp) : aH :=
 bnd (r 51 [x0, x1, (aE 4)] h0) fun v1 h1 =>
 bnd (r 73 [x0, x3, v1] h1) fun v2 h2 =>
 bnd (aC 0 v2 h2) fun v3 h3 =>
 bnd (aC 1 v2 h3) fun v4 h4 =>
 bnd (aD .neq v4 (aE 0) h4) fun v5 h5 =>
 aT v5 (
 some (v4, h5)) (
 bnd (aQ x0 h5) fun v6 h6 =>
 bnd (aB 0 v6 h6) fun v7 h7 =>
 bnd (aA v7 h7) fun v8 h8 =>
 bnd (aAj [v8, x1, (aE 4), v3] h8) fun v9 h9 =>
 some (v9, h9))
noncomputable def bAi (r : RT) (n : Nat) (kk5 : fH) (x0 x1 x2 x3 x9 x10 : DV) (h0 : Hp) : aH :=
 bnd (aD .gtr x10 (aE 0) h0) fun v1 h1 =>
 bnd (gD v1 true (some (x0, h1)) h1) fun v2 h2 =>
 bnd (gD v1 true (aQ v2 h2) h2) fun v3 h3 =>
 bnd (gD v1 true (aB 0 v3 h3) h3) fun v4 h4 =>
 bnd (gD v1 true (aA v4 h4) h4) fun v5 h5 =>
 bnd (gD v1 true (some (x9, h5)) h5) fun v6 h6 =>
 bnd (gD v1 true (isF [v5, v6] h6) h6) fun v7 h7 =>
 bnd (aR v1 v7 (.b false) h7) fun v8 h8 =>
 aT v8 (
 bnd (r 51 [x0, x9, (aE 0)] h8) fun v9 h9 =>
 bnd (r 51 [x0, v9, (aE 0)] h9) fun v10 h10 =>
 bnd (aD .eql v10 x2 h10) fun v11 h11 =>
 aT v11 (
 bnd (aQ x0 h11) fun v12 h12 =>
 bnd (aB 0 v12 h12) fun v13 h13 =>
 bnd (aA v13 h13) fun v14 h14 =>
 bnd (aAj [v14, x9, (aE 0), x3] h14) fun v15 h15 =>
 some (v15, h15)) (
 bnd (r 51 [x0, x9, (aE 1)] h11) fun v16 h16 =>
 bnd (aD .sub x10 (aE 1) h16) fun v17 h17 =>
    kk5 x0 x1 x2 x3 v16 v17 h17)) (
      eQ r n x0 x1 x3 h8)
noncomputable def uJ (r : RT) (n : Nat) (m : Nat) : fH :=
 Nat.rec (motive := fun _ => fH) (fun _ _ _ _ _ _ _ => none) (fun _ ih => bAi r n ih) m
noncomputable def bRy (r : RT) (n : Nat) : fH := uJ r n n
noncomputable def aPo (r : RT) (n : Nat) (x0 x1 x2 x3 x9 x10 : DV) (h0 : Hp) : aH :=
 bRy r n x0 x1 x2 x3 x9 x10 h0
noncomputable def aTg (r : RT) (n : Nat) (x0 x1 x2 x3 x9 : DV) (h0 : Hp) : aH :=
 bnd (aQ x0 h0) fun v1 h1 =>
 bnd (aB 0 v1 h1) fun v2 h2 =>
 bnd (aA v2 h2) fun v3 h3 =>
 bnd (aAs [v3] h3) fun v4 h4 =>
  aPo r n x0 x1 x2 x3 x9 v4 h4
noncomputable def aQr (r : RT) (n : Nat) (x0 x1 x2 x3 : DV) (h0 : Hp) : aH :=
 bnd (r 51 [x0, x1, (aE 4)] h0) fun v1 h1 =>
  aTg r n x0 x1 x2 x3 v1 h1
noncomputable def s114 (r : RT) (n : Nat) (x0 x1 x2 x3 : DV) (h0 : Hp) : aH :=
 aQr r n x0 x1 x2 x3 h0
noncomputable abbrev c114 : Code := cf Tryz.f114
noncomputable abbrev aDa : Code := cR c114
noncomputable abbrev aBy : Code := cR aDa
noncomputable abbrev dDn : Code := cR aBy
noncomputable abbrev xF : Code := cL aBy
noncomputable abbrev aSl : Code := cR xF
noncomputable abbrev aCx : Code := cL aSl
noncomputable abbrev oG : Code := cL aCx
noncomputable abbrev bWr : Code := cL xF
noncomputable abbrev bRm : Code := cL aDa
noncomputable abbrev bBi : Code := cL c114
noncomputable abbrev r114 : K := aP CF Tryz.f114
noncomputable def D114 (r : RT) (n : Nat) (c : Code) (X : Nat → K) (k : K) : K := aN CF r 69 n c X r114 k
theorem cGp : D114 r n dDn x0 r114 = (K3 (eQ r n) 0 1 3) :=
 (by kernel_rfl)
theorem bMj (kk5 : fH) : D114 r n oG (xs x0 0 (K3 (eQ r n) 0 1 3)) (K6 kk5 0 1 2 3 9 10) = (K6 (bAi r n kk5) 0 1 2 3 9 10) :=
 (by kernel_rfl)
theorem bIx (m : Nat) : aM (fun kk => D114 r n oG (xs x0 0 (K3 (eQ r n) 0 1 3)) kk) m = (K6 (uJ r n m) 0 1 2 3 9 10) := by
 induction m with
 | zero => exact (by kernel_rfl : aM (fun kk => D114 r n oG (xs x0 0 (K3 (eQ r n) 0 1 3)) kk) 0 = (K6 (uJ r n 0) 0 1 2 3 9 10))
 | succ m ih =>
  refine (by kernel_rfl : aM (fun kk => D114 r n oG (xs x0 0 (K3 (eQ r n) 0 1 3)) kk) (m + 1) = D114 r n oG (xs x0 0 (K3 (eQ r n) 0 1 3)) (aM (fun kk => D114 r n oG (xs x0 0 (K3 (eQ r n) 0 1 3)) kk) m)).trans ?_
  rw [ih]
  exact (bMj r n (uJ r n m)).trans (by kernel_rfl)
theorem cJb : D114 r n aCx (xs x0 0 (K3 (eQ r n) 0 1 3)) (K3 (eQ r n) 0 1 3) = (K6 (bRy r n) 0 1 2 3 9 10) :=
 (by kernel_rfl : D114 r n aCx (xs x0 0 (K3 (eQ r n) 0 1 3)) (K3 (eQ r n) 0 1 3) = aM (fun kk => D114 r n oG (xs x0 0 (K3 (eQ r n) 0 1 3)) kk) n).trans ((bIx r n n).trans (by kernel_rfl))
theorem cFv : D114 r n aSl x0 (K3 (eQ r n) 0 1 3) = (K6 (aPo r n) 0 1 2 3 9 10) :=
 (by kernel_rfl : D114 r n aSl x0 (K3 (eQ r n) 0 1 3) = D114 r n aCx (xs x0 0 (K3 (eQ r n) 0 1 3)) (K3 (eQ r n) 0 1 3)).trans
 ((cJb r n).trans (by kernel_rfl))
theorem bPw : D114 r n aBy x0 r114 = D114 r n xF x0 (K3 (eQ r n) 0 1 3) :=
 congrArg (fun k => D114 r n xF x0 k) (cGp r n)
theorem cCk : D114 r n xF x0 (K3 (eQ r n) 0 1 3) = D114 r n bWr x0 (K6 (aPo r n) 0 1 2 3 9 10) :=
 congrArg (fun k => D114 r n bWr x0 k) (cFv r n)
theorem cMg : D114 r n aBy x0 r114 = (K5 (aTg r n) 0 1 2 3 9) :=
 (bPw r n).trans
 ((cCk r n).trans
 ((by kernel_rfl)))
theorem cCv : D114 r n aDa x0 r114 = D114 r n bRm x0 (K5 (aTg r n) 0 1 2 3 9) :=
 congrArg (fun k => D114 r n bRm x0 k) (cMg r n)
theorem cUg : D114 r n aDa x0 r114 = (K4 (aQr r n) 0 1 2 3) :=
 (cCv r n).trans
 ((by kernel_rfl))
theorem cXz : D114 r n c114 x0 r114 = D114 r n bBi x0 (K4 (aQr r n) 0 1 2 3) :=
 congrArg (fun k => D114 r n bBi x0 k) (cUg r n)
theorem dNk : D114 r n c114 x0 r114 = (K4 (s114 r n) 0 1 2 3) :=
 (cXz r n).trans
 ((by kernel_rfl))
theorem dDz : aF CF r n 114 args h = s114 r n (aU args 0) (aU args 1) (aU args 2) (aU args 3) h :=
 (by kernel_rfl : aF CF r n 114 args h = D114 r n c114 x0 r114 (aI args) h).trans ((congrFun (congrFun (dNk r n) (aI args)) h).trans (by kernel_rfl))
noncomputable def eS (r : RT) (n : Nat) (x0 x6 : DV) (h0 : Hp) : aH :=
 bnd (dV x0 h0) fun v1 h1 =>
 bnd (bB [(aE 0), (.s []), (aE 0), (aE 0)] [(3, 1, v1)] h1) fun v2 h2 =>
 bnd (aL [(aE 0), (.s []), (aE 0), (aE 0)] 1 [(0, 4, v2)] h2) fun v3 h3 =>
 bnd (aY 4 40 x6 v3 h3) fun v4 h4 =>
 some (.t [v4, (aE 0), (aE 0)], h4)
noncomputable def aLb (r : RT) (n : Nat) (kk7 : nA) (x0 x5 x6 : DV) (h0 : Hp) : aH :=
 bnd (r 130 [(.s [9, 10, 13, 32])] h0) fun v1 h1 =>
 bnd (dV x0 h1) fun v2 h2 =>
 bnd (r 129 [x5, v1, v2] h2) fun v3 h3 =>
 bnd (aQ x5 h3) fun v4 h4 =>
 bnd (aB 1 v4 h4) fun v5 h5 =>
 bnd (aA v5 h5) fun v6 h6 =>
 bnd (dV x0 h6) fun v7 h7 =>
 bnd (aD .geq v6 v7 h7) fun v8 h8 =>
 aT v8 (
   eS r n x0 x6 h8) (
 bnd (aQ x5 h8) fun v9 h9 =>
 bnd (aB 1 v9 h9) fun v10 h10 =>
 bnd (aA v10 h10) fun v11 h11 =>
 bnd (fI x0 v11 h11) fun v12 h12 =>
 bnd (aD .eql v12 (.i .u8 (Int.ofNat 34)) h12) fun v13 h13 =>
 aT v13 (
 bnd (aQ x5 h13) fun v14 h14 =>
 bnd (aB 1 v14 h14) fun v15 h15 =>
 bnd (aA v15 h15) fun v16 h16 =>
 bnd (aD .add v16 (aE 1) h16) fun v17 h17 =>
 bnd (fE x0 (some v17) none h17) fun v18 h18 =>
 bnd (r 131 [v18, (.i .u8 (Int.ofNat 34))] h18) fun v19 h19 =>
 bnd (aD .lss v19 (aE 0) h19) fun v20 h20 =>
 aT v20 (
 bnd (aQ x5 h20) fun v21 h21 =>
 bnd (aB 1 v21 h21) fun v22 h22 =>
 bnd (aA v22 h22) fun v23 h23 =>
 some (.t [.l0, v23, (aE 11)], h23)) (
 bnd (aQ x5 h20) fun v24 h24 =>
 bnd (aB 1 v24 h24) fun v25 h25 =>
 bnd (aA v25 h25) fun v26 h26 =>
 bnd (aD .add v19 (aE 2) h26) fun v27 h27 =>
 bnd (aD .add v26 v27 h27) fun v28 h28 =>
 bnd (aQ x5 h28) fun v29 h29 =>
 bnd (aB 1 v29 h29) fun v30 h30 =>
 bnd (aG 1 v30 v28 h30) fun _ h31 =>
     kk7 x0 x5 x6 h31)) (
 bnd (r 132 [x5] h13) fun v32 h32 =>
 bnd (aC 0 v32 h32) fun v33 h33 =>
 bnd (aC 1 v32 h33) fun v34 h34 =>
 bnd (bN [(aE 0), (.s []), (aE 0), (aE 0)] h34) fun v35 h35 =>
 bnd (aG 4 v35 v33 h35) fun _ h36 =>
 bnd (aD .neq v34 (aE 0) h36) fun v37 h37 =>
 aT v37 (
 bnd (aB 3 v35 h37) fun v38 h38 =>
 bnd (aA v38 h38) fun v39 h39 =>
 some (.t [.l0, v39, v34], h39)) (
 bnd (aK 4 v35 h37) fun v40 h40 =>
 bnd (aL [(aE 0), (.s []), (aE 0), (aE 0)] 1 [(0, 4, v40)] h40) fun v41 h41 =>
 bnd (aY 4 40 x6 v41 h41) fun v42 h42 =>
     kk7 x0 x5 v42 h42)))
noncomputable def uB (r : RT) (n : Nat) (m : Nat) : nA :=
 Nat.rec (motive := fun _ => nA) (fun _ _ _ _ => none) (fun _ ih => aLb r n ih) m
noncomputable def bTy (r : RT) (n : Nat) : nA := uB r n n
noncomputable def aPr (r : RT) (n : Nat) (x0 x5 x6 : DV) (h0 : Hp) : aH :=
 bTy r n x0 x5 x6 h0
noncomputable def aPs (r : RT) (n : Nat) (x0 x5 x6 : DV) (h0 : Hp) : aH :=
 aPr r n x0 x5 x6 h0
noncomputable def aAd (r : RT) (n : Nat) (x0 x5 : DV) (h0 : Hp) : aH :=
 aPs r n x0 x5 .l0 h0
noncomputable def aBn (r : RT) (n : Nat) (x0 : DV) (h0 : Hp) : aH :=
 bnd (bB [(.s []), (aE 0)] [(0, 1, x0)] h0) fun v1 h1 =>
 bnd (bR v1 h1) fun v2 h2 =>
  aAd r n x0 v2 h2
noncomputable def aPy (r : RT) (n : Nat) (x0 : DV) (h0 : Hp) : aH :=
 bnd (dV x0 h0) fun v1 h1 =>
 bnd (aD .gtr v1 (aE 2000) h1) fun v2 h2 =>
 aT v2 (
 some (.t [.l0, (aE 0), (aE 12)], h2)) (
  aBn r n x0 h2)
noncomputable def s117 (r : RT) (n : Nat) (x0 : DV) (h0 : Hp) : aH :=
 aPy r n x0 h0
noncomputable abbrev c117 : Code := cf Tryz.f117
noncomputable abbrev aTx : Code := cR c117
noncomputable abbrev aEv : Code := cL aTx
noncomputable abbrev aIn : Code := cR aEv
noncomputable abbrev aKv : Code := cR aIn
noncomputable abbrev aCf : Code := cR aKv
noncomputable abbrev aKh : Code := cR aCf
noncomputable abbrev dAx : Code := cR aKh
noncomputable abbrev aGd : Code := cL aKh
noncomputable abbrev aHa : Code := cL aGd
noncomputable abbrev jY : Code := cL aHa
noncomputable abbrev bBj : Code := cL aCf
noncomputable abbrev aWu : Code := cL aKv
noncomputable abbrev aHs : Code := cL aIn
noncomputable abbrev bDo : Code := cL aEv
noncomputable abbrev aZf : Code := cL c117
noncomputable abbrev r117 : K := aP CF Tryz.f117
noncomputable def D117 (r : RT) (n : Nat) (c : Code) (X : Nat → K) (k : K) : K := aN CF r 80 n c X r117 k
theorem cFd : D117 r n dAx x0 r117 = (K2 (eS r n) 0 6) :=
 (by kernel_rfl)
theorem bWw (kk7 : nA) (q0 : gO) : D117 r n jY (xs x0 0 (K2 q0 0 6)) (K3 kk7 0 5 6) = fun (env : aV) (h : Hp) =>
 bnd (r 130 [(.s [9, 10, 13, 32])] h) fun v1 h1 =>
 bnd (dV (env 0) h1) fun v2 h2 =>
 bnd (r 129 [(env 5), v1, v2] h2) fun v3 h3 =>
 bnd (aQ (env 5) h3) fun v4 h4 =>
 bnd (aB 1 v4 h4) fun v5 h5 =>
 bnd (aA v5 h5) fun v6 h6 =>
 bnd (dV (env 0) h6) fun v7 h7 =>
 bnd (aD .geq v6 v7 h7) fun v8 h8 =>
 aT v8 (
   q0 (env 0) (env 6) h8) (
 bnd (aQ (env 5) h8) fun v9 h9 =>
 bnd (aB 1 v9 h9) fun v10 h10 =>
 bnd (aA v10 h10) fun v11 h11 =>
 bnd (fI (env 0) v11 h11) fun v12 h12 =>
 bnd (aD .eql v12 (.i .u8 (Int.ofNat 34)) h12) fun v13 h13 =>
 aT v13 (
 bnd (aQ (env 5) h13) fun v14 h14 =>
 bnd (aB 1 v14 h14) fun v15 h15 =>
 bnd (aA v15 h15) fun v16 h16 =>
 bnd (aD .add v16 (aE 1) h16) fun v17 h17 =>
 bnd (fE (env 0) (some v17) none h17) fun v18 h18 =>
 bnd (r 131 [v18, (.i .u8 (Int.ofNat 34))] h18) fun v19 h19 =>
 bnd (aD .lss v19 (aE 0) h19) fun v20 h20 =>
 aT v20 (
 bnd (aQ (env 5) h20) fun v21 h21 =>
 bnd (aB 1 v21 h21) fun v22 h22 =>
 bnd (aA v22 h22) fun v23 h23 =>
 some (.t [.l0, v23, (aE 11)], h23)) (
 bnd (aQ (env 5) h20) fun v24 h24 =>
 bnd (aB 1 v24 h24) fun v25 h25 =>
 bnd (aA v25 h25) fun v26 h26 =>
 bnd (aD .add v19 (aE 2) h26) fun v27 h27 =>
 bnd (aD .add v26 v27 h27) fun v28 h28 =>
 bnd (aQ (env 5) h28) fun v29 h29 =>
 bnd (aB 1 v29 h29) fun v30 h30 =>
 bnd (aG 1 v30 v28 h30) fun _ h31 =>
     kk7 (env 0) (env 5) (env 6) h31)) (
 bnd (r 132 [(env 5)] h13) fun v32 h32 =>
 bnd (aC 0 v32 h32) fun v33 h33 =>
 bnd (aC 1 v32 h33) fun v34 h34 =>
 bnd (bN [(aE 0), (.s []), (aE 0), (aE 0)] h34) fun v35 h35 =>
 bnd (aG 4 v35 v33 h35) fun _ h36 =>
 bnd (aD .neq v34 (aE 0) h36) fun v37 h37 =>
 aT v37 (
 bnd (aB 3 v35 h37) fun v38 h38 =>
 bnd (aA v38 h38) fun v39 h39 =>
 some (.t [.l0, v39, v34], h39)) (
 bnd (aK 4 v35 h37) fun v40 h40 =>
 bnd (aL [(aE 0), (.s []), (aE 0), (aE 0)] 1 [(0, 4, v40)] h40) fun v41 h41 =>
 bnd (aY 4 40 (env 6) v41 h41) fun v42 h42 =>
     kk7 (env 0) (env 5) v42 h42))) := by kernel_rfl
theorem bId (kk7 : nA) : (fun (env : aV) (h : Hp) =>
 bnd (r 130 [(.s [9, 10, 13, 32])] h) fun v1 h1 =>
 bnd (dV (env 0) h1) fun v2 h2 =>
 bnd (r 129 [(env 5), v1, v2] h2) fun v3 h3 =>
 bnd (aQ (env 5) h3) fun v4 h4 =>
 bnd (aB 1 v4 h4) fun v5 h5 =>
 bnd (aA v5 h5) fun v6 h6 =>
 bnd (dV (env 0) h6) fun v7 h7 =>
 bnd (aD .geq v6 v7 h7) fun v8 h8 =>
 aT v8 (
   eS r n (env 0) (env 6) h8) (
 bnd (aQ (env 5) h8) fun v9 h9 =>
 bnd (aB 1 v9 h9) fun v10 h10 =>
 bnd (aA v10 h10) fun v11 h11 =>
 bnd (fI (env 0) v11 h11) fun v12 h12 =>
 bnd (aD .eql v12 (.i .u8 (Int.ofNat 34)) h12) fun v13 h13 =>
 aT v13 (
 bnd (aQ (env 5) h13) fun v14 h14 =>
 bnd (aB 1 v14 h14) fun v15 h15 =>
 bnd (aA v15 h15) fun v16 h16 =>
 bnd (aD .add v16 (aE 1) h16) fun v17 h17 =>
 bnd (fE (env 0) (some v17) none h17) fun v18 h18 =>
 bnd (r 131 [v18, (.i .u8 (Int.ofNat 34))] h18) fun v19 h19 =>
 bnd (aD .lss v19 (aE 0) h19) fun v20 h20 =>
 aT v20 (
 bnd (aQ (env 5) h20) fun v21 h21 =>
 bnd (aB 1 v21 h21) fun v22 h22 =>
 bnd (aA v22 h22) fun v23 h23 =>
 some (.t [.l0, v23, (aE 11)], h23)) (
 bnd (aQ (env 5) h20) fun v24 h24 =>
 bnd (aB 1 v24 h24) fun v25 h25 =>
 bnd (aA v25 h25) fun v26 h26 =>
 bnd (aD .add v19 (aE 2) h26) fun v27 h27 =>
 bnd (aD .add v26 v27 h27) fun v28 h28 =>
 bnd (aQ (env 5) h28) fun v29 h29 =>
 bnd (aB 1 v29 h29) fun v30 h30 =>
 bnd (aG 1 v30 v28 h30) fun _ h31 =>
     kk7 (env 0) (env 5) (env 6) h31)) (
 bnd (r 132 [(env 5)] h13) fun v32 h32 =>
 bnd (aC 0 v32 h32) fun v33 h33 =>
 bnd (aC 1 v32 h33) fun v34 h34 =>
 bnd (bN [(aE 0), (.s []), (aE 0), (aE 0)] h34) fun v35 h35 =>
 bnd (aG 4 v35 v33 h35) fun _ h36 =>
 bnd (aD .neq v34 (aE 0) h36) fun v37 h37 =>
 aT v37 (
 bnd (aB 3 v35 h37) fun v38 h38 =>
 bnd (aA v38 h38) fun v39 h39 =>
 some (.t [.l0, v39, v34], h39)) (
 bnd (aK 4 v35 h37) fun v40 h40 =>
 bnd (aL [(aE 0), (.s []), (aE 0), (aE 0)] 1 [(0, 4, v40)] h40) fun v41 h41 =>
 bnd (aY 4 40 (env 6) v41 h41) fun v42 h42 =>
     kk7 (env 0) (env 5) v42 h42)))) = (K3 (aLb r n kk7) 0 5 6) := by kernel_rfl
theorem cAq (kk7 : nA) : D117 r n jY (xs x0 0 (K2 (eS r n) 0 6)) (K3 kk7 0 5 6) = (K3 (aLb r n kk7) 0 5 6) :=
 (bWw r n kk7 (eS r n)).trans (bId r n kk7)
theorem cCm (m : Nat) : aM (fun kk => D117 r n jY (xs x0 0 (K2 (eS r n) 0 6)) kk) m = (K3 (uB r n m) 0 5 6) := by
 induction m with
 | zero => exact (by kernel_rfl : aM (fun kk => D117 r n jY (xs x0 0 (K2 (eS r n) 0 6)) kk) 0 = (K3 (uB r n 0) 0 5 6))
 | succ m ih =>
  refine (by kernel_rfl : aM (fun kk => D117 r n jY (xs x0 0 (K2 (eS r n) 0 6)) kk) (m + 1) = D117 r n jY (xs x0 0 (K2 (eS r n) 0 6)) (aM (fun kk => D117 r n jY (xs x0 0 (K2 (eS r n) 0 6)) kk) m)).trans ?_
  rw [ih]
  exact (cAq r n (uB r n m)).trans (by kernel_rfl)
theorem cPy : D117 r n aHa (xs x0 0 (K2 (eS r n) 0 6)) (K2 (eS r n) 0 6) = (K3 (bTy r n) 0 5 6) :=
 (by kernel_rfl : D117 r n aHa (xs x0 0 (K2 (eS r n) 0 6)) (K2 (eS r n) 0 6) = aM (fun kk => D117 r n jY (xs x0 0 (K2 (eS r n) 0 6)) kk) n).trans ((cCm r n n).trans (by kernel_rfl))
theorem cDz : D117 r n aKh x0 r117 = D117 r n aGd x0 (K2 (eS r n) 0 6) :=
 congrArg (fun k => D117 r n aGd x0 k) (cFd r n)
theorem cMd : D117 r n aKh x0 r117 = (K3 (aPr r n) 0 5 6) :=
 (cDz r n).trans
 ((by kernel_rfl : D117 r n aGd x0 (K2 (eS r n) 0 6) = D117 r n aHa (xs x0 0 (K2 (eS r n) 0 6)) (K2 (eS r n) 0 6)).trans
 ((cPy r n).trans (by kernel_rfl)))
theorem bLh : D117 r n aCf x0 r117 = D117 r n bBj x0 (K3 (aPr r n) 0 5 6) :=
 congrArg (fun k => D117 r n bBj x0 k) (cMd r n)
theorem cIc : D117 r n aCf x0 r117 = (K3 (aPs r n) 0 5 6) :=
 (bLh r n).trans
 ((by kernel_rfl))
theorem cBd : D117 r n aKv x0 r117 = D117 r n aWu x0 (K3 (aPs r n) 0 5 6) :=
 congrArg (fun k => D117 r n aWu x0 k) (cIc r n)
theorem cLz : D117 r n aKv x0 r117 = (K2 (aAd r n) 0 5) :=
 (cBd r n).trans
 ((by kernel_rfl))
theorem bLi : D117 r n aIn x0 r117 = D117 r n aHs x0 (K2 (aAd r n) 0 5) :=
 congrArg (fun k => D117 r n aHs x0 k) (cLz r n)
theorem bVp (q0 : gO) : D117 r n aHs x0 (K2 q0 0 5) = fun (env : aV) (h : Hp) =>
 bnd (bB [(.s []), (aE 0)] [(0, 1, (env 0))] h) fun v1 h1 =>
 bnd (bR v1 h1) fun v2 h2 =>
  q0 (env 0) v2 h2 := by kernel_rfl
theorem bFz : (fun (env : aV) (h : Hp) =>
 bnd (bB [(.s []), (aE 0)] [(0, 1, (env 0))] h) fun v1 h1 =>
 bnd (bR v1 h1) fun v2 h2 =>
  aAd r n (env 0) v2 h2) = (K1 (aBn r n) 0) := by kernel_rfl
theorem cEl : D117 r n aIn x0 r117 = (K1 (aBn r n) 0) :=
 (bLi r n).trans
 ((bVp r n (aAd r n)).trans (bFz r n))
theorem bIu : D117 r n aEv x0 r117 = D117 r n bDo x0 (K1 (aBn r n) 0) :=
 congrArg (fun k => D117 r n bDo x0 k) (cEl r n)
theorem cHe : D117 r n aTx x0 r117 = (K1 (aPy r n) 0) :=
 (by kernel_rfl : D117 r n aTx x0 r117 = D117 r n aEv x0 r117).trans
 ((bIu r n).trans
 ((by kernel_rfl)))
theorem dDl : D117 r n c117 x0 r117 = D117 r n aZf x0 (K1 (aPy r n) 0) :=
 congrArg (fun k => D117 r n aZf x0 k) (cHe r n)
theorem dOj : D117 r n c117 x0 r117 = (K1 (s117 r n) 0) :=
 (dDl r n).trans
 ((by kernel_rfl))
theorem dAl : aF CF r n 117 args h = s117 r n (aU args 0) h :=
 (by kernel_rfl : aF CF r n 117 args h = D117 r n c117 x0 r117 (aI args) h).trans ((congrFun (congrFun (dOj r n) (aI args)) h).trans (by kernel_rfl))
end Go.Dd

namespace Go.Dd
open Go.Proofs
variable (r : RT) (n : Nat) (args : List DV) (h : Hp)
noncomputable def bS (r : RT) (n : Nat) (x3 : DV) (h0 : Hp) : aH :=
 some (x3, h0)
noncomputable def fW (r : RT) (n : Nat) (kk4 : gO) (x0 x3 : DV) (h0 : Hp) : aH :=
 bnd (r 135 [x0] h0) fun v1 h1 =>
 bnd (aL iJ 1 [(0, 6, v1)] h1) fun v2 h2 =>
 bnd (aY 6 104 x3 v2 h2) fun v3 h3 =>
 bnd (r 133 [x0, (aE 10), (.s [46])] h3) fun v4 h4 =>
 bnd (hY .not v4 h4) fun v5 h5 =>
 aT v5 (
 some (v3, h5)) (
 bnd (r 134 [x0] h5) fun v6 h6 =>
  kk4 x0 v3 h6)
noncomputable def uL (r : RT) (n : Nat) (kk4 : gO) (x3 : DV) (h0 : Hp) : aH :=
 some (x3, h0)
noncomputable def pM (r : RT) (n : Nat) (kk4 : gO) (x0 x3 : DV) (h0 : Hp) : aH :=
 bnd (r 133 [x0, (aE 10), (.s [46])] h0) fun v1 h1 =>
 aT v1 (
 bnd (r 134 [x0] h1) fun v2 h2 =>
  uL r n kk4 x3 h2) (
  uL r n kk4 x3 h1)
noncomputable def aGo (r : RT) (n : Nat) (kk4 : gO) (x0 x3 : DV) (h0 : Hp) : aH :=
 bnd (r 135 [x0] h0) fun v1 h1 =>
 bnd (aL iJ 1 [(0, 6, v1)] h1) fun v2 h2 =>
 bnd (bB iJ [(0, 1, (aE 10)), (5, 1, v2)] h2) fun v3 h3 =>
 bnd (aL iJ 1 [(0, 6, v3)] h3) fun v4 h4 =>
 bnd (aY 6 104 x3 v4 h4) fun v5 h5 =>
  pM r n kk4 x0 v5 h5
noncomputable def bSr (r : RT) (n : Nat) (kk4 : gO) (x0 x3 : DV) (h0 : Hp) : aH :=
 bnd (r 134 [x0] h0) fun v1 h1 =>
  aGo r n kk4 x0 x3 h1
noncomputable def aSd (r : RT) (n : Nat) (kk4 : gO) (x0 x3 x20 : DV) (h0 : Hp) : aH :=
 aT x20 (
  bSr r n kk4 x0 x3 h0) (
  fW r n kk4 x0 x3 h0)
noncomputable def aTl (r : RT) (n : Nat) (kk4 : gO) (x0 x3 : DV) (h0 : Hp) : aH :=
 bnd (r 133 [x0, (aE 10), (.s [94])] h0) fun v1 h1 =>
  aSd r n kk4 x0 x3 v1 h1
noncomputable def bCp (r : RT) (n : Nat) (kk4 : gO) (x0 x3 : DV) (h0 : Hp) : aH :=
 bnd (aQ x0 h0) fun v1 h1 =>
 bnd (aB 3 v1 h1) fun v2 h2 =>
 bnd (aA v2 h2) fun v3 h3 =>
 bnd (aD .eql v3 (aE 0) h3) fun v4 h4 =>
 bnd (gD v4 true (some (x0, h4)) h4) fun v5 h5 =>
 bnd (gD v4 true (r 133 [v5, (aE 0), (.s [])] h5) h5) fun v6 h6 =>
 bnd (gD v4 true (hY .not v6 h6) h6) fun v7 h7 =>
 bnd (aR v4 v7 (.b false) h7) fun v8 h8 =>
 bnd (gD v8 true (some (x0, h8)) h8) fun v9 h9 =>
 bnd (gD v8 true (r 133 [v9, (aE 10), (.s [93])] h9) h9) fun v10 h10 =>
 bnd (gD v8 true (hY .not v10 h10) h10) fun v11 h11 =>
 bnd (aR v8 v11 (.b false) h11) fun v12 h12 =>
 aT v12 (
   aTl r n kk4 x0 x3 h12) (
   bS r n x3 h12)
noncomputable def tJ (r : RT) (n : Nat) (m : Nat) : gO :=
 Nat.rec (motive := fun _ => gO) (fun _ _ _ => none) (fun _ ih => bCp r n ih) m
noncomputable def bXr (r : RT) (n : Nat) : gO := tJ r n n
noncomputable def aRi (r : RT) (n : Nat) (x0 x3 : DV) (h0 : Hp) : aH :=
 bXr r n x0 x3 h0
noncomputable def aTk (r : RT) (n : Nat) (x0 : DV) (h0 : Hp) : aH :=
 aRi r n x0 .l0 h0
noncomputable def s119 (r : RT) (n : Nat) (x0 : DV) (h0 : Hp) : aH :=
 aTk r n x0 h0
noncomputable abbrev c119 : Code := cf Tryz.f119
noncomputable abbrev aLd : Code := cR c119
noncomputable abbrev aEb : Code := cR aLd
noncomputable abbrev dAa : Code := cR aEb
noncomputable abbrev aJd : Code := cL aEb
noncomputable abbrev aHy : Code := cL aJd
noncomputable abbrev kD : Code := cL aHy
noncomputable abbrev aUi : Code := cR kD
noncomputable abbrev aDx : Code := cL aUi
noncomputable abbrev bYi : Code := cR aDx
noncomputable abbrev pW : Code := cL aDx
noncomputable abbrev pL : Code := cR pW
noncomputable abbrev pG : Code := cL pL
noncomputable abbrev vF : Code := cR pG
noncomputable abbrev uN : Code := cR vF
noncomputable abbrev cIx : Code := cR uN
noncomputable abbrev aWt : Code := cL uN
noncomputable abbrev aFz : Code := cL vF
noncomputable abbrev aYc : Code := cL pG
noncomputable abbrev cQq : Code := cR pL
noncomputable abbrev bAe : Code := cL pW
noncomputable abbrev aWx : Code := cL kD
noncomputable abbrev bDl : Code := cL aLd
noncomputable abbrev bBk : Code := cL c119
noncomputable abbrev r119 : K := aP CF Tryz.f119
noncomputable def D119 (r : RT) (n : Nat) (c : Code) (X : Nat → K) (k : K) : K := aN CF r 47 n c X r119 k
theorem cQu : D119 r n dAa x0 r119 = (K1 (bS r n) 3) :=
 (by kernel_rfl)
theorem bIy (kk4 : gO) (q0 : TT1) : D119 r n bYi (xs (xs x0 0 (K1 q0 3)) 1 (K2 kk4 0 3)) (K2 kk4 0 3) = fun (env : aV) (h : Hp) =>
 bnd (r 135 [(env 0)] h) fun v1 h1 =>
 bnd (aL iJ 1 [(0, 6, v1)] h1) fun v2 h2 =>
 bnd (aY 6 104 (env 3) v2 h2) fun v3 h3 =>
 bnd (r 133 [(env 0), (aE 10), (.s [46])] h3) fun v4 h4 =>
 bnd (hY .not v4 h4) fun v5 h5 =>
 aT v5 (
 some (v3, h5)) (
 bnd (r 134 [(env 0)] h5) fun v6 h6 =>
      kk4 (env 0) v3 h6) := by kernel_rfl
theorem bEd (kk4 : gO) : (fun (env : aV) (h : Hp) =>
 bnd (r 135 [(env 0)] h) fun v1 h1 =>
 bnd (aL iJ 1 [(0, 6, v1)] h1) fun v2 h2 =>
 bnd (aY 6 104 (env 3) v2 h2) fun v3 h3 =>
 bnd (r 133 [(env 0), (aE 10), (.s [46])] h3) fun v4 h4 =>
 bnd (hY .not v4 h4) fun v5 h5 =>
 aT v5 (
 some (v3, h5)) (
 bnd (r 134 [(env 0)] h5) fun v6 h6 =>
      kk4 (env 0) v3 h6)) = (K2 (fW r n kk4) 0 3) := by kernel_rfl
theorem cJf (kk4 : gO) : D119 r n bYi (xs (xs x0 0 (K1 (bS r n) 3)) 1 (K2 kk4 0 3)) (K2 kk4 0 3) = (K2 (fW r n kk4) 0 3) :=
 (bIy r n kk4 (bS r n)).trans (bEd r n kk4)
theorem cDx (kk4 : gO) : D119 r n cIx (xs (xs x0 0 (K1 (bS r n) 3)) 1 (K2 kk4 0 3)) (K2 (fW r n kk4) 0 3) = (K1 (uL r n kk4) 3) :=
 (by kernel_rfl)
theorem bGv (kk4 : gO) : D119 r n uN (xs (xs x0 0 (K1 (bS r n) 3)) 1 (K2 kk4 0 3)) (K2 (fW r n kk4) 0 3) = D119 r n aWt (xs (xs x0 0 (K1 (bS r n) 3)) 1 (K2 kk4 0 3)) (K1 (uL r n kk4) 3) :=
 congrArg (fun k => D119 r n aWt (xs (xs x0 0 (K1 (bS r n) 3)) 1 (K2 kk4 0 3)) k) (cDx r n kk4)
theorem bPi (kk4 : gO) : D119 r n uN (xs (xs x0 0 (K1 (bS r n) 3)) 1 (K2 kk4 0 3)) (K2 (fW r n kk4) 0 3) = (K2 (pM r n kk4) 0 3) :=
 (bGv r n kk4).trans
 ((by kernel_rfl))
theorem bRz (kk4 : gO) : D119 r n vF (xs (xs x0 0 (K1 (bS r n) 3)) 1 (K2 kk4 0 3)) (K2 (fW r n kk4) 0 3) = D119 r n aFz (xs (xs x0 0 (K1 (bS r n) 3)) 1 (K2 kk4 0 3)) (K2 (pM r n kk4) 0 3) :=
 congrArg (fun k => D119 r n aFz (xs (xs x0 0 (K1 (bS r n) 3)) 1 (K2 kk4 0 3)) k) (bPi r n kk4)
theorem cBp (kk4 : gO) (q0 : gO) (q1 : TT1) : D119 r n aFz (xs (xs x0 0 (K1 q1 3)) 1 (K2 kk4 0 3)) (K2 q0 0 3) = fun (env : aV) (h : Hp) =>
 bnd (r 135 [(env 0)] h) fun v1 h1 =>
 bnd (aL iJ 1 [(0, 6, v1)] h1) fun v2 h2 =>
 bnd (bB iJ [(0, 1, (aE 10)), (5, 1, v2)] h2) fun v3 h3 =>
 bnd (aL iJ 1 [(0, 6, v3)] h3) fun v4 h4 =>
 bnd (aY 6 104 (env 3) v4 h4) fun v5 h5 =>
  q0 (env 0) v5 h5 := by kernel_rfl
theorem bHk (kk4 : gO) : (fun (env : aV) (h : Hp) =>
 bnd (r 135 [(env 0)] h) fun v1 h1 =>
 bnd (aL iJ 1 [(0, 6, v1)] h1) fun v2 h2 =>
 bnd (bB iJ [(0, 1, (aE 10)), (5, 1, v2)] h2) fun v3 h3 =>
 bnd (aL iJ 1 [(0, 6, v3)] h3) fun v4 h4 =>
 bnd (aY 6 104 (env 3) v4 h4) fun v5 h5 =>
  pM r n kk4 (env 0) v5 h5) = (K2 (aGo r n kk4) 0 3) := by kernel_rfl
theorem cLk (kk4 : gO) : D119 r n vF (xs (xs x0 0 (K1 (bS r n) 3)) 1 (K2 kk4 0 3)) (K2 (fW r n kk4) 0 3) = (K2 (aGo r n kk4) 0 3) :=
 (bRz r n kk4).trans
 ((cBp r n kk4 (pM r n kk4) (bS r n)).trans (bHk r n kk4))
theorem bUs (kk4 : gO) : D119 r n pG (xs (xs x0 0 (K1 (bS r n) 3)) 1 (K2 kk4 0 3)) (K2 (fW r n kk4) 0 3) = D119 r n aYc (xs (xs x0 0 (K1 (bS r n) 3)) 1 (K2 kk4 0 3)) (K2 (aGo r n kk4) 0 3) :=
 congrArg (fun k => D119 r n aYc (xs (xs x0 0 (K1 (bS r n) 3)) 1 (K2 kk4 0 3)) k) (cLk r n kk4)
theorem cKj (kk4 : gO) : D119 r n pG (xs (xs x0 0 (K1 (bS r n) 3)) 1 (K2 kk4 0 3)) (K2 (fW r n kk4) 0 3) = (K2 (bSr r n kk4) 0 3) :=
 (bUs r n kk4).trans
 ((by kernel_rfl))
theorem cKx (kk4 : gO) : D119 r n pL (xs (xs x0 0 (K1 (bS r n) 3)) 1 (K2 kk4 0 3)) (K2 (fW r n kk4) 0 3) = (K3 (aSd r n kk4) 0 3 20) :=
 (by kernel_rfl : D119 r n pL (xs (xs x0 0 (K1 (bS r n) 3)) 1 (K2 kk4 0 3)) (K2 (fW r n kk4) 0 3) = (fun (env : aV) (h : Hp) => aT (opr env (cC pL)) (D119 r n pG (xs (xs x0 0 (K1 (bS r n) 3)) 1 (K2 kk4 0 3)) (K2 (fW r n kk4) 0 3) env h) (D119 r n cQq (xs (xs x0 0 (K1 (bS r n) 3)) 1 (K2 kk4 0 3)) (K2 (fW r n kk4) 0 3) env h))).trans (by rw [cKj r n kk4]; kernel_rfl)
theorem cDj (kk4 : gO) : D119 r n aDx (xs (xs x0 0 (K1 (bS r n) 3)) 1 (K2 kk4 0 3)) (K2 kk4 0 3) = D119 r n pW (xs (xs x0 0 (K1 (bS r n) 3)) 1 (K2 kk4 0 3)) (K2 (fW r n kk4) 0 3) :=
 congrArg (fun k => D119 r n pW (xs (xs x0 0 (K1 (bS r n) 3)) 1 (K2 kk4 0 3)) k) (cJf r n kk4)
theorem bLx (kk4 : gO) : D119 r n pW (xs (xs x0 0 (K1 (bS r n) 3)) 1 (K2 kk4 0 3)) (K2 (fW r n kk4) 0 3) = D119 r n bAe (xs (xs x0 0 (K1 (bS r n) 3)) 1 (K2 kk4 0 3)) (K3 (aSd r n kk4) 0 3 20) :=
 congrArg (fun k => D119 r n bAe (xs (xs x0 0 (K1 (bS r n) 3)) 1 (K2 kk4 0 3)) k) (cKx r n kk4)
theorem cSq (kk4 : gO) : D119 r n aUi (xs x0 0 (K1 (bS r n) 3)) (K2 kk4 0 3) = (K2 (aTl r n kk4) 0 3) :=
 (by kernel_rfl : D119 r n aUi (xs x0 0 (K1 (bS r n) 3)) (K2 kk4 0 3) = D119 r n aDx (xs (xs x0 0 (K1 (bS r n) 3)) 1 (K2 kk4 0 3)) (K2 kk4 0 3)).trans
 ((cDj r n kk4).trans
 ((bLx r n kk4).trans
 ((by kernel_rfl))))
theorem bOb (kk4 : gO) : D119 r n kD (xs x0 0 (K1 (bS r n) 3)) (K2 kk4 0 3) = D119 r n aWx (xs x0 0 (K1 (bS r n) 3)) (K2 (aTl r n kk4) 0 3) :=
 congrArg (fun k => D119 r n aWx (xs x0 0 (K1 (bS r n) 3)) k) (cSq r n kk4)
theorem bSp (kk4 : gO) : D119 r n kD (xs x0 0 (K1 (bS r n) 3)) (K2 kk4 0 3) = (K2 (bCp r n kk4) 0 3) :=
 (bOb r n kk4).trans
 ((by kernel_rfl))
theorem bMd (m : Nat) : aM (fun kk => D119 r n kD (xs x0 0 (K1 (bS r n) 3)) kk) m = (K2 (tJ r n m) 0 3) := by
 induction m with
 | zero => exact (by kernel_rfl : aM (fun kk => D119 r n kD (xs x0 0 (K1 (bS r n) 3)) kk) 0 = (K2 (tJ r n 0) 0 3))
 | succ m ih =>
  refine (by kernel_rfl : aM (fun kk => D119 r n kD (xs x0 0 (K1 (bS r n) 3)) kk) (m + 1) = D119 r n kD (xs x0 0 (K1 (bS r n) 3)) (aM (fun kk => D119 r n kD (xs x0 0 (K1 (bS r n) 3)) kk) m)).trans ?_
  rw [ih]
  exact (bSp r n (tJ r n m)).trans (by kernel_rfl)
theorem cOz : D119 r n aHy (xs x0 0 (K1 (bS r n) 3)) (K1 (bS r n) 3) = (K2 (bXr r n) 0 3) :=
 (by kernel_rfl : D119 r n aHy (xs x0 0 (K1 (bS r n) 3)) (K1 (bS r n) 3) = aM (fun kk => D119 r n kD (xs x0 0 (K1 (bS r n) 3)) kk) n).trans ((bMd r n n).trans (by kernel_rfl))
theorem bUy : D119 r n aEb x0 r119 = D119 r n aJd x0 (K1 (bS r n) 3) :=
 congrArg (fun k => D119 r n aJd x0 k) (cQu r n)
theorem cPu : D119 r n aEb x0 r119 = (K2 (aRi r n) 0 3) :=
 (bUy r n).trans
 ((by kernel_rfl : D119 r n aJd x0 (K1 (bS r n) 3) = D119 r n aHy (xs x0 0 (K1 (bS r n) 3)) (K1 (bS r n) 3)).trans
 ((cOz r n).trans (by kernel_rfl)))
theorem bIc : D119 r n aLd x0 r119 = D119 r n bDl x0 (K2 (aRi r n) 0 3) :=
 congrArg (fun k => D119 r n bDl x0 k) (cPu r n)
theorem cTe : D119 r n aLd x0 r119 = (K1 (aTk r n) 0) :=
 (bIc r n).trans
 ((by kernel_rfl))
theorem cEy : D119 r n c119 x0 r119 = D119 r n bBk x0 (K1 (aTk r n) 0) :=
 congrArg (fun k => D119 r n bBk x0 k) (cTe r n)
theorem dJl : D119 r n c119 x0 r119 = (K1 (s119 r n) 0) :=
 (cEy r n).trans
 ((by kernel_rfl))
theorem dBa : aF CF r n 119 args h = s119 r n (aU args 0) h :=
 (by kernel_rfl : aF CF r n 119 args h = D119 r n c119 x0 r119 (aI args) h).trans ((congrFun (congrFun (dJl r n) (aI args)) h).trans (by kernel_rfl))
noncomputable def s120 (r : RT) (n : Nat) (x0 x1 x2 : DV) (h0 : Hp) : aH :=
 bnd (bN [(aE 0), (.s []), (aE 0), (aE 0)] h0) fun v1 h1 =>
 bnd (r 133 [x0, x1, x2] h1) fun v2 h2 =>
 bnd (hY .not v2 h2) fun v3 h3 =>
 aT v3 (
 bnd (r 137 [x0, (aE 0)] h3) fun v4 h4 =>
 bnd (r 136 [x0, v4, (aE 13)] h4) fun v5 h5 =>
 bnd (bB [(aE 0), (.s []), (aE 0), (aE 0)] [] h5) fun v6 h6 =>
 bnd (aG 4 v1 v6 h6) fun _ h7 =>
 bnd (aK 4 v1 h7) fun v8 _ =>
 some (v8, h7)) (
 bnd (r 134 [x0] h3) fun v9 h9 =>
 bnd (aG 4 v1 v9 h9) fun _ h10 =>
 bnd (aK 4 v1 h10) fun v11 _ =>
 some (v11, h10))
noncomputable abbrev c120 : Code := cf Tryz.f120
noncomputable abbrev r120 : K := aP CF Tryz.f120
noncomputable def D120 (r : RT) (n : Nat) (c : Code) (X : Nat → K) (k : K) : K := aN CF r 19 n c X r120 k
theorem dIi : D120 r n c120 x0 r120 = (K3 (s120 r n) 0 1 2) :=
 (by kernel_rfl)
theorem cWp : aF CF r n 120 args h = s120 r n (aU args 0) (aU args 1) (aU args 2) h :=
 (by kernel_rfl : aF CF r n 120 args h = D120 r n c120 x0 r120 (aI args) h).trans ((congrFun (congrFun (dIi r n) (aI args)) h).trans (by kernel_rfl))
noncomputable def bBl (r : RT) (n : Nat) (kk6 : nA) (x0 x1 x4 : DV) (h0 : Hp) : aH :=
 bnd (gD x4 false (some (x0, h0)) h0) fun v1 h1 =>
 bnd (gD x4 false (r 133 [v1, (aE 2), (.s [])] h1) h1) fun v2 h2 =>
 bnd (aR x4 (.b true) v2 h2) fun v3 h3 =>
 aT v3 (
 bnd (aQ x1 h3) fun v4 h4 =>
 bnd (aB 1 v4 h4) fun v5 h5 =>
 bnd (aA v5 h5) fun v6 h6 =>
 bnd (r 120 [x0, (aE 2), (.s [])] h6) fun v7 h7 =>
 cnd (bI (aA v5 h7) v6 && true) (
 bnd (fM 1 v7 h7) fun v8 h8 =>
 bnd (fN .add v6 v8 h8) fun v9 h9 =>
 bnd (aQ x1 h9) fun v10 h10 =>
 bnd (aB 1 v10 h10) fun v11 h11 =>
 bnd (aG 1 v11 v9 h11) fun v12 h12 =>
 bnd (aQ x1 (resv 1 h12)) fun v13 h13 =>
 bnd (aB 3 v13 h13) fun v14 h14 =>
 bnd (aA v14 h14) fun v15 h15 =>
 bnd (aQ x1 h15) fun v16 h16 =>
 bnd (aB 3 v16 h16) fun v17 h17 =>
 bnd (aA v17 h17) fun v18 h18 =>
 bnd (r 138 [x0, (aE 1), v18] h18) fun v19 h19 =>
 cnd (bI (aA v14 h19) v15 && true) (
 bnd (bL (bZ 0 h12.next) [(.s [])] 1 [(0, 1, v19)] h19) fun v20 h20 =>
 bnd (aY 1 16 v15 v20 h20) fun v21 h21 =>
 bnd (aQ x1 h21) fun v22 h22 =>
 bnd (aB 3 v22 h22) fun v23 h23 =>
 bnd (aG 1 v23 v21 h23) fun v24 h24 =>
      kk6 x0 x1 (.b false) h24))) (
 some (.t [], h3))
noncomputable def uD (r : RT) (n : Nat) (m : Nat) : nA :=
 Nat.rec (motive := fun _ => nA) (fun _ _ _ _ => none) (fun _ ih => bBl r n ih) m
noncomputable def cEc (r : RT) (n : Nat) : nA := uD r n n
noncomputable def aQc (r : RT) (n : Nat) (x0 x1 x4 : DV) (h0 : Hp) : aH :=
 cEc r n x0 x1 x4 h0
noncomputable def bQf (r : RT) (n : Nat) (x0 x1 : DV) (h0 : Hp) : aH :=
 aQc r n x0 x1 (.b true) h0
noncomputable def aRs (r : RT) (n : Nat) (x0 x1 x44 : DV) (h0 : Hp) : aH :=
 aT x44 (
 bnd (r 134 [x0] h0) fun v1 h1 =>
 bnd (fM 1 v1 h1) fun v2 h2 =>
 bnd (aQ x1 h2) fun v3 h3 =>
 bnd (aB 1 v3 h3) fun v4 h4 =>
 bnd (aG 1 v4 v2 h4) fun _ h5 =>
 bnd (aQ x1 (resv 1 h5)) fun v6 h6 =>
 bnd (aB 3 v6 h6) fun v7 h7 =>
 bnd (aA v7 h7) fun v8 h8 =>
 bnd (aQ x1 h8) fun v9 h9 =>
 bnd (aB 3 v9 h9) fun v10 h10 =>
 bnd (aA v10 h10) fun v11 h11 =>
 bnd (r 138 [x0, (aE 1), v11] h11) fun v12 h12 =>
 cnd (bI (aA v7 h12) v8 && true) (
 bnd (bL (bZ 0 h5.next) [(.s [])] 1 [(0, 1, v12)] h12) fun v13 h13 =>
 bnd (aY 1 16 v8 v13 h13) fun v14 h14 =>
 bnd (aQ x1 h14) fun v15 h15 =>
 bnd (aB 3 v15 h15) fun v16 h16 =>
 bnd (aG 1 v16 v14 h16) fun v17 h17 =>
 some (.t [], h17))) (
  bQf r n x0 x1 h0)
noncomputable def cCt (r : RT) (n : Nat) (x0 x1 : DV) (h0 : Hp) : aH :=
 bnd (r 133 [x0, (aE 3), (.s [])] h0) fun v1 h1 =>
  aRs r n x0 x1 v1 h1
noncomputable def aPt (r : RT) (n : Nat) (x0 x1 x35 : DV) (h0 : Hp) : aH :=
 aT x35 (
 bnd (r 134 [x0] h0) fun v1 h1 =>
 bnd (fM 1 v1 h1) fun v2 h2 =>
 bnd (aQ x1 h2) fun v3 h3 =>
 bnd (aB 1 v3 h3) fun v4 h4 =>
 bnd (aG 1 v4 v2 h4) fun _ h5 =>
 some (.t [], h5)) (
  cCt r n x0 x1 h0)
noncomputable def s121 (r : RT) (n : Nat) (x0 x1 : DV) (h0 : Hp) : aH :=
 bnd (r 133 [x0, (aE 1), (.s [])] h0) fun v1 h1 =>
  aPt r n x0 x1 v1 h1
noncomputable abbrev c121 : Code := cf Tryz.f121
noncomputable abbrev aCc : Code := cL c121
noncomputable abbrev xV : Code := cR aCc
noncomputable abbrev xI : Code := cR xV
noncomputable abbrev xT : Code := cR xI
noncomputable abbrev aAc : Code := cR xT
noncomputable abbrev aSn : Code := cR aAc
noncomputable abbrev aJy : Code := cL aSn
noncomputable abbrev oJ : Code := cL aJy
noncomputable abbrev cAo : Code := cL aAc
noncomputable abbrev cUd : Code := cL xT
noncomputable abbrev aZe : Code := cL xI
noncomputable abbrev cGz : Code := cL xV
noncomputable abbrev aYa : Code := cL aCc
noncomputable abbrev r121 : K := aP CF Tryz.f121
noncomputable def D121 (r : RT) (n : Nat) (c : Code) (X : Nat → K) (k : K) : K := aN CF r 68 n c X r121 k
theorem bXe (kk6 : nA) : D121 r n oJ (xs (xs x0 0 r121) 1 r121) (K3 kk6 0 1 4) = (K3 (bBl r n kk6) 0 1 4) :=
 (by kernel_rfl)
theorem bUq (m : Nat) : aM (fun kk => D121 r n oJ (xs (xs x0 0 r121) 1 r121) kk) m = (K3 (uD r n m) 0 1 4) := by
 induction m with
 | zero => exact (by kernel_rfl : aM (fun kk => D121 r n oJ (xs (xs x0 0 r121) 1 r121) kk) 0 = (K3 (uD r n 0) 0 1 4))
 | succ m ih =>
  refine (by kernel_rfl : aM (fun kk => D121 r n oJ (xs (xs x0 0 r121) 1 r121) kk) (m + 1) = D121 r n oJ (xs (xs x0 0 r121) 1 r121) (aM (fun kk => D121 r n oJ (xs (xs x0 0 r121) 1 r121) kk) m)).trans ?_
  rw [ih]
  exact (bXe r n (uD r n m)).trans (by kernel_rfl)
theorem cSc : D121 r n aJy (xs (xs x0 0 r121) 1 r121) r121 = (K3 (cEc r n) 0 1 4) :=
 (by kernel_rfl : D121 r n aJy (xs (xs x0 0 r121) 1 r121) r121 = aM (fun kk => D121 r n oJ (xs (xs x0 0 r121) 1 r121) kk) n).trans ((bUq r n n).trans (by kernel_rfl))
theorem cRy : D121 r n aSn (xs x0 0 r121) r121 = (K3 (aQc r n) 0 1 4) :=
 (by kernel_rfl : D121 r n aSn (xs x0 0 r121) r121 = D121 r n aJy (xs (xs x0 0 r121) 1 r121) r121).trans
 ((cSc r n).trans (by kernel_rfl))
theorem bZf : D121 r n aAc (xs x0 0 r121) r121 = D121 r n cAo (xs x0 0 r121) (K3 (aQc r n) 0 1 4) :=
 congrArg (fun k => D121 r n cAo (xs x0 0 r121) k) (cRy r n)
theorem cLn : D121 r n aAc (xs x0 0 r121) r121 = (K2 (bQf r n) 0 1) :=
 (bZf r n).trans
 ((by kernel_rfl))
theorem cNv : D121 r n xT (xs x0 0 r121) r121 = (K3 (aRs r n) 0 1 44) :=
 (by kernel_rfl : D121 r n xT (xs x0 0 r121) r121 = (fun (env : aV) (h : Hp) => aT (opr env (cC xT)) (D121 r n cUd (xs x0 0 r121) r121 env h) (D121 r n aAc (xs x0 0 r121) r121 env h))).trans (by rw [cLn r n]; kernel_rfl)
theorem bWq : D121 r n xI (xs x0 0 r121) r121 = D121 r n aZe (xs x0 0 r121) (K3 (aRs r n) 0 1 44) :=
 congrArg (fun k => D121 r n aZe (xs x0 0 r121) k) (cNv r n)
theorem cOx : D121 r n xI (xs x0 0 r121) r121 = (K2 (cCt r n) 0 1) :=
 (bWq r n).trans
 ((by kernel_rfl))
theorem cIr : D121 r n xV (xs x0 0 r121) r121 = (K3 (aPt r n) 0 1 35) :=
 (by kernel_rfl : D121 r n xV (xs x0 0 r121) r121 = (fun (env : aV) (h : Hp) => aT (opr env (cC xV)) (D121 r n cGz (xs x0 0 r121) r121 env h) (D121 r n xI (xs x0 0 r121) r121 env h))).trans (by rw [cOx r n]; kernel_rfl)
theorem dHv : D121 r n aCc (xs x0 0 r121) r121 = D121 r n aYa (xs x0 0 r121) (K3 (aPt r n) 0 1 35) :=
 congrArg (fun k => D121 r n aYa (xs x0 0 r121) k) (cIr r n)
theorem dNr : D121 r n c121 x0 r121 = (K2 (s121 r n) 0 1) :=
 (by kernel_rfl : D121 r n c121 x0 r121 = D121 r n aCc (xs x0 0 r121) r121).trans
 ((dHv r n).trans
 ((by kernel_rfl)))
theorem cXh : aF CF r n 121 args h = s121 r n (aU args 0) (aU args 1) h :=
 (by kernel_rfl : aF CF r n 121 args h = D121 r n c121 x0 r121 (aI args) h).trans ((congrFun (congrFun (dNr r n) (aI args)) h).trans (by kernel_rfl))
noncomputable def aIp (r : RT) (n : Nat) (x0 x3 : DV) (h0 : Hp) : aH :=
 bnd (r 120 [x0, (aE 3), (.s [62])] h0) fun v1 h1 =>
 bnd (aB 2 x3 h1) fun v2 h2 =>
 bnd (aA v2 h2) fun v3 h3 =>
 some (v3, h3)
noncomputable def xY (r : RT) (n : Nat) (x0 x3 : DV) (h0 : Hp) : aH :=
 bnd (aB 2 x3 h0) fun v1 h1 =>
 bnd (aA v1 h1) fun v2 h2 =>
 bnd (aD .gtr v2 (aE 255) h2) fun v3 h3 =>
 aT v3 (
 bnd (aK 4 x3 h3) fun v4 h4 =>
 bnd (r 136 [x0, v4, (aE 2)] h4) fun v5 h5 =>
  aIp r n x0 x3 h5) (
  aIp r n x0 x3 h3)
noncomputable def aIj (r : RT) (n : Nat) (x0 : DV) (h0 : Hp) : aH :=
 bnd (r 120 [x0, (aE 4), (.s [])] h0) fun v1 h1 =>
 bnd (bN [(aE 0), (.s []), (aE 0), (aE 0)] h1) fun v2 h2 =>
 bnd (aG 4 v2 v1 h2) fun _ h3 =>
  xY r n x0 v2 h3
noncomputable def aTp (r : RT) (n : Nat) (x0 : DV) (h0 : Hp) : aH :=
 bnd (r 120 [x0, (aE 2), (.s [112, 114, 105, 109, 105, 116, 105, 118, 101, 58])] h0) fun v1 h1 =>
  aIj r n x0 h1
noncomputable def aPv (r : RT) (n : Nat) (x0 : DV) (h0 : Hp) : aH :=
 bnd (r 134 [x0] h0) fun v1 h1 =>
  aTp r n x0 h1
noncomputable def aPl (r : RT) (n : Nat) (x0 : DV) (h0 : Hp) : aH :=
 bnd (r 133 [x0, (aE 3), (.s [60])] h0) fun v1 h1 =>
 bnd (hY .not v1 h1) fun v2 h2 =>
 aT v2 (
 some ((aE 0), h2)) (
  aPv r n x0 h2)
noncomputable def s122 (r : RT) (n : Nat) (x0 : DV) (h0 : Hp) : aH :=
 aPl r n x0 h0
noncomputable abbrev c122 : Code := cf Tryz.f122
noncomputable abbrev aDm : Code := cR c122
noncomputable abbrev aGk : Code := cR aDm
noncomputable abbrev aGn : Code := cR aGk
noncomputable abbrev aHb : Code := cR aGn
noncomputable abbrev aEi : Code := cR aHb
noncomputable abbrev dGr : Code := cR aEi
noncomputable abbrev bOz : Code := cL aEi
noncomputable abbrev aOv : Code := cL aHb
noncomputable abbrev cDe : Code := cL aGn
noncomputable abbrev bBw : Code := cL aGk
noncomputable abbrev aVs : Code := cL aDm
noncomputable abbrev aXs : Code := cL c122
noncomputable abbrev r122 : K := aP CF Tryz.f122
noncomputable def D122 (r : RT) (n : Nat) (c : Code) (X : Nat → K) (k : K) : K := aN CF r 23 n c X r122 k
theorem cJv : D122 r n dGr x0 r122 = (K2 (aIp r n) 0 3) :=
 (by kernel_rfl)
theorem bKk : D122 r n aEi x0 r122 = D122 r n bOz x0 (K2 (aIp r n) 0 3) :=
 congrArg (fun k => D122 r n bOz x0 k) (cJv r n)
theorem cGb : D122 r n aEi x0 r122 = (K2 (xY r n) 0 3) :=
 (bKk r n).trans
 ((by kernel_rfl))
theorem cBl : D122 r n aHb x0 r122 = D122 r n aOv x0 (K2 (xY r n) 0 3) :=
 congrArg (fun k => D122 r n aOv x0 k) (cGb r n)
theorem bKx (q0 : gO) : D122 r n aOv x0 (K2 q0 0 3) = fun (env : aV) (h : Hp) =>
 bnd (r 120 [(env 0), (aE 4), (.s [])] h) fun v1 h1 =>
 bnd (bN [(aE 0), (.s []), (aE 0), (aE 0)] h1) fun v2 h2 =>
 bnd (aG 4 v2 v1 h2) fun _ h3 =>
  q0 (env 0) v2 h3 := by kernel_rfl
theorem bHe : (fun (env : aV) (h : Hp) =>
 bnd (r 120 [(env 0), (aE 4), (.s [])] h) fun v1 h1 =>
 bnd (bN [(aE 0), (.s []), (aE 0), (aE 0)] h1) fun v2 h2 =>
 bnd (aG 4 v2 v1 h2) fun _ h3 =>
  xY r n (env 0) v2 h3) = (K1 (aIj r n) 0) := by kernel_rfl
theorem cRs : D122 r n aHb x0 r122 = (K1 (aIj r n) 0) :=
 (cBl r n).trans
 ((bKx r n (xY r n)).trans (bHe r n))
theorem bRp : D122 r n aGn x0 r122 = D122 r n cDe x0 (K1 (aIj r n) 0) :=
 congrArg (fun k => D122 r n cDe x0 k) (cRs r n)
theorem cMv : D122 r n aGn x0 r122 = (K1 (aTp r n) 0) :=
 (bRp r n).trans
 ((by kernel_rfl))
theorem cAz : D122 r n aGk x0 r122 = D122 r n bBw x0 (K1 (aTp r n) 0) :=
 congrArg (fun k => D122 r n bBw x0 k) (cMv r n)
theorem cSy : D122 r n aGk x0 r122 = (K1 (aPv r n) 0) :=
 (cAz r n).trans
 ((by kernel_rfl))
theorem bNn : D122 r n aDm x0 r122 = D122 r n aVs x0 (K1 (aPv r n) 0) :=
 congrArg (fun k => D122 r n aVs x0 k) (cSy r n)
theorem cLr : D122 r n aDm x0 r122 = (K1 (aPl r n) 0) :=
 (bNn r n).trans
 ((by kernel_rfl))
theorem dDp : D122 r n c122 x0 r122 = D122 r n aXs x0 (K1 (aPl r n) 0) :=
 congrArg (fun k => D122 r n aXs x0 k) (cLr r n)
theorem dKc : D122 r n c122 x0 r122 = (K1 (s122 r n) 0) :=
 (dDp r n).trans
 ((by kernel_rfl))
theorem dDs : aF CF r n 122 args h = s122 r n (aU args 0) h :=
 (by kernel_rfl : aF CF r n 122 args h = D122 r n c122 x0 r122 (aI args) h).trans ((congrFun (congrFun (dKc r n) (aI args)) h).trans (by kernel_rfl))
noncomputable def aHo (r : RT) (n : Nat) (x0 : DV) (h0 : Hp) : aH :=
 bnd (r 141 [x0, (aE 20), (aE 0), (aE 0)] h0) fun v1 h1 =>
 some (.t [], h1)
noncomputable def cS (r : RT) (n : Nat) (x0 x2 : DV) (h0 : Hp) : aH :=
 aT x2 (
 bnd (r 141 [x0, (aE 2), (aE 0), (aE 0)] h0) fun v1 h1 =>
  aHo r n x0 h1) (
 bnd (r 141 [x0, (aE 1), (aE 0), (aE 0)] h0) fun v2 h2 =>
  aHo r n x0 h2)
noncomputable def lQ (r : RT) (n : Nat) (kk8 : fH) (x0 x2 x6 x22 x23 x24 : DV) (h0 : Hp) : aH :=
 bnd (aD .add x24 (aE 1) h0) fun v1 h1 =>
  kk8 x0 x2 x6 x22 x23 v1 h1
noncomputable def tE (r : RT) (n : Nat) (kk8 : fH) (x0 x2 x6 x22 x23 x24 : DV) (h0 : Hp) : aH :=
 bnd (aJ 6 x22 x24 h0) fun v1 h1 =>
 bnd (aK 6 v1 h1) fun v2 h2 =>
 bnd (bN iJ h2) fun v3 h3 =>
 bnd (aG 6 v3 v2 h3) fun _ h4 =>
 bnd (aK 6 v3 h4) fun v5 h5 =>
 bnd (r 140 [x0, v5] h5) fun v6 h6 =>
 bnd (aD .eql x24 x6 h6) fun v7 h7 =>
 bnd (gD v7 true (aB 0 v3 h7) h7) fun v8 h8 =>
 bnd (gD v7 true (aA v8 h8) h8) fun v9 h9 =>
 bnd (gD v7 true (aD .eql v9 (aE 10) h9) h9) fun v10 h10 =>
 bnd (aR v7 v10 (.b false) h10) fun v11 h11 =>
 aT v11 (
 some (.t [], h11)) (
 bnd (aD .eql x24 x6 h11) fun v12 h12 =>
 bnd (gD v12 true (some (x2, h12)) h12) fun v13 h13 =>
 bnd (aR v12 v13 (.b false) h13) fun v14 h14 =>
 aT v14 (
 bnd (r 141 [x0, (aE 20), (aE 0), (aE 0)] h14) fun v15 h15 =>
 some (.t [], h15)) (
 bnd (aB 0 v3 h14) fun v16 h16 =>
 bnd (aA v16 h16) fun v17 h17 =>
 bnd (aD .eql v17 (aE 10) h17) fun v18 h18 =>
 aT v18 (
    lQ r n kk8 x0 x2 x6 x22 x23 x24 h18) (
 bnd (r 141 [x0, (aE 12), (aE 0), (aE 0)] h18) fun v19 h19 =>
    lQ r n kk8 x0 x2 x6 x22 x23 x24 h19)))
noncomputable def aRp (r : RT) (n : Nat) (kk8 : fH) (x0 x2 x6 x22 x23 x24 x25 : DV) (h0 : Hp) : aH :=
 aT x25 (
  tE r n kk8 x0 x2 x6 x22 x23 x24 h0) (
  cS r n x0 x2 h0)
noncomputable def aZh (r : RT) (n : Nat) (kk8 : fH) (x0 x2 x6 x22 x23 x24 : DV) (h0 : Hp) : aH :=
 bnd (aD .lss x24 x23 h0) fun v1 h1 =>
  aRp r n kk8 x0 x2 x6 x22 x23 x24 v1 h1
noncomputable def tX (r : RT) (n : Nat) (m : Nat) : fH :=
 Nat.rec (motive := fun _ => fH) (fun _ _ _ _ _ _ _ => none) (fun _ ih => aZh r n ih) m
noncomputable def bIv (r : RT) (n : Nat) : fH := tX r n n
noncomputable def aPh (r : RT) (n : Nat) (x0 x2 x6 x22 x23 x24 : DV) (h0 : Hp) : aH :=
 bIv r n x0 x2 x6 x22 x23 x24 h0
noncomputable def aRt (r : RT) (n : Nat) (x0 x2 x4 x6 : DV) (h0 : Hp) : aH :=
 bnd (aB 5 x4 h0) fun v1 h1 =>
 bnd (aA v1 h1) fun v2 h2 =>
 bnd (cA v2 h2) fun v3 h3 =>
  aPh r n x0 x2 x6 v2 v3 (aE 0) h3
noncomputable def aUt (r : RT) (n : Nat) (x0 x2 x4 : DV) (h0 : Hp) : aH :=
 bnd (aB 5 x4 h0) fun v1 h1 =>
 bnd (aA v1 h1) fun v2 h2 =>
 bnd (cA v2 h2) fun v3 h3 =>
 bnd (aD .sub v3 (aE 1) h3) fun v4 h4 =>
  aRt r n x0 x2 x4 v4 h4
noncomputable def aSi (r : RT) (n : Nat) (x0 x2 x4 : DV) (h0 : Hp) : aH :=
 bnd (aB 4 x4 h0) fun v1 h1 =>
 bnd (aA v1 h1) fun v2 h2 =>
 bnd (r 139 [x0, v2, (.b false)] h2) fun v3 h3 =>
  aUt r n x0 x2 x4 h3
noncomputable def wC (r : RT) (n : Nat) (x0 x2 x4 : DV) (h0 : Hp) : aH :=
 bnd (aB 3 x4 h0) fun v1 h1 =>
 bnd (aA v1 h1) fun v2 h2 =>
 bnd (r 139 [x0, v2, (.b true)] h2) fun v3 h3 =>
  aSi r n x0 x2 x4 h3
noncomputable def s123 (r : RT) (n : Nat) (x0 x1 x2 : DV) (h0 : Hp) : aH :=
 bnd (bR x1 h0) fun v1 h1 =>
  wC r n x0 x2 v1 h1
noncomputable abbrev c123 : Code := cf Tryz.f123
noncomputable abbrev aJq : Code := cR c123
noncomputable abbrev aLf : Code := cR aJq
noncomputable abbrev aFv : Code := cR aLf
noncomputable abbrev aFc : Code := cR aFv
noncomputable abbrev aFx : Code := cR aFc
noncomputable abbrev dEw : Code := cR aFx
noncomputable abbrev bMz : Code := cL aFx
noncomputable abbrev vT : Code := cL aFc
noncomputable abbrev aRc : Code := cR vT
noncomputable abbrev tW : Code := cL aRc
noncomputable abbrev iO : Code := cL tW
noncomputable abbrev uP : Code := cR iO
noncomputable abbrev tK : Code := cR uP
noncomputable abbrev cPs : Code := cR tK
noncomputable abbrev aId : Code := cL tK
noncomputable abbrev bAc : Code := cL uP
noncomputable abbrev aYu : Code := cL iO
noncomputable abbrev aXf : Code := cL vT
noncomputable abbrev aXk : Code := cL aFv
noncomputable abbrev aVy : Code := cL aLf
noncomputable abbrev aYh : Code := cL aJq
noncomputable abbrev aCb : Code := cL c123
noncomputable abbrev r123 : K := aP CF Tryz.f123
noncomputable def D123 (r : RT) (n : Nat) (c : Code) (X : Nat → K) (k : K) : K := aN CF r 64 n c X r123 k
theorem cGe : D123 r n dEw x0 r123 = (K1 (aHo r n) 0) :=
 (by kernel_rfl)
theorem bVa : D123 r n aFx x0 r123 = D123 r n bMz x0 (K1 (aHo r n) 0) :=
 congrArg (fun k => D123 r n bMz x0 k) (cGe r n)
theorem cFz : D123 r n aFx x0 r123 = (K2 (cS r n) 0 2) :=
 (bVa r n).trans
 ((by kernel_rfl))
theorem bPy (kk8 : fH) : D123 r n cPs (xs x0 0 (K2 (cS r n) 0 2)) (K6 kk8 0 2 6 22 23 24) = (K6 (lQ r n kk8) 0 2 6 22 23 24) :=
 (by kernel_rfl)
theorem bIj (kk8 : fH) : D123 r n tK (xs x0 0 (K2 (cS r n) 0 2)) (K6 kk8 0 2 6 22 23 24) = D123 r n aId (xs x0 0 (K2 (cS r n) 0 2)) (K6 (lQ r n kk8) 0 2 6 22 23 24) :=
 congrArg (fun k => D123 r n aId (xs x0 0 (K2 (cS r n) 0 2)) k) (bPy r n kk8)
theorem bEt (kk8 : fH) (q0 : fH) (q1 : gO) : D123 r n aId (xs x0 0 (K2 q1 0 2)) (K6 q0 0 2 6 22 23 24) = fun (env : aV) (h : Hp) =>
 bnd (aJ 6 (env 22) (env 24) h) fun v1 h1 =>
 bnd (aK 6 v1 h1) fun v2 h2 =>
 bnd (bN iJ h2) fun v3 h3 =>
 bnd (aG 6 v3 v2 h3) fun _ h4 =>
 bnd (aK 6 v3 h4) fun v5 h5 =>
 bnd (r 140 [(env 0), v5] h5) fun v6 h6 =>
 bnd (aD .eql (env 24) (env 6) h6) fun v7 h7 =>
 bnd (gD v7 true (aB 0 v3 h7) h7) fun v8 h8 =>
 bnd (gD v7 true (aA v8 h8) h8) fun v9 h9 =>
 bnd (gD v7 true (aD .eql v9 (aE 10) h9) h9) fun v10 h10 =>
 bnd (aR v7 v10 (.b false) h10) fun v11 h11 =>
 aT v11 (
 some (.t [], h11)) (
 bnd (aD .eql (env 24) (env 6) h11) fun v12 h12 =>
 bnd (gD v12 true (some ((env 2), h12)) h12) fun v13 h13 =>
 bnd (aR v12 v13 (.b false) h13) fun v14 h14 =>
 aT v14 (
 bnd (r 141 [(env 0), (aE 20), (aE 0), (aE 0)] h14) fun v15 h15 =>
 some (.t [], h15)) (
 bnd (aB 0 v3 h14) fun v16 h16 =>
 bnd (aA v16 h16) fun v17 h17 =>
 bnd (aD .eql v17 (aE 10) h17) fun v18 h18 =>
 aT v18 (
     q0 (env 0) (env 2) (env 6) (env 22) (env 23) (env 24) h18) (
 bnd (r 141 [(env 0), (aE 12), (aE 0), (aE 0)] h18) fun v19 h19 =>
     q0 (env 0) (env 2) (env 6) (env 22) (env 23) (env 24) h19))) := by kernel_rfl
theorem aUz (kk8 : fH) : (fun (env : aV) (h : Hp) =>
 bnd (aJ 6 (env 22) (env 24) h) fun v1 h1 =>
 bnd (aK 6 v1 h1) fun v2 h2 =>
 bnd (bN iJ h2) fun v3 h3 =>
 bnd (aG 6 v3 v2 h3) fun _ h4 =>
 bnd (aK 6 v3 h4) fun v5 h5 =>
 bnd (r 140 [(env 0), v5] h5) fun v6 h6 =>
 bnd (aD .eql (env 24) (env 6) h6) fun v7 h7 =>
 bnd (gD v7 true (aB 0 v3 h7) h7) fun v8 h8 =>
 bnd (gD v7 true (aA v8 h8) h8) fun v9 h9 =>
 bnd (gD v7 true (aD .eql v9 (aE 10) h9) h9) fun v10 h10 =>
 bnd (aR v7 v10 (.b false) h10) fun v11 h11 =>
 aT v11 (
 some (.t [], h11)) (
 bnd (aD .eql (env 24) (env 6) h11) fun v12 h12 =>
 bnd (gD v12 true (some ((env 2), h12)) h12) fun v13 h13 =>
 bnd (aR v12 v13 (.b false) h13) fun v14 h14 =>
 aT v14 (
 bnd (r 141 [(env 0), (aE 20), (aE 0), (aE 0)] h14) fun v15 h15 =>
 some (.t [], h15)) (
 bnd (aB 0 v3 h14) fun v16 h16 =>
 bnd (aA v16 h16) fun v17 h17 =>
 bnd (aD .eql v17 (aE 10) h17) fun v18 h18 =>
 aT v18 (
     lQ r n kk8 (env 0) (env 2) (env 6) (env 22) (env 23) (env 24) h18) (
 bnd (r 141 [(env 0), (aE 12), (aE 0), (aE 0)] h18) fun v19 h19 =>
     lQ r n kk8 (env 0) (env 2) (env 6) (env 22) (env 23) (env 24) h19)))) = (K6 (tE r n kk8) 0 2 6 22 23 24) := by kernel_rfl
theorem bZw (kk8 : fH) : D123 r n tK (xs x0 0 (K2 (cS r n) 0 2)) (K6 kk8 0 2 6 22 23 24) = (K6 (tE r n kk8) 0 2 6 22 23 24) :=
 (bIj r n kk8).trans
 ((bEt r n kk8 (lQ r n kk8) (cS r n)).trans (aUz r n kk8))
theorem cAd (kk8 : fH) : D123 r n uP (xs x0 0 (K2 (cS r n) 0 2)) (K6 kk8 0 2 6 22 23 24) = D123 r n bAc (xs x0 0 (K2 (cS r n) 0 2)) (K6 (tE r n kk8) 0 2 6 22 23 24) :=
 congrArg (fun k => D123 r n bAc (xs x0 0 (K2 (cS r n) 0 2)) k) (bZw r n kk8)
theorem cTd (kk8 : fH) : D123 r n uP (xs x0 0 (K2 (cS r n) 0 2)) (K6 kk8 0 2 6 22 23 24) = (K7 (aRp r n kk8) 0 2 6 22 23 24 25) :=
 (cAd r n kk8).trans
 ((by kernel_rfl))
theorem cEb (kk8 : fH) : D123 r n iO (xs x0 0 (K2 (cS r n) 0 2)) (K6 kk8 0 2 6 22 23 24) = D123 r n aYu (xs x0 0 (K2 (cS r n) 0 2)) (K7 (aRp r n kk8) 0 2 6 22 23 24 25) :=
 congrArg (fun k => D123 r n aYu (xs x0 0 (K2 (cS r n) 0 2)) k) (cTd r n kk8)
theorem cBf (kk8 : fH) : D123 r n iO (xs x0 0 (K2 (cS r n) 0 2)) (K6 kk8 0 2 6 22 23 24) = (K6 (aZh r n kk8) 0 2 6 22 23 24) :=
 (cEb r n kk8).trans
 ((by kernel_rfl))
theorem bQk (m : Nat) : aM (fun kk => D123 r n iO (xs x0 0 (K2 (cS r n) 0 2)) kk) m = (K6 (tX r n m) 0 2 6 22 23 24) := by
 induction m with
 | zero => exact (by kernel_rfl : aM (fun kk => D123 r n iO (xs x0 0 (K2 (cS r n) 0 2)) kk) 0 = (K6 (tX r n 0) 0 2 6 22 23 24))
 | succ m ih =>
  refine (by kernel_rfl : aM (fun kk => D123 r n iO (xs x0 0 (K2 (cS r n) 0 2)) kk) (m + 1) = D123 r n iO (xs x0 0 (K2 (cS r n) 0 2)) (aM (fun kk => D123 r n iO (xs x0 0 (K2 (cS r n) 0 2)) kk) m)).trans ?_
  rw [ih]
  exact (cBf r n (tX r n m)).trans (by kernel_rfl)
theorem cIw : D123 r n tW (xs x0 0 (K2 (cS r n) 0 2)) (K2 (cS r n) 0 2) = (K6 (bIv r n) 0 2 6 22 23 24) :=
 (by kernel_rfl : D123 r n tW (xs x0 0 (K2 (cS r n) 0 2)) (K2 (cS r n) 0 2) = aM (fun kk => D123 r n iO (xs x0 0 (K2 (cS r n) 0 2)) kk) n).trans ((bQk r n n).trans (by kernel_rfl))
theorem cLh : D123 r n aRc x0 (K2 (cS r n) 0 2) = (K6 (aPh r n) 0 2 6 22 23 24) :=
 (by kernel_rfl : D123 r n aRc x0 (K2 (cS r n) 0 2) = D123 r n tW (xs x0 0 (K2 (cS r n) 0 2)) (K2 (cS r n) 0 2)).trans
 ((cIw r n).trans (by kernel_rfl))
theorem bMg : D123 r n aFc x0 r123 = D123 r n vT x0 (K2 (cS r n) 0 2) :=
 congrArg (fun k => D123 r n vT x0 k) (cFz r n)
theorem bJk : D123 r n vT x0 (K2 (cS r n) 0 2) = D123 r n aXf x0 (K6 (aPh r n) 0 2 6 22 23 24) :=
 congrArg (fun k => D123 r n aXf x0 k) (cLh r n)
theorem cTh : D123 r n aFc x0 r123 = (K4 (aRt r n) 0 2 4 6) :=
 (bMg r n).trans
 ((bJk r n).trans
 ((by kernel_rfl)))
theorem bYf : D123 r n aFv x0 r123 = D123 r n aXk x0 (K4 (aRt r n) 0 2 4 6) :=
 congrArg (fun k => D123 r n aXk x0 k) (cTh r n)
theorem cLp : D123 r n aFv x0 r123 = (K3 (aUt r n) 0 2 4) :=
 (bYf r n).trans
 ((by kernel_rfl))
theorem bZq : D123 r n aLf x0 r123 = D123 r n aVy x0 (K3 (aUt r n) 0 2 4) :=
 congrArg (fun k => D123 r n aVy x0 k) (cLp r n)
theorem cUc : D123 r n aLf x0 r123 = (K3 (aSi r n) 0 2 4) :=
 (bZq r n).trans
 ((by kernel_rfl))
theorem bEm : D123 r n aJq x0 r123 = D123 r n aYh x0 (K3 (aSi r n) 0 2 4) :=
 congrArg (fun k => D123 r n aYh x0 k) (cUc r n)
theorem cSl : D123 r n aJq x0 r123 = (K3 (wC r n) 0 2 4) :=
 (bEm r n).trans
 ((by kernel_rfl))
theorem cNq : D123 r n c123 x0 r123 = D123 r n aCb x0 (K3 (wC r n) 0 2 4) :=
 congrArg (fun k => D123 r n aCb x0 k) (cSl r n)
theorem cLq (q0 : nA) : D123 r n aCb x0 (K3 q0 0 2 4) = fun (env : aV) (h : Hp) =>
 bnd (bR (env 1) h) fun v1 h1 =>
  q0 (env 0) (env 2) v1 h1 := by kernel_rfl
theorem bPf : (fun (env : aV) (h : Hp) =>
 bnd (bR (env 1) h) fun v1 h1 =>
  wC r n (env 0) (env 2) v1 h1) = (K3 (s123 r n) 0 1 2) := by kernel_rfl
theorem dOp : D123 r n c123 x0 r123 = (K3 (s123 r n) 0 1 2) :=
 (cNq r n).trans
 ((cLq r n (wC r n)).trans (bPf r n))
theorem dDe : aF CF r n 123 args h = s123 r n (aU args 0) (aU args 1) (aU args 2) h :=
 (by kernel_rfl : aF CF r n 123 args h = D123 r n c123 x0 r123 (aI args) h).trans ((congrFun (congrFun (dOp r n) (aI args)) h).trans (by kernel_rfl))
noncomputable def s124 (r : RT) (n : Nat) (x0 : DV) (h0 : Hp) : aH :=
 bnd (bR x0 h0) fun v1 h1 =>
 bnd (aB 0 v1 h1) fun v2 h2 =>
 bnd (aA v2 h2) fun v3 h3 =>
 bnd (r 142 [v3] h3) fun v4 h4 =>
 bnd (aC 0 v4 h4) fun v5 h5 =>
 bnd (aC 1 v4 h5) fun v6 h6 =>
 bnd (aB 0 v1 h6) fun v7 h7 =>
 bnd (aA v7 h7) fun v8 h8 =>
 bnd (aD .geq v8 (aE 1) h8) fun v9 h9 =>
 bnd (gD v9 true (aB 0 v1 h9) h9) fun v10 h10 =>
 bnd (gD v9 true (aA v10 h10) h10) fun v11 h11 =>
 bnd (gD v9 true (aD .leq v11 (aE 20) h11) h11) fun v12 h12 =>
 bnd (aR v9 v12 (.b false) h12) fun v13 h13 =>
 bnd (gD v13 true (aB 1 v1 h13) h13) fun v14 h14 =>
 bnd (gD v13 true (aA v14 h14) h14) fun v15 h15 =>
 bnd (gD v13 true (some (v5, h15)) h15) fun v16 h16 =>
 bnd (gD v13 true (r 143 [v15, v16] h16) h16) fun v17 h17 =>
 bnd (aR v13 v17 (.b false) h17) fun v18 h18 =>
 bnd (gD v18 true (aB 2 v1 h18) h18) fun v19 h19 =>
 bnd (gD v18 true (aA v19 h19) h19) fun v20 h20 =>
 bnd (gD v18 true (some (v6, h20)) h20) fun v21 h21 =>
 bnd (gD v18 true (r 143 [v20, v21] h21) h21) fun v22 h22 =>
 bnd (aR v18 v22 (.b false) h22) fun v23 h23 =>
 some (v23, h23)
noncomputable abbrev c124 : Code := cf Tryz.f124
noncomputable abbrev r124 : K := aP CF Tryz.f124
noncomputable def D124 (r : RT) (n : Nat) (c : Code) (X : Nat → K) (k : K) : K := aN CF r 31 n c X r124 k
theorem dKg : D124 r n c124 x0 r124 = (K1 (s124 r n) 0) :=
 (by kernel_rfl)
theorem dCw : aF CF r n 124 args h = s124 r n (aU args 0) h :=
 (by kernel_rfl : aF CF r n 124 args h = D124 r n c124 x0 r124 (aI args) h).trans ((congrFun (congrFun (dKg r n) (aI args)) h).trans (by kernel_rfl))
noncomputable def s125 (r : RT) (n : Nat) (x0 x1 : DV) (h0 : Hp) : aH :=
 bnd (bR x0 h0) fun v1 h1 =>
 bnd (aK 6 v1 h1) fun v2 h2 =>
 bnd (r 144 [v2, x1] h2) fun v3 h3 =>
 bnd (aC 0 v3 h3) fun v4 h4 =>
 bnd (aC 1 v3 h4) fun v5 h5 =>
 some (v5, h5)
noncomputable abbrev c125 : Code := cf Tryz.f125
noncomputable abbrev r125 : K := aP CF Tryz.f125
noncomputable def D125 (r : RT) (n : Nat) (c : Code) (X : Nat → K) (k : K) : K := aN CF r 14 n c X r125 k
theorem dIo : D125 r n c125 x0 r125 = (K2 (s125 r n) 0 1) :=
 (by kernel_rfl)
theorem dAv : aF CF r n 125 args h = s125 r n (aU args 0) (aU args 1) h :=
 (by kernel_rfl : aF CF r n 125 args h = D125 r n c125 x0 r125 (aI args) h).trans ((congrFun (congrFun (dIo r n) (aI args)) h).trans (by kernel_rfl))
noncomputable def eH (r : RT) (n : Nat) (x0 x6 : DV) (h0 : Hp) : aH :=
 bnd (r 46 [x0, x6] h0) fun v1 h1 =>
 bnd (aC 0 v1 h1) fun v2 h2 =>
 bnd (aC 1 v1 h2) fun v3 h3 =>
 some (.t [v2, v3], h3)
noncomputable def aIh (r : RT) (n : Nat) (kk6 : cG) (x0 x6 x38 x39 x40 : DV) (h0 : Hp) : aH :=
 bnd (aD .lss x40 x39 h0) fun v1 h1 =>
 aT v1 (
 bnd (aJ 4 x38 x40 h1) fun v2 h2 =>
 bnd (aK 4 v2 h2) fun v3 h3 =>
 bnd (bN [(aE 0), (.s []), (aE 0), .l0] h3) fun v4 h4 =>
 bnd (aG 4 v4 v3 h4) fun _ h5 =>
 bnd (aK 4 v4 h5) fun v6 h6 =>
 bnd (r 126 [x0, v6] h6) fun v7 h7 =>
 bnd (aC 0 v7 h7) fun v8 h8 =>
 bnd (aC 1 v7 h8) fun v9 h9 =>
 bnd (aD .neq v9 (aE 0) h9) fun v10 h10 =>
 aT v10 (
 some (.t [(aE 0), v9], h10)) (
 bnd (aL [(aE 0)] 1 [(0, 1, v8)] h10) fun v11 h11 =>
 bnd (aY 1 8 x6 v11 h11) fun v12 h12 =>
 bnd (aD .add x40 (aE 1) h12) fun v13 h13 =>
    kk6 x0 v12 x38 x39 v13 h13)) (
      eH r n x0 x6 h1)
noncomputable def tP (r : RT) (n : Nat) (m : Nat) : cG :=
 Nat.rec (motive := fun _ => cG) (fun _ _ _ _ _ _ => none) (fun _ ih => aIh r n ih) m
noncomputable def bPx (r : RT) (n : Nat) : cG := tP r n n
noncomputable def aTn (r : RT) (n : Nat) (x0 x6 x38 x39 x40 : DV) (h0 : Hp) : aH :=
 bPx r n x0 x6 x38 x39 x40 h0
noncomputable def aUr (r : RT) (n : Nat) (x0 x3 x6 : DV) (h0 : Hp) : aH :=
 bnd (aB 3 x3 h0) fun v1 h1 =>
 bnd (aA v1 h1) fun v2 h2 =>
 bnd (cA v2 h2) fun v3 h3 =>
  aTn r n x0 x6 v2 v3 (aE 0) h3
noncomputable def aPi (r : RT) (n : Nat) (x0 x3 : DV) (h0 : Hp) : aH :=
 aUr r n x0 x3 .l0 h0
noncomputable def wY (r : RT) (n : Nat) (x0 x3 : DV) (h0 : Hp) : aH :=
 bnd (aB 0 x3 h0) fun v1 h1 =>
 bnd (aA v1 h1) fun v2 h2 =>
 bnd (aD .eql v2 (aE 1) h2) fun v3 h3 =>
 aT v3 (
 bnd (aB 2 x3 h3) fun v4 h4 =>
 bnd (aA v4 h4) fun v5 h5 =>
 bnd (r 42 [x0, v5] h5) fun v6 h6 =>
 bnd (aC 0 v6 h6) fun v7 h7 =>
 bnd (aC 1 v6 h7) fun v8 h8 =>
 some (.t [v7, v8], h8)) (
 bnd (aD .eql v2 (aE 2) h3) fun v9 h9 =>
 aT v9 (
 bnd (aB 1 x3 h9) fun v10 h10 =>
 bnd (aA v10 h10) fun v11 h11 =>
 bnd (r 43 [x0, v11] h11) fun v12 h12 =>
 bnd (aC 0 v12 h12) fun v13 h13 =>
 bnd (aC 1 v12 h13) fun v14 h14 =>
 some (.t [v13, v14], h14)) (
 bnd (aD .eql v2 (aE 3) h9) fun v15 h15 =>
 aT v15 (
 bnd (aB 1 x3 h15) fun v16 h16 =>
 bnd (aA v16 h16) fun v17 h17 =>
 bnd (r 44 [x0, v17] h17) fun v18 h18 =>
 bnd (aC 0 v18 h18) fun v19 h19 =>
 bnd (aC 1 v18 h19) fun v20 h20 =>
 some (.t [v19, v20], h20)) (
    aPi r n x0 x3 h15)))
noncomputable def s126 (r : RT) (n : Nat) (x0 x1 : DV) (h0 : Hp) : aH :=
 bnd (bR x1 h0) fun v1 h1 =>
  wY r n x0 v1 h1
noncomputable abbrev c126 : Code := cf Tryz.f126
noncomputable abbrev aDl : Code := cR c126
noncomputable abbrev aDp : Code := cR aDl
noncomputable abbrev aFs : Code := cR aDp
noncomputable abbrev dCi : Code := cR aFs
noncomputable abbrev wW : Code := cL aFs
noncomputable abbrev aQm : Code := cR wW
noncomputable abbrev aKu : Code := cL aQm
noncomputable abbrev mK : Code := cL aKu
noncomputable abbrev bSx : Code := cL wW
noncomputable abbrev aWf : Code := cL aDp
noncomputable abbrev aWr : Code := cL aDl
noncomputable abbrev aKt : Code := cL c126
noncomputable abbrev r126 : K := aP CF Tryz.f126
noncomputable def D126 (r : RT) (n : Nat) (c : Code) (X : Nat → K) (k : K) : K := aN CF r 63 n c X r126 k
theorem cJm : D126 r n dCi x0 r126 = (K2 (eH r n) 0 6) :=
 (by kernel_rfl)
theorem bOk (kk6 : cG) (q0 : gO) : D126 r n mK (xs x0 1 (K2 q0 0 6)) (K5 kk6 0 6 38 39 40) = fun (env : aV) (h : Hp) =>
 bnd (aD .lss (env 40) (env 39) h) fun v1 h1 =>
 aT v1 (
 bnd (aJ 4 (env 38) (env 40) h1) fun v2 h2 =>
 bnd (aK 4 v2 h2) fun v3 h3 =>
 bnd (bN [(aE 0), (.s []), (aE 0), .l0] h3) fun v4 h4 =>
 bnd (aG 4 v4 v3 h4) fun _ h5 =>
 bnd (aK 4 v4 h5) fun v6 h6 =>
 bnd (r 126 [(env 0), v6] h6) fun v7 h7 =>
 bnd (aC 0 v7 h7) fun v8 h8 =>
 bnd (aC 1 v7 h8) fun v9 h9 =>
 bnd (aD .neq v9 (aE 0) h9) fun v10 h10 =>
 aT v10 (
 some (.t [(aE 0), v9], h10)) (
 bnd (aL [(aE 0)] 1 [(0, 1, v8)] h10) fun v11 h11 =>
 bnd (aY 1 8 (env 6) v11 h11) fun v12 h12 =>
 bnd (aD .add (env 40) (aE 1) h12) fun v13 h13 =>
    kk6 (env 0) v12 (env 38) (env 39) v13 h13)) (
      q0 (env 0) (env 6) h1) := by kernel_rfl
theorem bGm (kk6 : cG) : (fun (env : aV) (h : Hp) =>
 bnd (aD .lss (env 40) (env 39) h) fun v1 h1 =>
 aT v1 (
 bnd (aJ 4 (env 38) (env 40) h1) fun v2 h2 =>
 bnd (aK 4 v2 h2) fun v3 h3 =>
 bnd (bN [(aE 0), (.s []), (aE 0), .l0] h3) fun v4 h4 =>
 bnd (aG 4 v4 v3 h4) fun _ h5 =>
 bnd (aK 4 v4 h5) fun v6 h6 =>
 bnd (r 126 [(env 0), v6] h6) fun v7 h7 =>
 bnd (aC 0 v7 h7) fun v8 h8 =>
 bnd (aC 1 v7 h8) fun v9 h9 =>
 bnd (aD .neq v9 (aE 0) h9) fun v10 h10 =>
 aT v10 (
 some (.t [(aE 0), v9], h10)) (
 bnd (aL [(aE 0)] 1 [(0, 1, v8)] h10) fun v11 h11 =>
 bnd (aY 1 8 (env 6) v11 h11) fun v12 h12 =>
 bnd (aD .add (env 40) (aE 1) h12) fun v13 h13 =>
    kk6 (env 0) v12 (env 38) (env 39) v13 h13)) (
      eH r n (env 0) (env 6) h1)) = (K5 (aIh r n kk6) 0 6 38 39 40) := by kernel_rfl
theorem bSk (kk6 : cG) : D126 r n mK (xs x0 1 (K2 (eH r n) 0 6)) (K5 kk6 0 6 38 39 40) = (K5 (aIh r n kk6) 0 6 38 39 40) :=
 (bOk r n kk6 (eH r n)).trans (bGm r n kk6)
theorem cEe (m : Nat) : aM (fun kk => D126 r n mK (xs x0 1 (K2 (eH r n) 0 6)) kk) m = (K5 (tP r n m) 0 6 38 39 40) := by
 induction m with
 | zero => exact (by kernel_rfl : aM (fun kk => D126 r n mK (xs x0 1 (K2 (eH r n) 0 6)) kk) 0 = (K5 (tP r n 0) 0 6 38 39 40))
 | succ m ih =>
  refine (by kernel_rfl : aM (fun kk => D126 r n mK (xs x0 1 (K2 (eH r n) 0 6)) kk) (m + 1) = D126 r n mK (xs x0 1 (K2 (eH r n) 0 6)) (aM (fun kk => D126 r n mK (xs x0 1 (K2 (eH r n) 0 6)) kk) m)).trans ?_
  rw [ih]
  exact (bSk r n (tP r n m)).trans (by kernel_rfl)
theorem cSg : D126 r n aKu (xs x0 1 (K2 (eH r n) 0 6)) (K2 (eH r n) 0 6) = (K5 (bPx r n) 0 6 38 39 40) :=
 (by kernel_rfl : D126 r n aKu (xs x0 1 (K2 (eH r n) 0 6)) (K2 (eH r n) 0 6) = aM (fun kk => D126 r n mK (xs x0 1 (K2 (eH r n) 0 6)) kk) n).trans ((cEe r n n).trans (by kernel_rfl))
theorem cJl : D126 r n aQm x0 (K2 (eH r n) 0 6) = (K5 (aTn r n) 0 6 38 39 40) :=
 (by kernel_rfl : D126 r n aQm x0 (K2 (eH r n) 0 6) = D126 r n aKu (xs x0 1 (K2 (eH r n) 0 6)) (K2 (eH r n) 0 6)).trans
 ((cSg r n).trans (by kernel_rfl))
theorem bWb : D126 r n aFs x0 r126 = D126 r n wW x0 (K2 (eH r n) 0 6) :=
 congrArg (fun k => D126 r n wW x0 k) (cJm r n)
theorem bLg : D126 r n wW x0 (K2 (eH r n) 0 6) = D126 r n bSx x0 (K5 (aTn r n) 0 6 38 39 40) :=
 congrArg (fun k => D126 r n bSx x0 k) (cJl r n)
theorem cMr : D126 r n aFs x0 r126 = (K3 (aUr r n) 0 3 6) :=
 (bWb r n).trans
 ((bLg r n).trans
 ((by kernel_rfl)))
theorem bVn : D126 r n aDp x0 r126 = D126 r n aWf x0 (K3 (aUr r n) 0 3 6) :=
 congrArg (fun k => D126 r n aWf x0 k) (cMr r n)
theorem cPw : D126 r n aDp x0 r126 = (K2 (aPi r n) 0 3) :=
 (bVn r n).trans
 ((by kernel_rfl))
theorem bRq : D126 r n aDl x0 r126 = D126 r n aWr x0 (K2 (aPi r n) 0 3) :=
 congrArg (fun k => D126 r n aWr x0 k) (cPw r n)
theorem cKt : D126 r n aDl x0 r126 = (K2 (wY r n) 0 3) :=
 (bRq r n).trans
 ((by kernel_rfl))
theorem dBe : D126 r n c126 x0 r126 = D126 r n aKt x0 (K2 (wY r n) 0 3) :=
 congrArg (fun k => D126 r n aKt x0 k) (cKt r n)
theorem dGe (q0 : gO) : D126 r n aKt x0 (K2 q0 0 3) = fun (env : aV) (h : Hp) =>
 bnd (bR (env 1) h) fun v1 h1 =>
  q0 (env 0) v1 h1 := by kernel_rfl
theorem cOd : (fun (env : aV) (h : Hp) =>
 bnd (bR (env 1) h) fun v1 h1 =>
  wY r n (env 0) v1 h1) = (K2 (s126 r n) 0 1) := by kernel_rfl
theorem dMo : D126 r n c126 x0 r126 = (K2 (s126 r n) 0 1) :=
 (dBe r n).trans
 ((dGe r n (wY r n)).trans (cOd r n))
theorem dFe : aF CF r n 126 args h = s126 r n (aU args 0) (aU args 1) h :=
 (by kernel_rfl : aF CF r n 126 args h = D126 r n c126 x0 r126 (aI args) h).trans ((congrFun (congrFun (dMo r n) (aI args)) h).trans (by kernel_rfl))
noncomputable def eC (r : RT) (n : Nat) (x4 : DV) (h0 : Hp) : aH :=
 some (.t [x4, (aE 0)], h0)
noncomputable def aLl (r : RT) (n : Nat) (kk6 : dM) (x4 x10 x11 x12 : DV) (h0 : Hp) : aH :=
 bnd (aD .lss x12 x11 h0) fun v1 h1 =>
 aT v1 (
 bnd (aJ 3 x10 x12 h1) fun v2 h2 =>
 bnd (aK 3 v2 h2) fun v3 h3 =>
 bnd (bN [(aE 0), (aE 0), (aE 0)] h3) fun v4 h4 =>
 bnd (aG 3 v4 v3 h4) fun _ h5 =>
 bnd (aK 3 v4 h5) fun v6 h6 =>
 bnd (r 124 [v6] h6) fun v7 h7 =>
 bnd (hY .not v7 h7) fun v8 h8 =>
 aT v8 (
 some (.t [.l0, (aE 19)], h8)) (
 bnd (aB 0 v4 h8) fun v9 h9 =>
 bnd (aA v9 h9) fun v10 h10 =>
 bnd (eB .u8 v10 h10) fun v11 h11 =>
 bnd (aB 1 v4 h11) fun v12 h12 =>
 bnd (aA v12 h12) fun v13 h13 =>
 bnd (eB .u8 v13 h13) fun v14 h14 =>
 bnd (aB 2 v4 h14) fun v15 h15 =>
 bnd (aA v15 h15) fun v16 h16 =>
 bnd (eB .u8 v16 h16) fun v17 h17 =>
 bnd (aL [(.i .u8 (Int.ofNat 0)), (.i .u8 (Int.ofNat 0)), (.i .u8 (Int.ofNat 0))] 3 [(0, 1, v11), (1, 1, v14), (2, 1, v17)] h17) fun v18 h18 =>
 bnd (aY 1 1 x4 v18 h18) fun v19 h19 =>
 bnd (aD .add x12 (aE 1) h19) fun v20 h20 =>
    kk6 v19 x10 x11 v20 h20)) (
      eC r n x4 h1)
noncomputable def vI (r : RT) (n : Nat) (m : Nat) : dM :=
 Nat.rec (motive := fun _ => dM) (fun _ _ _ _ _ => none) (fun _ ih => aLl r n ih) m
noncomputable def bJy (r : RT) (n : Nat) : dM := vI r n n
noncomputable def aSw (r : RT) (n : Nat) (x4 x10 x11 x12 : DV) (h0 : Hp) : aH :=
 bJy r n x4 x10 x11 x12 h0
noncomputable def aOr (r : RT) (n : Nat) (x0 x4 : DV) (h0 : Hp) : aH :=
 bnd (cA x0 h0) fun v1 h1 =>
  aSw r n x4 x0 v1 (aE 0) h1
noncomputable def aQv (r : RT) (n : Nat) (x0 : DV) (h0 : Hp) : aH :=
 aOr r n x0 .l0 h0
noncomputable def aRd (r : RT) (n : Nat) (x0 : DV) (h0 : Hp) : aH :=
 bnd (cA x0 h0) fun v1 h1 =>
 bnd (aD .gtr v1 (aE 400) h1) fun v2 h2 =>
 aT v2 (
 some (.t [.l0, (aE 19)], h2)) (
  aQv r n x0 h2)
noncomputable def s127 (r : RT) (n : Nat) (x0 : DV) (h0 : Hp) : aH :=
 aRd r n x0 h0
noncomputable abbrev c127 : Code := cf Tryz.f127
noncomputable abbrev aCl : Code := cR c127
noncomputable abbrev aIl : Code := cR aCl
noncomputable abbrev aDg : Code := cR aIl
noncomputable abbrev cXw : Code := cR aDg
noncomputable abbrev wI : Code := cL aDg
noncomputable abbrev aTw : Code := cR wI
noncomputable abbrev aEm : Code := cL aTw
noncomputable abbrev mR : Code := cL aEm
noncomputable abbrev cBn : Code := cL wI
noncomputable abbrev bAb : Code := cL aIl
noncomputable abbrev bAo : Code := cL aCl
noncomputable abbrev bBr : Code := cL c127
noncomputable abbrev r127 : K := aP CF Tryz.f127
noncomputable def D127 (r : RT) (n : Nat) (c : Code) (X : Nat → K) (k : K) : K := aN CF r 33 n c X r127 k
theorem cLd : D127 r n cXw x0 r127 = (K1 (eC r n) 4) :=
 (by kernel_rfl)
theorem bVk (kk6 : dM) (q0 : TT1) : D127 r n mR (xs x0 0 (K1 q0 4)) (K4 kk6 4 10 11 12) = fun (env : aV) (h : Hp) =>
 bnd (aD .lss (env 12) (env 11) h) fun v1 h1 =>
 aT v1 (
 bnd (aJ 3 (env 10) (env 12) h1) fun v2 h2 =>
 bnd (aK 3 v2 h2) fun v3 h3 =>
 bnd (bN [(aE 0), (aE 0), (aE 0)] h3) fun v4 h4 =>
 bnd (aG 3 v4 v3 h4) fun _ h5 =>
 bnd (aK 3 v4 h5) fun v6 h6 =>
 bnd (r 124 [v6] h6) fun v7 h7 =>
 bnd (hY .not v7 h7) fun v8 h8 =>
 aT v8 (
 some (.t [.l0, (aE 19)], h8)) (
 bnd (aB 0 v4 h8) fun v9 h9 =>
 bnd (aA v9 h9) fun v10 h10 =>
 bnd (eB .u8 v10 h10) fun v11 h11 =>
 bnd (aB 1 v4 h11) fun v12 h12 =>
 bnd (aA v12 h12) fun v13 h13 =>
 bnd (eB .u8 v13 h13) fun v14 h14 =>
 bnd (aB 2 v4 h14) fun v15 h15 =>
 bnd (aA v15 h15) fun v16 h16 =>
 bnd (eB .u8 v16 h16) fun v17 h17 =>
 bnd (aL [(.i .u8 (Int.ofNat 0)), (.i .u8 (Int.ofNat 0)), (.i .u8 (Int.ofNat 0))] 3 [(0, 1, v11), (1, 1, v14), (2, 1, v17)] h17) fun v18 h18 =>
 bnd (aY 1 1 (env 4) v18 h18) fun v19 h19 =>
 bnd (aD .add (env 12) (aE 1) h19) fun v20 h20 =>
    kk6 v19 (env 10) (env 11) v20 h20)) (
      q0 (env 4) h1) := by kernel_rfl
theorem bGz (kk6 : dM) : (fun (env : aV) (h : Hp) =>
 bnd (aD .lss (env 12) (env 11) h) fun v1 h1 =>
 aT v1 (
 bnd (aJ 3 (env 10) (env 12) h1) fun v2 h2 =>
 bnd (aK 3 v2 h2) fun v3 h3 =>
 bnd (bN [(aE 0), (aE 0), (aE 0)] h3) fun v4 h4 =>
 bnd (aG 3 v4 v3 h4) fun _ h5 =>
 bnd (aK 3 v4 h5) fun v6 h6 =>
 bnd (r 124 [v6] h6) fun v7 h7 =>
 bnd (hY .not v7 h7) fun v8 h8 =>
 aT v8 (
 some (.t [.l0, (aE 19)], h8)) (
 bnd (aB 0 v4 h8) fun v9 h9 =>
 bnd (aA v9 h9) fun v10 h10 =>
 bnd (eB .u8 v10 h10) fun v11 h11 =>
 bnd (aB 1 v4 h11) fun v12 h12 =>
 bnd (aA v12 h12) fun v13 h13 =>
 bnd (eB .u8 v13 h13) fun v14 h14 =>
 bnd (aB 2 v4 h14) fun v15 h15 =>
 bnd (aA v15 h15) fun v16 h16 =>
 bnd (eB .u8 v16 h16) fun v17 h17 =>
 bnd (aL [(.i .u8 (Int.ofNat 0)), (.i .u8 (Int.ofNat 0)), (.i .u8 (Int.ofNat 0))] 3 [(0, 1, v11), (1, 1, v14), (2, 1, v17)] h17) fun v18 h18 =>
 bnd (aY 1 1 (env 4) v18 h18) fun v19 h19 =>
 bnd (aD .add (env 12) (aE 1) h19) fun v20 h20 =>
    kk6 v19 (env 10) (env 11) v20 h20)) (
      eC r n (env 4) h1)) = (K4 (aLl r n kk6) 4 10 11 12) := by kernel_rfl
theorem bZv (kk6 : dM) : D127 r n mR (xs x0 0 (K1 (eC r n) 4)) (K4 kk6 4 10 11 12) = (K4 (aLl r n kk6) 4 10 11 12) :=
 (bVk r n kk6 (eC r n)).trans (bGz r n kk6)
theorem bSs (m : Nat) : aM (fun kk => D127 r n mR (xs x0 0 (K1 (eC r n) 4)) kk) m = (K4 (vI r n m) 4 10 11 12) := by
 induction m with
 | zero => exact (by kernel_rfl : aM (fun kk => D127 r n mR (xs x0 0 (K1 (eC r n) 4)) kk) 0 = (K4 (vI r n 0) 4 10 11 12))
 | succ m ih =>
  refine (by kernel_rfl : aM (fun kk => D127 r n mR (xs x0 0 (K1 (eC r n) 4)) kk) (m + 1) = D127 r n mR (xs x0 0 (K1 (eC r n) 4)) (aM (fun kk => D127 r n mR (xs x0 0 (K1 (eC r n) 4)) kk) m)).trans ?_
  rw [ih]
  exact (bZv r n (vI r n m)).trans (by kernel_rfl)
theorem cSu : D127 r n aEm (xs x0 0 (K1 (eC r n) 4)) (K1 (eC r n) 4) = (K4 (bJy r n) 4 10 11 12) :=
 (by kernel_rfl : D127 r n aEm (xs x0 0 (K1 (eC r n) 4)) (K1 (eC r n) 4) = aM (fun kk => D127 r n mR (xs x0 0 (K1 (eC r n) 4)) kk) n).trans ((bSs r n n).trans (by kernel_rfl))
theorem cUa : D127 r n aTw x0 (K1 (eC r n) 4) = (K4 (aSw r n) 4 10 11 12) :=
 (by kernel_rfl : D127 r n aTw x0 (K1 (eC r n) 4) = D127 r n aEm (xs x0 0 (K1 (eC r n) 4)) (K1 (eC r n) 4)).trans
 ((cSu r n).trans (by kernel_rfl))
theorem bIr : D127 r n aDg x0 r127 = D127 r n wI x0 (K1 (eC r n) 4) :=
 congrArg (fun k => D127 r n wI x0 k) (cLd r n)
theorem bWo : D127 r n wI x0 (K1 (eC r n) 4) = D127 r n cBn x0 (K4 (aSw r n) 4 10 11 12) :=
 congrArg (fun k => D127 r n cBn x0 k) (cUa r n)
theorem cQl : D127 r n aDg x0 r127 = (K2 (aOr r n) 0 4) :=
 (bIr r n).trans
 ((bWo r n).trans
 ((by kernel_rfl)))
theorem bLo : D127 r n aIl x0 r127 = D127 r n bAb x0 (K2 (aOr r n) 0 4) :=
 congrArg (fun k => D127 r n bAb x0 k) (cQl r n)
theorem cOo : D127 r n aIl x0 r127 = (K1 (aQv r n) 0) :=
 (bLo r n).trans
 ((by kernel_rfl))
theorem bOi : D127 r n aCl x0 r127 = D127 r n bAo x0 (K1 (aQv r n) 0) :=
 congrArg (fun k => D127 r n bAo x0 k) (cOo r n)
theorem cLj : D127 r n aCl x0 r127 = (K1 (aRd r n) 0) :=
 (bOi r n).trans
 ((by kernel_rfl))
theorem dGy : D127 r n c127 x0 r127 = D127 r n bBr x0 (K1 (aRd r n) 0) :=
 congrArg (fun k => D127 r n bBr x0 k) (cLj r n)
theorem dNc : D127 r n c127 x0 r127 = (K1 (s127 r n) 0) :=
 (dGy r n).trans
 ((by kernel_rfl))
theorem dAe : aF CF r n 127 args h = s127 r n (aU args 0) h :=
 (by kernel_rfl : aF CF r n 127 args h = D127 r n c127 x0 r127 (aI args) h).trans ((congrFun (congrFun (dNc r n) (aI args)) h).trans (by kernel_rfl))
noncomputable def eR (r : RT) (n : Nat) (x0 x6 : DV) (h0 : Hp) : aH :=
 bnd (r 46 [x0, x6] h0) fun v1 h1 =>
 bnd (aC 0 v1 h1) fun v2 h2 =>
 bnd (aC 1 v1 h2) fun v3 h3 =>
 some (.t [v2, v3], h3)
noncomputable def aFu (r : RT) (n : Nat) (kk4 : nA) (x0 x1 x6 : DV) (h0 : Hp) : aH :=
 bnd (cA x1 h0) fun v1 h1 =>
 bnd (aD .gtr v1 (aE 0) h1) fun v2 h2 =>
 aT v2 (
 bnd (cA x1 h2) fun v3 h3 =>
 bnd (aRg v3 (aE 240) h3) fun v4 h4 =>
 bnd (r 30 [x0, (aE 10)] h4) fun v5 h5 =>
 bnd (cV 1 x1 none (some v4) h5) fun v6 h6 =>
 cnd (bI (cV 1 x1 none (some v4) h4) v6 && true) (
 bnd (gQ v6 h6) fun v7 h7 =>
 cnd (bI (gQ v6 h4) v7 && true) (
 bnd (r 83 [x0, v5, v7] h7) fun v8 h8 =>
 bnd (aC 0 v8 h8) fun v9 h9 =>
 bnd (aC 1 v8 h9) fun v10 h10 =>
 bnd (aD .neq v10 (aE 0) h10) fun v11 h11 =>
 aT v11 (
 some (.t [(aE 0), v10], h11)) (
 bnd (bL (bZ 0 h11.next) [(aE 0)] 1 [(0, 1, v9)] (resv 1 h11)) fun v12 h12 =>
 bnd (aY 1 8 x6 v12 h12) fun v13 h13 =>
 bnd (cV 1 x1 (some v4) none h13) fun v14 h14 =>
 cnd (bI (cV 1 x1 (some v4) none (resv 1 h11)) v14 && true) (
    kk4 x0 v14 v13 h14))))) (
      eR r n x0 x6 h2)
noncomputable def sW (r : RT) (n : Nat) (m : Nat) : nA :=
 Nat.rec (motive := fun _ => nA) (fun _ _ _ _ => none) (fun _ ih => aFu r n ih) m
noncomputable def bSi (r : RT) (n : Nat) : nA := sW r n n
noncomputable def aQa (r : RT) (n : Nat) (x0 x1 x6 : DV) (h0 : Hp) : aH :=
 bSi r n x0 x1 x6 h0
noncomputable def aPn (r : RT) (n : Nat) (x0 x1 : DV) (h0 : Hp) : aH :=
 aQa r n x0 x1 .l0 h0
noncomputable def s128 (r : RT) (n : Nat) (x0 x1 : DV) (h0 : Hp) : aH :=
 aPn r n x0 x1 h0
noncomputable abbrev c128 : Code := cf Tryz.f128
noncomputable abbrev aBw : Code := cR c128
noncomputable abbrev aGm : Code := cR aBw
noncomputable abbrev dCj : Code := cR aGm
noncomputable abbrev aKw : Code := cL aGm
noncomputable abbrev aGq : Code := cL aKw
noncomputable abbrev mB : Code := cL aGq
noncomputable abbrev bPs : Code := cL aBw
noncomputable abbrev bUz : Code := cL c128
noncomputable abbrev r128 : K := aP CF Tryz.f128
noncomputable def D128 (r : RT) (n : Nat) (c : Code) (X : Nat → K) (k : K) : K := aN CF r 42 n c X r128 k
theorem cOv : D128 r n dCj x0 r128 = (K2 (eR r n) 0 6) :=
 (by kernel_rfl)
theorem bJi (kk4 : nA) (q0 : gO) : D128 r n mB (xs x0 0 (K2 q0 0 6)) (K3 kk4 0 1 6) = fun (env : aV) (h : Hp) =>
 bnd (cA (env 1) h) fun v1 h1 =>
 bnd (aD .gtr v1 (aE 0) h1) fun v2 h2 =>
 aT v2 (
 bnd (cA (env 1) h2) fun v3 h3 =>
 bnd (aRg v3 (aE 240) h3) fun v4 h4 =>
 bnd (r 30 [(env 0), (aE 10)] h4) fun v5 h5 =>
 bnd (cV 1 (env 1) none (some v4) h5) fun v6 h6 =>
 cnd (bI (cV 1 (env 1) none (some v4) h4) v6 && true) (
 bnd (gQ v6 h6) fun v7 h7 =>
 cnd (bI (gQ v6 h4) v7 && true) (
 bnd (r 83 [(env 0), v5, v7] h7) fun v8 h8 =>
 bnd (aC 0 v8 h8) fun v9 h9 =>
 bnd (aC 1 v8 h9) fun v10 h10 =>
 bnd (aD .neq v10 (aE 0) h10) fun v11 h11 =>
 aT v11 (
 some (.t [(aE 0), v10], h11)) (
 bnd (bL (bZ 0 h11.next) [(aE 0)] 1 [(0, 1, v9)] (resv 1 h11)) fun v12 h12 =>
 bnd (aY 1 8 (env 6) v12 h12) fun v13 h13 =>
 bnd (cV 1 (env 1) (some v4) none h13) fun v14 h14 =>
 cnd (bI (cV 1 (env 1) (some v4) none (resv 1 h11)) v14 && true) (
    kk4 (env 0) v14 v13 h14))))) (
      q0 (env 0) (env 6) h2) := by kernel_rfl
theorem bIk (kk4 : nA) : (fun (env : aV) (h : Hp) =>
 bnd (cA (env 1) h) fun v1 h1 =>
 bnd (aD .gtr v1 (aE 0) h1) fun v2 h2 =>
 aT v2 (
 bnd (cA (env 1) h2) fun v3 h3 =>
 bnd (aRg v3 (aE 240) h3) fun v4 h4 =>
 bnd (r 30 [(env 0), (aE 10)] h4) fun v5 h5 =>
 bnd (cV 1 (env 1) none (some v4) h5) fun v6 h6 =>
 cnd (bI (cV 1 (env 1) none (some v4) h4) v6 && true) (
 bnd (gQ v6 h6) fun v7 h7 =>
 cnd (bI (gQ v6 h4) v7 && true) (
 bnd (r 83 [(env 0), v5, v7] h7) fun v8 h8 =>
 bnd (aC 0 v8 h8) fun v9 h9 =>
 bnd (aC 1 v8 h9) fun v10 h10 =>
 bnd (aD .neq v10 (aE 0) h10) fun v11 h11 =>
 aT v11 (
 some (.t [(aE 0), v10], h11)) (
 bnd (bL (bZ 0 h11.next) [(aE 0)] 1 [(0, 1, v9)] (resv 1 h11)) fun v12 h12 =>
 bnd (aY 1 8 (env 6) v12 h12) fun v13 h13 =>
 bnd (cV 1 (env 1) (some v4) none h13) fun v14 h14 =>
 cnd (bI (cV 1 (env 1) (some v4) none (resv 1 h11)) v14 && true) (
    kk4 (env 0) v14 v13 h14))))) (
      eR r n (env 0) (env 6) h2)) = (K3 (aFu r n kk4) 0 1 6) := by kernel_rfl
theorem bQu (kk4 : nA) : D128 r n mB (xs x0 0 (K2 (eR r n) 0 6)) (K3 kk4 0 1 6) = (K3 (aFu r n kk4) 0 1 6) :=
 (bJi r n kk4 (eR r n)).trans (bIk r n kk4)
theorem bTf (m : Nat) : aM (fun kk => D128 r n mB (xs x0 0 (K2 (eR r n) 0 6)) kk) m = (K3 (sW r n m) 0 1 6) := by
 induction m with
 | zero => exact (by kernel_rfl : aM (fun kk => D128 r n mB (xs x0 0 (K2 (eR r n) 0 6)) kk) 0 = (K3 (sW r n 0) 0 1 6))
 | succ m ih =>
  refine (by kernel_rfl : aM (fun kk => D128 r n mB (xs x0 0 (K2 (eR r n) 0 6)) kk) (m + 1) = D128 r n mB (xs x0 0 (K2 (eR r n) 0 6)) (aM (fun kk => D128 r n mB (xs x0 0 (K2 (eR r n) 0 6)) kk) m)).trans ?_
  rw [ih]
  exact (bQu r n (sW r n m)).trans (by kernel_rfl)
theorem cJg : D128 r n aGq (xs x0 0 (K2 (eR r n) 0 6)) (K2 (eR r n) 0 6) = (K3 (bSi r n) 0 1 6) :=
 (by kernel_rfl : D128 r n aGq (xs x0 0 (K2 (eR r n) 0 6)) (K2 (eR r n) 0 6) = aM (fun kk => D128 r n mB (xs x0 0 (K2 (eR r n) 0 6)) kk) n).trans ((bTf r n n).trans (by kernel_rfl))
theorem bVe : D128 r n aGm x0 r128 = D128 r n aKw x0 (K2 (eR r n) 0 6) :=
 congrArg (fun k => D128 r n aKw x0 k) (cOv r n)
theorem cSk : D128 r n aGm x0 r128 = (K3 (aQa r n) 0 1 6) :=
 (bVe r n).trans
 ((by kernel_rfl : D128 r n aKw x0 (K2 (eR r n) 0 6) = D128 r n aGq (xs x0 0 (K2 (eR r n) 0 6)) (K2 (eR r n) 0 6)).trans
 ((cJg r n).trans (by kernel_rfl)))
theorem cDr : D128 r n aBw x0 r128 = D128 r n bPs x0 (K3 (aQa r n) 0 1 6) :=
 congrArg (fun k => D128 r n bPs x0 k) (cSk r n)
theorem cOy : D128 r n aBw x0 r128 = (K2 (aPn r n) 0 1) :=
 (cDr r n).trans
 ((by kernel_rfl))
theorem dEb : D128 r n c128 x0 r128 = D128 r n bUz x0 (K2 (aPn r n) 0 1) :=
 congrArg (fun k => D128 r n bUz x0 k) (cOy r n)
theorem dKp : D128 r n c128 x0 r128 = (K2 (s128 r n) 0 1) :=
 (dEb r n).trans
 ((by kernel_rfl))
theorem dAg : aF CF r n 128 args h = s128 r n (aU args 0) (aU args 1) h :=
 (by kernel_rfl : aF CF r n 128 args h = D128 r n c128 x0 r128 (aI args) h).trans ((congrFun (congrFun (dKp r n) (aI args)) h).trans (by kernel_rfl))
noncomputable def fK (r : RT) (n : Nat) (x0 x7 : DV) (h0 : Hp) : aH :=
 bnd (aQ x0 h0) fun v1 h1 =>
 bnd (aB 0 v1 h1) fun v2 h2 =>
 bnd (aA v2 h2) fun v3 h3 =>
 bnd (aQ x0 h3) fun v4 h4 =>
 bnd (aB 1 v4 h4) fun v5 h5 =>
 bnd (aA v5 h5) fun v6 h6 =>
 bnd (fE v3 (some x7) (some v6) h6) fun v7 h7 =>
 some (v7, h7)
noncomputable def bBt (r : RT) (n : Nat) (kk4 : dM) (x0 x1 x2 x7 : DV) (h0 : Hp) : aH :=
 bnd (aQ x0 h0) fun v1 h1 =>
 bnd (aB 1 v1 h1) fun v2 h2 =>
 bnd (aA v2 h2) fun v3 h3 =>
 bnd (aQ x0 h3) fun v4 h4 =>
 bnd (aB 0 v4 h4) fun v5 h5 =>
 bnd (aA v5 h5) fun v6 h6 =>
 bnd (dV v6 h6) fun v7 h7 =>
 bnd (aD .lss v3 v7 h7) fun v8 h8 =>
 bnd (gD v8 true (some (x0, h8)) h8) fun v9 h9 =>
 bnd (gD v8 true (aQ v9 h9) h9) fun v10 h10 =>
 bnd (gD v8 true (aB 1 v10 h10) h10) fun v11 h11 =>
 bnd (gD v8 true (aA v11 h11) h11) fun v12 h12 =>
 bnd (gD v8 true (some (x7, h12)) h12) fun v13 h13 =>
 bnd (gD v8 true (aD .sub v12 v13 h13) h13) fun v14 h14 =>
 bnd (gD v8 true (some (x2, h14)) h14) fun v15 h15 =>
 bnd (gD v8 true (aD .lss v14 v15 h15) h15) fun v16 h16 =>
 bnd (aR v8 v16 (.b false) h16) fun v17 h17 =>
 bnd (gD v17 true (some (x1, h17)) h17) fun v18 h18 =>
 bnd (gD v17 true (some (x0, h18)) h18) fun v19 h19 =>
 bnd (gD v17 true (aQ v19 h19) h19) fun v20 h20 =>
 bnd (gD v17 true (aB 0 v20 h20) h20) fun v21 h21 =>
 bnd (gD v17 true (aA v21 h21) h21) fun v22 h22 =>
 bnd (gD v17 true (some (x0, h22)) h22) fun v23 h23 =>
 bnd (gD v17 true (aQ v23 h23) h23) fun v24 h24 =>
 bnd (gD v17 true (aB 1 v24 h24) h24) fun v25 h25 =>
 bnd (gD v17 true (aA v25 h25) h25) fun v26 h26 =>
 bnd (gD v17 true (fI v22 v26 h26) h26) fun v27 h27 =>
 bnd (gD v17 true (cZ CF r v18 [v27] h27) h27) fun v28 h28 =>
 bnd (aR v17 v28 (.b false) h28) fun v29 h29 =>
 aT v29 (
 bnd (aQ x0 h29) fun v30 h30 =>
 bnd (aB 1 v30 h30) fun v31 h31 =>
 bnd (aA v31 h31) fun v32 h32 =>
 bnd (aD .add v32 (aE 1) h32) fun v33 h33 =>
 bnd (aQ x0 h33) fun v34 h34 =>
 bnd (aB 1 v34 h34) fun v35 h35 =>
 bnd (aG 1 v35 v33 h35) fun _ h36 =>
      kk4 x0 x1 x2 x7 h36) (
      fK r n x0 x7 h29)
noncomputable def sZ (r : RT) (n : Nat) (m : Nat) : dM :=
 Nat.rec (motive := fun _ => dM) (fun _ _ _ _ _ => none) (fun _ ih => bBt r n ih) m
noncomputable def bZi (r : RT) (n : Nat) : dM := sZ r n n
noncomputable def aSy (r : RT) (n : Nat) (x0 x1 x2 x7 : DV) (h0 : Hp) : aH :=
 bZi r n x0 x1 x2 x7 h0
noncomputable def aUh (r : RT) (n : Nat) (x0 x1 x2 : DV) (h0 : Hp) : aH :=
 bnd (aQ x0 h0) fun v1 h1 =>
 bnd (aB 1 v1 h1) fun v2 h2 =>
 bnd (aA v2 h2) fun v3 h3 =>
  aSy r n x0 x1 x2 v3 h3
noncomputable def s129 (r : RT) (n : Nat) (x0 x1 x2 : DV) (h0 : Hp) : aH :=
 aUh r n x0 x1 x2 h0
noncomputable abbrev c129 : Code := cf Tryz.f129
noncomputable abbrev aKz : Code := cR c129
noncomputable abbrev aLc : Code := cR aKz
noncomputable abbrev cZb : Code := cR aLc
noncomputable abbrev aDq : Code := cL aLc
noncomputable abbrev aEf : Code := cL aDq
noncomputable abbrev oU : Code := cL aEf
noncomputable abbrev bUh : Code := cL aKz
noncomputable abbrev bXu : Code := cL c129
noncomputable abbrev r129 : K := aP CF Tryz.f129
noncomputable def D129 (r : RT) (n : Nat) (c : Code) (X : Nat → K) (k : K) : K := aN CF r 62 n c X r129 k
theorem cPq : D129 r n cZb x0 r129 = (K2 (fK r n) 0 7) :=
 (by kernel_rfl)
theorem cDm (kk4 : dM) : D129 r n oU (xs x0 0 (K2 (fK r n) 0 7)) (K4 kk4 0 1 2 7) = (K4 (bBt r n kk4) 0 1 2 7) :=
 (by kernel_rfl)
theorem cBa (m : Nat) : aM (fun kk => D129 r n oU (xs x0 0 (K2 (fK r n) 0 7)) kk) m = (K4 (sZ r n m) 0 1 2 7) := by
 induction m with
 | zero => exact (by kernel_rfl : aM (fun kk => D129 r n oU (xs x0 0 (K2 (fK r n) 0 7)) kk) 0 = (K4 (sZ r n 0) 0 1 2 7))
 | succ m ih =>
  refine (by kernel_rfl : aM (fun kk => D129 r n oU (xs x0 0 (K2 (fK r n) 0 7)) kk) (m + 1) = D129 r n oU (xs x0 0 (K2 (fK r n) 0 7)) (aM (fun kk => D129 r n oU (xs x0 0 (K2 (fK r n) 0 7)) kk) m)).trans ?_
  rw [ih]
  exact (cDm r n (sZ r n m)).trans (by kernel_rfl)
theorem cFu : D129 r n aEf (xs x0 0 (K2 (fK r n) 0 7)) (K2 (fK r n) 0 7) = (K4 (bZi r n) 0 1 2 7) :=
 (by kernel_rfl : D129 r n aEf (xs x0 0 (K2 (fK r n) 0 7)) (K2 (fK r n) 0 7) = aM (fun kk => D129 r n oU (xs x0 0 (K2 (fK r n) 0 7)) kk) n).trans ((cBa r n n).trans (by kernel_rfl))
theorem bJr : D129 r n aLc x0 r129 = D129 r n aDq x0 (K2 (fK r n) 0 7) :=
 congrArg (fun k => D129 r n aDq x0 k) (cPq r n)
theorem cLf : D129 r n aLc x0 r129 = (K4 (aSy r n) 0 1 2 7) :=
 (bJr r n).trans
 ((by kernel_rfl : D129 r n aDq x0 (K2 (fK r n) 0 7) = D129 r n aEf (xs x0 0 (K2 (fK r n) 0 7)) (K2 (fK r n) 0 7)).trans
 ((cFu r n).trans (by kernel_rfl)))
theorem bWp : D129 r n aKz x0 r129 = D129 r n bUh x0 (K4 (aSy r n) 0 1 2 7) :=
 congrArg (fun k => D129 r n bUh x0 k) (cLf r n)
theorem cIe : D129 r n aKz x0 r129 = (K3 (aUh r n) 0 1 2) :=
 (bWp r n).trans
 ((by kernel_rfl))
theorem cXj : D129 r n c129 x0 r129 = D129 r n bXu x0 (K3 (aUh r n) 0 1 2) :=
 congrArg (fun k => D129 r n bXu x0 k) (cIe r n)
theorem dMe : D129 r n c129 x0 r129 = (K3 (s129 r n) 0 1 2) :=
 (cXj r n).trans
 ((by kernel_rfl))
theorem dEr : aF CF r n 129 args h = s129 r n (aU args 0) (aU args 1) (aU args 2) h :=
 (by kernel_rfl : aF CF r n 129 args h = D129 r n c129 x0 r129 (aI args) h).trans ((congrFun (congrFun (dMe r n) (aI args)) h).trans (by kernel_rfl))
noncomputable def s130 (r : RT) (n : Nat) (x0 : DV) (h0 : Hp) : aH :=
 bnd (bR x0 h0) fun v1 h1 =>
 some ((.f 145 [] [v1]), h1)
noncomputable abbrev c130 : Code := cf Tryz.f130
noncomputable abbrev r130 : K := aP CF Tryz.f130
noncomputable def D130 (r : RT) (n : Nat) (c : Code) (X : Nat → K) (k : K) : K := aN CF r 4 n c X r130 k
theorem dOn : D130 r n c130 x0 r130 = (K1 (s130 r n) 0) :=
 (by kernel_rfl)
theorem cWq : aF CF r n 130 args h = s130 r n (aU args 0) h :=
 (by kernel_rfl : aF CF r n 130 args h = D130 r n c130 x0 r130 (aI args) h).trans ((congrFun (congrFun (dOn r n) (aI args)) h).trans (by kernel_rfl))
noncomputable def s131 (r : RT) (n : Nat) (x0 x1 : DV) (h0 : Hp) : aH :=
 bnd (r 146 [x0, x1] h0) fun v1 h1 =>
 some (v1, h1)
noncomputable abbrev c131 : Code := cf Tryz.f131
noncomputable abbrev r131 : K := aP CF Tryz.f131
noncomputable def D131 (r : RT) (n : Nat) (c : Code) (X : Nat → K) (k : K) : K := aN CF r 8 n c X r131 k
theorem dLn : D131 r n c131 x0 r131 = (K2 (s131 r n) 0 1) :=
 (by kernel_rfl)
theorem dHu : aF CF r n 131 args h = s131 r n (aU args 0) (aU args 1) h :=
 (by kernel_rfl : aF CF r n 131 args h = D131 r n c131 x0 r131 (aI args) h).trans ((congrFun (congrFun (dLn r n) (aI args)) h).trans (by kernel_rfl))
end Go.Dd

namespace Go.Dd
open Go.Proofs
variable (r : RT) (n : Nat) (args : List DV) (h : Hp)
noncomputable def iH (r : RT) (n : Nat) (x2 x4 x5 : DV) (h0 : Hp) : aH :=
 bnd (aK 4 x4 h0) fun v1 h1 =>
 bnd (aG 4 x2 v1 h1) fun _ h2 =>
 bnd (aK 4 x2 h2) fun v3 _ =>
 some (.t [v3, x5], h2)
noncomputable def aVg (r : RT) (n : Nat) (x0 x2 x4 x5 x6 : DV) (h0 : Hp) : aH :=
 bnd (r 148 [x6] h0) fun v1 h1 =>
 aT v1 (
 bnd (aB 0 x4 h1) fun v2 h2 =>
 bnd (aG 1 v2 (aE 1) h2) fun _ h3 =>
 bnd (r 149 [x0] h3) fun v4 h4 =>
 bnd (aC 0 v4 h4) fun v5 h5 =>
 bnd (aC 1 v4 h5) fun v6 h6 =>
 bnd (aB 1 x4 h6) fun v7 h7 =>
 bnd (aG 1 v7 v5 h7) fun _ h8 =>
 bnd (aD .eql v6 (aE 0) h8) fun v9 h9 =>
 bnd (gD v9 true (some (x0, h9)) h9) fun v10 h10 =>
 bnd (gD v9 true (r 150 [v10] h10) h10) fun v11 h11 =>
 bnd (aR v9 v11 (.b false) h11) fun v12 h12 =>
 aT v12 (
 bnd (aB 1 x4 h12) fun v13 h13 =>
 bnd (aA v13 h13) fun v14 h14 =>
 bnd (fN .add v14 (.s [58]) h14) fun v15 h15 =>
 bnd (aB 0 x4 h15) fun v16 h16 =>
 bnd (aG 1 v16 (aE 2) h16) fun _ h17 =>
 bnd (aB 1 x4 h17) fun v18 h18 =>
 bnd (aG 1 v18 v15 h18) fun _ h19 =>
      iH r n x2 x4 v6 h19) (
      iH r n x2 x4 v6 h12)) (
 bnd (r 151 [x6] h1) fun v20 h20 =>
 aT v20 (
 bnd (aB 0 x4 h20) fun v21 h21 =>
 bnd (aG 1 v21 (aE 4) h21) fun _ h22 =>
 bnd (r 152 [x0] h22) fun v23 h23 =>
 bnd (aC 0 v23 h23) fun v24 h24 =>
 bnd (aC 1 v23 h24) fun v25 h25 =>
 bnd (aB 2 x4 h25) fun v26 h26 =>
 bnd (aG 1 v26 v24 h26) fun _ h27 =>
      iH r n x2 x4 v25 h27) (
 bnd (aD .eql x6 (.i .u8 (Int.ofNat 39)) h20) fun v28 h28 =>
 aT v28 (
 bnd (aQ x0 h28) fun v29 h29 =>
 bnd (aB 1 v29 h29) fun v30 h30 =>
 bnd (aA v30 h30) fun v31 h31 =>
 bnd (aD .add v31 (aE 1) h31) fun v32 h32 =>
 bnd (aQ x0 h32) fun v33 h33 =>
 bnd (aB 1 v33 h33) fun v34 h34 =>
 bnd (aG 1 v34 v32 h34) fun _ h35 =>
 bnd (aB 0 x4 h35) fun v36 h36 =>
 bnd (aG 1 v36 (aE 5) h36) fun _ h37 =>
 bnd (r 153 [x0] h37) fun v38 h38 =>
 bnd (aC 0 v38 h38) fun v39 h39 =>
 bnd (aC 1 v38 h39) fun v40 h40 =>
 bnd (aB 1 x4 h40) fun v41 h41 =>
 bnd (aG 1 v41 v39 h41) fun _ h42 =>
    iH r n x2 x4 v40 h42) (
 bnd (aD .eql x6 (.i .u8 (Int.ofNat 35)) h28) fun v43 h43 =>
 bnd (gD v43 true (some (x0, h43)) h43) fun v44 h44 =>
 bnd (gD v43 true (r 147 [v44, (aE 1)] h44) h44) fun v45 h45 =>
 bnd (gD v43 true (aD .eql v45 (.i .u8 (Int.ofNat 40)) h45) h45) fun v46 h46 =>
 bnd (aR v43 v46 (.b false) h46) fun v47 h47 =>
 aT v47 (
 bnd (aQ x0 h47) fun v48 h48 =>
 bnd (aB 1 v48 h48) fun v49 h49 =>
 bnd (aA v49 h49) fun v50 h50 =>
 bnd (aD .add v50 (aE 2) h50) fun v51 h51 =>
 bnd (aQ x0 h51) fun v52 h52 =>
 bnd (aB 1 v52 h52) fun v53 h53 =>
 bnd (aG 1 v53 v51 h53) fun _ h54 =>
 bnd (aB 0 x4 h54) fun v55 h55 =>
 bnd (aG 1 v55 (aE 7) h55) fun _ h56 =>
     iH r n x2 x4 x5 h56) (
 bnd (aD .eql x6 (.i .u8 (Int.ofNat 35)) h47) fun v57 h57 =>
 aT v57 (
 bnd (aQ x0 h57) fun v58 h58 =>
 bnd (aB 1 v58 h58) fun v59 h59 =>
 bnd (aA v59 h59) fun v60 h60 =>
 bnd (aD .add v60 (aE 1) h60) fun v61 h61 =>
 bnd (aQ x0 h61) fun v62 h62 =>
 bnd (aB 1 v62 h62) fun v63 h63 =>
 bnd (aG 1 v63 v61 h63) fun _ h64 =>
 bnd (aB 0 x4 h64) fun v65 h65 =>
 bnd (aG 1 v65 (aE 6) h65) fun _ h66 =>
 bnd (r 154 [x0] h66) fun v67 h67 =>
 bnd (aC 0 v67 h67) fun v68 h68 =>
 bnd (aC 1 v67 h68) fun v69 h69 =>
 bnd (aB 1 x4 h69) fun v70 h70 =>
 bnd (aG 1 v70 v68 h70) fun _ h71 =>
      iH r n x2 x4 v69 h71) (
 bnd (aD .eql x6 (.i .u8 (Int.ofNat 58)) h57) fun v72 h72 =>
 bnd (gD v72 true (some (x0, h72)) h72) fun v73 h73 =>
 bnd (gD v72 true (r 147 [v73, (aE 1)] h73) h73) fun v74 h74 =>
 bnd (gD v72 true (aD .eql v74 (.i .u8 (Int.ofNat 61)) h74) h74) fun v75 h75 =>
 bnd (aR v72 v75 (.b false) h75) fun v76 h76 =>
 aT v76 (
 bnd (aQ x0 h76) fun v77 h77 =>
 bnd (aB 1 v77 h77) fun v78 h78 =>
 bnd (aA v78 h78) fun v79 h79 =>
 bnd (aD .add v79 (aE 2) h79) fun v80 h80 =>
 bnd (aQ x0 h80) fun v81 h81 =>
 bnd (aB 1 v81 h81) fun v82 h82 =>
 bnd (aG 1 v82 v80 h82) fun _ h83 =>
 bnd (aB 0 x4 h83) fun v84 h84 =>
 bnd (aG 1 v84 (aE 9) h84) fun _ h85 =>
       iH r n x2 x4 x5 h85) (
 bnd (aD .eql x6 (.i .u8 (Int.ofNat 58)) h76) fun v86 h86 =>
 bnd (gD v86 true (some (x0, h86)) h86) fun v87 h87 =>
 bnd (gD v86 true (r 147 [v87, (aE 1)] h87) h87) fun v88 h88 =>
 bnd (gD v86 true (r 148 [v88] h88) h88) fun v89 h89 =>
 bnd (aR v86 v89 (.b false) h89) fun v90 h90 =>
 aT v90 (
 bnd (aQ x0 h90) fun v91 h91 =>
 bnd (aB 1 v91 h91) fun v92 h92 =>
 bnd (aA v92 h92) fun v93 h93 =>
 bnd (aD .add v93 (aE 1) h93) fun v94 h94 =>
 bnd (aQ x0 h94) fun v95 h95 =>
 bnd (aB 1 v95 h95) fun v96 h96 =>
 bnd (aG 1 v96 v94 h96) fun _ h97 =>
 bnd (aB 0 x4 h97) fun v98 h98 =>
 bnd (aG 1 v98 (aE 8) h98) fun _ h99 =>
 bnd (r 149 [x0] h99) fun v100 h100 =>
 bnd (aC 0 v100 h100) fun v101 h101 =>
 bnd (aC 1 v100 h101) fun v102 h102 =>
 bnd (aB 1 x4 h102) fun v103 h103 =>
 bnd (aG 1 v103 v101 h103) fun _ h104 =>
        iH r n x2 x4 v102 h104) (
 bnd (r 130 [(.s [43, 45, 42, 47, 60, 62, 61, 126, 44, 64, 38, 37])] h90) fun v105 h105 =>
 bnd (cZ CF r v105 [x6] h105) fun v106 h106 =>
 aT v106 (
 bnd (r 130 [(.s [43, 45, 42, 47, 60, 62, 61, 126, 44, 64, 38, 37])] h106) fun v107 h107 =>
 bnd (r 129 [x0, v107, (aE 2)] h107) fun v108 h108 =>
 bnd (aB 0 x4 h108) fun v109 h109 =>
 bnd (aG 1 v109 (aE 3) h109) fun _ h110 =>
 bnd (aB 1 x4 h110) fun v111 h111 =>
 bnd (aG 1 v111 v108 h111) fun _ h112 =>
         iH r n x2 x4 x5 h112) (
 bnd (r 130 [(.s [94, 46, 59, 40, 41, 91, 93, 124])] h106) fun v113 h113 =>
 bnd (cZ CF r v113 [x6] h113) fun v114 h114 =>
 aT v114 (
 bnd (r 130 [(.s [94, 46, 59, 40, 41, 91, 93, 124])] h114) fun v115 h115 =>
 bnd (r 129 [x0, v115, (aE 1)] h115) fun v116 h116 =>
 bnd (aB 0 x4 h116) fun v117 h117 =>
 bnd (aG 1 v117 (aE 10) h117) fun _ h118 =>
 bnd (aB 1 x4 h118) fun v119 h119 =>
 bnd (aG 1 v119 v116 h119) fun _ h120 =>
          iH r n x2 x4 x5 h120) (
          iH r n x2 x4 (aE 10) h114)))))))))
noncomputable def aVe (r : RT) (n : Nat) (x0 x2 x4 x5 : DV) (h0 : Hp) : aH :=
 bnd (r 147 [x0, (aE 0)] h0) fun v1 h1 =>
  aVg r n x0 x2 x4 x5 v1 h1
noncomputable def xN (r : RT) (n : Nat) (x0 x2 x4 : DV) (h0 : Hp) : aH :=
 aVe r n x0 x2 x4 (aE 0) h0
noncomputable def qQ (r : RT) (n : Nat) (x0 x2 : DV) (h0 : Hp) : aH :=
 bnd (aQ x0 h0) fun v1 h1 =>
 bnd (aB 1 v1 h1) fun v2 h2 =>
 bnd (aA v2 h2) fun v3 h3 =>
 bnd (bB [(aE 0), (.s []), (aE 0), (aE 0)] [(3, 1, v3)] h3) fun v4 h4 =>
 bnd (bN [(aE 0), (.s []), (aE 0), (aE 0)] h4) fun v5 h5 =>
 bnd (aG 4 v5 v4 h5) fun _ h6 =>
  xN r n x0 x2 v5 h6
noncomputable def s132 (r : RT) (n : Nat) (x0 : DV) (h0 : Hp) : aH :=
 bnd (bN [(aE 0), (.s []), (aE 0), (aE 0)] h0) fun v1 h1 =>
  qQ r n x0 v1 h1
noncomputable abbrev c132 : Code := cf Tryz.f132
noncomputable abbrev aBq : Code := cR c132
noncomputable abbrev aKn : Code := cR aBq
noncomputable abbrev aKo : Code := cR aKn
noncomputable abbrev aBu : Code := cR aKo
noncomputable abbrev dEf : Code := cR aBu
noncomputable abbrev cDy : Code := cL aBu
noncomputable abbrev bTa : Code := cL aKo
noncomputable abbrev bQw : Code := cL aKn
noncomputable abbrev aPc : Code := cL aBq
noncomputable abbrev aKi : Code := cL c132
noncomputable abbrev r132 : K := aP CF Tryz.f132
noncomputable def D132 (r : RT) (n : Nat) (c : Code) (X : Nat → K) (k : K) : K := aN CF r 153 n c X r132 k
theorem cGf : D132 r n dEf x0 r132 = (K3 (iH r n) 2 4 5) :=
 (by kernel_rfl)
theorem bMm : D132 r n aBu x0 r132 = D132 r n cDy x0 (K3 (iH r n) 2 4 5) :=
 congrArg (fun k => D132 r n cDy x0 k) (cGf r n)
theorem cOk : D132 r n aBu x0 r132 = (K5 (aVg r n) 0 2 4 5 6) :=
 (bMm r n).trans
 ((by kernel_rfl))
theorem bNg : D132 r n aKo x0 r132 = D132 r n bTa x0 (K5 (aVg r n) 0 2 4 5 6) :=
 congrArg (fun k => D132 r n bTa x0 k) (cOk r n)
theorem cGn : D132 r n aKo x0 r132 = (K4 (aVe r n) 0 2 4 5) :=
 (bNg r n).trans
 ((by kernel_rfl))
theorem bWj : D132 r n aKn x0 r132 = D132 r n bQw x0 (K4 (aVe r n) 0 2 4 5) :=
 congrArg (fun k => D132 r n bQw x0 k) (cGn r n)
theorem cLo : D132 r n aKn x0 r132 = (K3 (xN r n) 0 2 4) :=
 (bWj r n).trans
 ((by kernel_rfl))
theorem bNx : D132 r n aBq x0 r132 = D132 r n aPc x0 (K3 (xN r n) 0 2 4) :=
 congrArg (fun k => D132 r n aPc x0 k) (cLo r n)
theorem bUx (q0 : nA) : D132 r n aPc x0 (K3 q0 0 2 4) = fun (env : aV) (h : Hp) =>
 bnd (aQ (env 0) h) fun v1 h1 =>
 bnd (aB 1 v1 h1) fun v2 h2 =>
 bnd (aA v2 h2) fun v3 h3 =>
 bnd (bB [(aE 0), (.s []), (aE 0), (aE 0)] [(3, 1, v3)] h3) fun v4 h4 =>
 bnd (bN [(aE 0), (.s []), (aE 0), (aE 0)] h4) fun v5 h5 =>
 bnd (aG 4 v5 v4 h5) fun _ h6 =>
  q0 (env 0) (env 2) v5 h6 := by kernel_rfl
theorem bEg : (fun (env : aV) (h : Hp) =>
 bnd (aQ (env 0) h) fun v1 h1 =>
 bnd (aB 1 v1 h1) fun v2 h2 =>
 bnd (aA v2 h2) fun v3 h3 =>
 bnd (bB [(aE 0), (.s []), (aE 0), (aE 0)] [(3, 1, v3)] h3) fun v4 h4 =>
 bnd (bN [(aE 0), (.s []), (aE 0), (aE 0)] h4) fun v5 h5 =>
 bnd (aG 4 v5 v4 h5) fun _ h6 =>
  xN r n (env 0) (env 2) v5 h6) = (K2 (qQ r n) 0 2) := by kernel_rfl
theorem cHz : D132 r n aBq x0 r132 = (K2 (qQ r n) 0 2) :=
 (bNx r n).trans
 ((bUx r n (xN r n)).trans (bEg r n))
theorem dGl : D132 r n c132 x0 r132 = D132 r n aKi x0 (K2 (qQ r n) 0 2) :=
 congrArg (fun k => D132 r n aKi x0 k) (cHz r n)
theorem dFy (q0 : gO) : D132 r n aKi x0 (K2 q0 0 2) = fun (env : aV) (h : Hp) =>
 bnd (bN [(aE 0), (.s []), (aE 0), (aE 0)] h) fun v1 h1 =>
  q0 (env 0) v1 h1 := by kernel_rfl
theorem cSf : (fun (env : aV) (h : Hp) =>
 bnd (bN [(aE 0), (.s []), (aE 0), (aE 0)] h) fun v1 h1 =>
  qQ r n (env 0) v1 h1) = (K1 (s132 r n) 0) := by kernel_rfl
theorem dLt : D132 r n c132 x0 r132 = (K1 (s132 r n) 0) :=
 (dGl r n).trans
 ((dFy r n (qQ r n)).trans (cSf r n))
theorem cYu : aF CF r n 132 args h = s132 r n (aU args 0) h :=
 (by kernel_rfl : aF CF r n 132 args h = D132 r n c132 x0 r132 (aI args) h).trans ((congrFun (congrFun (dLt r n) (aI args)) h).trans (by kernel_rfl))
noncomputable def s133 (r : RT) (n : Nat) (x0 x1 x2 : DV) (h0 : Hp) : aH :=
 bnd (r 137 [x0, (aE 0)] h0) fun v1 h1 =>
 bnd (bN [(aE 0), (.s []), (aE 0), (aE 0)] h1) fun v2 h2 =>
 bnd (aG 4 v2 v1 h2) fun _ h3 =>
 bnd (aQ x0 h3) fun v4 h4 =>
 bnd (aB 3 v4 h4) fun v5 h5 =>
 bnd (aA v5 h5) fun v6 h6 =>
 bnd (aD .eql v6 (aE 0) h6) fun v7 h7 =>
 bnd (gD v7 true (aB 0 v2 h7) h7) fun v8 h8 =>
 bnd (gD v7 true (aA v8 h8) h8) fun v9 h9 =>
 bnd (gD v7 true (some (x1, h9)) h9) fun v10 h10 =>
 bnd (gD v7 true (aD .eql v9 v10 h10) h10) fun v11 h11 =>
 bnd (aR v7 v11 (.b false) h11) fun v12 h12 =>
 bnd (gD v12 true (some (x2, h12)) h12) fun v13 h13 =>
 bnd (gD v12 true (fN .eql v13 (.s []) h13) h13) fun v14 h14 =>
 bnd (gD v12 true (some (v14, h14)) h14) fun v15 h15 =>
 bnd (gD v15 false (aB 1 v2 h15) h15) fun v16 h16 =>
 bnd (gD v15 false (aA v16 h16) h16) fun v17 h17 =>
 bnd (gD v15 false (some (x2, h17)) h17) fun v18 h18 =>
 bnd (gD v15 false (fN .eql v17 v18 h18) h18) fun v19 h19 =>
 bnd (gD v12 true (aR v15 (.b true) v19 h19) h19) fun v20 h20 =>
 bnd (aR v12 v20 (.b false) h20) fun v21 h21 =>
 some (v21, h21)
noncomputable abbrev c133 : Code := cf Tryz.f133
noncomputable abbrev r133 : K := aP CF Tryz.f133
noncomputable def D133 (r : RT) (n : Nat) (c : Code) (X : Nat → K) (k : K) : K := aN CF r 31 n c X r133 k
theorem dOh : D133 r n c133 x0 r133 = (K3 (s133 r n) 0 1 2) :=
 (by kernel_rfl)
theorem dEu : aF CF r n 133 args h = s133 r n (aU args 0) (aU args 1) (aU args 2) h :=
 (by kernel_rfl : aF CF r n 133 args h = D133 r n c133 x0 r133 (aI args) h).trans ((congrFun (congrFun (dOh r n) (aI args)) h).trans (by kernel_rfl))
noncomputable def aIs (r : RT) (n : Nat) (x2 x3 : DV) (h0 : Hp) : aH :=
 bnd (aK 4 x3 h0) fun v1 h1 =>
 bnd (aG 4 x2 v1 h1) fun _ h2 =>
 bnd (aK 4 x2 h2) fun v3 _ =>
 some (v3, h2)
noncomputable def wP (r : RT) (n : Nat) (x0 x2 x3 : DV) (h0 : Hp) : aH :=
 bnd (aB 0 x3 h0) fun v1 h1 =>
 bnd (aA v1 h1) fun v2 h2 =>
 bnd (aD .neq v2 (aE 0) h2) fun v3 h3 =>
 aT v3 (
 bnd (aQ x0 h3) fun v4 h4 =>
 bnd (aB 0 v4 h4) fun v5 h5 =>
 bnd (aA v5 h5) fun v6 h6 =>
 bnd (cV 4 v6 (some (aE 1)) none h6) fun v7 h7 =>
 bnd (aQ x0 h7) fun v8 h8 =>
 bnd (aB 0 v8 h8) fun v9 h9 =>
 bnd (aG 1 v9 v7 h9) fun _ h10 =>
  aIs r n x2 x3 h10) (
  aIs r n x2 x3 h3)
noncomputable def rF (r : RT) (n : Nat) (x0 x2 : DV) (h0 : Hp) : aH :=
 bnd (r 137 [x0, (aE 0)] h0) fun v1 h1 =>
 bnd (bN [(aE 0), (.s []), (aE 0), (aE 0)] h1) fun v2 h2 =>
 bnd (aG 4 v2 v1 h2) fun _ h3 =>
  wP r n x0 x2 v2 h3
noncomputable def s134 (r : RT) (n : Nat) (x0 : DV) (h0 : Hp) : aH :=
 bnd (bN [(aE 0), (.s []), (aE 0), (aE 0)] h0) fun v1 h1 =>
  rF r n x0 v1 h1
noncomputable abbrev c134 : Code := cf Tryz.f134
noncomputable abbrev aGw : Code := cR c134
noncomputable abbrev aDw : Code := cR aGw
noncomputable abbrev dEt : Code := cR aDw
noncomputable abbrev bKt : Code := cL aDw
noncomputable abbrev aUp : Code := cL aGw
noncomputable abbrev aRx : Code := cL c134
noncomputable abbrev r134 : K := aP CF Tryz.f134
noncomputable def D134 (r : RT) (n : Nat) (c : Code) (X : Nat → K) (k : K) : K := aN CF r 18 n c X r134 k
theorem cGl : D134 r n dEt x0 r134 = (K2 (aIs r n) 2 3) :=
 (by kernel_rfl)
theorem cCn : D134 r n aDw x0 r134 = D134 r n bKt x0 (K2 (aIs r n) 2 3) :=
 congrArg (fun k => D134 r n bKt x0 k) (cGl r n)
theorem cSm : D134 r n aDw x0 r134 = (K3 (wP r n) 0 2 3) :=
 (cCn r n).trans
 ((by kernel_rfl))
theorem bJe : D134 r n aGw x0 r134 = D134 r n aUp x0 (K3 (wP r n) 0 2 3) :=
 congrArg (fun k => D134 r n aUp x0 k) (cSm r n)
theorem bZt (q0 : nA) : D134 r n aUp x0 (K3 q0 0 2 3) = fun (env : aV) (h : Hp) =>
 bnd (r 137 [(env 0), (aE 0)] h) fun v1 h1 =>
 bnd (bN [(aE 0), (.s []), (aE 0), (aE 0)] h1) fun v2 h2 =>
 bnd (aG 4 v2 v1 h2) fun _ h3 =>
  q0 (env 0) (env 2) v2 h3 := by kernel_rfl
theorem bHs : (fun (env : aV) (h : Hp) =>
 bnd (r 137 [(env 0), (aE 0)] h) fun v1 h1 =>
 bnd (bN [(aE 0), (.s []), (aE 0), (aE 0)] h1) fun v2 h2 =>
 bnd (aG 4 v2 v1 h2) fun _ h3 =>
  wP r n (env 0) (env 2) v2 h3) = (K2 (rF r n) 0 2) := by kernel_rfl
theorem cEo : D134 r n aGw x0 r134 = (K2 (rF r n) 0 2) :=
 (bJe r n).trans
 ((bZt r n (wP r n)).trans (bHs r n))
theorem dCp : D134 r n c134 x0 r134 = D134 r n aRx x0 (K2 (rF r n) 0 2) :=
 congrArg (fun k => D134 r n aRx x0 k) (cEo r n)
theorem dBh (q0 : gO) : D134 r n aRx x0 (K2 q0 0 2) = fun (env : aV) (h : Hp) =>
 bnd (bN [(aE 0), (.s []), (aE 0), (aE 0)] h) fun v1 h1 =>
  q0 (env 0) v1 h1 := by kernel_rfl
theorem cTp : (fun (env : aV) (h : Hp) =>
 bnd (bN [(aE 0), (.s []), (aE 0), (aE 0)] h) fun v1 h1 =>
  rF r n (env 0) v1 h1) = (K1 (s134 r n) 0) := by kernel_rfl
theorem dKy : D134 r n c134 x0 r134 = (K1 (s134 r n) 0) :=
 (dCp r n).trans
 ((dBh r n (rF r n)).trans (cTp r n))
theorem dBk : aF CF r n 134 args h = s134 r n (aU args 0) h :=
 (by kernel_rfl : aF CF r n 134 args h = D134 r n c134 x0 r134 (aI args) h).trans ((congrFun (congrFun (dKy r n) (aI args)) h).trans (by kernel_rfl))
noncomputable def s135 (r : RT) (n : Nat) (x0 : DV) (h0 : Hp) : aH :=
 bnd (bN iJ h0) fun v1 h1 =>
 bnd (r 133 [x0, (aE 1), (.s [])] h1) fun v2 h2 =>
 bnd (gD v2 true (some (x0, h2)) h2) fun v3 h3 =>
 bnd (gD v2 true (r 137 [v3, (aE 1)] h3) h3) fun v4 h4 =>
 bnd (gD v2 true (fM 0 v4 h4) h4) fun v5 h5 =>
 bnd (gD v2 true (aD .eql v5 (aE 9) h5) h5) fun v6 h6 =>
 bnd (aR v2 v6 (.b false) h6) fun v7 h7 =>
 aT v7 (
 bnd (r 134 [x0] h7) fun v8 h8 =>
 bnd (fM 1 v8 h8) fun v9 h9 =>
 bnd (bB iJ [(0, 1, (aE 6)), (1, 1, v9)] h9) fun v10 h10 =>
 bnd (bN iJ h10) fun v11 h11 =>
 bnd (aG 6 v11 v10 h11) fun _ h12 =>
 bnd (r 134 [x0] h12) fun v13 h13 =>
 bnd (r 135 [x0] h13) fun v14 h14 =>
 bnd (aL iJ 1 [(0, 6, v14)] h14) fun v15 h15 =>
 bnd (aB 5 v11 h15) fun v16 h16 =>
 bnd (aG 1 v16 v15 h16) fun _ h17 =>
 bnd (aK 6 v11 h17) fun v18 h18 =>
 bnd (aG 6 v1 v18 h18) fun _ h19 =>
 bnd (aK 6 v1 h19) fun v20 _ =>
 some (v20, h19)) (
 bnd (r 155 [x0] h7) fun v21 h21 =>
 bnd (aG 6 v1 v21 h21) fun _ h22 =>
 bnd (aK 6 v1 h22) fun v23 _ =>
 some (v23, h22))
noncomputable abbrev c135 : Code := cf Tryz.f135
noncomputable abbrev r135 : K := aP CF Tryz.f135
noncomputable def D135 (r : RT) (n : Nat) (c : Code) (X : Nat → K) (k : K) : K := aN CF r 25 n c X r135 k
theorem dMa : D135 r n c135 x0 r135 = (K1 (s135 r n) 0) :=
 (by kernel_rfl)
theorem dIb : aF CF r n 135 args h = s135 r n (aU args 0) h :=
 (by kernel_rfl : aF CF r n 135 args h = D135 r n c135 x0 r135 (aI args) h).trans ((congrFun (congrFun (dMa r n) (aI args)) h).trans (by kernel_rfl))
noncomputable def s137 (r : RT) (n : Nat) (x0 x1 : DV) (h0 : Hp) : aH :=
 bnd (bN [(aE 0), (.s []), (aE 0), (aE 0)] h0) fun v1 h1 =>
 bnd (aQ x0 h1) fun v2 h2 =>
 bnd (aB 0 v2 h2) fun v3 h3 =>
 bnd (aA v3 h3) fun v4 h4 =>
 bnd (aQ x0 h4) fun v5 h5 =>
 bnd (aB 0 v5 h5) fun v6 h6 =>
 bnd (aA v6 h6) fun v7 h7 =>
 bnd (cA v7 h7) fun v8 h8 =>
 bnd (aD .sub v8 (aE 1) h8) fun v9 h9 =>
 bnd (aRg x1 v9 h9) fun v10 h10 =>
 bnd (aJ 4 v4 v10 h10) fun v11 h11 =>
 bnd (aK 4 v11 h11) fun v12 h12 =>
 bnd (aG 4 v1 v12 h12) fun v13 h13 =>
 bnd (aK 4 v1 h13) fun v14 _ =>
 some (v14, h13)
noncomputable abbrev c137 : Code := cf Tryz.f137
noncomputable abbrev r137 : K := aP CF Tryz.f137
noncomputable def D137 (r : RT) (n : Nat) (c : Code) (X : Nat → K) (k : K) : K := aN CF r 19 n c X r137 k
theorem dNz : D137 r n c137 x0 r137 = (K2 (s137 r n) 0 1) :=
 (by kernel_rfl)
theorem cYi : aF CF r n 137 args h = s137 r n (aU args 0) (aU args 1) h :=
 (by kernel_rfl : aF CF r n 137 args h = D137 r n c137 x0 r137 (aI args) h).trans ((congrFun (congrFun (dNz r n) (aI args)) h).trans (by kernel_rfl))
noncomputable def aJu (r : RT) (n : Nat) (x7 : DV) (h0 : Hp) : aH :=
 bnd (aB 1 x7 h0) fun v1 h1 =>
 bnd (aA v1 h1) fun v2 h2 =>
 some (v2, h2)
noncomputable def zE (r : RT) (n : Nat) (x0 x2 x7 : DV) (h0 : Hp) : aH :=
 bnd (cA x2 h0) fun v1 h1 =>
 bnd (aD .eql v1 (aE 4) h1) fun v2 h2 =>
 aT v2 (
 bnd (aK 4 x7 h2) fun v3 h3 =>
 bnd (r 136 [x0, v3, (aE 18)] h3) fun v4 h4 =>
  aJu r n x7 h4) (
  aJu r n x7 h2)
noncomputable def aIy (r : RT) (n : Nat) (x0 x1 x2 : DV) (h0 : Hp) : aH :=
 bnd (r 120 [x0, x1, (.s [])] h0) fun v1 h1 =>
 bnd (bN [(aE 0), (.s []), (aE 0), (aE 0)] h1) fun v2 h2 =>
 bnd (aG 4 v2 v1 h2) fun _ h3 =>
  zE r n x0 x2 v2 h3
noncomputable def s138 (r : RT) (n : Nat) (x0 x1 x2 : DV) (h0 : Hp) : aH :=
 aIy r n x0 x1 x2 h0
noncomputable abbrev c138 : Code := cf Tryz.f138
noncomputable abbrev aCp : Code := cR c138
noncomputable abbrev aFf : Code := cR aCp
noncomputable abbrev dDk : Code := cR aFf
noncomputable abbrev cEh : Code := cL aFf
noncomputable abbrev aUd : Code := cL aCp
noncomputable abbrev bTn : Code := cL c138
noncomputable abbrev r138 : K := aP CF Tryz.f138
noncomputable def D138 (r : RT) (n : Nat) (c : Code) (X : Nat → K) (k : K) : K := aN CF r 19 n c X r138 k
theorem cOn : D138 r n dDk x0 r138 = (K1 (aJu r n) 7) :=
 (by kernel_rfl)
theorem bXd : D138 r n aFf x0 r138 = D138 r n cEh x0 (K1 (aJu r n) 7) :=
 congrArg (fun k => D138 r n cEh x0 k) (cOn r n)
theorem cHa : D138 r n aFf x0 r138 = (K3 (zE r n) 0 2 7) :=
 (bXd r n).trans
 ((by kernel_rfl))
theorem cBh : D138 r n aCp x0 r138 = D138 r n aUd x0 (K3 (zE r n) 0 2 7) :=
 congrArg (fun k => D138 r n aUd x0 k) (cHa r n)
theorem bXb (q0 : nA) : D138 r n aUd x0 (K3 q0 0 2 7) = fun (env : aV) (h : Hp) =>
 bnd (r 120 [(env 0), (env 1), (.s [])] h) fun v1 h1 =>
 bnd (bN [(aE 0), (.s []), (aE 0), (aE 0)] h1) fun v2 h2 =>
 bnd (aG 4 v2 v1 h2) fun _ h3 =>
  q0 (env 0) (env 2) v2 h3 := by kernel_rfl
theorem bGb : (fun (env : aV) (h : Hp) =>
 bnd (r 120 [(env 0), (env 1), (.s [])] h) fun v1 h1 =>
 bnd (bN [(aE 0), (.s []), (aE 0), (aE 0)] h1) fun v2 h2 =>
 bnd (aG 4 v2 v1 h2) fun _ h3 =>
  zE r n (env 0) (env 2) v2 h3) = (K3 (aIy r n) 0 1 2) := by kernel_rfl
theorem cHv : D138 r n aCp x0 r138 = (K3 (aIy r n) 0 1 2) :=
 (cBh r n).trans
 ((bXb r n (zE r n)).trans (bGb r n))
theorem cWe : D138 r n c138 x0 r138 = D138 r n bTn x0 (K3 (aIy r n) 0 1 2) :=
 congrArg (fun k => D138 r n bTn x0 k) (cHv r n)
theorem dIv : D138 r n c138 x0 r138 = (K3 (s138 r n) 0 1 2) :=
 (cWe r n).trans
 ((by kernel_rfl))
theorem dCl : aF CF r n 138 args h = s138 r n (aU args 0) (aU args 1) (aU args 2) h :=
 (by kernel_rfl : aF CF r n 138 args h = D138 r n c138 x0 r138 (aI args) h).trans ((congrFun (congrFun (dIv r n) (aI args)) h).trans (by kernel_rfl))
noncomputable def dE (r : RT) (n : Nat) (kk2 : cG) (x0 x2 x10 x11 x12 : DV) (h0 : Hp) : aH :=
 bnd (aD .add x12 (aE 1) h0) fun v1 h1 =>
  kk2 x0 x2 x10 x11 v1 h1
noncomputable def yY (r : RT) (n : Nat) (kk2 : cG) (x0 x2 x7 x10 x11 x12 : DV) (h0 : Hp) : aH :=
 bnd (aQ x0 h0) fun v1 h1 =>
 bnd (aB 8 v1 h1) fun v2 h2 =>
 bnd (aA v2 h2) fun v3 h3 =>
 bnd (aD .neq v3 (aE 0) h3) fun v4 h4 =>
 aT v4 (
 some (.t [], h4)) (
 bnd (aQ x0 (resv 1 h4)) fun v5 h5 =>
 bnd (aB 6 v5 h5) fun v6 h6 =>
 bnd (aA v6 h6) fun v7 h7 =>
 bnd (aQ x0 h7) fun v8 h8 =>
 bnd (aB 0 v8 h8) fun v9 h9 =>
 bnd (aB 2 v9 h9) fun v10 h10 =>
 bnd (aA v10 h10) fun v11 h11 =>
 bnd (bB [(.s []), (.b false), (.b false), (aE 0)] [(0, 1, x7), (1, 1, (.b false)), (2, 1, x2), (3, 1, v11)] h11) fun v12 h12 =>
 bnd (bL (bZ 0 h4.next) [(.s []), (.b false), (.b false), (aE 0)] 1 [(0, 4, v12)] h12) fun v13 h13 =>
 bnd (aY 4 32 v7 v13 h13) fun v14 h14 =>
 bnd (aQ x0 h14) fun v15 h15 =>
 bnd (aB 6 v15 h15) fun v16 h16 =>
 bnd (aG 1 v16 v14 h16) fun v17 h17 =>
 bnd (aQ x0 h17) fun v18 h18 =>
 bnd (aB 0 v18 h18) fun v19 h19 =>
 bnd (aB 2 v19 h19) fun v20 h20 =>
 bnd (aA v20 h20) fun v21 h21 =>
 bnd (aD .add v21 (aE 1) h21) fun v22 h22 =>
 bnd (aQ x0 h22) fun v23 h23 =>
 bnd (aB 0 v23 h23) fun v24 h24 =>
 bnd (aB 2 v24 h24) fun v25 h25 =>
 bnd (aG 1 v25 v22 h25) fun _ h26 =>
  dE r n kk2 x0 x2 x10 x11 x12 h26)
noncomputable def oH (r : RT) (n : Nat) (kk2 : cG) (x0 x2 x7 x10 x11 x12 : DV) (h0 : Hp) : aH :=
 bnd (aQ x0 h0) fun v1 h1 =>
 bnd (aB 0 v1 h1) fun v2 h2 =>
 bnd (aB 2 v2 h2) fun v3 h3 =>
 bnd (aA v3 h3) fun v4 h4 =>
 bnd (aD .eql v4 (aE 24) h4) fun v5 h5 =>
 aT v5 (
 bnd (r 158 [x0, x7, (aE 18)] h5) fun v6 h6 =>
  yY r n kk2 x0 x2 x7 x10 x11 x12 h6) (
  yY r n kk2 x0 x2 x7 x10 x11 x12 h5)
noncomputable def aJz (r : RT) (n : Nat) (kk2 : cG) (x0 x2 x7 x10 x11 x12 : DV) (h0 : Hp) : aH :=
 bnd (r 156 [x0, x7] h0) fun v1 h1 =>
 bnd (aC 0 v1 h1) fun v2 h2 =>
 bnd (aC 1 v1 h2) fun v3 h3 =>
 bnd (bN [(.s []), (.b false), (.b false), (aE 0)] h3) fun v4 h4 =>
 bnd (aG 4 v4 v2 h4) fun _ h5 =>
 bnd (gD v3 false (some (x7, h5)) h5) fun v6 h6 =>
 bnd (gD v3 false (r 157 [v6] h6) h6) fun v7 h7 =>
 bnd (aR v3 (.b true) v7 h7) fun v8 h8 =>
 aT v8 (
 bnd (r 158 [x0, x7, (aE 16)] h8) fun v9 h9 =>
  oH r n kk2 x0 x2 x7 x10 x11 x12 h9) (
  oH r n kk2 x0 x2 x7 x10 x11 x12 h8)
noncomputable def aUv (r : RT) (n : Nat) (kk2 : cG) (x0 x2 x10 x11 x12 : DV) (h0 : Hp) : aH :=
 bnd (aJ 1 x10 x12 h0) fun v1 h1 =>
 bnd (aA v1 h1) fun v2 h2 =>
  aJz r n kk2 x0 x2 v2 x10 x11 x12 h2
noncomputable def aTd (r : RT) (n : Nat) (kk2 : cG) (x0 x2 x10 x11 x12 x13 : DV) (h0 : Hp) : aH :=
 aT x13 (
  aUv r n kk2 x0 x2 x10 x11 x12 h0) (
 some (.t [], h0))
noncomputable def bAy (r : RT) (n : Nat) (kk2 : cG) (x0 x2 x10 x11 x12 : DV) (h0 : Hp) : aH :=
 bnd (aD .lss x12 x11 h0) fun v1 h1 =>
  aTd r n kk2 x0 x2 x10 x11 x12 v1 h1
noncomputable def tL (r : RT) (n : Nat) (m : Nat) : cG :=
 Nat.rec (motive := fun _ => cG) (fun _ _ _ _ _ _ => none) (fun _ ih => bAy r n ih) m
noncomputable def bUu (r : RT) (n : Nat) : cG := tL r n n
noncomputable def aRf (r : RT) (n : Nat) (x0 x2 x10 x11 x12 : DV) (h0 : Hp) : aH :=
 bUu r n x0 x2 x10 x11 x12 h0
noncomputable def s139 (r : RT) (n : Nat) (x0 x1 x2 : DV) (h0 : Hp) : aH :=
 bnd (cA x1 h0) fun v1 h1 =>
  aRf r n x0 x2 x1 v1 (aE 0) h1
noncomputable abbrev c139 : Code := cf Tryz.f139
noncomputable abbrev aSg : Code := cR c139
noncomputable abbrev aLa : Code := cL aSg
noncomputable abbrev kH : Code := cL aLa
noncomputable abbrev aFa : Code := cR kH
noncomputable abbrev aDe : Code := cR aFa
noncomputable abbrev cWl : Code := cR aDe
noncomputable abbrev aFl : Code := cL aDe
noncomputable abbrev aJi : Code := cL aFl
noncomputable abbrev aHn : Code := cR aJi
noncomputable abbrev tQ : Code := cR aHn
noncomputable abbrev bDg : Code := cR tQ
noncomputable abbrev aYi : Code := cL tQ
noncomputable abbrev aIt : Code := cL aHn
noncomputable abbrev bDf : Code := cL aJi
noncomputable abbrev bDh : Code := cL aFa
noncomputable abbrev bAu : Code := cL kH
noncomputable abbrev aZq : Code := cL c139
noncomputable abbrev r139 : K := aP CF Tryz.f139
noncomputable def D139 (r : RT) (n : Nat) (c : Code) (X : Nat → K) (k : K) : K := aN CF r 71 n c X r139 k
theorem cPz (kk2 : cG) : D139 r n cWl (xs x0 0 r139) (K5 kk2 0 2 10 11 12) = (K5 (dE r n kk2) 0 2 10 11 12) :=
 (by kernel_rfl)
theorem cBt (kk2 : cG) (q0 : cG) : D139 r n bDg (xs (xs x0 0 r139) 1 (K5 q0 0 2 10 11 12)) (K5 q0 0 2 10 11 12) = fun (env : aV) (h : Hp) =>
 bnd (aQ (env 0) h) fun v1 h1 =>
 bnd (aB 8 v1 h1) fun v2 h2 =>
 bnd (aA v2 h2) fun v3 h3 =>
 bnd (aD .neq v3 (aE 0) h3) fun v4 h4 =>
 aT v4 (
 some (.t [], h4)) (
 bnd (aQ (env 0) (resv 1 h4)) fun v5 h5 =>
 bnd (aB 6 v5 h5) fun v6 h6 =>
 bnd (aA v6 h6) fun v7 h7 =>
 bnd (aQ (env 0) h7) fun v8 h8 =>
 bnd (aB 0 v8 h8) fun v9 h9 =>
 bnd (aB 2 v9 h9) fun v10 h10 =>
 bnd (aA v10 h10) fun v11 h11 =>
 bnd (bB [(.s []), (.b false), (.b false), (aE 0)] [(0, 1, (env 7)), (1, 1, (.b false)), (2, 1, (env 2)), (3, 1, v11)] h11) fun v12 h12 =>
 bnd (bL (bZ 0 h4.next) [(.s []), (.b false), (.b false), (aE 0)] 1 [(0, 4, v12)] h12) fun v13 h13 =>
 bnd (aY 4 32 v7 v13 h13) fun v14 h14 =>
 bnd (aQ (env 0) h14) fun v15 h15 =>
 bnd (aB 6 v15 h15) fun v16 h16 =>
 bnd (aG 1 v16 v14 h16) fun v17 h17 =>
 bnd (aQ (env 0) h17) fun v18 h18 =>
 bnd (aB 0 v18 h18) fun v19 h19 =>
 bnd (aB 2 v19 h19) fun v20 h20 =>
 bnd (aA v20 h20) fun v21 h21 =>
 bnd (aD .add v21 (aE 1) h21) fun v22 h22 =>
 bnd (aQ (env 0) h22) fun v23 h23 =>
 bnd (aB 0 v23 h23) fun v24 h24 =>
 bnd (aB 2 v24 h24) fun v25 h25 =>
 bnd (aG 1 v25 v22 h25) fun _ h26 =>
      q0 (env 0) (env 2) (env 10) (env 11) (env 12) h26) := by kernel_rfl
theorem bFt (kk2 : cG) : (fun (env : aV) (h : Hp) =>
 bnd (aQ (env 0) h) fun v1 h1 =>
 bnd (aB 8 v1 h1) fun v2 h2 =>
 bnd (aA v2 h2) fun v3 h3 =>
 bnd (aD .neq v3 (aE 0) h3) fun v4 h4 =>
 aT v4 (
 some (.t [], h4)) (
 bnd (aQ (env 0) (resv 1 h4)) fun v5 h5 =>
 bnd (aB 6 v5 h5) fun v6 h6 =>
 bnd (aA v6 h6) fun v7 h7 =>
 bnd (aQ (env 0) h7) fun v8 h8 =>
 bnd (aB 0 v8 h8) fun v9 h9 =>
 bnd (aB 2 v9 h9) fun v10 h10 =>
 bnd (aA v10 h10) fun v11 h11 =>
 bnd (bB [(.s []), (.b false), (.b false), (aE 0)] [(0, 1, (env 7)), (1, 1, (.b false)), (2, 1, (env 2)), (3, 1, v11)] h11) fun v12 h12 =>
 bnd (bL (bZ 0 h4.next) [(.s []), (.b false), (.b false), (aE 0)] 1 [(0, 4, v12)] h12) fun v13 h13 =>
 bnd (aY 4 32 v7 v13 h13) fun v14 h14 =>
 bnd (aQ (env 0) h14) fun v15 h15 =>
 bnd (aB 6 v15 h15) fun v16 h16 =>
 bnd (aG 1 v16 v14 h16) fun v17 h17 =>
 bnd (aQ (env 0) h17) fun v18 h18 =>
 bnd (aB 0 v18 h18) fun v19 h19 =>
 bnd (aB 2 v19 h19) fun v20 h20 =>
 bnd (aA v20 h20) fun v21 h21 =>
 bnd (aD .add v21 (aE 1) h21) fun v22 h22 =>
 bnd (aQ (env 0) h22) fun v23 h23 =>
 bnd (aB 0 v23 h23) fun v24 h24 =>
 bnd (aB 2 v24 h24) fun v25 h25 =>
 bnd (aG 1 v25 v22 h25) fun _ h26 =>
      dE r n kk2 (env 0) (env 2) (env 10) (env 11) (env 12) h26)) = (K6 (yY r n kk2) 0 2 7 10 11 12) := by kernel_rfl
theorem cRt (kk2 : cG) : D139 r n bDg (xs (xs x0 0 r139) 1 (K5 (dE r n kk2) 0 2 10 11 12)) (K5 (dE r n kk2) 0 2 10 11 12) = (K6 (yY r n kk2) 0 2 7 10 11 12) :=
 (cBt r n kk2 (dE r n kk2)).trans (bFt r n kk2)
theorem bVo (kk2 : cG) : D139 r n tQ (xs (xs x0 0 r139) 1 (K5 (dE r n kk2) 0 2 10 11 12)) (K5 (dE r n kk2) 0 2 10 11 12) = D139 r n aYi (xs (xs x0 0 r139) 1 (K5 (dE r n kk2) 0 2 10 11 12)) (K6 (yY r n kk2) 0 2 7 10 11 12) :=
 congrArg (fun k => D139 r n aYi (xs (xs x0 0 r139) 1 (K5 (dE r n kk2) 0 2 10 11 12)) k) (cRt r n kk2)
theorem cKn (kk2 : cG) : D139 r n tQ (xs (xs x0 0 r139) 1 (K5 (dE r n kk2) 0 2 10 11 12)) (K5 (dE r n kk2) 0 2 10 11 12) = (K6 (oH r n kk2) 0 2 7 10 11 12) :=
 (bVo r n kk2).trans
 ((by kernel_rfl))
theorem bQc (kk2 : cG) : D139 r n aHn (xs (xs x0 0 r139) 1 (K5 (dE r n kk2) 0 2 10 11 12)) (K5 (dE r n kk2) 0 2 10 11 12) = D139 r n aIt (xs (xs x0 0 r139) 1 (K5 (dE r n kk2) 0 2 10 11 12)) (K6 (oH r n kk2) 0 2 7 10 11 12) :=
 congrArg (fun k => D139 r n aIt (xs (xs x0 0 r139) 1 (K5 (dE r n kk2) 0 2 10 11 12)) k) (cKn r n kk2)
theorem bZs (kk2 : cG) (q0 : fH) (q1 : cG) : D139 r n aIt (xs (xs x0 0 r139) 1 (K5 q1 0 2 10 11 12)) (K6 q0 0 2 7 10 11 12) = fun (env : aV) (h : Hp) =>
 bnd (r 156 [(env 0), (env 7)] h) fun v1 h1 =>
 bnd (aC 0 v1 h1) fun v2 h2 =>
 bnd (aC 1 v1 h2) fun v3 h3 =>
 bnd (bN [(.s []), (.b false), (.b false), (aE 0)] h3) fun v4 h4 =>
 bnd (aG 4 v4 v2 h4) fun _ h5 =>
 bnd (gD v3 false (some ((env 7), h5)) h5) fun v6 h6 =>
 bnd (gD v3 false (r 157 [v6] h6) h6) fun v7 h7 =>
 bnd (aR v3 (.b true) v7 h7) fun v8 h8 =>
 aT v8 (
 bnd (r 158 [(env 0), (env 7), (aE 16)] h8) fun v9 h9 =>
      q0 (env 0) (env 2) (env 7) (env 10) (env 11) (env 12) h9) (
      q0 (env 0) (env 2) (env 7) (env 10) (env 11) (env 12) h8) := by kernel_rfl
theorem bFv (kk2 : cG) : (fun (env : aV) (h : Hp) =>
 bnd (r 156 [(env 0), (env 7)] h) fun v1 h1 =>
 bnd (aC 0 v1 h1) fun v2 h2 =>
 bnd (aC 1 v1 h2) fun v3 h3 =>
 bnd (bN [(.s []), (.b false), (.b false), (aE 0)] h3) fun v4 h4 =>
 bnd (aG 4 v4 v2 h4) fun _ h5 =>
 bnd (gD v3 false (some ((env 7), h5)) h5) fun v6 h6 =>
 bnd (gD v3 false (r 157 [v6] h6) h6) fun v7 h7 =>
 bnd (aR v3 (.b true) v7 h7) fun v8 h8 =>
 aT v8 (
 bnd (r 158 [(env 0), (env 7), (aE 16)] h8) fun v9 h9 =>
      oH r n kk2 (env 0) (env 2) (env 7) (env 10) (env 11) (env 12) h9) (
      oH r n kk2 (env 0) (env 2) (env 7) (env 10) (env 11) (env 12) h8)) = (K6 (aJz r n kk2) 0 2 7 10 11 12) := by kernel_rfl
theorem cHl (kk2 : cG) : D139 r n aHn (xs (xs x0 0 r139) 1 (K5 (dE r n kk2) 0 2 10 11 12)) (K5 (dE r n kk2) 0 2 10 11 12) = (K6 (aJz r n kk2) 0 2 7 10 11 12) :=
 (bQc r n kk2).trans
 ((bZs r n kk2 (oH r n kk2) (dE r n kk2)).trans (bFv r n kk2))
theorem bNq (kk2 : cG) : D139 r n aDe (xs x0 0 r139) (K5 kk2 0 2 10 11 12) = D139 r n aFl (xs x0 0 r139) (K5 (dE r n kk2) 0 2 10 11 12) :=
 congrArg (fun k => D139 r n aFl (xs x0 0 r139) k) (cPz r n kk2)
theorem bJu (kk2 : cG) : D139 r n aJi (xs (xs x0 0 r139) 1 (K5 (dE r n kk2) 0 2 10 11 12)) (K5 (dE r n kk2) 0 2 10 11 12) = D139 r n bDf (xs (xs x0 0 r139) 1 (K5 (dE r n kk2) 0 2 10 11 12)) (K6 (aJz r n kk2) 0 2 7 10 11 12) :=
 congrArg (fun k => D139 r n bDf (xs (xs x0 0 r139) 1 (K5 (dE r n kk2) 0 2 10 11 12)) k) (cHl r n kk2)
theorem cHd (kk2 : cG) : D139 r n aDe (xs x0 0 r139) (K5 kk2 0 2 10 11 12) = (K5 (aUv r n kk2) 0 2 10 11 12) :=
 (bNq r n kk2).trans
 ((by kernel_rfl : D139 r n aFl (xs x0 0 r139) (K5 (dE r n kk2) 0 2 10 11 12) = D139 r n aJi (xs (xs x0 0 r139) 1 (K5 (dE r n kk2) 0 2 10 11 12)) (K5 (dE r n kk2) 0 2 10 11 12)).trans
 ((bJu r n kk2).trans
 ((by kernel_rfl))))
theorem bVr (kk2 : cG) : D139 r n aFa (xs x0 0 r139) (K5 kk2 0 2 10 11 12) = D139 r n bDh (xs x0 0 r139) (K5 (aUv r n kk2) 0 2 10 11 12) :=
 congrArg (fun k => D139 r n bDh (xs x0 0 r139) k) (cHd r n kk2)
theorem cSh (kk2 : cG) : D139 r n aFa (xs x0 0 r139) (K5 kk2 0 2 10 11 12) = (K6 (aTd r n kk2) 0 2 10 11 12 13) :=
 (bVr r n kk2).trans
 ((by kernel_rfl))
theorem cAk (kk2 : cG) : D139 r n kH (xs x0 0 r139) (K5 kk2 0 2 10 11 12) = D139 r n bAu (xs x0 0 r139) (K6 (aTd r n kk2) 0 2 10 11 12 13) :=
 congrArg (fun k => D139 r n bAu (xs x0 0 r139) k) (cSh r n kk2)
theorem bNb (kk2 : cG) : D139 r n kH (xs x0 0 r139) (K5 kk2 0 2 10 11 12) = (K5 (bAy r n kk2) 0 2 10 11 12) :=
 (cAk r n kk2).trans
 ((by kernel_rfl))
theorem cEg (m : Nat) : aM (fun kk => D139 r n kH (xs x0 0 r139) kk) m = (K5 (tL r n m) 0 2 10 11 12) := by
 induction m with
 | zero => exact (by kernel_rfl : aM (fun kk => D139 r n kH (xs x0 0 r139) kk) 0 = (K5 (tL r n 0) 0 2 10 11 12))
 | succ m ih =>
  refine (by kernel_rfl : aM (fun kk => D139 r n kH (xs x0 0 r139) kk) (m + 1) = D139 r n kH (xs x0 0 r139) (aM (fun kk => D139 r n kH (xs x0 0 r139) kk) m)).trans ?_
  rw [ih]
  exact (bNb r n (tL r n m)).trans (by kernel_rfl)
theorem cNy : D139 r n aLa (xs x0 0 r139) r139 = (K5 (bUu r n) 0 2 10 11 12) :=
 (by kernel_rfl : D139 r n aLa (xs x0 0 r139) r139 = aM (fun kk => D139 r n kH (xs x0 0 r139) kk) n).trans ((cEg r n n).trans (by kernel_rfl))
theorem cHg : D139 r n aSg x0 r139 = (K5 (aRf r n) 0 2 10 11 12) :=
 (by kernel_rfl : D139 r n aSg x0 r139 = D139 r n aLa (xs x0 0 r139) r139).trans
 ((cNy r n).trans (by kernel_rfl))
theorem dEp : D139 r n c139 x0 r139 = D139 r n aZq x0 (K5 (aRf r n) 0 2 10 11 12) :=
 congrArg (fun k => D139 r n aZq x0 k) (cHg r n)
theorem dOi : D139 r n c139 x0 r139 = (K3 (s139 r n) 0 1 2) :=
 (dEp r n).trans
 ((by kernel_rfl))
theorem cYd : aF CF r n 139 args h = s139 r n (aU args 0) (aU args 1) (aU args 2) h :=
 (by kernel_rfl : aF CF r n 139 args h = D139 r n c139 x0 r139 (aI args) h).trans ((congrFun (congrFun (dOi r n) (aI args)) h).trans (by kernel_rfl))
noncomputable def rV (r : RT) (n : Nat) (x0 x3 x11 x14 : DV) (h0 : Hp) : aH :=
 aT x14 (
 bnd (aK 6 x3 h0) fun v1 h1 =>
 bnd (r 160 [x0, v1] h1) fun v2 h2 =>
 bnd (lB [x0, v2] h2) fun v3 h3 =>
 bnd (r 141 [x0, (aE 6), v3, (aE 0)] h3) fun v4 h4 =>
 some (.t [], h4)) (
 bnd (aD .eql x11 (aE 5) h0) fun v5 h5 =>
 aT v5 (
 bnd (aB 1 x3 h5) fun v6 h6 =>
 bnd (aA v6 h6) fun v7 h7 =>
 bnd (r 161 [x0, v7] h7) fun v8 h8 =>
 some (.t [], h8)) (
 bnd (aD .eql x11 (aE 6) h5) fun v9 h9 =>
 aT v9 (
 bnd (aK 6 x3 h9) fun v10 h10 =>
 bnd (r 162 [x0, v10] h10) fun v11 h11 =>
 some (.t [], h11)) (
 bnd (aD .eql x11 (aE 7) h9) fun v12 h12 =>
 aT v12 (
 bnd (aK 6 x3 h12) fun v13 h13 =>
 bnd (r 163 [x0, v13] h13) fun v14 h14 =>
 some (.t [], h14)) (
 bnd (aD .eql x11 (aE 8) h12) fun v15 h15 =>
 aT v15 (
 bnd (aK 6 x3 h15) fun v16 h16 =>
 bnd (r 164 [x0, v16] h16) fun v17 h17 =>
 some (.t [], h17)) (
 bnd (aD .eql x11 (aE 9) h15) fun v18 h18 =>
 aT v18 (
 bnd (aQ x0 h18) fun v19 h19 =>
 bnd (aB 0 v19 h19) fun v20 h20 =>
 bnd (aB 2 v20 h20) fun v21 h21 =>
 bnd (aA v21 h21) fun v22 h22 =>
 bnd (aB 3 x3 h22) fun v23 h23 =>
 bnd (aA v23 h23) fun v24 h24 =>
 bnd (cA v24 h24) fun v25 h25 =>
 bnd (r 141 [x0, (aE 18), v22, v25] h25) fun v26 h26 =>
 bnd (r 165 [x0, (aE 16)] h26) fun v27 h27 =>
 bnd (aK 6 x3 h27) fun v28 h28 =>
 bnd (r 166 [x0, v28] h28) fun v29 h29 =>
 bnd (r 141 [x0, (aE 19), (aE 0), (aE 0)] h29) fun v30 h30 =>
 bnd (cZ CF r v27 [] h30) fun v31 h31 =>
 some (.t [], h31)) (
 bnd (aD .eql x11 (aE 10) h18) fun v32 h32 =>
 aT v32 (
 bnd (aK 6 x3 h32) fun v33 h33 =>
 bnd (r 167 [x0, v33] h33) fun v34 h34 =>
 aT v34 (
 bnd (aB 5 x3 h34) fun v35 h35 =>
 bnd (aA v35 h35) fun v36 h36 =>
 bnd (aJ 6 v36 (aE 0) h36) fun v37 h37 =>
 bnd (aK 6 v37 h37) fun v38 h38 =>
 bnd (r 140 [x0, v38] h38) fun v39 h39 =>
 bnd (r 141 [x0, (aE 20), (aE 0), (aE 0)] h39) fun v40 h40 =>
 some (.t [], h40)) (
 some (.t [], h34))) (
 bnd (r 158 [x0, (.s []), (aE 1)] h32) fun v41 h41 =>
 some (.t [], h41))))))))
noncomputable def aQy (r : RT) (n : Nat) (x0 x3 x11 : DV) (h0 : Hp) : aH :=
 bnd (aD .eql x11 (aE 1) h0) fun v1 h1 =>
 aT v1 (
  rV r n x0 x3 x11 v1 h1) (
 bnd (aD .eql x11 (aE 2) h1) fun v2 h2 =>
 aT v2 (
   rV r n x0 x3 x11 v2 h2) (
 bnd (aD .eql x11 (aE 3) h2) fun v3 h3 =>
 aT v3 (
    rV r n x0 x3 x11 v3 h3) (
 bnd (aD .eql x11 (aE 4) h3) fun v4 h4 =>
    rV r n x0 x3 x11 v4 h4)))
noncomputable def aUa (r : RT) (n : Nat) (x0 x3 : DV) (h0 : Hp) : aH :=
 bnd (aB 0 x3 h0) fun v1 h1 =>
 bnd (aA v1 h1) fun v2 h2 =>
  aQy r n x0 x3 v2 h2
noncomputable def zC (r : RT) (n : Nat) (x0 x3 : DV) (h0 : Hp) : aH :=
 bnd (aQ x0 h0) fun v1 h1 =>
 bnd (aB 8 v1 h1) fun v2 h2 =>
 bnd (aA v2 h2) fun v3 h3 =>
 bnd (aD .neq v3 (aE 0) h3) fun v4 h4 =>
 aT v4 (
 some (.t [], h4)) (
  aUa r n x0 x3 h4)
noncomputable def s140 (r : RT) (n : Nat) (x0 x1 : DV) (h0 : Hp) : aH :=
 bnd (bR x1 h0) fun v1 h1 =>
  zC r n x0 v1 h1
noncomputable abbrev c140 : Code := cf Tryz.f140
noncomputable abbrev aCz : Code := cR c140
noncomputable abbrev aFj : Code := cR aCz
noncomputable abbrev aQj : Code := cR aFj
noncomputable abbrev aLi : Code := cL aQj
noncomputable abbrev dHn : Code := cR aLi
noncomputable abbrev bTw : Code := cL aLi
noncomputable abbrev bRi : Code := cL aFj
noncomputable abbrev bOq : Code := cL aCz
noncomputable abbrev aQb : Code := cL c140
noncomputable abbrev r140 : K := aP CF Tryz.f140
noncomputable def D140 (r : RT) (n : Nat) (c : Code) (X : Nat → K) (k : K) : K := aN CF r 81 n c X r140 k
theorem cFj : D140 r n dHn (xs x0 0 r140) r140 = (K4 (rV r n) 0 3 11 14) :=
 (by kernel_rfl)
theorem bWl : D140 r n aLi (xs x0 0 r140) r140 = D140 r n bTw (xs x0 0 r140) (K4 (rV r n) 0 3 11 14) :=
 congrArg (fun k => D140 r n bTw (xs x0 0 r140) k) (cFj r n)
theorem cOt : D140 r n aQj x0 r140 = (K3 (aQy r n) 0 3 11) :=
 (by kernel_rfl : D140 r n aQj x0 r140 = D140 r n aLi (xs x0 0 r140) r140).trans
 ((bWl r n).trans
 ((by kernel_rfl)))
theorem bUv : D140 r n aFj x0 r140 = D140 r n bRi x0 (K3 (aQy r n) 0 3 11) :=
 congrArg (fun k => D140 r n bRi x0 k) (cOt r n)
theorem cLe : D140 r n aFj x0 r140 = (K2 (aUa r n) 0 3) :=
 (bUv r n).trans
 ((by kernel_rfl))
theorem bWn : D140 r n aCz x0 r140 = D140 r n bOq x0 (K2 (aUa r n) 0 3) :=
 congrArg (fun k => D140 r n bOq x0 k) (cLe r n)
theorem cIy : D140 r n aCz x0 r140 = (K2 (zC r n) 0 3) :=
 (bWn r n).trans
 ((by kernel_rfl))
theorem dIc : D140 r n c140 x0 r140 = D140 r n aQb x0 (K2 (zC r n) 0 3) :=
 congrArg (fun k => D140 r n aQb x0 k) (cIy r n)
theorem dDy (q0 : gO) : D140 r n aQb x0 (K2 q0 0 3) = fun (env : aV) (h : Hp) =>
 bnd (bR (env 1) h) fun v1 h1 =>
  q0 (env 0) v1 h1 := by kernel_rfl
theorem cTt : (fun (env : aV) (h : Hp) =>
 bnd (bR (env 1) h) fun v1 h1 =>
  zC r n (env 0) v1 h1) = (K2 (s140 r n) 0 1) := by kernel_rfl
theorem dNs : D140 r n c140 x0 r140 = (K2 (s140 r n) 0 1) :=
 (dIc r n).trans
 ((dDy r n (zC r n)).trans (cTt r n))
theorem dBo : aF CF r n 140 args h = s140 r n (aU args 0) (aU args 1) h :=
 (by kernel_rfl : aF CF r n 140 args h = D140 r n c140 x0 r140 (aI args) h).trans ((congrFun (congrFun (dNs r n) (aI args)) h).trans (by kernel_rfl))
noncomputable def s141 (r : RT) (n : Nat) (x0 x1 x2 x3 : DV) (h0 : Hp) : aH :=
 bnd (aQ x0 h0) fun v1 h1 =>
 bnd (aB 0 v1 h1) fun v2 h2 =>
 bnd (aB 5 v2 h2) fun v3 h3 =>
 bnd (aA v3 h3) fun v4 h4 =>
 bnd (bB [(aE 0), (aE 0), (aE 0)] [(0, 1, x1), (1, 1, x2), (2, 1, x3)] h4) fun v5 h5 =>
 bnd (aL [(aE 0), (aE 0), (aE 0)] 1 [(0, 3, v5)] h5) fun v6 h6 =>
 bnd (aY 3 24 v4 v6 h6) fun v7 h7 =>
 bnd (aQ x0 h7) fun v8 h8 =>
 bnd (aB 0 v8 h8) fun v9 h9 =>
 bnd (aB 5 v9 h9) fun v10 h10 =>
 bnd (aG 1 v10 v7 h10) fun _ h11 =>
 some (.t [], h11)
noncomputable abbrev c141 : Code := cf Tryz.f141
noncomputable abbrev r141 : K := aP CF Tryz.f141
noncomputable def D141 (r : RT) (n : Nat) (c : Code) (X : Nat → K) (k : K) : K := aN CF r 23 n c X r141 k
theorem dNe : D141 r n c141 x0 r141 = (K4 (s141 r n) 0 1 2 3) :=
 (by kernel_rfl)
theorem dGn : aF CF r n 141 args h = s141 r n (aU args 0) (aU args 1) (aU args 2) (aU args 3) h :=
 (by kernel_rfl : aF CF r n 141 args h = D141 r n c141 x0 r141 (aI args) h).trans ((congrFun (congrFun (dNe r n) (aI args)) h).trans (by kernel_rfl))
noncomputable def cJ (r : RT) (n : Nat) (x2 x3 : DV) (h0 : Hp) : aH :=
 some (.t [x2, x3], h0)
noncomputable def cU (r : RT) (n : Nat) (x3 : DV) (h0 : Hp) : aH :=
 cJ r n (.b true) x3 h0
noncomputable def dO (r : RT) (n : Nat) (h0 : Hp) : aH :=
 cU r n (.b true) h0
noncomputable def oP (r : RT) (n : Nat) (x2 x3 : DV) (h0 : Hp) : aH :=
 cJ r n x2 x3 h0
noncomputable def mM (r : RT) (n : Nat) (x2 x3 x11 : DV) (h0 : Hp) : aH :=
 aT x11 (
  cU r n x3 h0) (
  oP r n x2 x3 h0)
noncomputable def zP (r : RT) (n : Nat) (x2 x3 x4 : DV) (h0 : Hp) : aH :=
 bnd (aD .eql x4 (aE 6) h0) fun v1 h1 =>
 aT v1 (
  mM r n x2 x3 v1 h1) (
 bnd (aD .eql x4 (aE 7) h1) fun v2 h2 =>
 aT v2 (
   mM r n x2 x3 v2 h2) (
 bnd (aD .eql x4 (aE 8) h2) fun v3 h3 =>
 aT v3 (
    mM r n x2 x3 v3 h3) (
 bnd (aD .eql x4 (aE 9) h3) fun v4 h4 =>
 aT v4 (
     mM r n x2 x3 v4 h4) (
 bnd (aD .eql x4 (aE 10) h4) fun v5 h5 =>
 aT v5 (
      mM r n x2 x3 v5 h5) (
 bnd (aD .eql x4 (aE 11) h5) fun v6 h6 =>
      mM r n x2 x3 v6 h6)))))
noncomputable def oT (r : RT) (n : Nat) (x2 x3 x4 x5 : DV) (h0 : Hp) : aH :=
 aT x5 (
  dO r n h0) (
  zP r n x2 x3 x4 h0)
noncomputable def aOn (r : RT) (n : Nat) (x2 x3 x4 : DV) (h0 : Hp) : aH :=
 bnd (aD .eql x4 (aE 14) h0) fun v1 h1 =>
 aT v1 (
  oT r n x2 x3 x4 v1 h1) (
 bnd (aD .eql x4 (aE 15) h1) fun v2 h2 =>
 aT v2 (
   oT r n x2 x3 x4 v2 h2) (
 bnd (aD .eql x4 (aE 16) h2) fun v3 h3 =>
 aT v3 (
    oT r n x2 x3 x4 v3 h3) (
 bnd (aD .eql x4 (aE 17) h3) fun v4 h4 =>
 aT v4 (
     oT r n x2 x3 x4 v4 h4) (
 bnd (aD .eql x4 (aE 18) h4) fun v5 h5 =>
     oT r n x2 x3 x4 v5 h5))))
noncomputable def aOs (r : RT) (n : Nat) (x0 x2 x3 : DV) (h0 : Hp) : aH :=
 aOn r n x2 x3 x0 h0
noncomputable def s142 (r : RT) (n : Nat) (x0 : DV) (h0 : Hp) : aH :=
 aOs r n x0 (.b false) (.b false) h0
noncomputable abbrev c142 : Code := cf Tryz.f142
noncomputable abbrev aHc : Code := cR c142
noncomputable abbrev cXt : Code := cR aHc
noncomputable abbrev aAf : Code := cL aHc
noncomputable abbrev aTe : Code := cR aAf
noncomputable abbrev aBm : Code := cL aTe
noncomputable abbrev dCy : Code := cR aBm
noncomputable abbrev aEq : Code := cL aBm
noncomputable abbrev aJr : Code := cL aEq
noncomputable abbrev dHf : Code := cR aJr
noncomputable abbrev vK : Code := cL aJr
noncomputable abbrev sV : Code := cL vK
noncomputable abbrev cPl : Code := cR sV
noncomputable abbrev qE : Code := cL sV
noncomputable abbrev uW : Code := cR qE
noncomputable abbrev cJx : Code := cR uW
noncomputable abbrev bCx : Code := cL uW
noncomputable abbrev oZ : Code := cL qE
noncomputable abbrev cHt : Code := cR oZ
noncomputable abbrev aYj : Code := cL oZ
noncomputable abbrev bBv : Code := cL aAf
noncomputable abbrev aWy : Code := cL c142
noncomputable abbrev r142 : K := aP CF Tryz.f142
noncomputable def D142 (r : RT) (n : Nat) (c : Code) (X : Nat → K) (k : K) : K := aN CF r 20 n c X r142 k
theorem cKf : D142 r n cXt x0 r142 = (K2 (cJ r n) 2 3) :=
 (by kernel_rfl)
theorem cMz : D142 r n dCy (xs x0 0 (K2 (cJ r n) 2 3)) (K2 (cJ r n) 2 3) = (K1 (cU r n) 3) :=
 (by kernel_rfl)
theorem cJw : D142 r n dHf (xs (xs x0 0 (K2 (cJ r n) 2 3)) 2 (K1 (cU r n) 3)) (K1 (cU r n) 3) = (K0 (dO r n)) :=
 (by kernel_rfl)
theorem cPt : D142 r n cPl (xs (xs (xs x0 0 (K2 (cJ r n) 2 3)) 2 (K1 (cU r n) 3)) 1 (K0 (dO r n))) (K0 (dO r n)) = (K2 (oP r n) 2 3) :=
 (by kernel_rfl)
theorem cQy : D142 r n cJx (xs (xs (xs x0 0 (K2 (cJ r n) 2 3)) 2 (K1 (cU r n) 3)) 1 (K0 (dO r n))) (K2 (oP r n) 2 3) = (K3 (mM r n) 2 3 11) :=
 (by kernel_rfl)
theorem bWu : D142 r n uW (xs (xs (xs x0 0 (K2 (cJ r n) 2 3)) 2 (K1 (cU r n) 3)) 1 (K0 (dO r n))) (K2 (oP r n) 2 3) = D142 r n bCx (xs (xs (xs x0 0 (K2 (cJ r n) 2 3)) 2 (K1 (cU r n) 3)) 1 (K0 (dO r n))) (K3 (mM r n) 2 3 11) :=
 congrArg (fun k => D142 r n bCx (xs (xs (xs x0 0 (K2 (cJ r n) 2 3)) 2 (K1 (cU r n) 3)) 1 (K0 (dO r n))) k) (cQy r n)
theorem cJn : D142 r n uW (xs (xs (xs x0 0 (K2 (cJ r n) 2 3)) 2 (K1 (cU r n) 3)) 1 (K0 (dO r n))) (K2 (oP r n) 2 3) = (K3 (zP r n) 2 3 4) :=
 (bWu r n).trans
 ((by kernel_rfl))
theorem cTz : D142 r n cHt (xs (xs (xs x0 0 (K2 (cJ r n) 2 3)) 2 (K1 (cU r n) 3)) 1 (K0 (dO r n))) (K3 (zP r n) 2 3 4) = (K4 (oT r n) 2 3 4 5) :=
 (by kernel_rfl)
theorem bKc : D142 r n aBm (xs x0 0 (K2 (cJ r n) 2 3)) (K2 (cJ r n) 2 3) = D142 r n aEq (xs x0 0 (K2 (cJ r n) 2 3)) (K1 (cU r n) 3) :=
 congrArg (fun k => D142 r n aEq (xs x0 0 (K2 (cJ r n) 2 3)) k) (cMz r n)
theorem bJf : D142 r n aJr (xs (xs x0 0 (K2 (cJ r n) 2 3)) 2 (K1 (cU r n) 3)) (K1 (cU r n) 3) = D142 r n vK (xs (xs x0 0 (K2 (cJ r n) 2 3)) 2 (K1 (cU r n) 3)) (K0 (dO r n)) :=
 congrArg (fun k => D142 r n vK (xs (xs x0 0 (K2 (cJ r n) 2 3)) 2 (K1 (cU r n) 3)) k) (cJw r n)
theorem bKo : D142 r n sV (xs (xs (xs x0 0 (K2 (cJ r n) 2 3)) 2 (K1 (cU r n) 3)) 1 (K0 (dO r n))) (K0 (dO r n)) = D142 r n qE (xs (xs (xs x0 0 (K2 (cJ r n) 2 3)) 2 (K1 (cU r n) 3)) 1 (K0 (dO r n))) (K2 (oP r n) 2 3) :=
 congrArg (fun k => D142 r n qE (xs (xs (xs x0 0 (K2 (cJ r n) 2 3)) 2 (K1 (cU r n) 3)) 1 (K0 (dO r n))) k) (cPt r n)
theorem bYa : D142 r n qE (xs (xs (xs x0 0 (K2 (cJ r n) 2 3)) 2 (K1 (cU r n) 3)) 1 (K0 (dO r n))) (K2 (oP r n) 2 3) = D142 r n oZ (xs (xs (xs x0 0 (K2 (cJ r n) 2 3)) 2 (K1 (cU r n) 3)) 1 (K0 (dO r n))) (K3 (zP r n) 2 3 4) :=
 congrArg (fun k => D142 r n oZ (xs (xs (xs x0 0 (K2 (cJ r n) 2 3)) 2 (K1 (cU r n) 3)) 1 (K0 (dO r n))) k) (cJn r n)
theorem cDk : D142 r n oZ (xs (xs (xs x0 0 (K2 (cJ r n) 2 3)) 2 (K1 (cU r n) 3)) 1 (K0 (dO r n))) (K3 (zP r n) 2 3 4) = D142 r n aYj (xs (xs (xs x0 0 (K2 (cJ r n) 2 3)) 2 (K1 (cU r n) 3)) 1 (K0 (dO r n))) (K4 (oT r n) 2 3 4 5) :=
 congrArg (fun k => D142 r n aYj (xs (xs (xs x0 0 (K2 (cJ r n) 2 3)) 2 (K1 (cU r n) 3)) 1 (K0 (dO r n))) k) (cTz r n)
theorem cSb : D142 r n aTe x0 (K2 (cJ r n) 2 3) = (K3 (aOn r n) 2 3 4) :=
 (by kernel_rfl : D142 r n aTe x0 (K2 (cJ r n) 2 3) = D142 r n aBm (xs x0 0 (K2 (cJ r n) 2 3)) (K2 (cJ r n) 2 3)).trans
 ((bKc r n).trans
 ((by kernel_rfl : D142 r n aEq (xs x0 0 (K2 (cJ r n) 2 3)) (K1 (cU r n) 3) = D142 r n aJr (xs (xs x0 0 (K2 (cJ r n) 2 3)) 2 (K1 (cU r n) 3)) (K1 (cU r n) 3)).trans
 ((bJf r n).trans
 ((by kernel_rfl : D142 r n vK (xs (xs x0 0 (K2 (cJ r n) 2 3)) 2 (K1 (cU r n) 3)) (K0 (dO r n)) = D142 r n sV (xs (xs (xs x0 0 (K2 (cJ r n) 2 3)) 2 (K1 (cU r n) 3)) 1 (K0 (dO r n))) (K0 (dO r n))).trans
 ((bKo r n).trans
 ((bYa r n).trans
 ((cDk r n).trans
 ((by kernel_rfl)))))))))
theorem cAr : D142 r n aHc x0 r142 = D142 r n aAf x0 (K2 (cJ r n) 2 3) :=
 congrArg (fun k => D142 r n aAf x0 k) (cKf r n)
theorem bQy : D142 r n aAf x0 (K2 (cJ r n) 2 3) = D142 r n bBv x0 (K3 (aOn r n) 2 3 4) :=
 congrArg (fun k => D142 r n bBv x0 k) (cSb r n)
theorem cGj : D142 r n aHc x0 r142 = (K3 (aOs r n) 0 2 3) :=
 (cAr r n).trans
 ((bQy r n).trans
 ((by kernel_rfl)))
theorem cXm : D142 r n c142 x0 r142 = D142 r n aWy x0 (K3 (aOs r n) 0 2 3) :=
 congrArg (fun k => D142 r n aWy x0 k) (cGj r n)
theorem dJz : D142 r n c142 x0 r142 = (K1 (s142 r n) 0) :=
 (cXm r n).trans
 ((by kernel_rfl))
theorem dGp : aF CF r n 142 args h = s142 r n (aU args 0) h :=
 (by kernel_rfl : aF CF r n 142 args h = D142 r n c142 x0 r142 (aI args) h).trans ((congrFun (congrFun (dJz r n) (aI args)) h).trans (by kernel_rfl))
noncomputable def s143 (r : RT) (n : Nat) (x0 x1 : DV) (h0 : Hp) : aH :=
 bnd (aD .eql x0 (aE 0) h0) fun v1 h1 =>
 bnd (gD v1 false (some (x1, h1)) h1) fun v2 h2 =>
 bnd (gD v1 false (some (v2, h2)) h2) fun v3 h3 =>
 bnd (gD v3 true (some (x0, h3)) h3) fun v4 h4 =>
 bnd (gD v3 true (aD .gtr v4 (aE 0) h4) h4) fun v5 h5 =>
 bnd (gD v1 false (aR v3 v5 (.b false) h5) h5) fun v6 h6 =>
 bnd (gD v1 false (some (v6, h6)) h6) fun v7 h7 =>
 bnd (gD v7 true (some (x0, h7)) h7) fun v8 h8 =>
 bnd (gD v7 true (aD .leq v8 (aE 255) h8) h8) fun v9 h9 =>
 bnd (gD v1 false (aR v7 v9 (.b false) h9) h9) fun v10 h10 =>
 bnd (aR v1 (.b true) v10 h10) fun v11 h11 =>
 some (v11, h11)
noncomputable abbrev c143 : Code := cf Tryz.f143
noncomputable abbrev r143 : K := aP CF Tryz.f143
noncomputable def D143 (r : RT) (n : Nat) (c : Code) (X : Nat → K) (k : K) : K := aN CF r 18 n c X r143 k
theorem dJg : D143 r n c143 x0 r143 = (K2 (s143 r n) 0 1) :=
 (by kernel_rfl)
theorem dDm : aF CF r n 143 args h = s143 r n (aU args 0) (aU args 1) h :=
 (by kernel_rfl : aF CF r n 143 args h = D143 r n c143 x0 r143 (aI args) h).trans ((congrFun (congrFun (dJg r n) (aI args)) h).trans (by kernel_rfl))
noncomputable def eG (r : RT) (n : Nat) (x2 : DV) (h0 : Hp) : aH :=
 bnd (aB 5 x2 h0) fun v1 h1 =>
 bnd (aA v1 h1) fun v2 h2 =>
 bnd (r 173 [v2] h2) fun v3 h3 =>
 bnd (aB 5 x2 h3) fun v4 h4 =>
 bnd (aA v4 h4) fun v5 h5 =>
 bnd (r 174 [v5, v3] h5) fun v6 h6 =>
 bnd (hY .not v6 h6) fun v7 h7 =>
 aT v7 (
 some (.t [.l0, (aE 19)], h7)) (
 bnd (aB 5 x2 h7) fun v8 h8 =>
 bnd (aA v8 h8) fun v9 h9 =>
 bnd (r 175 [v9, v3] h9) fun v10 h10 =>
 bnd (aC 0 v10 h10) fun v11 h11 =>
 bnd (aC 1 v10 h11) fun v12 h12 =>
 bnd (hY .not v12 h12) fun v13 h13 =>
 aT v13 (
 some (.t [.l0, (aE 19)], h13)) (
 some (.t [v11, (aE 0)], h13)))
noncomputable def aEd (r : RT) (n : Nat) (kk7 : cG) (x1 x2 x60 x61 x62 : DV) (h0 : Hp) : aH :=
 bnd (aD .lss x62 x61 h0) fun v1 h1 =>
 aT v1 (
 bnd (aJ 3 x60 x62 h1) fun v2 h2 =>
 bnd (aK 3 v2 h2) fun v3 h3 =>
 bnd (bN [(aE 0), (aE 0), (aE 0)] h3) fun v4 h4 =>
 bnd (aG 3 v4 v3 h4) fun _ h5 =>
 bnd (aK 3 v4 h5) fun v6 h6 =>
 bnd (r 124 [v6] h6) fun v7 h7 =>
 bnd (hY .not v7 h7) fun v8 h8 =>
 bnd (gD v8 false (aK 6 x2 h8) h8) fun v9 h9 =>
 bnd (gD v8 false (aK 3 v4 h9) h9) fun v10 h10 =>
 bnd (gD v8 false (some (x1, h10)) h10) fun v11 h11 =>
 bnd (gD v8 false (r 172 [v9, v10, v11] h11) h11) fun v12 h12 =>
 bnd (gD v8 false (hY .not v12 h12) h12) fun v13 h13 =>
 bnd (aR v8 (.b true) v13 h13) fun v14 h14 =>
 aT v14 (
 some (.t [.l0, (aE 19)], h14)) (
 bnd (aD .add x62 (aE 1) h14) fun v15 h15 =>
    kk7 x1 x2 x60 x61 v15 h15)) (
      eG r n x2 h1)
noncomputable def tC (r : RT) (n : Nat) (m : Nat) : cG :=
 Nat.rec (motive := fun _ => cG) (fun _ _ _ _ _ _ => none) (fun _ ih => aEd r n ih) m
noncomputable def bVx (r : RT) (n : Nat) : cG := tC r n n
noncomputable def aRz (r : RT) (n : Nat) (x1 x2 x60 x61 x62 : DV) (h0 : Hp) : aH :=
 bVx r n x1 x2 x60 x61 x62 h0
noncomputable def aSu (r : RT) (n : Nat) (x1 x2 : DV) (h0 : Hp) : aH :=
 bnd (aB 5 x2 h0) fun v1 h1 =>
 bnd (aA v1 h1) fun v2 h2 =>
 bnd (cA v2 h2) fun v3 h3 =>
  aRz r n x1 x2 v2 v3 (aE 0) h3
noncomputable def aTz (r : RT) (n : Nat) (x1 x2 x6 x7 : DV) (h0 : Hp) : aH :=
 bnd (hY .not x6 h0) fun v1 h1 =>
 bnd (gD v1 false (some (x7, h1)) h1) fun v2 h2 =>
 bnd (aR v1 (.b true) v2 h2) fun v3 h3 =>
 bnd (gD v3 false (aB 4 x2 h3) h3) fun v4 h4 =>
 bnd (gD v3 false (aA v4 h4) h4) fun v5 h5 =>
 bnd (gD v3 false (cA v5 h5) h5) fun v6 h6 =>
 bnd (gD v3 false (aD .gtr v6 (aE 60) h6) h6) fun v7 h7 =>
 bnd (aR v3 (.b true) v7 h7) fun v8 h8 =>
 bnd (gD v8 false (aB 5 x2 h8) h8) fun v9 h9 =>
 bnd (gD v8 false (aA v9 h9) h9) fun v10 h10 =>
 bnd (gD v8 false (cA v10 h10) h10) fun v11 h11 =>
 bnd (gD v8 false (r 168 [v11, (aE 1), (aE 400)] h11) h11) fun v12 h12 =>
 bnd (gD v8 false (hY .not v12 h12) h12) fun v13 h13 =>
 bnd (aR v8 (.b true) v13 h13) fun v14 h14 =>
 aT v14 (
 some (.t [.l0, (aE 19)], h14)) (
  aSu r n x1 x2 h14)
noncomputable def aQe (r : RT) (n : Nat) (x1 x2 x6 : DV) (h0 : Hp) : aH :=
 bnd (aB 4 x2 h0) fun v1 h1 =>
 bnd (aA v1 h1) fun v2 h2 =>
 bnd (r 169 [v2, (.f 170 [] [])] h2) fun v3 h3 =>
  aTz r n x1 x2 x6 v3 h3
noncomputable def zM (r : RT) (n : Nat) (x1 x2 : DV) (h0 : Hp) : aH :=
 bnd (r 168 [x1, (aE 0), (aE 8)] h0) fun v1 h1 =>
 bnd (gD v1 true (aB 0 x2 h1) h1) fun v2 h2 =>
 bnd (gD v1 true (aA v2 h2) h2) fun v3 h3 =>
 bnd (gD v1 true (dV v3 h3) h3) fun v4 h4 =>
 bnd (gD v1 true (r 168 [v4, (aE 1), (aE 60)] h4) h4) fun v5 h5 =>
 bnd (aR v1 v5 (.b false) h5) fun v6 h6 =>
 bnd (gD v6 true (aB 1 x2 h6) h6) fun v7 h7 =>
 bnd (gD v6 true (aA v7 h7) h7) fun v8 h8 =>
 bnd (gD v6 true (r 168 [v8, (aE 0), (aE 4)] h8) h8) fun v9 h9 =>
 bnd (aR v6 v9 (.b false) h9) fun v10 h10 =>
 bnd (gD v10 true (aB 2 x2 h10) h10) fun v11 h11 =>
 bnd (gD v10 true (aA v11 h11) h11) fun v12 h12 =>
 bnd (gD v10 true (aB 1 x2 h12) h12) fun v13 h13 =>
 bnd (gD v10 true (aA v13 h13) h13) fun v14 h14 =>
 bnd (gD v10 true (r 168 [v12, v14, (aE 24)] h14) h14) fun v15 h15 =>
 bnd (aR v10 v15 (.b false) h15) fun v16 h16 =>
 bnd (gD v16 true (aB 3 x2 h16) h16) fun v17 h17 =>
 bnd (gD v16 true (aA v17 h17) h17) fun v18 h18 =>
 bnd (gD v16 true (r 168 [v18, (aE 0), (aE 255)] h18) h18) fun v19 h19 =>
 bnd (aR v16 v19 (.b false) h19) fun v20 h20 =>
  aQe r n x1 x2 v20 h20
noncomputable def s144 (r : RT) (n : Nat) (x0 x1 : DV) (h0 : Hp) : aH :=
 bnd (bR x0 h0) fun v1 h1 =>
  zM r n x1 v1 h1
noncomputable abbrev c144 : Code := cf Tryz.f144
noncomputable abbrev aJv : Code := cR c144
noncomputable abbrev aDf : Code := cR aJv
noncomputable abbrev aDb : Code := cR aDf
noncomputable abbrev aCr : Code := cR aDb
noncomputable abbrev cZp : Code := cR aCr
noncomputable abbrev yZ : Code := cL aCr
noncomputable abbrev aVk : Code := cR yZ
noncomputable abbrev aHu : Code := cL aVk
noncomputable abbrev mU : Code := cL aHu
noncomputable abbrev bBy : Code := cL yZ
noncomputable abbrev aXw : Code := cL aDb
noncomputable abbrev aWd : Code := cL aDf
noncomputable abbrev bCk : Code := cL aJv
noncomputable abbrev aCk : Code := cL c144
noncomputable abbrev r144 : K := aP CF Tryz.f144
noncomputable def D144 (r : RT) (n : Nat) (c : Code) (X : Nat → K) (k : K) : K := aN CF r 95 n c X r144 k
theorem cPg : D144 r n cZp x0 r144 = (K1 (eG r n) 2) :=
 (by kernel_rfl)
theorem bXx (kk7 : cG) (q0 : TT1) : D144 r n mU (xs x0 0 (K1 q0 2)) (K5 kk7 1 2 60 61 62) = fun (env : aV) (h : Hp) =>
 bnd (aD .lss (env 62) (env 61) h) fun v1 h1 =>
 aT v1 (
 bnd (aJ 3 (env 60) (env 62) h1) fun v2 h2 =>
 bnd (aK 3 v2 h2) fun v3 h3 =>
 bnd (bN [(aE 0), (aE 0), (aE 0)] h3) fun v4 h4 =>
 bnd (aG 3 v4 v3 h4) fun _ h5 =>
 bnd (aK 3 v4 h5) fun v6 h6 =>
 bnd (r 124 [v6] h6) fun v7 h7 =>
 bnd (hY .not v7 h7) fun v8 h8 =>
 bnd (gD v8 false (aK 6 (env 2) h8) h8) fun v9 h9 =>
 bnd (gD v8 false (aK 3 v4 h9) h9) fun v10 h10 =>
 bnd (gD v8 false (some ((env 1), h10)) h10) fun v11 h11 =>
 bnd (gD v8 false (r 172 [v9, v10, v11] h11) h11) fun v12 h12 =>
 bnd (gD v8 false (hY .not v12 h12) h12) fun v13 h13 =>
 bnd (aR v8 (.b true) v13 h13) fun v14 h14 =>
 aT v14 (
 some (.t [.l0, (aE 19)], h14)) (
 bnd (aD .add (env 62) (aE 1) h14) fun v15 h15 =>
    kk7 (env 1) (env 2) (env 60) (env 61) v15 h15)) (
      q0 (env 2) h1) := by kernel_rfl
theorem bEh (kk7 : cG) : (fun (env : aV) (h : Hp) =>
 bnd (aD .lss (env 62) (env 61) h) fun v1 h1 =>
 aT v1 (
 bnd (aJ 3 (env 60) (env 62) h1) fun v2 h2 =>
 bnd (aK 3 v2 h2) fun v3 h3 =>
 bnd (bN [(aE 0), (aE 0), (aE 0)] h3) fun v4 h4 =>
 bnd (aG 3 v4 v3 h4) fun _ h5 =>
 bnd (aK 3 v4 h5) fun v6 h6 =>
 bnd (r 124 [v6] h6) fun v7 h7 =>
 bnd (hY .not v7 h7) fun v8 h8 =>
 bnd (gD v8 false (aK 6 (env 2) h8) h8) fun v9 h9 =>
 bnd (gD v8 false (aK 3 v4 h9) h9) fun v10 h10 =>
 bnd (gD v8 false (some ((env 1), h10)) h10) fun v11 h11 =>
 bnd (gD v8 false (r 172 [v9, v10, v11] h11) h11) fun v12 h12 =>
 bnd (gD v8 false (hY .not v12 h12) h12) fun v13 h13 =>
 bnd (aR v8 (.b true) v13 h13) fun v14 h14 =>
 aT v14 (
 some (.t [.l0, (aE 19)], h14)) (
 bnd (aD .add (env 62) (aE 1) h14) fun v15 h15 =>
    kk7 (env 1) (env 2) (env 60) (env 61) v15 h15)) (
      eG r n (env 2) h1)) = (K5 (aEd r n kk7) 1 2 60 61 62) := by kernel_rfl
theorem bLu (kk7 : cG) : D144 r n mU (xs x0 0 (K1 (eG r n) 2)) (K5 kk7 1 2 60 61 62) = (K5 (aEd r n kk7) 1 2 60 61 62) :=
 (bXx r n kk7 (eG r n)).trans (bEh r n kk7)
theorem bSa (m : Nat) : aM (fun kk => D144 r n mU (xs x0 0 (K1 (eG r n) 2)) kk) m = (K5 (tC r n m) 1 2 60 61 62) := by
 induction m with
 | zero => exact (by kernel_rfl : aM (fun kk => D144 r n mU (xs x0 0 (K1 (eG r n) 2)) kk) 0 = (K5 (tC r n 0) 1 2 60 61 62))
 | succ m ih =>
  refine (by kernel_rfl : aM (fun kk => D144 r n mU (xs x0 0 (K1 (eG r n) 2)) kk) (m + 1) = D144 r n mU (xs x0 0 (K1 (eG r n) 2)) (aM (fun kk => D144 r n mU (xs x0 0 (K1 (eG r n) 2)) kk) m)).trans ?_
  rw [ih]
  exact (bLu r n (tC r n m)).trans (by kernel_rfl)
theorem cRz : D144 r n aHu (xs x0 0 (K1 (eG r n) 2)) (K1 (eG r n) 2) = (K5 (bVx r n) 1 2 60 61 62) :=
 (by kernel_rfl : D144 r n aHu (xs x0 0 (K1 (eG r n) 2)) (K1 (eG r n) 2) = aM (fun kk => D144 r n mU (xs x0 0 (K1 (eG r n) 2)) kk) n).trans ((bSa r n n).trans (by kernel_rfl))
theorem cKr : D144 r n aVk x0 (K1 (eG r n) 2) = (K5 (aRz r n) 1 2 60 61 62) :=
 (by kernel_rfl : D144 r n aVk x0 (K1 (eG r n) 2) = D144 r n aHu (xs x0 0 (K1 (eG r n) 2)) (K1 (eG r n) 2)).trans
 ((cRz r n).trans (by kernel_rfl))
theorem cBz : D144 r n aCr x0 r144 = D144 r n yZ x0 (K1 (eG r n) 2) :=
 congrArg (fun k => D144 r n yZ x0 k) (cPg r n)
theorem bOn : D144 r n yZ x0 (K1 (eG r n) 2) = D144 r n bBy x0 (K5 (aRz r n) 1 2 60 61 62) :=
 congrArg (fun k => D144 r n bBy x0 k) (cKr r n)
theorem cHj : D144 r n aCr x0 r144 = (K2 (aSu r n) 1 2) :=
 (cBz r n).trans
 ((bOn r n).trans
 ((by kernel_rfl)))
theorem cAh : D144 r n aDb x0 r144 = D144 r n aXw x0 (K2 (aSu r n) 1 2) :=
 congrArg (fun k => D144 r n aXw x0 k) (cHj r n)
theorem cGw : D144 r n aDb x0 r144 = (K4 (aTz r n) 1 2 6 7) :=
 (cAh r n).trans
 ((by kernel_rfl))
theorem cDc : D144 r n aDf x0 r144 = D144 r n aWd x0 (K4 (aTz r n) 1 2 6 7) :=
 congrArg (fun k => D144 r n aWd x0 k) (cGw r n)
theorem cTq : D144 r n aDf x0 r144 = (K3 (aQe r n) 1 2 6) :=
 (cDc r n).trans
 ((by kernel_rfl))
theorem bTi : D144 r n aJv x0 r144 = D144 r n bCk x0 (K3 (aQe r n) 1 2 6) :=
 congrArg (fun k => D144 r n bCk x0 k) (cTq r n)
theorem cUe : D144 r n aJv x0 r144 = (K2 (zM r n) 1 2) :=
 (bTi r n).trans
 ((by kernel_rfl))
theorem dHg : D144 r n c144 x0 r144 = D144 r n aCk x0 (K2 (zM r n) 1 2) :=
 congrArg (fun k => D144 r n aCk x0 k) (cUe r n)
theorem dBr (q0 : gO) : D144 r n aCk x0 (K2 q0 1 2) = fun (env : aV) (h : Hp) =>
 bnd (bR (env 0) h) fun v1 h1 =>
  q0 (env 1) v1 h1 := by kernel_rfl
theorem cKc : (fun (env : aV) (h : Hp) =>
 bnd (bR (env 0) h) fun v1 h1 =>
  zM r n (env 1) v1 h1) = (K2 (s144 r n) 0 1) := by kernel_rfl
theorem dJc : D144 r n c144 x0 r144 = (K2 (s144 r n) 0 1) :=
 (dHg r n).trans
 ((dBr r n (zM r n)).trans (cKc r n))
theorem cZl : aF CF r n 144 args h = s144 r n (aU args 0) (aU args 1) h :=
 (by kernel_rfl : aF CF r n 144 args h = D144 r n c144 x0 r144 (aI args) h).trans ((congrFun (congrFun (dJc r n) (aI args)) h).trans (by kernel_rfl))
noncomputable def s145 (r : RT) (n : Nat) (x0 x1 : DV) (h0 : Hp) : aH :=
 bnd (aA x1 h0) fun v1 h1 =>
 bnd (r 131 [v1, x0] h1) fun v2 h2 =>
 bnd (aD .geq v2 (aE 0) h2) fun v3 h3 =>
 some (v3, h3)
noncomputable abbrev c145 : Code := cf Tryz.f145
noncomputable abbrev r145 : K := aP CF Tryz.f145
noncomputable def D145 (r : RT) (n : Nat) (c : Code) (X : Nat → K) (k : K) : K := aN CF r 8 n c X r145 k
theorem dIp : D145 r n c145 x0 r145 = (K2 (s145 r n) 0 1) :=
 (by kernel_rfl)
theorem dCo : aF CF r n 145 args h = s145 r n (aU args 0) (aU args 1) h :=
 (by kernel_rfl : aF CF r n 145 args h = D145 r n c145 x0 r145 (aI args) h).trans ((congrFun (congrFun (dIp r n) (aI args)) h).trans (by kernel_rfl))
noncomputable def s146 (r : RT) (n : Nat) (x0 x1 : DV) (h0 : Hp) : aH :=
 bnd (lV [x0, x1] h0) fun v1 h1 =>
 some (v1, h1)
noncomputable abbrev c146 : Code := cf Tryz.f146
noncomputable abbrev r146 : K := aP CF Tryz.f146
noncomputable def D146 (r : RT) (n : Nat) (c : Code) (X : Nat → K) (k : K) : K := aN CF r 8 n c X r146 k
theorem dIw : D146 r n c146 x0 r146 = (K2 (s146 r n) 0 1) :=
 (by kernel_rfl)
theorem dHr : aF CF r n 146 args h = s146 r n (aU args 0) (aU args 1) h :=
 (by kernel_rfl : aF CF r n 146 args h = D146 r n c146 x0 r146 (aI args) h).trans ((congrFun (congrFun (dIw r n) (aI args)) h).trans (by kernel_rfl))
noncomputable def s147 (r : RT) (n : Nat) (x0 x1 : DV) (h0 : Hp) : aH :=
 bnd (aQ x0 h0) fun v1 h1 =>
 bnd (aB 1 v1 h1) fun v2 h2 =>
 bnd (aA v2 h2) fun v3 h3 =>
 bnd (aD .add v3 x1 h3) fun v4 h4 =>
 bnd (aQ x0 h4) fun v5 h5 =>
 bnd (aB 0 v5 h5) fun v6 h6 =>
 bnd (aA v6 h6) fun v7 h7 =>
 bnd (dV v7 h7) fun v8 h8 =>
 bnd (aD .geq v4 v8 h8) fun v9 h9 =>
 aT v9 (
 some ((.i .u8 (Int.ofNat 0)), h9)) (
 bnd (aQ x0 h9) fun v10 h10 =>
 bnd (aB 0 v10 h10) fun v11 h11 =>
 bnd (aA v11 h11) fun v12 h12 =>
 bnd (aQ x0 h12) fun v13 h13 =>
 bnd (aB 1 v13 h13) fun v14 h14 =>
 bnd (aA v14 h14) fun v15 h15 =>
 bnd (aD .add v15 x1 h15) fun v16 h16 =>
 bnd (fI v12 v16 h16) fun v17 h17 =>
 some (v17, h17))
noncomputable abbrev c147 : Code := cf Tryz.f147
noncomputable abbrev r147 : K := aP CF Tryz.f147
noncomputable def D147 (r : RT) (n : Nat) (c : Code) (X : Nat → K) (k : K) : K := aN CF r 28 n c X r147 k
theorem dKx : D147 r n c147 x0 r147 = (K2 (s147 r n) 0 1) :=
 (by kernel_rfl)
theorem dEl : aF CF r n 147 args h = s147 r n (aU args 0) (aU args 1) h :=
 (by kernel_rfl : aF CF r n 147 args h = D147 r n c147 x0 r147 (aI args) h).trans ((congrFun (congrFun (dKx r n) (aI args)) h).trans (by kernel_rfl))
noncomputable def s148 (r : RT) (n : Nat) (x0 : DV) (h0 : Hp) : aH :=
 bnd (aD .geq x0 (.i .u8 (Int.ofNat 97)) h0) fun v1 h1 =>
 bnd (gD v1 true (some (x0, h1)) h1) fun v2 h2 =>
 bnd (gD v1 true (aD .leq v2 (.i .u8 (Int.ofNat 122)) h2) h2) fun v3 h3 =>
 bnd (aR v1 v3 (.b false) h3) fun v4 h4 =>
 bnd (gD v4 false (some (x0, h4)) h4) fun v5 h5 =>
 bnd (gD v4 false (aD .geq v5 (.i .u8 (Int.ofNat 65)) h5) h5) fun v6 h6 =>
 bnd (gD v4 false (some (v6, h6)) h6) fun v7 h7 =>
 bnd (gD v7 true (some (x0, h7)) h7) fun v8 h8 =>
 bnd (gD v7 true (aD .leq v8 (.i .u8 (Int.ofNat 90)) h8) h8) fun v9 h9 =>
 bnd (gD v4 false (aR v7 v9 (.b false) h9) h9) fun v10 h10 =>
 bnd (aR v4 (.b true) v10 h10) fun v11 h11 =>
 some (v11, h11)
noncomputable abbrev c148 : Code := cf Tryz.f148
noncomputable abbrev r148 : K := aP CF Tryz.f148
noncomputable def D148 (r : RT) (n : Nat) (c : Code) (X : Nat → K) (k : K) : K := aN CF r 17 n c X r148 k
theorem dKw : D148 r n c148 x0 r148 = (K1 (s148 r n) 0) :=
 (by kernel_rfl)
theorem cYj : aF CF r n 148 args h = s148 r n (aU args 0) h :=
 (by kernel_rfl : aF CF r n 148 args h = D148 r n c148 x0 r148 (aI args) h).trans ((congrFun (congrFun (dKw r n) (aI args)) h).trans (by kernel_rfl))
noncomputable def s149 (r : RT) (n : Nat) (x0 : DV) (h0 : Hp) : aH :=
 bnd (aQ x0 h0) fun v1 h1 =>
 bnd (aB 0 v1 h1) fun v2 h2 =>
 bnd (aA v2 h2) fun v3 h3 =>
 bnd (dV v3 h3) fun v4 h4 =>
 bnd (r 129 [x0, (.f 177 [] []), v4] h4) fun v5 h5 =>
 bnd (dV v5 h5) fun v6 h6 =>
 bnd (aD .gtr v6 (aE 24) h6) fun v7 h7 =>
 aT v7 (
 some (.t [(.s []), (aE 12)], h7)) (
 some (.t [v5, (aE 0)], h7))
noncomputable abbrev c149 : Code := cf Tryz.f149
noncomputable abbrev r149 : K := aP CF Tryz.f149
noncomputable def D149 (r : RT) (n : Nat) (c : Code) (X : Nat → K) (k : K) : K := aN CF r 16 n c X r149 k
theorem dLv : D149 r n c149 x0 r149 = (K1 (s149 r n) 0) :=
 (by kernel_rfl)
theorem dFf : aF CF r n 149 args h = s149 r n (aU args 0) h :=
 (by kernel_rfl : aF CF r n 149 args h = D149 r n c149 x0 r149 (aI args) h).trans ((congrFun (congrFun (dLv r n) (aI args)) h).trans (by kernel_rfl))
noncomputable def s150 (r : RT) (n : Nat) (x0 : DV) (h0 : Hp) : aH :=
 bnd (r 147 [x0, (aE 0)] h0) fun v1 h1 =>
 bnd (aD .neq v1 (.i .u8 (Int.ofNat 58)) h1) fun v2 h2 =>
 bnd (gD v2 false (some (x0, h2)) h2) fun v3 h3 =>
 bnd (gD v2 false (r 147 [v3, (aE 1)] h3) h3) fun v4 h4 =>
 bnd (gD v2 false (aD .eql v4 (.i .u8 (Int.ofNat 61)) h4) h4) fun v5 h5 =>
 bnd (aR v2 (.b true) v5 h5) fun v6 h6 =>
 aT v6 (
 some ((.b false), h6)) (
 bnd (aQ x0 h6) fun v7 h7 =>
 bnd (aB 1 v7 h7) fun v8 h8 =>
 bnd (aA v8 h8) fun v9 h9 =>
 bnd (aD .add v9 (aE 1) h9) fun v10 h10 =>
 bnd (aQ x0 h10) fun v11 h11 =>
 bnd (aB 1 v11 h11) fun v12 h12 =>
 bnd (aG 1 v12 v10 h12) fun _ h13 =>
 some ((.b true), h13))
noncomputable abbrev c150 : Code := cf Tryz.f150
noncomputable abbrev r150 : K := aP CF Tryz.f150
noncomputable def D150 (r : RT) (n : Nat) (c : Code) (X : Nat → K) (k : K) : K := aN CF r 18 n c X r150 k
theorem dMl : D150 r n c150 x0 r150 = (K1 (s150 r n) 0) :=
 (by kernel_rfl)
theorem dEk : aF CF r n 150 args h = s150 r n (aU args 0) h :=
 (by kernel_rfl : aF CF r n 150 args h = D150 r n c150 x0 r150 (aI args) h).trans ((congrFun (congrFun (dMl r n) (aI args)) h).trans (by kernel_rfl))
noncomputable def s151 (r : RT) (n : Nat) (x0 : DV) (h0 : Hp) : aH :=
 bnd (aD .geq x0 (.i .u8 (Int.ofNat 48)) h0) fun v1 h1 =>
 bnd (gD v1 true (some (x0, h1)) h1) fun v2 h2 =>
 bnd (gD v1 true (aD .leq v2 (.i .u8 (Int.ofNat 57)) h2) h2) fun v3 h3 =>
 bnd (aR v1 v3 (.b false) h3) fun v4 h4 =>
 some (v4, h4)
noncomputable abbrev c151 : Code := cf Tryz.f151
noncomputable abbrev r151 : K := aP CF Tryz.f151
noncomputable def D151 (r : RT) (n : Nat) (c : Code) (X : Nat → K) (k : K) : K := aN CF r 9 n c X r151 k
theorem dLb : D151 r n c151 x0 r151 = (K1 (s151 r n) 0) :=
 (by kernel_rfl)
theorem dCe : aF CF r n 151 args h = s151 r n (aU args 0) h :=
 (by kernel_rfl : aF CF r n 151 args h = D151 r n c151 x0 r151 (aI args) h).trans ((congrFun (congrFun (dLb r n) (aI args)) h).trans (by kernel_rfl))
noncomputable def eV (r : RT) (n : Nat) (x4 : DV) (h0 : Hp) : aH :=
 some (.t [x4, (aE 0)], h0)
noncomputable def bCz (r : RT) (n : Nat) (kk5 : gO) (x4 x14 : DV) (h0 : Hp) : aH :=
 bnd (zY x14 h0) fun v1 h1 =>
 bnd (aC 0 v1 h1) fun v2 h2 =>
 aT v2 (
 bnd (aC 2 v1 h2) fun v3 h3 =>
 bnd (aD .gtr x4 (aE 115292150460684697) h3) fun v4 h4 =>
 aT v4 (
 some (.t [(aE 0), (aE 2)], h4)) (
 bnd (aD .mul x4 (aE 10) h4) fun v5 h5 =>
 bnd (aD .sub v3 (.i .i32 (Int.ofNat 48)) h5) fun v6 h6 =>
 bnd (eB .i64 v6 h6) fun v7 h7 =>
 bnd (aD .add v5 v7 h7) fun v8 h8 =>
 bnd (aD .gtr v8 (aE 1152921504606846976) h8) fun v9 h9 =>
 aT v9 (
 some (.t [(aE 0), (aE 2)], h9)) (
     kk5 v8 x14 h9))) (
   eV r n x4 h2)
noncomputable def tN (r : RT) (n : Nat) (m : Nat) : gO :=
 Nat.rec (motive := fun _ => gO) (fun _ _ _ => none) (fun _ ih => bCz r n ih) m
noncomputable def bOs (r : RT) (n : Nat) : gO := tN r n n
noncomputable def aOq (r : RT) (n : Nat) (x4 x14 : DV) (h0 : Hp) : aH :=
 bOs r n x4 x14 h0
noncomputable def aSv (r : RT) (n : Nat) (x0 x4 : DV) (h0 : Hp) : aH :=
 bnd (aQ x0 h0) fun v1 h1 =>
 bnd (aB 0 v1 h1) fun v2 h2 =>
 bnd (aA v2 h2) fun v3 h3 =>
 bnd (dV v3 h3) fun v4 h4 =>
 bnd (r 129 [x0, (.f 151 [] []), v4] h4) fun v5 h5 =>
 bnd (oR v5 h5) fun v6 h6 =>
  aOq r n x4 v6 h6
noncomputable def aOk (r : RT) (n : Nat) (x0 : DV) (h0 : Hp) : aH :=
 aSv r n x0 (aE 0) h0
noncomputable def s152 (r : RT) (n : Nat) (x0 : DV) (h0 : Hp) : aH :=
 aOk r n x0 h0
noncomputable abbrev c152 : Code := cf Tryz.f152
noncomputable abbrev aKm : Code := cR c152
noncomputable abbrev aFp : Code := cR aKm
noncomputable abbrev dFz : Code := cR aFp
noncomputable abbrev wF : Code := cL aFp
noncomputable abbrev aRn : Code := cR wF
noncomputable abbrev aKp : Code := cL aRn
noncomputable abbrev oN : Code := cL aKp
noncomputable abbrev cDo : Code := cL wF
noncomputable abbrev cEf : Code := cL aKm
noncomputable abbrev bCc : Code := cL c152
noncomputable abbrev r152 : K := aP CF Tryz.f152
noncomputable def D152 (r : RT) (n : Nat) (c : Code) (X : Nat → K) (k : K) : K := aN CF r 29 n c X r152 k
theorem cRd : D152 r n dFz x0 r152 = (K1 (eV r n) 4) :=
 (by kernel_rfl)
theorem bXs (kk5 : gO) : D152 r n oN (xs x0 0 (K1 (eV r n) 4)) (K2 kk5 4 14) = (K2 (bCz r n kk5) 4 14) :=
 (by kernel_rfl)
theorem cAv (m : Nat) : aM (fun kk => D152 r n oN (xs x0 0 (K1 (eV r n) 4)) kk) m = (K2 (tN r n m) 4 14) := by
 induction m with
 | zero => exact (by kernel_rfl : aM (fun kk => D152 r n oN (xs x0 0 (K1 (eV r n) 4)) kk) 0 = (K2 (tN r n 0) 4 14))
 | succ m ih =>
  refine (by kernel_rfl : aM (fun kk => D152 r n oN (xs x0 0 (K1 (eV r n) 4)) kk) (m + 1) = D152 r n oN (xs x0 0 (K1 (eV r n) 4)) (aM (fun kk => D152 r n oN (xs x0 0 (K1 (eV r n) 4)) kk) m)).trans ?_
  rw [ih]
  exact (bXs r n (tN r n m)).trans (by kernel_rfl)
theorem cGx : D152 r n aKp (xs x0 0 (K1 (eV r n) 4)) (K1 (eV r n) 4) = (K2 (bOs r n) 4 14) :=
 (by kernel_rfl : D152 r n aKp (xs x0 0 (K1 (eV r n) 4)) (K1 (eV r n) 4) = aM (fun kk => D152 r n oN (xs x0 0 (K1 (eV r n) 4)) kk) n).trans ((cAv r n n).trans (by kernel_rfl))
theorem cJh : D152 r n aRn x0 (K1 (eV r n) 4) = (K2 (aOq r n) 4 14) :=
 (by kernel_rfl : D152 r n aRn x0 (K1 (eV r n) 4) = D152 r n aKp (xs x0 0 (K1 (eV r n) 4)) (K1 (eV r n) 4)).trans
 ((cGx r n).trans (by kernel_rfl))
theorem bVq : D152 r n aFp x0 r152 = D152 r n wF x0 (K1 (eV r n) 4) :=
 congrArg (fun k => D152 r n wF x0 k) (cRd r n)
theorem bYd : D152 r n wF x0 (K1 (eV r n) 4) = D152 r n cDo x0 (K2 (aOq r n) 4 14) :=
 congrArg (fun k => D152 r n cDo x0 k) (cJh r n)
theorem cRk : D152 r n aFp x0 r152 = (K2 (aSv r n) 0 4) :=
 (bVq r n).trans
 ((bYd r n).trans
 ((by kernel_rfl)))
theorem bSo : D152 r n aKm x0 r152 = D152 r n cEf x0 (K2 (aSv r n) 0 4) :=
 congrArg (fun k => D152 r n cEf x0 k) (cRk r n)
theorem cEp : D152 r n aKm x0 r152 = (K1 (aOk r n) 0) :=
 (bSo r n).trans
 ((by kernel_rfl))
theorem dHq : D152 r n c152 x0 r152 = D152 r n bCc x0 (K1 (aOk r n) 0) :=
 congrArg (fun k => D152 r n bCc x0 k) (cEp r n)
theorem dLd : D152 r n c152 x0 r152 = (K1 (s152 r n) 0) :=
 (dHq r n).trans
 ((by kernel_rfl))
theorem cZx : aF CF r n 152 args h = s152 r n (aU args 0) h :=
 (by kernel_rfl : aF CF r n 152 args h = D152 r n c152 x0 r152 (aI args) h).trans ((congrFun (congrFun (dLd r n) (aI args)) h).trans (by kernel_rfl))
end Go.Dd

namespace Go.Dd
open Go.Proofs
variable (r : RT) (n : Nat) (args : List DV) (h : Hp)
noncomputable def s156 (r : RT) (n : Nat) (x0 x1 : DV) (h0 : Hp) : aH :=
 bnd (bR x1 h0) fun v1 h1 =>
 bnd (bN [(.s []), (.b false), (.b false), (aE 0)] h1) fun v2 h2 =>
 bnd (aQ x0 h2) fun v3 h3 =>
 bnd (aB 6 v3 h3) fun v4 h4 =>
 bnd (aA v4 h4) fun v5 h5 =>
 bnd (r 185 [v5, (.f 186 [] [v1])] h5) fun v6 h6 =>
 bnd (aD .lss v6 (aE 0) h6) fun v7 h7 =>
 aT v7 (
 bnd (bB [(.s []), (.b false), (.b false), (aE 0)] [] h7) fun v8 h8 =>
 bnd (aG 4 v2 v8 h8) fun _ h9 =>
 bnd (aK 4 v2 h9) fun v10 _ =>
 some (.t [v10, (.b false)], h9)) (
 bnd (aQ x0 h7) fun v11 h11 =>
 bnd (aB 6 v11 h11) fun v12 h12 =>
 bnd (aA v12 h12) fun v13 h13 =>
 bnd (aJ 4 v13 v6 h13) fun v14 h14 =>
 bnd (aK 4 v14 h14) fun v15 h15 =>
 bnd (aG 4 v2 v15 h15) fun _ h16 =>
 bnd (aK 4 v2 h16) fun v17 _ =>
 some (.t [v17, (.b true)], h16))
noncomputable abbrev c156 : Code := cf Tryz.f156
noncomputable abbrev r156 : K := aP CF Tryz.f156
noncomputable def D156 (r : RT) (n : Nat) (c : Code) (X : Nat → K) (k : K) : K := aN CF r 23 n c X r156 k
theorem dMu : D156 r n c156 x0 r156 = (K2 (s156 r n) 0 1) :=
 (by kernel_rfl)
theorem dEa : aF CF r n 156 args h = s156 r n (aU args 0) (aU args 1) h :=
 (by kernel_rfl : aF CF r n 156 args h = D156 r n c156 x0 r156 (aI args) h).trans ((congrFun (congrFun (dMu r n) (aI args)) h).trans (by kernel_rfl))
noncomputable def hU (r : RT) (n : Nat) (h0 : Hp) : aH :=
 some ((.b false), h0)
noncomputable def mI (r : RT) (n : Nat) (x4 : DV) (h0 : Hp) : aH :=
 aT x4 (
 some ((.b true), h0)) (
  hU r n h0)
noncomputable def aQl (r : RT) (n : Nat) (x3 : DV) (h0 : Hp) : aH :=
 bnd (fN .eql x3 (.s [115, 101, 108, 102]) h0) fun v1 h1 =>
 aT v1 (
  mI r n v1 h1) (
 bnd (fN .eql x3 (.s [115, 117, 112, 101, 114]) h1) fun v2 h2 =>
 aT v2 (
   mI r n v2 h2) (
 bnd (fN .eql x3 (.s [110, 105, 108]) h2) fun v3 h3 =>
 aT v3 (
    mI r n v3 h3) (
 bnd (fN .eql x3 (.s [116, 114, 117, 101]) h3) fun v4 h4 =>
 aT v4 (
     mI r n v4 h4) (
 bnd (fN .eql x3 (.s [102, 97, 108, 115, 101]) h4) fun v5 h5 =>
 aT v5 (
      mI r n v5 h5) (
 bnd (fN .eql x3 (.s [116, 104, 105, 115, 67, 111, 110, 116, 101, 120, 116]) h5) fun v6 h6 =>
      mI r n v6 h6)))))
noncomputable def aRo (r : RT) (n : Nat) (x0 : DV) (h0 : Hp) : aH :=
 aQl r n x0 h0
noncomputable def s157 (r : RT) (n : Nat) (x0 : DV) (h0 : Hp) : aH :=
 aRo r n x0 h0
noncomputable abbrev c157 : Code := cf Tryz.f157
noncomputable abbrev aIq : Code := cR c157
noncomputable abbrev cXr : Code := cR aIq
noncomputable abbrev yX : Code := cL aIq
noncomputable abbrev aUm : Code := cR yX
noncomputable abbrev aHw : Code := cL aUm
noncomputable abbrev cXx : Code := cR aHw
noncomputable abbrev bVd : Code := cL aHw
noncomputable abbrev cAs : Code := cL yX
noncomputable abbrev bUb : Code := cL c157
noncomputable abbrev r157 : K := aP CF Tryz.f157
noncomputable def D157 (r : RT) (n : Nat) (c : Code) (X : Nat → K) (k : K) : K := aN CF r 11 n c X r157 k
theorem cIa : D157 r n cXr x0 r157 = (K0 (hU r n)) :=
 (by kernel_rfl)
theorem cQi : D157 r n cXx (xs x0 0 (K0 (hU r n))) (K0 (hU r n)) = (K1 (mI r n) 4) :=
 (by kernel_rfl)
theorem bKu : D157 r n aHw (xs x0 0 (K0 (hU r n))) (K0 (hU r n)) = D157 r n bVd (xs x0 0 (K0 (hU r n))) (K1 (mI r n) 4) :=
 congrArg (fun k => D157 r n bVd (xs x0 0 (K0 (hU r n))) k) (cQi r n)
theorem cIs : D157 r n aUm x0 (K0 (hU r n)) = (K1 (aQl r n) 3) :=
 (by kernel_rfl : D157 r n aUm x0 (K0 (hU r n)) = D157 r n aHw (xs x0 0 (K0 (hU r n))) (K0 (hU r n))).trans
 ((bKu r n).trans
 ((by kernel_rfl)))
theorem cAc : D157 r n aIq x0 r157 = D157 r n yX x0 (K0 (hU r n)) :=
 congrArg (fun k => D157 r n yX x0 k) (cIa r n)
theorem bQa : D157 r n yX x0 (K0 (hU r n)) = D157 r n cAs x0 (K1 (aQl r n) 3) :=
 congrArg (fun k => D157 r n cAs x0 k) (cIs r n)
theorem cMp : D157 r n aIq x0 r157 = (K1 (aRo r n) 0) :=
 (cAc r n).trans
 ((bQa r n).trans
 ((by kernel_rfl)))
theorem dHa : D157 r n c157 x0 r157 = D157 r n bUb x0 (K1 (aRo r n) 0) :=
 congrArg (fun k => D157 r n bUb x0 k) (cMp r n)
theorem dOl : D157 r n c157 x0 r157 = (K1 (s157 r n) 0) :=
 (dHa r n).trans
 ((by kernel_rfl))
theorem cZs : aF CF r n 157 args h = s157 r n (aU args 0) h :=
 (by kernel_rfl : aF CF r n 157 args h = D157 r n c157 x0 r157 (aI args) h).trans ((congrFun (congrFun (dOl r n) (aI args)) h).trans (by kernel_rfl))
noncomputable def aFw (r : RT) (n : Nat) (x0 x1 : DV) (h0 : Hp) : aH :=
 bnd (r 156 [x0, x1] h0) fun v1 h1 =>
 bnd (aC 0 v1 h1) fun v2 h2 =>
 bnd (aC 1 v1 h2) fun v3 h3 =>
 bnd (bN [(.s []), (.b false), (.b false), (aE 0)] h3) fun v4 h4 =>
 bnd (aG 4 v4 v2 h4) fun _ h5 =>
 bnd (gD v3 true (aB 1 v4 h5) h5) fun v6 h6 =>
 bnd (gD v3 true (aA v6 h6) h6) fun v7 h7 =>
 bnd (aR v3 v7 (.b false) h7) fun v8 h8 =>
 aT v8 (
 bnd (aB 3 v4 h8) fun v9 h9 =>
 bnd (aA v9 h9) fun v10 h10 =>
 bnd (r 141 [x0, (aE 8), v10, (aE 0)] h10) fun v11 h11 =>
 some (.t [], h11)) (
 aT v3 (
 bnd (aB 3 v4 h8) fun v12 h12 =>
 bnd (aA v12 h12) fun v13 h13 =>
 bnd (r 141 [x0, (aE 7), v13, (aE 0)] h13) fun v14 h14 =>
 some (.t [], h14)) (
 bnd (r 190 [x1] h8) fun v15 h15 =>
 aT v15 (
 bnd (r 191 [x0, x1] h15) fun v16 h16 =>
 bnd (r 141 [x0, (aE 9), v16, (aE 0)] h16) fun v17 h17 =>
 some (.t [], h17)) (
 bnd (r 158 [x0, x1, (aE 15)] h15) fun v18 h18 =>
 some (.t [], h18))))
noncomputable def s161 (r : RT) (n : Nat) (x0 x1 : DV) (h0 : Hp) : aH :=
 bnd (fN .eql x1 (.s [115, 101, 108, 102]) h0) fun v1 h1 =>
 aT v1 (
 bnd (r 141 [x0, (aE 1), (aE 0), (aE 0)] h1) fun v2 h2 =>
 some (.t [], h2)) (
 bnd (fN .eql x1 (.s [110, 105, 108]) h1) fun v3 h3 =>
 aT v3 (
 bnd (r 141 [x0, (aE 2), (aE 0), (aE 0)] h3) fun v4 h4 =>
 some (.t [], h4)) (
 bnd (fN .eql x1 (.s [116, 114, 117, 101]) h3) fun v5 h5 =>
 aT v5 (
 bnd (r 141 [x0, (aE 3), (aE 0), (aE 0)] h5) fun v6 h6 =>
 some (.t [], h6)) (
 bnd (fN .eql x1 (.s [102, 97, 108, 115, 101]) h5) fun v7 h7 =>
 aT v7 (
 bnd (r 141 [x0, (aE 4), (aE 0), (aE 0)] h7) fun v8 h8 =>
 some (.t [], h8)) (
 bnd (fN .eql x1 (.s [116, 104, 105, 115, 67, 111, 110, 116, 101, 120, 116]) h7) fun v9 h9 =>
 aT v9 (
 bnd (r 141 [x0, (aE 5), (aE 0), (aE 0)] h9) fun v10 h10 =>
 some (.t [], h10)) (
 bnd (fN .eql x1 (.s [115, 117, 112, 101, 114]) h9) fun v11 h11 =>
 aT v11 (
 bnd (r 158 [x0, x1, (aE 15)] h11) fun v12 h12 =>
       aFw r n x0 x1 h12) (
       aFw r n x0 x1 h11))))))
noncomputable abbrev c161 : Code := cf Tryz.f161
noncomputable abbrev cXs : Code := cR c161
noncomputable abbrev bOo : Code := cL c161
noncomputable abbrev r161 : K := aP CF Tryz.f161
noncomputable def D161 (r : RT) (n : Nat) (c : Code) (X : Nat → K) (k : K) : K := aN CF r 65 n c X r161 k
theorem cHn : D161 r n cXs x0 r161 = (K2 (aFw r n) 0 1) :=
 (by kernel_rfl)
theorem cZt : D161 r n c161 x0 r161 = D161 r n bOo x0 (K2 (aFw r n) 0 1) :=
 congrArg (fun k => D161 r n bOo x0 k) (cHn r n)
theorem dKs : D161 r n c161 x0 r161 = (K2 (s161 r n) 0 1) :=
 (cZt r n).trans
 ((by kernel_rfl))
theorem dBc : aF CF r n 161 args h = s161 r n (aU args 0) (aU args 1) h :=
 (by kernel_rfl : aF CF r n 161 args h = D161 r n c161 x0 r161 (aI args) h).trans ((congrFun (congrFun (dKs r n) (aI args)) h).trans (by kernel_rfl))
noncomputable def s163 (r : RT) (n : Nat) (x0 x1 : DV) (h0 : Hp) : aH :=
 bnd (bR x1 h0) fun v1 h1 =>
 bnd (aB 5 v1 h1) fun v2 h2 =>
 bnd (aA v2 h2) fun v3 h3 =>
 bnd (cA v3 h3) fun v4 h4 =>
 bnd (aD .eql v4 (aE 0) h4) fun v5 h5 =>
 aT v5 (
 bnd (r 158 [x0, (.s []), (aE 1)] h5) fun v6 h6 =>
 some (.t [], h6)) (
 bnd (aK 6 v1 h5) fun v7 h7 =>
 bnd (r 192 [x0, v7] h7) fun v8 h8 =>
 bnd (gD v8 false (some (x0, h8)) h8) fun v9 h9 =>
 bnd (gD v8 false (aK 6 v1 h9) h9) fun v10 h10 =>
 bnd (gD v8 false (r 193 [v9, v10] h10) h10) fun v11 h11 =>
 bnd (aR v8 (.b true) v11 h11) fun v12 h12 =>
 aT v12 (
 some (.t [], h12)) (
 bnd (aB 5 v1 h12) fun v13 h13 =>
 bnd (aA v13 h13) fun v14 h14 =>
 bnd (aJ 6 v14 (aE 0) h14) fun v15 h15 =>
 bnd (aK 6 v15 h15) fun v16 h16 =>
 bnd (r 195 [x0, v16] h16) fun v17 h17 =>
 bnd (aB 1 v1 h17) fun v18 h18 =>
 bnd (aA v18 h18) fun v19 h19 =>
 cnd (bI (aA v18 h12) v19 && true) (
 bnd (aB 5 v1 h19) fun v20 h20 =>
 bnd (aA v20 h20) fun v21 h21 =>
 cnd (bI (aA v20 h12) v21 && true) (
 bnd (cV 6 v21 (some (aE 1)) none h21) fun v22 h22 =>
 cnd (bI (cV 6 v21 (some (aE 1)) none h12) v22 && true) (
 bnd (r 194 [x0, v17, v19, v22] h22) fun v23 h23 =>
 some (.t [], h23))))))
noncomputable abbrev c163 : Code := cf Tryz.f163
noncomputable abbrev r163 : K := aP CF Tryz.f163
noncomputable def D163 (r : RT) (n : Nat) (c : Code) (X : Nat → K) (k : K) : K := aN CF r 31 n c X r163 k
theorem dNn : D163 r n c163 x0 r163 = (K2 (s163 r n) 0 1) :=
 (by kernel_rfl)
theorem dAn : aF CF r n 163 args h = s163 r n (aU args 0) (aU args 1) h :=
 (by kernel_rfl : aF CF r n 163 args h = D163 r n c163 x0 r163 (aI args) h).trans ((congrFun (congrFun (dNn r n) (aI args)) h).trans (by kernel_rfl))
noncomputable def aLj (r : RT) (n : Nat) (x3 : DV) (h0 : Hp) : aH :=
 bnd (aB 5 x3 h0) fun v1 h1 =>
 bnd (aA v1 h1) fun v2 h2 =>
 bnd (cA v2 h2) fun v3 h3 =>
 bnd (aD .eql v3 (aE 1) h3) fun v4 h4 =>
 some (v4, h4)
noncomputable def yQ (r : RT) (n : Nat) (x0 x3 : DV) (h0 : Hp) : aH :=
 bnd (aB 5 x3 h0) fun v1 h1 =>
 bnd (aA v1 h1) fun v2 h2 =>
 bnd (cA v2 h2) fun v3 h3 =>
 bnd (aD .neq v3 (aE 1) h3) fun v4 h4 =>
 aT v4 (
 bnd (r 158 [x0, (.s []), (aE 1)] h4) fun v5 h5 =>
  aLj r n x3 h5) (
  aLj r n x3 h4)
noncomputable def s167 (r : RT) (n : Nat) (x0 x1 : DV) (h0 : Hp) : aH :=
 bnd (bR x1 h0) fun v1 h1 =>
  yQ r n x0 v1 h1
noncomputable abbrev c167 : Code := cf Tryz.f167
noncomputable abbrev aGt : Code := cR c167
noncomputable abbrev cYx : Code := cR aGt
noncomputable abbrev bPq : Code := cL aGt
noncomputable abbrev aTb : Code := cL c167
noncomputable abbrev r167 : K := aP CF Tryz.f167
noncomputable def D167 (r : RT) (n : Nat) (c : Code) (X : Nat → K) (k : K) : K := aN CF r 15 n c X r167 k
theorem cRg : D167 r n cYx x0 r167 = (K1 (aLj r n) 3) :=
 (by kernel_rfl)
theorem bZx : D167 r n aGt x0 r167 = D167 r n bPq x0 (K1 (aLj r n) 3) :=
 congrArg (fun k => D167 r n bPq x0 k) (cRg r n)
theorem cGr : D167 r n aGt x0 r167 = (K2 (yQ r n) 0 3) :=
 (bZx r n).trans
 ((by kernel_rfl))
theorem cYc : D167 r n c167 x0 r167 = D167 r n aTb x0 (K2 (yQ r n) 0 3) :=
 congrArg (fun k => D167 r n aTb x0 k) (cGr r n)
theorem dBn (q0 : gO) : D167 r n aTb x0 (K2 q0 0 3) = fun (env : aV) (h : Hp) =>
 bnd (bR (env 1) h) fun v1 h1 =>
  q0 (env 0) v1 h1 := by kernel_rfl
theorem cRm : (fun (env : aV) (h : Hp) =>
 bnd (bR (env 1) h) fun v1 h1 =>
  yQ r n (env 0) v1 h1) = (K2 (s167 r n) 0 1) := by kernel_rfl
theorem dLo : D167 r n c167 x0 r167 = (K2 (s167 r n) 0 1) :=
 (cYc r n).trans
 ((dBn r n (yQ r n)).trans (cRm r n))
theorem cYk : aF CF r n 167 args h = s167 r n (aU args 0) (aU args 1) h :=
 (by kernel_rfl : aF CF r n 167 args h = D167 r n c167 x0 r167 (aI args) h).trans ((congrFun (congrFun (dLo r n) (aI args)) h).trans (by kernel_rfl))
noncomputable def s168 (r : RT) (n : Nat) (x0 x1 x2 : DV) (h0 : Hp) : aH :=
 bnd (aD .geq x0 x1 h0) fun v1 h1 =>
 bnd (gD v1 true (some (x0, h1)) h1) fun v2 h2 =>
 bnd (gD v1 true (some (x2, h2)) h2) fun v3 h3 =>
 bnd (gD v1 true (aD .leq v2 v3 h3) h3) fun v4 h4 =>
 bnd (aR v1 v4 (.b false) h4) fun v5 h5 =>
 some (v5, h5)
noncomputable abbrev c168 : Code := cf Tryz.f168
noncomputable abbrev r168 : K := aP CF Tryz.f168
noncomputable def D168 (r : RT) (n : Nat) (c : Code) (X : Nat → K) (k : K) : K := aN CF r 15 n c X r168 k
theorem dMm : D168 r n c168 x0 r168 = (K3 (s168 r n) 0 1 2) :=
 (by kernel_rfl)
theorem dFl : aF CF r n 168 args h = s168 r n (aU args 0) (aU args 1) (aU args 2) h :=
 (by kernel_rfl : aF CF r n 168 args h = D168 r n c168 x0 r168 (aI args) h).trans ((congrFun (congrFun (dMm r n) (aI args)) h).trans (by kernel_rfl))
noncomputable def s169 (r : RT) (n : Nat) (x0 x1 : DV) (h0 : Hp) : aH :=
 bnd (r 187 [x0, x1] h0) fun v1 h1 =>
 bnd (aD .geq v1 (aE 0) h1) fun v2 h2 =>
 some (v2, h2)
noncomputable abbrev c169 : Code := cf Tryz.f169
noncomputable abbrev r169 : K := aP CF Tryz.f169
noncomputable def D169 (r : RT) (n : Nat) (c : Code) (X : Nat → K) (k : K) : K := aN CF r 9 n c X r169 k
theorem dJh : D169 r n c169 x0 r169 = (K2 (s169 r n) 0 1) :=
 (by kernel_rfl)
theorem cWx : aF CF r n 169 args h = s169 r n (aU args 0) (aU args 1) h :=
 (by kernel_rfl : aF CF r n 169 args h = D169 r n c169 x0 r169 (aI args) h).trans ((congrFun (congrFun (dJh r n) (aI args)) h).trans (by kernel_rfl))
noncomputable def s170 (r : RT) (n : Nat) (x0 : DV) (h0 : Hp) : aH :=
 bnd (bR x0 h0) fun v1 h1 =>
 bnd (aK 4 v1 h1) fun v2 h2 =>
 bnd (r 171 [v2, (aE 20)] h2) fun v3 h3 =>
 bnd (hY .not v3 h3) fun v4 h4 =>
 some (v4, h4)
noncomputable abbrev c170 : Code := cf Tryz.f170
noncomputable abbrev r170 : K := aP CF Tryz.f170
noncomputable def D170 (r : RT) (n : Nat) (c : Code) (X : Nat → K) (k : K) : K := aN CF r 6 n c X r170 k
theorem dKi : D170 r n c170 x0 r170 = (K1 (s170 r n) 0) :=
 (by kernel_rfl)
theorem cYs : aF CF r n 170 args h = s170 r n (aU args 0) h :=
 (by kernel_rfl : aF CF r n 170 args h = D170 r n c170 x0 r170 (aI args) h).trans ((congrFun (congrFun (dKi r n) (aI args)) h).trans (by kernel_rfl))
noncomputable def s171 (r : RT) (n : Nat) (x0 x1 : DV) (h0 : Hp) : aH :=
 bnd (bR x0 h0) fun v1 h1 =>
 bnd (bR x1 h1) fun v2 h2 =>
 bnd (aB 0 v1 h2) fun v3 h3 =>
 bnd (aA v3 h3) fun v4 h4 =>
 bnd (aD .eql v4 (aE 1) h4) fun v5 h5 =>
 aT v5 (
 bnd (aB 1 v1 h5) fun v6 h6 =>
 bnd (aA v6 h6) fun v7 h7 =>
 bnd (fN .eql v7 (.s []) h7) fun v8 h8 =>
 bnd (gD v8 true (aB 3 v1 h8) h8) fun v9 h9 =>
 bnd (gD v8 true (aA v9 h9) h9) fun v10 h10 =>
 bnd (gD v8 true (cA v10 h10) h10) fun v11 h11 =>
 bnd (gD v8 true (aD .eql v11 (aE 0) h11) h11) fun v12 h12 =>
 bnd (aR v8 v12 (.b false) h12) fun v13 h13 =>
 bnd (gD v13 true (aB 2 v1 h13) h13) fun v14 h14 =>
 bnd (gD v13 true (aA v14 h14) h14) fun v15 h15 =>
 bnd (gD v13 true (r 168 [v15, (.i .i64 (Int.negSucc 1152921504606846975)), (aE 1152921504606846976)] h15) h15) fun v16 h16 =>
 bnd (aR v13 v16 (.b false) h16) fun v17 h17 =>
 some (v17, h17)) (
 bnd (aD .eql v4 (aE 2) h5) fun v18 h18 =>
 aT v18 (
 bnd (aB 2 v1 h18) fun v19 h19 =>
 bnd (aA v19 h19) fun v20 h20 =>
 bnd (aD .eql v20 (aE 0) h20) fun v21 h21 =>
 bnd (gD v21 true (aB 3 v1 h21) h21) fun v22 h22 =>
 bnd (gD v21 true (aA v22 h22) h22) fun v23 h23 =>
 bnd (gD v21 true (cA v23 h23) h23) fun v24 h24 =>
 bnd (gD v21 true (aD .eql v24 (aE 0) h24) h24) fun v25 h25 =>
 bnd (aR v21 v25 (.b false) h25) fun v26 h26 =>
 bnd (gD v26 true (aB 1 v1 h26) h26) fun v27 h27 =>
 bnd (gD v26 true (aA v27 h27) h27) fun v28 h28 =>
 bnd (gD v26 true (dV v28 h28) h28) fun v29 h29 =>
 bnd (gD v26 true (aD .leq v29 (aE 250) h29) h29) fun v30 h30 =>
 bnd (aR v26 v30 (.b false) h30) fun v31 h31 =>
 some (v31, h31)) (
 bnd (aD .eql v4 (aE 3) h18) fun v32 h32 =>
 aT v32 (
 bnd (aB 2 v1 h32) fun v33 h33 =>
 bnd (aA v33 h33) fun v34 h34 =>
 bnd (aD .eql v34 (aE 0) h34) fun v35 h35 =>
 bnd (gD v35 true (aB 3 v1 h35) h35) fun v36 h36 =>
 bnd (gD v35 true (aA v36 h36) h36) fun v37 h37 =>
 bnd (gD v35 true (cA v37 h37) h37) fun v38 h38 =>
 bnd (gD v35 true (aD .eql v38 (aE 0) h38) h38) fun v39 h39 =>
 bnd (aR v35 v39 (.b false) h39) fun v40 h40 =>
 bnd (gD v40 true (aB 1 v1 h40) h40) fun v41 h41 =>
 bnd (gD v40 true (aA v41 h41) h41) fun v42 h42 =>
 bnd (gD v40 true (dV v42 h42) h42) fun v43 h43 =>
 bnd (gD v40 true (r 168 [v43, (aE 1), (aE 60)] h43) h43) fun v44 h44 =>
 bnd (aR v40 v44 (.b false) h44) fun v45 h45 =>
 some (v45, h45)) (
 bnd (aD .eql v4 (aE 4) h32) fun v46 h46 =>
 aT v46 (
 bnd (aB 3 v1 h46) fun v47 h47 =>
 bnd (aA v47 h47) fun v48 h48 =>
 bnd (r 169 [v48, (.f 199 [] [v2])] h48) fun v49 h49 =>
 bnd (aB 2 v1 h49) fun v50 h50 =>
 bnd (aA v50 h50) fun v51 h51 =>
 bnd (aD .eql v51 (aE 0) h51) fun v52 h52 =>
 bnd (gD v52 true (aB 1 v1 h52) h52) fun v53 h53 =>
 bnd (gD v52 true (aA v53 h53) h53) fun v54 h54 =>
 bnd (gD v52 true (fN .eql v54 (.s []) h54) h54) fun v55 h55 =>
 bnd (aR v52 v55 (.b false) h55) fun v56 h56 =>
 bnd (gD v56 true (aA v2 h56) h56) fun v57 h57 =>
 bnd (gD v56 true (aD .gtr v57 (aE 0) h57) h57) fun v58 h58 =>
 bnd (aR v56 v58 (.b false) h58) fun v59 h59 =>
 bnd (gD v59 true (aB 3 v1 h59) h59) fun v60 h60 =>
 bnd (gD v59 true (aA v60 h60) h60) fun v61 h61 =>
 bnd (gD v59 true (cA v61 h61) h61) fun v62 h62 =>
 bnd (gD v59 true (aD .leq v62 (aE 250) h62) h62) fun v63 h63 =>
 bnd (aR v59 v63 (.b false) h63) fun v64 h64 =>
 bnd (gD v64 true (some (v49, h64)) h64) fun v65 h65 =>
 bnd (gD v64 true (hY .not v65 h65) h65) fun v66 h66 =>
 bnd (aR v64 v66 (.b false) h66) fun v67 h67 =>
 some (v67, h67)) (
 some ((.b false), h46)))))
noncomputable abbrev c171 : Code := cf Tryz.f171
noncomputable abbrev r171 : K := aP CF Tryz.f171
noncomputable def D171 (r : RT) (n : Nat) (c : Code) (X : Nat → K) (k : K) : K := aN CF r 86 n c X r171 k
theorem dLg : D171 r n c171 x0 r171 = (K2 (s171 r n) 0 1) :=
 (by kernel_rfl)
theorem dGx : aF CF r n 171 args h = s171 r n (aU args 0) (aU args 1) h :=
 (by kernel_rfl : aF CF r n 171 args h = D171 r n c171 x0 r171 (aI args) h).trans ((congrFun (congrFun (dLg r n) (aI args)) h).trans (by kernel_rfl))
end Go.Dd

namespace Go.Dd
open Go.Proofs
variable (r : RT) (n : Nat) (args : List DV) (h : Hp)
noncomputable def bD (r : RT) (n : Nat) (h0 : Hp) : aH :=
 some ((.b true), h0)
noncomputable def uY (r : RT) (n : Nat) (x2 x3 x4 x27 x51 : DV) (h0 : Hp) : aH :=
 aT x51 (
 bnd (aB 1 x4 h0) fun v1 h1 =>
 bnd (aA v1 h1) fun v2 h2 =>
 bnd (aD .lss v2 x2 h2) fun v3 h3 =>
 some (v3, h3)) (
 bnd (aD .eql x27 (aE 18) h0) fun v4 h4 =>
 aT v4 (
 bnd (aB 2 x4 h4) fun v5 h5 =>
 bnd (aA v5 h5) fun v6 h6 =>
 bnd (aD .leq v6 (aE 4) h6) fun v7 h7 =>
 bnd (gD v7 true (aB 1 x4 h7) h7) fun v8 h8 =>
 bnd (gD v7 true (aA v8 h8) h8) fun v9 h9 =>
 bnd (gD v7 true (aB 2 x4 h9) h9) fun v10 h10 =>
 bnd (gD v7 true (aA v10 h10) h10) fun v11 h11 =>
 bnd (gD v7 true (aD .add v9 v11 h11) h11) fun v12 h12 =>
 bnd (gD v7 true (aB 2 x3 h12) h12) fun v13 h13 =>
 bnd (gD v7 true (aA v13 h13) h13) fun v14 h14 =>
 bnd (gD v7 true (aD .leq v12 v14 h14) h14) fun v15 h15 =>
 bnd (aR v7 v15 (.b false) h15) fun v16 h16 =>
 some (v16, h16)) (
   bD r n h4))
noncomputable def aXv (r : RT) (n : Nat) (x2 x3 x4 x27 : DV) (h0 : Hp) : aH :=
 bnd (aD .eql x27 (aE 8) h0) fun v1 h1 =>
 aT v1 (
  uY r n x2 x3 x4 x27 v1 h1) (
 bnd (aD .eql x27 (aE 11) h1) fun v2 h2 =>
  uY r n x2 x3 x4 x27 v2 h2)
noncomputable def tR (r : RT) (n : Nat) (x2 x3 x4 x27 x43 : DV) (h0 : Hp) : aH :=
 aT x43 (
 bnd (aB 1 x4 h0) fun v1 h1 =>
 bnd (aA v1 h1) fun v2 h2 =>
 bnd (aB 2 x3 h2) fun v3 h3 =>
 bnd (aA v3 h3) fun v4 h4 =>
 bnd (aD .lss v2 v4 h4) fun v5 h5 =>
 some (v5, h5)) (
  aXv r n x2 x3 x4 x27 h0)
noncomputable def bDb (r : RT) (n : Nat) (x2 x3 x4 x27 : DV) (h0 : Hp) : aH :=
 bnd (aD .eql x27 (aE 7) h0) fun v1 h1 =>
 aT v1 (
  tR r n x2 x3 x4 x27 v1 h1) (
 bnd (aD .eql x27 (aE 10) h1) fun v2 h2 =>
  tR r n x2 x3 x4 x27 v2 h2)
noncomputable def tA (r : RT) (n : Nat) (x2 x3 x4 x8 x27 x34 : DV) (h0 : Hp) : aH :=
 aT x34 (
 bnd (gD x8 true (aB 2 x4 h0) h0) fun v1 h1 =>
 bnd (gD x8 true (aA v1 h1) h1) fun v2 h2 =>
 bnd (gD x8 true (aD .leq v2 (aE 4) h2) h2) fun v3 h3 =>
 bnd (aR x8 v3 (.b false) h3) fun v4 h4 =>
 some (v4, h4)) (
  bDb r n x2 x3 x4 x27 h0)
noncomputable def bTb (r : RT) (n : Nat) (x2 x3 x4 x8 x27 : DV) (h0 : Hp) : aH :=
 bnd (aD .eql x27 (aE 14) h0) fun v1 h1 =>
 aT v1 (
  tA r n x2 x3 x4 x8 x27 v1 h1) (
 bnd (aD .eql x27 (aE 15) h1) fun v2 h2 =>
  tA r n x2 x3 x4 x8 x27 v2 h2)
noncomputable def aVp (r : RT) (n : Nat) (x2 x3 x4 x8 x27 x31 : DV) (h0 : Hp) : aH :=
 aT x31 (
 some (x8, h0)) (
  bTb r n x2 x3 x4 x8 x27 h0)
noncomputable def bKf (r : RT) (n : Nat) (x2 x3 x4 x8 x27 : DV) (h0 : Hp) : aH :=
 bnd (aD .eql x27 (aE 9) h0) fun v1 h1 =>
  aVp r n x2 x3 x4 x8 x27 v1 h1
noncomputable def aSp (r : RT) (n : Nat) (x2 x3 x4 x7 x8 x27 x28 : DV) (h0 : Hp) : aH :=
 aT x28 (
 some (x7, h0)) (
  bKf r n x2 x3 x4 x8 x27 h0)
noncomputable def aSq (r : RT) (n : Nat) (x2 x3 x4 x7 x8 x27 : DV) (h0 : Hp) : aH :=
 bnd (aD .eql x27 (aE 6) h0) fun v1 h1 =>
  aSp r n x2 x3 x4 x7 x8 x27 v1 h1
noncomputable def aSo (r : RT) (n : Nat) (x2 x3 x4 x7 x8 : DV) (h0 : Hp) : aH :=
 bnd (aB 0 x4 h0) fun v1 h1 =>
 bnd (aA v1 h1) fun v2 h2 =>
  aSq r n x2 x3 x4 x7 x8 v2 h2
noncomputable def aUw (r : RT) (n : Nat) (x2 x3 x4 x7 : DV) (h0 : Hp) : aH :=
 bnd (gD x7 true (aB 4 x3 h0) h0) fun v1 h1 =>
 bnd (gD x7 true (aA v1 h1) h1) fun v2 h2 =>
 bnd (gD x7 true (aB 1 x4 h2) h2) fun v3 h3 =>
 bnd (gD x7 true (aA v3 h3) h3) fun v4 h4 =>
 bnd (gD x7 true (aJ 4 v2 v4 h4) h4) fun v5 h5 =>
 bnd (gD x7 true (aB 0 v5 h5) h5) fun v6 h6 =>
 bnd (gD x7 true (aA v6 h6) h6) fun v7 h7 =>
 bnd (gD x7 true (aD .eql v7 (aE 3) h7) h7) fun v8 h8 =>
 bnd (aR x7 v8 (.b false) h8) fun v9 h9 =>
  aSo r n x2 x3 x4 x7 v9 h9
noncomputable def zH (r : RT) (n : Nat) (x2 x3 x4 : DV) (h0 : Hp) : aH :=
 bnd (aB 1 x4 h0) fun v1 h1 =>
 bnd (aA v1 h1) fun v2 h2 =>
 bnd (aB 4 x3 h2) fun v3 h3 =>
 bnd (aA v3 h3) fun v4 h4 =>
 bnd (cA v4 h4) fun v5 h5 =>
 bnd (aD .lss v2 v5 h5) fun v6 h6 =>
  aUw r n x2 x3 x4 v6 h6
noncomputable def s172 (r : RT) (n : Nat) (x0 x1 x2 : DV) (h0 : Hp) : aH :=
 bnd (bR x0 h0) fun v1 h1 =>
 bnd (bR x1 h1) fun v2 h2 =>
  zH r n x2 v1 v2 h2
noncomputable abbrev c172 : Code := cf Tryz.f172
noncomputable abbrev aFg : Code := cR c172
noncomputable abbrev aKl : Code := cR aFg
noncomputable abbrev aIe : Code := cR aKl
noncomputable abbrev dCm : Code := cR aIe
noncomputable abbrev xB : Code := cL aIe
noncomputable abbrev aPz : Code := cR xB
noncomputable abbrev aKd : Code := cL aPz
noncomputable abbrev yE : Code := cR aKd
noncomputable abbrev yB : Code := cR yE
noncomputable abbrev pB : Code := cR yB
noncomputable abbrev pC : Code := cR pB
noncomputable abbrev qD : Code := cR pC
noncomputable abbrev qC : Code := cR qD
noncomputable abbrev pT : Code := cR qC
noncomputable abbrev oW : Code := cR pT
noncomputable abbrev cRi : Code := cR oW
noncomputable abbrev bCt : Code := cL oW
noncomputable abbrev cOh : Code := cL pT
noncomputable abbrev aWq : Code := cL qC
noncomputable abbrev cJd : Code := cL qD
noncomputable abbrev bCr : Code := cL pC
noncomputable abbrev cLu : Code := cL pB
noncomputable abbrev bAm : Code := cL yB
noncomputable abbrev cHp : Code := cL yE
noncomputable abbrev aZl : Code := cL aKd
noncomputable abbrev aYs : Code := cL xB
noncomputable abbrev bCb : Code := cL aKl
noncomputable abbrev aXq : Code := cL aFg
noncomputable abbrev aBo : Code := cL c172
noncomputable abbrev r172 : K := aP CF Tryz.f172
noncomputable def D172 (r : RT) (n : Nat) (c : Code) (X : Nat → K) (k : K) : K := aN CF r 73 n c X r172 k
theorem cMo : D172 r n dCm x0 r172 = (K0 (bD r n)) :=
 (by kernel_rfl)
theorem bYh : D172 r n cRi (xs x0 0 (K0 (bD r n))) (K0 (bD r n)) = (K5 (uY r n) 2 3 4 27 51) :=
 (by kernel_rfl)
theorem bEr : D172 r n oW (xs x0 0 (K0 (bD r n))) (K0 (bD r n)) = D172 r n bCt (xs x0 0 (K0 (bD r n))) (K5 (uY r n) 2 3 4 27 51) :=
 congrArg (fun k => D172 r n bCt (xs x0 0 (K0 (bD r n))) k) (bYh r n)
theorem bPo : D172 r n oW (xs x0 0 (K0 (bD r n))) (K0 (bD r n)) = (K4 (aXv r n) 2 3 4 27) :=
 (bEr r n).trans
 ((by kernel_rfl))
theorem cCb : D172 r n pT (xs x0 0 (K0 (bD r n))) (K0 (bD r n)) = (K5 (tR r n) 2 3 4 27 43) :=
 (by kernel_rfl : D172 r n pT (xs x0 0 (K0 (bD r n))) (K0 (bD r n)) = (fun (env : aV) (h : Hp) => aT (opr env (cC pT)) (D172 r n cOh (xs x0 0 (K0 (bD r n))) (K0 (bD r n)) env h) (D172 r n oW (xs x0 0 (K0 (bD r n))) (K0 (bD r n)) env h))).trans (by rw [bPo r n]; kernel_rfl)
theorem bHz : D172 r n qC (xs x0 0 (K0 (bD r n))) (K0 (bD r n)) = D172 r n aWq (xs x0 0 (K0 (bD r n))) (K5 (tR r n) 2 3 4 27 43) :=
 congrArg (fun k => D172 r n aWq (xs x0 0 (K0 (bD r n))) k) (cCb r n)
theorem bTh : D172 r n qC (xs x0 0 (K0 (bD r n))) (K0 (bD r n)) = (K4 (bDb r n) 2 3 4 27) :=
 (bHz r n).trans
 ((by kernel_rfl))
theorem bNt : D172 r n qD (xs x0 0 (K0 (bD r n))) (K0 (bD r n)) = (K6 (tA r n) 2 3 4 8 27 34) :=
 (by kernel_rfl : D172 r n qD (xs x0 0 (K0 (bD r n))) (K0 (bD r n)) = (fun (env : aV) (h : Hp) => aT (opr env (cC qD)) (D172 r n cJd (xs x0 0 (K0 (bD r n))) (K0 (bD r n)) env h) (D172 r n qC (xs x0 0 (K0 (bD r n))) (K0 (bD r n)) env h))).trans (by rw [bTh r n]; kernel_rfl)
theorem bVy : D172 r n pC (xs x0 0 (K0 (bD r n))) (K0 (bD r n)) = D172 r n bCr (xs x0 0 (K0 (bD r n))) (K6 (tA r n) 2 3 4 8 27 34) :=
 congrArg (fun k => D172 r n bCr (xs x0 0 (K0 (bD r n))) k) (bNt r n)
theorem cEw : D172 r n pC (xs x0 0 (K0 (bD r n))) (K0 (bD r n)) = (K5 (bTb r n) 2 3 4 8 27) :=
 (bVy r n).trans
 ((by kernel_rfl))
theorem cQz : D172 r n pB (xs x0 0 (K0 (bD r n))) (K0 (bD r n)) = (K6 (aVp r n) 2 3 4 8 27 31) :=
 (by kernel_rfl : D172 r n pB (xs x0 0 (K0 (bD r n))) (K0 (bD r n)) = (fun (env : aV) (h : Hp) => aT (opr env (cC pB)) (D172 r n cLu (xs x0 0 (K0 (bD r n))) (K0 (bD r n)) env h) (D172 r n pC (xs x0 0 (K0 (bD r n))) (K0 (bD r n)) env h))).trans (by rw [cEw r n]; kernel_rfl)
theorem cDu : D172 r n yB (xs x0 0 (K0 (bD r n))) (K0 (bD r n)) = D172 r n bAm (xs x0 0 (K0 (bD r n))) (K6 (aVp r n) 2 3 4 8 27 31) :=
 congrArg (fun k => D172 r n bAm (xs x0 0 (K0 (bD r n))) k) (cQz r n)
theorem cQv : D172 r n yB (xs x0 0 (K0 (bD r n))) (K0 (bD r n)) = (K5 (bKf r n) 2 3 4 8 27) :=
 (cDu r n).trans
 ((by kernel_rfl))
theorem cRb : D172 r n yE (xs x0 0 (K0 (bD r n))) (K0 (bD r n)) = (K7 (aSp r n) 2 3 4 7 8 27 28) :=
 (by kernel_rfl : D172 r n yE (xs x0 0 (K0 (bD r n))) (K0 (bD r n)) = (fun (env : aV) (h : Hp) => aT (opr env (cC yE)) (D172 r n cHp (xs x0 0 (K0 (bD r n))) (K0 (bD r n)) env h) (D172 r n yB (xs x0 0 (K0 (bD r n))) (K0 (bD r n)) env h))).trans (by rw [cQv r n]; kernel_rfl)
theorem bVi : D172 r n aKd (xs x0 0 (K0 (bD r n))) (K0 (bD r n)) = D172 r n aZl (xs x0 0 (K0 (bD r n))) (K7 (aSp r n) 2 3 4 7 8 27 28) :=
 congrArg (fun k => D172 r n aZl (xs x0 0 (K0 (bD r n))) k) (cRb r n)
theorem cQt : D172 r n aPz x0 (K0 (bD r n)) = (K6 (aSq r n) 2 3 4 7 8 27) :=
 (by kernel_rfl : D172 r n aPz x0 (K0 (bD r n)) = D172 r n aKd (xs x0 0 (K0 (bD r n))) (K0 (bD r n))).trans
 ((bVi r n).trans
 ((by kernel_rfl)))
theorem bKs : D172 r n aIe x0 r172 = D172 r n xB x0 (K0 (bD r n)) :=
 congrArg (fun k => D172 r n xB x0 k) (cMo r n)
theorem bWk : D172 r n xB x0 (K0 (bD r n)) = D172 r n aYs x0 (K6 (aSq r n) 2 3 4 7 8 27) :=
 congrArg (fun k => D172 r n aYs x0 k) (cQt r n)
theorem cIp : D172 r n aIe x0 r172 = (K5 (aSo r n) 2 3 4 7 8) :=
 (bKs r n).trans
 ((bWk r n).trans
 ((by kernel_rfl)))
theorem bZu : D172 r n aKl x0 r172 = D172 r n bCb x0 (K5 (aSo r n) 2 3 4 7 8) :=
 congrArg (fun k => D172 r n bCb x0 k) (cIp r n)
theorem cNi : D172 r n aKl x0 r172 = (K4 (aUw r n) 2 3 4 7) :=
 (bZu r n).trans
 ((by kernel_rfl))
theorem bXa : D172 r n aFg x0 r172 = D172 r n aXq x0 (K4 (aUw r n) 2 3 4 7) :=
 congrArg (fun k => D172 r n aXq x0 k) (cNi r n)
theorem cHw : D172 r n aFg x0 r172 = (K3 (zH r n) 2 3 4) :=
 (bXa r n).trans
 ((by kernel_rfl))
theorem cQm : D172 r n c172 x0 r172 = D172 r n aBo x0 (K3 (zH r n) 2 3 4) :=
 congrArg (fun k => D172 r n aBo x0 k) (cHw r n)
theorem cTa (q0 : nA) : D172 r n aBo x0 (K3 q0 2 3 4) = fun (env : aV) (h : Hp) =>
 bnd (bR (env 0) h) fun v1 h1 =>
 bnd (bR (env 1) h1) fun v2 h2 =>
  q0 (env 2) v1 v2 h2 := by kernel_rfl
theorem bXi : (fun (env : aV) (h : Hp) =>
 bnd (bR (env 0) h) fun v1 h1 =>
 bnd (bR (env 1) h1) fun v2 h2 =>
  zH r n (env 2) v1 v2 h2) = (K3 (s172 r n) 0 1 2) := by kernel_rfl
theorem dPd : D172 r n c172 x0 r172 = (K3 (s172 r n) 0 1 2) :=
 (cQm r n).trans
 ((cTa r n (zH r n)).trans (bXi r n))
theorem dBg : aF CF r n 172 args h = s172 r n (aU args 0) (aU args 1) (aU args 2) h :=
 (by kernel_rfl : aF CF r n 172 args h = D172 r n c172 x0 r172 (aI args) h).trans ((congrFun (congrFun (dPd r n) (aI args)) h).trans (by kernel_rfl))
noncomputable def eP (r : RT) (n : Nat) (x3 : DV) (h0 : Hp) : aH :=
 some (x3, h0)
noncomputable def aZc (r : RT) (n : Nat) (kk6 : dM) (x3 x4 x11 x12 : DV) (h0 : Hp) : aH :=
 bnd (aD .lss x12 x11 h0) fun v1 h1 =>
 aT v1 (
 bnd (cZ CF r x4 [x12] h1) fun v2 h2 =>
 bnd (aJ 1 x3 x12 h2) fun v3 h3 =>
 bnd (aG 1 v3 v2 h3) fun _ h4 =>
 bnd (aD .add x12 (aE 1) h4) fun v5 h5 =>
      kk6 x3 x4 x11 v5 h5) (
      eP r n x3 h1)
noncomputable def vE (r : RT) (n : Nat) (m : Nat) : dM :=
 Nat.rec (motive := fun _ => dM) (fun _ _ _ _ _ => none) (fun _ ih => aZc r n ih) m
noncomputable def bTj (r : RT) (n : Nat) : dM := vE r n n
noncomputable def aSx (r : RT) (n : Nat) (x3 x4 x11 x12 : DV) (h0 : Hp) : aH :=
 bTj r n x3 x4 x11 x12 h0
noncomputable def aQk (r : RT) (n : Nat) (x1 x3 x4 : DV) (h0 : Hp) : aH :=
 bnd (aA x1 h0) fun v1 h1 =>
 bnd (cA v1 h1) fun v2 h2 =>
  aSx r n x3 x4 v2 (aE 0) h2
noncomputable def zZ (r : RT) (n : Nat) (x1 x3 : DV) (h0 : Hp) : aH :=
 aQk r n x1 x3 (.f 200 [] [x1]) h0
noncomputable def qO (r : RT) (n : Nat) (x1 : DV) (h0 : Hp) : aH :=
 bnd (aA x1 h0) fun v1 h1 =>
 bnd (cA v1 h1) fun v2 h2 =>
 bnd (cN 1 8 [(aE 0)] v2 v2 h2) fun v3 h3 =>
  zZ r n x1 v3 h3
noncomputable def s173 (r : RT) (n : Nat) (x0 : DV) (h0 : Hp) : aH :=
 bnd (bR x0 h0) fun v1 h1 =>
  qO r n v1 h1
noncomputable abbrev c173 : Code := cf Tryz.f173
noncomputable abbrev aGl : Code := cR c173
noncomputable abbrev aKf : Code := cR aGl
noncomputable abbrev aEo : Code := cR aKf
noncomputable abbrev cZd : Code := cR aEo
noncomputable abbrev xL : Code := cL aEo
noncomputable abbrev aPa : Code := cR xL
noncomputable abbrev aIb : Code := cL aPa
noncomputable abbrev oI : Code := cL aIb
noncomputable abbrev bPp : Code := cL xL
noncomputable abbrev aWk : Code := cL aKf
noncomputable abbrev aGi : Code := cL aGl
noncomputable abbrev aBt : Code := cL c173
noncomputable abbrev r173 : K := aP CF Tryz.f173
noncomputable def D173 (r : RT) (n : Nat) (c : Code) (X : Nat → K) (k : K) : K := aN CF r 23 n c X r173 k
theorem cLy : D173 r n cZd x0 r173 = (K1 (eP r n) 3) :=
 (by kernel_rfl)
theorem cBr (kk6 : dM) : D173 r n oI (xs x0 0 (K1 (eP r n) 3)) (K4 kk6 3 4 11 12) = (K4 (aZc r n kk6) 3 4 11 12) :=
 (by kernel_rfl)
theorem bJl (m : Nat) : aM (fun kk => D173 r n oI (xs x0 0 (K1 (eP r n) 3)) kk) m = (K4 (vE r n m) 3 4 11 12) := by
 induction m with
 | zero => exact (by kernel_rfl : aM (fun kk => D173 r n oI (xs x0 0 (K1 (eP r n) 3)) kk) 0 = (K4 (vE r n 0) 3 4 11 12))
 | succ m ih =>
  refine (by kernel_rfl : aM (fun kk => D173 r n oI (xs x0 0 (K1 (eP r n) 3)) kk) (m + 1) = D173 r n oI (xs x0 0 (K1 (eP r n) 3)) (aM (fun kk => D173 r n oI (xs x0 0 (K1 (eP r n) 3)) kk) m)).trans ?_
  rw [ih]
  exact (cBr r n (vE r n m)).trans (by kernel_rfl)
theorem cJr : D173 r n aIb (xs x0 0 (K1 (eP r n) 3)) (K1 (eP r n) 3) = (K4 (bTj r n) 3 4 11 12) :=
 (by kernel_rfl : D173 r n aIb (xs x0 0 (K1 (eP r n) 3)) (K1 (eP r n) 3) = aM (fun kk => D173 r n oI (xs x0 0 (K1 (eP r n) 3)) kk) n).trans ((bJl r n n).trans (by kernel_rfl))
theorem cEz : D173 r n aPa x0 (K1 (eP r n) 3) = (K4 (aSx r n) 3 4 11 12) :=
 (by kernel_rfl : D173 r n aPa x0 (K1 (eP r n) 3) = D173 r n aIb (xs x0 0 (K1 (eP r n) 3)) (K1 (eP r n) 3)).trans
 ((cJr r n).trans (by kernel_rfl))
theorem bLw : D173 r n aEo x0 r173 = D173 r n xL x0 (K1 (eP r n) 3) :=
 congrArg (fun k => D173 r n xL x0 k) (cLy r n)
theorem bQz : D173 r n xL x0 (K1 (eP r n) 3) = D173 r n bPp x0 (K4 (aSx r n) 3 4 11 12) :=
 congrArg (fun k => D173 r n bPp x0 k) (cEz r n)
theorem cUh : D173 r n aEo x0 r173 = (K3 (aQk r n) 1 3 4) :=
 (bLw r n).trans
 ((bQz r n).trans
 ((by kernel_rfl)))
theorem bSe : D173 r n aKf x0 r173 = D173 r n aWk x0 (K3 (aQk r n) 1 3 4) :=
 congrArg (fun k => D173 r n aWk x0 k) (cUh r n)
theorem cQk : D173 r n aKf x0 r173 = (K2 (zZ r n) 1 3) :=
 (bSe r n).trans
 ((by kernel_rfl))
theorem cBe : D173 r n aGl x0 r173 = D173 r n aGi x0 (K2 (zZ r n) 1 3) :=
 congrArg (fun k => D173 r n aGi x0 k) (cQk r n)
theorem bRh (q0 : gO) : D173 r n aGi x0 (K2 q0 1 3) = fun (env : aV) (h : Hp) =>
 bnd (aA (env 1) h) fun v1 h1 =>
 bnd (cA v1 h1) fun v2 h2 =>
 bnd (cN 1 8 [(aE 0)] v2 v2 h2) fun v3 h3 =>
  q0 (env 1) v3 h3 := by kernel_rfl
theorem bHu : (fun (env : aV) (h : Hp) =>
 bnd (aA (env 1) h) fun v1 h1 =>
 bnd (cA v1 h1) fun v2 h2 =>
 bnd (cN 1 8 [(aE 0)] v2 v2 h2) fun v3 h3 =>
  zZ r n (env 1) v3 h3) = (K1 (qO r n) 1) := by kernel_rfl
theorem cLg : D173 r n aGl x0 r173 = (K1 (qO r n) 1) :=
 (cBe r n).trans
 ((bRh r n (zZ r n)).trans (bHu r n))
theorem cWv : D173 r n c173 x0 r173 = D173 r n aBt x0 (K1 (qO r n) 1) :=
 congrArg (fun k => D173 r n aBt x0 k) (cLg r n)
theorem dBv (q0 : TT1) : D173 r n aBt x0 (K1 q0 1) = fun (env : aV) (h : Hp) =>
 bnd (bR (env 0) h) fun v1 h1 =>
  q0 v1 h1 := by kernel_rfl
theorem cRq : (fun (env : aV) (h : Hp) =>
 bnd (bR (env 0) h) fun v1 h1 =>
  qO r n v1 h1) = (K1 (s173 r n) 0) := by kernel_rfl
theorem dKb : D173 r n c173 x0 r173 = (K1 (s173 r n) 0) :=
 (cWv r n).trans
 ((dBv r n (qO r n)).trans (cRq r n))
theorem cWr : aF CF r n 173 args h = s173 r n (aU args 0) h :=
 (by kernel_rfl : aF CF r n 173 args h = D173 r n c173 x0 r173 (aI args) h).trans ((congrFun (congrFun (dKb r n) (aI args)) h).trans (by kernel_rfl))
noncomputable def bH (r : RT) (n : Nat) (h0 : Hp) : aH :=
 some ((.b true), h0)
noncomputable def cI (r : RT) (n : Nat) (kk4 : cG) (x0 x1 x11 x12 x13 : DV) (h0 : Hp) : aH :=
 bnd (aD .add x13 (aE 1) h0) fun v1 h1 =>
  kk4 x0 x1 x11 x12 v1 h1
noncomputable def fX (r : RT) (n : Nat) (kk4 : cG) (x0 x1 x5 x6 x11 x12 x13 : DV) (h0 : Hp) : aH :=
 bnd (aK 3 x6 h0) fun v1 h1 =>
 bnd (r 202 [v1] h1) fun v2 h2 =>
 bnd (aD .geq v2 (aE 0) h2) fun v3 h3 =>
 bnd (gD v3 true (some (v2, h3)) h3) fun v4 h4 =>
 bnd (gD v3 true (some (x0, h4)) h4) fun v5 h5 =>
 bnd (gD v3 true (cA v5 h5) h5) fun v6 h6 =>
 bnd (gD v3 true (aD .geq v4 v6 h6) h6) fun v7 h7 =>
 bnd (gD v3 true (some (v7, h7)) h7) fun v8 h8 =>
 bnd (gD v8 false (some (x1, h8)) h8) fun v9 h9 =>
 bnd (gD v8 false (some (v2, h9)) h9) fun v10 h10 =>
 bnd (gD v8 false (aJ 1 v9 v10 h10) h10) fun v11 h11 =>
 bnd (gD v8 false (aA v11 h11) h11) fun v12 h12 =>
 bnd (gD v8 false (some (x1, h12)) h12) fun v13 h13 =>
 bnd (gD v8 false (some (x5, h13)) h13) fun v14 h14 =>
 bnd (gD v8 false (aJ 1 v13 v14 h14) h14) fun v15 h15 =>
 bnd (gD v8 false (aA v15 h15) h15) fun v16 h16 =>
 bnd (gD v8 false (aD .neq v12 v16 h16) h16) fun v17 h17 =>
 bnd (gD v3 true (aR v8 (.b true) v17 h17) h17) fun v18 h18 =>
 bnd (aR v3 v18 (.b false) h18) fun v19 h19 =>
 aT v19 (
 some ((.b false), h19)) (
  cI r n kk4 x0 x1 x11 x12 x13 h19)
noncomputable def tO (r : RT) (n : Nat) (kk4 : cG) (x0 x1 x5 x6 x7 x8 x9 x11 x12 x13 : DV) (h0 : Hp) : aH :=
 bnd (hY .not x8 h0) fun v1 h1 =>
 bnd (gD v1 false (some (x7, h1)) h1) fun v2 h2 =>
 bnd (gD v1 false (some (x9, h2)) h2) fun v3 h3 =>
 bnd (gD v1 false (aD .gtr v2 v3 h3) h3) fun v4 h4 =>
 bnd (aR v1 (.b true) v4 h4) fun v5 h5 =>
 aT v5 (
 some ((.b false), h5)) (
  fX r n kk4 x0 x1 x5 x6 x11 x12 x13 h5)
noncomputable def aDn (r : RT) (n : Nat) (kk4 : cG) (x0 x1 x5 x6 x7 x8 x9 x11 x12 x13 : DV) (h0 : Hp) : aH :=
 bnd (aJ 1 x1 x5 h0) fun v1 h1 =>
 bnd (aA v1 h1) fun v2 h2 =>
 bnd (aD .geq v2 (aE 0) h2) fun v3 h3 =>
 aT v3 (
 bnd (aJ 1 x1 x5 h3) fun v4 h4 =>
 bnd (aA v4 h4) fun v5 h5 =>
 bnd (r 201 [x0, v5] h5) fun v6 h6 =>
 bnd (aC 0 v6 h6) fun v7 h7 =>
 bnd (aC 1 v6 h7) fun v8 h8 =>
  tO r n kk4 x0 x1 x5 x6 x7 x8 v7 x11 x12 x13 h8) (
  tO r n kk4 x0 x1 x5 x6 x7 x8 x9 x11 x12 x13 h3)
noncomputable def aDv (r : RT) (n : Nat) (kk4 : cG) (x0 x1 x5 x6 x7 x8 x11 x12 x13 : DV) (h0 : Hp) : aH :=
 bnd (cA x0 h0) fun v1 h1 =>
  aDn r n kk4 x0 x1 x5 x6 x7 x8 v1 x11 x12 x13 h1
noncomputable def aXo (r : RT) (n : Nat) (kk4 : cG) (x0 x1 x5 x6 x11 x12 x13 : DV) (h0 : Hp) : aH :=
 bnd (r 201 [x0, x5] h0) fun v1 h1 =>
 bnd (aC 0 v1 h1) fun v2 h2 =>
 bnd (aC 1 v1 h2) fun v3 h3 =>
  aDv r n kk4 x0 x1 x5 x6 v2 v3 x11 x12 x13 h3
noncomputable def aKc (r : RT) (n : Nat) (kk4 : cG) (x0 x1 x5 x6 x11 x12 x13 x20 : DV) (h0 : Hp) : aH :=
 aT x20 (
  aXo r n kk4 x0 x1 x5 x6 x11 x12 x13 h0) (
  fX r n kk4 x0 x1 x5 x6 x11 x12 x13 h0)
noncomputable def vR (r : RT) (n : Nat) (kk4 : cG) (x0 x1 x5 x6 x11 x12 x13 : DV) (h0 : Hp) : aH :=
 bnd (aB 0 x6 h0) fun v1 h1 =>
 bnd (aA v1 h1) fun v2 h2 =>
 bnd (aD .eql v2 (aE 18) h2) fun v3 h3 =>
  aKc r n kk4 x0 x1 x5 x6 x11 x12 x13 v3 h3
noncomputable def aHq (r : RT) (n : Nat) (kk4 : cG) (x0 x1 x11 x12 x13 : DV) (h0 : Hp) : aH :=
 bnd (aJ 3 x11 x13 h0) fun v1 h1 =>
 bnd (aK 3 v1 h1) fun v2 h2 =>
 bnd (bN [(aE 0), (aE 0), (aE 0)] h2) fun v3 h3 =>
 bnd (aG 3 v3 v2 h3) fun _ h4 =>
  vR r n kk4 x0 x1 x13 v3 x11 x12 x13 h4
noncomputable def aRw (r : RT) (n : Nat) (kk4 : cG) (x0 x1 x11 x12 x13 x14 : DV) (h0 : Hp) : aH :=
 aT x14 (
  aHq r n kk4 x0 x1 x11 x12 x13 h0) (
  bH r n h0)
noncomputable def bCf (r : RT) (n : Nat) (kk4 : cG) (x0 x1 x11 x12 x13 : DV) (h0 : Hp) : aH :=
 bnd (aD .lss x13 x12 h0) fun v1 h1 =>
  aRw r n kk4 x0 x1 x11 x12 x13 v1 h1
noncomputable def uH (r : RT) (n : Nat) (m : Nat) : cG :=
 Nat.rec (motive := fun _ => cG) (fun _ _ _ _ _ _ => none) (fun _ ih => bCf r n ih) m
noncomputable def bLz (r : RT) (n : Nat) : cG := uH r n n
noncomputable def aPe (r : RT) (n : Nat) (x0 x1 x11 x12 x13 : DV) (h0 : Hp) : aH :=
 bLz r n x0 x1 x11 x12 x13 h0
noncomputable def aUj (r : RT) (n : Nat) (x0 x1 : DV) (h0 : Hp) : aH :=
 bnd (cA x0 h0) fun v1 h1 =>
  aPe r n x0 x1 x0 v1 (aE 0) h1
noncomputable def s174 (r : RT) (n : Nat) (x0 x1 : DV) (h0 : Hp) : aH :=
 aUj r n x0 x1 h0
noncomputable abbrev c174 : Code := cf Tryz.f174
noncomputable abbrev aJb : Code := cR c174
noncomputable abbrev cWz : Code := cR aJb
noncomputable abbrev wK : Code := cL aJb
noncomputable abbrev aTo : Code := cR wK
noncomputable abbrev aHl : Code := cL aTo
noncomputable abbrev kC : Code := cL aHl
noncomputable abbrev aGy : Code := cR kC
noncomputable abbrev aJc : Code := cR aGy
noncomputable abbrev dDj : Code := cR aJc
noncomputable abbrev uM : Code := cL aJc
noncomputable abbrev tD : Code := cL uM
noncomputable abbrev uR : Code := cR tD
noncomputable abbrev cMc : Code := cR uR
noncomputable abbrev pS : Code := cL uR
noncomputable abbrev pV : Code := cR pS
noncomputable abbrev pU : Code := cL pV
noncomputable abbrev uZ : Code := cR pU
noncomputable abbrev vA : Code := cR uZ
noncomputable abbrev cNd : Code := cR vA
noncomputable abbrev bBn : Code := cL vA
noncomputable abbrev aZo : Code := cL uZ
noncomputable abbrev aXd : Code := cL pU
noncomputable abbrev cSv : Code := cR pV
noncomputable abbrev bBc : Code := cL pS
noncomputable abbrev aBs : Code := cL tD
noncomputable abbrev bAs : Code := cL aGy
noncomputable abbrev aWn : Code := cL kC
noncomputable abbrev aYy : Code := cL wK
noncomputable abbrev aVx : Code := cL c174
noncomputable abbrev r174 : K := aP CF Tryz.f174
noncomputable def D174 (r : RT) (n : Nat) (c : Code) (X : Nat → K) (k : K) : K := aN CF r 72 n c X r174 k
theorem cPk : D174 r n cWz x0 r174 = (K0 (bH r n)) :=
 (by kernel_rfl)
theorem cKl (kk4 : cG) : D174 r n dDj (xs x0 0 (K0 (bH r n))) (K5 kk4 0 1 11 12 13) = (K5 (cI r n kk4) 0 1 11 12 13) :=
 (by kernel_rfl)
theorem cKd (kk4 : cG) : D174 r n cMc (xs (xs x0 0 (K0 (bH r n))) 1 (K5 (cI r n kk4) 0 1 11 12 13)) (K5 (cI r n kk4) 0 1 11 12 13) = (K7 (fX r n kk4) 0 1 5 6 11 12 13) :=
 (by kernel_rfl)
theorem bZb (kk4 : cG) : D174 r n cNd (xs (xs x0 0 (K0 (bH r n))) 1 (K5 (cI r n kk4) 0 1 11 12 13)) (K7 (fX r n kk4) 0 1 5 6 11 12 13) = (K10 (tO r n kk4) 0 1 5 6 7 8 9 11 12 13) :=
 (by kernel_rfl)
theorem bEl (kk4 : cG) : D174 r n vA (xs (xs x0 0 (K0 (bH r n))) 1 (K5 (cI r n kk4) 0 1 11 12 13)) (K7 (fX r n kk4) 0 1 5 6 11 12 13) = D174 r n bBn (xs (xs x0 0 (K0 (bH r n))) 1 (K5 (cI r n kk4) 0 1 11 12 13)) (K10 (tO r n kk4) 0 1 5 6 7 8 9 11 12 13) :=
 congrArg (fun k => D174 r n bBn (xs (xs x0 0 (K0 (bH r n))) 1 (K5 (cI r n kk4) 0 1 11 12 13)) k) (bZb r n kk4)
theorem bPb (kk4 : cG) : D174 r n vA (xs (xs x0 0 (K0 (bH r n))) 1 (K5 (cI r n kk4) 0 1 11 12 13)) (K7 (fX r n kk4) 0 1 5 6 11 12 13) = (K10 (aDn r n kk4) 0 1 5 6 7 8 9 11 12 13) :=
 (bEl r n kk4).trans
 ((by kernel_rfl))
theorem bEu (kk4 : cG) : D174 r n uZ (xs (xs x0 0 (K0 (bH r n))) 1 (K5 (cI r n kk4) 0 1 11 12 13)) (K7 (fX r n kk4) 0 1 5 6 11 12 13) = D174 r n aZo (xs (xs x0 0 (K0 (bH r n))) 1 (K5 (cI r n kk4) 0 1 11 12 13)) (K10 (aDn r n kk4) 0 1 5 6 7 8 9 11 12 13) :=
 congrArg (fun k => D174 r n aZo (xs (xs x0 0 (K0 (bH r n))) 1 (K5 (cI r n kk4) 0 1 11 12 13)) k) (bPb r n kk4)
theorem bUj (kk4 : cG) : D174 r n uZ (xs (xs x0 0 (K0 (bH r n))) 1 (K5 (cI r n kk4) 0 1 11 12 13)) (K7 (fX r n kk4) 0 1 5 6 11 12 13) = (K9 (aDv r n kk4) 0 1 5 6 7 8 11 12 13) :=
 (bEu r n kk4).trans
 ((by kernel_rfl))
theorem bEe (kk4 : cG) : D174 r n pU (xs (xs x0 0 (K0 (bH r n))) 1 (K5 (cI r n kk4) 0 1 11 12 13)) (K7 (fX r n kk4) 0 1 5 6 11 12 13) = D174 r n aXd (xs (xs x0 0 (K0 (bH r n))) 1 (K5 (cI r n kk4) 0 1 11 12 13)) (K9 (aDv r n kk4) 0 1 5 6 7 8 11 12 13) :=
 congrArg (fun k => D174 r n aXd (xs (xs x0 0 (K0 (bH r n))) 1 (K5 (cI r n kk4) 0 1 11 12 13)) k) (bUj r n kk4)
theorem bMp (kk4 : cG) : D174 r n pU (xs (xs x0 0 (K0 (bH r n))) 1 (K5 (cI r n kk4) 0 1 11 12 13)) (K7 (fX r n kk4) 0 1 5 6 11 12 13) = (K7 (aXo r n kk4) 0 1 5 6 11 12 13) :=
 (bEe r n kk4).trans
 ((by kernel_rfl))
theorem bNh (kk4 : cG) : D174 r n pV (xs (xs x0 0 (K0 (bH r n))) 1 (K5 (cI r n kk4) 0 1 11 12 13)) (K7 (fX r n kk4) 0 1 5 6 11 12 13) = (K8 (aKc r n kk4) 0 1 5 6 11 12 13 20) :=
 (by kernel_rfl : D174 r n pV (xs (xs x0 0 (K0 (bH r n))) 1 (K5 (cI r n kk4) 0 1 11 12 13)) (K7 (fX r n kk4) 0 1 5 6 11 12 13) = (fun (env : aV) (h : Hp) => aT (opr env (cC pV)) (D174 r n pU (xs (xs x0 0 (K0 (bH r n))) 1 (K5 (cI r n kk4) 0 1 11 12 13)) (K7 (fX r n kk4) 0 1 5 6 11 12 13) env h) (D174 r n cSv (xs (xs x0 0 (K0 (bH r n))) 1 (K5 (cI r n kk4) 0 1 11 12 13)) (K7 (fX r n kk4) 0 1 5 6 11 12 13) env h))).trans (by rw [bMp r n kk4]; kernel_rfl)
theorem bZz (kk4 : cG) : D174 r n uR (xs (xs x0 0 (K0 (bH r n))) 1 (K5 (cI r n kk4) 0 1 11 12 13)) (K5 (cI r n kk4) 0 1 11 12 13) = D174 r n pS (xs (xs x0 0 (K0 (bH r n))) 1 (K5 (cI r n kk4) 0 1 11 12 13)) (K7 (fX r n kk4) 0 1 5 6 11 12 13) :=
 congrArg (fun k => D174 r n pS (xs (xs x0 0 (K0 (bH r n))) 1 (K5 (cI r n kk4) 0 1 11 12 13)) k) (cKd r n kk4)
theorem cEa (kk4 : cG) : D174 r n pS (xs (xs x0 0 (K0 (bH r n))) 1 (K5 (cI r n kk4) 0 1 11 12 13)) (K7 (fX r n kk4) 0 1 5 6 11 12 13) = D174 r n bBc (xs (xs x0 0 (K0 (bH r n))) 1 (K5 (cI r n kk4) 0 1 11 12 13)) (K8 (aKc r n kk4) 0 1 5 6 11 12 13 20) :=
 congrArg (fun k => D174 r n bBc (xs (xs x0 0 (K0 (bH r n))) 1 (K5 (cI r n kk4) 0 1 11 12 13)) k) (bNh r n kk4)
theorem cRp (kk4 : cG) : D174 r n uR (xs (xs x0 0 (K0 (bH r n))) 1 (K5 (cI r n kk4) 0 1 11 12 13)) (K5 (cI r n kk4) 0 1 11 12 13) = (K7 (vR r n kk4) 0 1 5 6 11 12 13) :=
 (bZz r n kk4).trans
 ((cEa r n kk4).trans
 ((by kernel_rfl)))
theorem bSg (kk4 : cG) : D174 r n aJc (xs x0 0 (K0 (bH r n))) (K5 kk4 0 1 11 12 13) = D174 r n uM (xs x0 0 (K0 (bH r n))) (K5 (cI r n kk4) 0 1 11 12 13) :=
 congrArg (fun k => D174 r n uM (xs x0 0 (K0 (bH r n))) k) (cKl r n kk4)
theorem bOh (kk4 : cG) : D174 r n tD (xs (xs x0 0 (K0 (bH r n))) 1 (K5 (cI r n kk4) 0 1 11 12 13)) (K5 (cI r n kk4) 0 1 11 12 13) = D174 r n aBs (xs (xs x0 0 (K0 (bH r n))) 1 (K5 (cI r n kk4) 0 1 11 12 13)) (K7 (vR r n kk4) 0 1 5 6 11 12 13) :=
 congrArg (fun k => D174 r n aBs (xs (xs x0 0 (K0 (bH r n))) 1 (K5 (cI r n kk4) 0 1 11 12 13)) k) (cRp r n kk4)
theorem bJa (kk4 : cG) (q0 : TT7) (q1 : Hp → aH) (q2 : cG) : D174 r n aBs (xs (xs x0 0 (K0 q1)) 1 (K5 q2 0 1 11 12 13)) (K7 q0 0 1 5 6 11 12 13) = fun (env : aV) (h : Hp) =>
 bnd (aJ 3 (env 11) (env 13) h) fun v1 h1 =>
 bnd (aK 3 v1 h1) fun v2 h2 =>
 bnd (bN [(aE 0), (aE 0), (aE 0)] h2) fun v3 h3 =>
 bnd (aG 3 v3 v2 h3) fun _ h4 =>
  q0 (env 0) (env 1) (env 13) v3 (env 11) (env 12) (env 13) h4 := by kernel_rfl
theorem bHo (kk4 : cG) : (fun (env : aV) (h : Hp) =>
 bnd (aJ 3 (env 11) (env 13) h) fun v1 h1 =>
 bnd (aK 3 v1 h1) fun v2 h2 =>
 bnd (bN [(aE 0), (aE 0), (aE 0)] h2) fun v3 h3 =>
 bnd (aG 3 v3 v2 h3) fun _ h4 =>
  vR r n kk4 (env 0) (env 1) (env 13) v3 (env 11) (env 12) (env 13) h4) = (K5 (aHq r n kk4) 0 1 11 12 13) := by kernel_rfl
theorem cPo (kk4 : cG) : D174 r n aJc (xs x0 0 (K0 (bH r n))) (K5 kk4 0 1 11 12 13) = (K5 (aHq r n kk4) 0 1 11 12 13) :=
 (bSg r n kk4).trans
 ((by kernel_rfl : D174 r n uM (xs x0 0 (K0 (bH r n))) (K5 (cI r n kk4) 0 1 11 12 13) = D174 r n tD (xs (xs x0 0 (K0 (bH r n))) 1 (K5 (cI r n kk4) 0 1 11 12 13)) (K5 (cI r n kk4) 0 1 11 12 13)).trans
 ((bOh r n kk4).trans
 ((bJa r n kk4 (vR r n kk4) (bH r n) (cI r n kk4)).trans (bHo r n kk4))))
theorem cEi (kk4 : cG) : D174 r n aGy (xs x0 0 (K0 (bH r n))) (K5 kk4 0 1 11 12 13) = D174 r n bAs (xs x0 0 (K0 (bH r n))) (K5 (aHq r n kk4) 0 1 11 12 13) :=
 congrArg (fun k => D174 r n bAs (xs x0 0 (K0 (bH r n))) k) (cPo r n kk4)
theorem cPh (kk4 : cG) : D174 r n aGy (xs x0 0 (K0 (bH r n))) (K5 kk4 0 1 11 12 13) = (K6 (aRw r n kk4) 0 1 11 12 13 14) :=
 (cEi r n kk4).trans
 ((by kernel_rfl))
theorem bIp (kk4 : cG) : D174 r n kC (xs x0 0 (K0 (bH r n))) (K5 kk4 0 1 11 12 13) = D174 r n aWn (xs x0 0 (K0 (bH r n))) (K6 (aRw r n kk4) 0 1 11 12 13 14) :=
 congrArg (fun k => D174 r n aWn (xs x0 0 (K0 (bH r n))) k) (cPh r n kk4)
theorem bSl (kk4 : cG) : D174 r n kC (xs x0 0 (K0 (bH r n))) (K5 kk4 0 1 11 12 13) = (K5 (bCf r n kk4) 0 1 11 12 13) :=
 (bIp r n kk4).trans
 ((by kernel_rfl))
theorem bZg (m : Nat) : aM (fun kk => D174 r n kC (xs x0 0 (K0 (bH r n))) kk) m = (K5 (uH r n m) 0 1 11 12 13) := by
 induction m with
 | zero => exact (by kernel_rfl : aM (fun kk => D174 r n kC (xs x0 0 (K0 (bH r n))) kk) 0 = (K5 (uH r n 0) 0 1 11 12 13))
 | succ m ih =>
  refine (by kernel_rfl : aM (fun kk => D174 r n kC (xs x0 0 (K0 (bH r n))) kk) (m + 1) = D174 r n kC (xs x0 0 (K0 (bH r n))) (aM (fun kk => D174 r n kC (xs x0 0 (K0 (bH r n))) kk) m)).trans ?_
  rw [ih]
  exact (bSl r n (uH r n m)).trans (by kernel_rfl)
theorem cMi : D174 r n aHl (xs x0 0 (K0 (bH r n))) (K0 (bH r n)) = (K5 (bLz r n) 0 1 11 12 13) :=
 (by kernel_rfl : D174 r n aHl (xs x0 0 (K0 (bH r n))) (K0 (bH r n)) = aM (fun kk => D174 r n kC (xs x0 0 (K0 (bH r n))) kk) n).trans ((bZg r n n).trans (by kernel_rfl))
theorem cEv : D174 r n aTo x0 (K0 (bH r n)) = (K5 (aPe r n) 0 1 11 12 13) :=
 (by kernel_rfl : D174 r n aTo x0 (K0 (bH r n)) = D174 r n aHl (xs x0 0 (K0 (bH r n))) (K0 (bH r n))).trans
 ((cMi r n).trans (by kernel_rfl))
theorem bHl : D174 r n aJb x0 r174 = D174 r n wK x0 (K0 (bH r n)) :=
 congrArg (fun k => D174 r n wK x0 k) (cPk r n)
theorem bEy : D174 r n wK x0 (K0 (bH r n)) = D174 r n aYy x0 (K5 (aPe r n) 0 1 11 12 13) :=
 congrArg (fun k => D174 r n aYy x0 k) (cEv r n)
theorem cJk : D174 r n aJb x0 r174 = (K2 (aUj r n) 0 1) :=
 (bHl r n).trans
 ((bEy r n).trans
 ((by kernel_rfl)))
theorem cPd : D174 r n c174 x0 r174 = D174 r n aVx x0 (K2 (aUj r n) 0 1) :=
 congrArg (fun k => D174 r n aVx x0 k) (cJk r n)
theorem dLm : D174 r n c174 x0 r174 = (K2 (s174 r n) 0 1) :=
 (cPd r n).trans
 ((by kernel_rfl))
theorem dDd : aF CF r n 174 args h = s174 r n (aU args 0) (aU args 1) h :=
 (by kernel_rfl : aF CF r n 174 args h = D174 r n c174 x0 r174 (aI args) h).trans ((congrFun (congrFun (dLm r n) (aI args)) h).trans (by kernel_rfl))
noncomputable def bU (r : RT) (n : Nat) (x6 x9 : DV) (h0 : Hp) : aH :=
 bnd (aA x6 h0) fun v1 h1 =>
 bnd (aA x9 h1) fun v2 h2 =>
 some (.t [v1, v2], h2)
noncomputable def tF (r : RT) (n : Nat) (kk9 : fH) (x2 x3 x6 x7 x9 x10 x11 x14 : DV) (h0 : Hp) : aH :=
 bnd (aD .add x11 (aE 1) h0) fun v1 h1 =>
 bnd (aA x3 h1) fun v2 h2 =>
 bnd (aJ 1 v2 x11 h2) fun v3 h3 =>
 bnd (aA v3 h3) fun v4 h4 =>
 bnd (cZ CF r x10 [v1, v4, x14] h4) fun v5 h5 =>
  kk9 x2 x3 x6 x7 x9 x10 h5
noncomputable def aJl (r : RT) (n : Nat) (kk9 : fH) (x2 x3 x6 x7 x9 x10 x11 x12 x13 x14 : DV) (h0 : Hp) : aH :=
 bnd (aB 0 x12 h0) fun v1 h1 =>
 bnd (aA v1 h1) fun v2 h2 =>
 bnd (aD .eql v2 (aE 19) h2) fun v3 h3 =>
 aT v3 (
 bnd (aD .neq x13 (aE 1) h3) fun v4 h4 =>
 bnd (gD v4 false (aA x3 h4) h4) fun v5 h5 =>
 bnd (gD v4 false (some (x11, h5)) h5) fun v6 h6 =>
 bnd (gD v4 false (aJ 1 v5 v6 h6) h6) fun v7 h7 =>
 bnd (gD v4 false (aA v7 h7) h7) fun v8 h8 =>
 bnd (gD v4 false (aD .lss v8 (aE 0) h8) h8) fun v9 h9 =>
 bnd (aR v4 (.b true) v9 h9) fun v10 h10 =>
 aT v10 (
 some (.t [.l0, (.b false)], h10)) (
   kk9 x2 x3 x6 x7 x9 x10 h10)) (
 bnd (aD .eql v2 (aE 20) h3) fun v11 h11 =>
 aT v11 (
   kk9 x2 x3 x6 x7 x9 x10 h11) (
 bnd (aD .eql v2 (aE 16) h11) fun v12 h12 =>
 aT v12 (
 bnd (aK 3 x12 h12) fun v13 h13 =>
 bnd (r 202 [v13] h13) fun v14 h14 =>
 bnd (aA x3 h14) fun v15 h15 =>
 cnd (bI (aA x3 h12) v15 && true) (
 bnd (aJ 1 v15 x11 h15) fun v16 h16 =>
 bnd (aA v16 h16) fun v17 h17 =>
 cnd (bI (aA v16 h12) v17 && true) (
 bnd (cZ CF r x10 [v14, v17, x14] h17) fun v18 h18 =>
    kk9 x2 x3 x6 x7 x9 x10 h18))) (
 bnd (aD .eql v2 (aE 17) h12) fun v19 h19 =>
 aT v19 (
 bnd (aK 3 x12 h19) fun v20 h20 =>
 bnd (r 202 [v20] h20) fun v21 h21 =>
 bnd (aA x3 h21) fun v22 h22 =>
 cnd (bI (aA x3 h19) v22 && true) (
 bnd (aJ 1 v22 x11 h22) fun v23 h23 =>
 bnd (aA v23 h23) fun v24 h24 =>
 cnd (bI (aA v23 h19) v24 && true) (
 bnd (cZ CF r x10 [v21, v24, x14] h24) fun v25 h25 =>
     tF r n kk9 x2 x3 x6 x7 x9 x10 x11 x14 h25))) (
     tF r n kk9 x2 x3 x6 x7 x9 x10 x11 x14 h19))))
noncomputable def aJw (r : RT) (n : Nat) (kk9 : fH) (x2 x3 x6 x7 x9 x10 x11 x12 x13 x14 : DV) (h0 : Hp) : aH :=
 bnd (aK 3 x12 h0) fun v1 h1 =>
 bnd (r 205 [v1] h1) fun v2 h2 =>
 bnd (aD .lss x13 v2 h2) fun v3 h3 =>
 bnd (gD v3 false (some (x14, h3)) h3) fun v4 h4 =>
 bnd (gD v3 false (aD .gtr v4 (aE 24) h4) h4) fun v5 h5 =>
 bnd (aR v3 (.b true) v5 h5) fun v6 h6 =>
 aT v6 (
 some (.t [.l0, (.b false)], h6)) (
  aJl r n kk9 x2 x3 x6 x7 x9 x10 x11 x12 x13 x14 h6)
noncomputable def aCh (r : RT) (n : Nat) (kk9 : fH) (x2 x3 x6 x7 x9 x10 x11 x12 x13 : DV) (h0 : Hp) : aH :=
 bnd (aK 3 x12 h0) fun v1 h1 =>
 bnd (r 204 [v1] h1) fun v2 h2 =>
 bnd (aD .add x13 v2 h2) fun v3 h3 =>
  aJw r n kk9 x2 x3 x6 x7 x9 x10 x11 x12 x13 v3 h3
noncomputable def aJm (r : RT) (n : Nat) (kk9 : fH) (x2 x3 x6 x7 x9 x10 x11 : DV) (h0 : Hp) : aH :=
 bnd (aA x2 (resv 1 h0)) fun v1 h1 =>
 bnd (aJ 3 v1 x11 h1) fun v2 h2 =>
 bnd (aK 3 v2 h2) fun v3 h3 =>
 bnd (aA x6 h3) fun v4 h4 =>
 bnd (aJ 1 v4 x11 h4) fun v5 h5 =>
 bnd (aA v5 h5) fun v6 h6 =>
 bnd (lD (bZ 0 h0.next) [(aE 0), (aE 0), (aE 0)] h6) fun v7 h7 =>
 bnd (aG 3 v7 v3 h7) fun v8 h8 =>
 cnd (bI (aA v5 h8) v6 && (bI (aA x6 h8) v4 && true)) (
  aCh r n kk9 x2 x3 x6 x7 x9 x10 x11 v7 v6 h8)
noncomputable def aGv (r : RT) (n : Nat) (kk9 : fH) (x2 x3 x6 x7 x9 x10 x11 : DV) (h0 : Hp) : aH :=
 bnd (aA x7 h0) fun v1 h1 =>
 bnd (aA x7 h1) fun v2 h2 =>
 bnd (cA v2 h2) fun v3 h3 =>
 bnd (aD .sub v3 (aE 1) h3) fun v4 h4 =>
 bnd (cV 1 v1 none (some v4) h4) fun v5 h5 =>
 bnd (aG 1 x7 v5 h5) fun _ h6 =>
  aJm r n kk9 x2 x3 x6 x7 x9 x10 x11 h6
noncomputable def aCe (r : RT) (n : Nat) (kk9 : fH) (x2 x3 x6 x7 x9 x10 : DV) (h0 : Hp) : aH :=
 bnd (aA x7 h0) fun v1 h1 =>
 bnd (aA x7 h1) fun v2 h2 =>
 bnd (cA v2 h2) fun v3 h3 =>
 bnd (aD .sub v3 (aE 1) h3) fun v4 h4 =>
 bnd (aJ 1 v1 v4 h4) fun v5 h5 =>
 bnd (aA v5 h5) fun v6 h6 =>
  aGv r n kk9 x2 x3 x6 x7 x9 x10 v6 h6
noncomputable def aZz (r : RT) (n : Nat) (kk9 : fH) (x2 x3 x6 x7 x9 x10 : DV) (h0 : Hp) : aH :=
 bnd (aA x7 h0) fun v1 h1 =>
 bnd (cA v1 h1) fun v2 h2 =>
 bnd (aD .gtr v2 (aE 0) h2) fun v3 h3 =>
 bnd (gD v3 true (aA x9 h3) h3) fun v4 h4 =>
 bnd (aR v3 v4 (.b false) h4) fun v5 h5 =>
 aT v5 (
   aCe r n kk9 x2 x3 x6 x7 x9 x10 h5) (
   bU r n x6 x9 h5)
noncomputable def tT (r : RT) (n : Nat) (m : Nat) : fH :=
 Nat.rec (motive := fun _ => fH) (fun _ _ _ _ _ _ _ => none) (fun _ ih => aZz r n ih) m
noncomputable def bYt (r : RT) (n : Nat) : fH := tT r n n
noncomputable def aUs (r : RT) (n : Nat) (x2 x3 x6 x7 x9 x10 : DV) (h0 : Hp) : aH :=
 bYt r n x2 x3 x6 x7 x9 x10 h0
noncomputable def aTj (r : RT) (n : Nat) (x2 x3 x6 x7 x9 x10 : DV) (h0 : Hp) : aH :=
 aUs r n x2 x3 x6 x7 x9 x10 h0
noncomputable def wQ (r : RT) (n : Nat) (x2 x3 x6 x7 x9 : DV) (h0 : Hp) : aH :=
 aTj r n x2 x3 x6 x7 x9 (.f 203 [] [x2, x3, x6, x9, x7]) h0
noncomputable def cP (r : RT) (n : Nat) (x2 x3 x6 x7 : DV) (h0 : Hp) : aH :=
 bnd (bN [(.b false)] h0) fun v1 h1 =>
 bnd (aG 1 v1 (.b true) h1) fun _ h2 =>
  wQ r n x2 x3 x6 x7 v1 h2
noncomputable def kY (r : RT) (n : Nat) (kk18 : fH) (x2 x3 x6 x7 x19 x20 : DV) (h0 : Hp) : aH :=
 bnd (aD .add x20 (aE 1) h0) fun v1 h1 =>
  kk18 x2 x3 x6 x7 x19 v1 h1
noncomputable def vJ (r : RT) (n : Nat) (kk18 : fH) (x2 x3 x6 x7 x19 x20 : DV) (h0 : Hp) : aH :=
 bnd (aA x6 h0) fun v1 h1 =>
 bnd (aJ 1 v1 x20 h1) fun v2 h2 =>
 bnd (aG 1 v2 (.i .i64 (Int.negSucc 0)) h2) fun _ h3 =>
 bnd (aD .eql x20 (aE 0) h3) fun v4 h4 =>
 bnd (gD v4 false (some (x20, h4)) h4) fun v5 h5 =>
 bnd (gD v4 false (aD .gtr v5 (aE 1) h5) h5) fun v6 h6 =>
 bnd (gD v4 false (some (v6, h6)) h6) fun v7 h7 =>
 bnd (gD v7 true (aA x2 h7) h7) fun v8 h8 =>
 bnd (gD v7 true (some (x20, h8)) h8) fun v9 h9 =>
 bnd (gD v7 true (aD .sub v9 (aE 2) h9) h9) fun v10 h10 =>
 bnd (gD v7 true (aJ 3 v8 v10 h10) h10) fun v11 h11 =>
 bnd (gD v7 true (aB 0 v11 h11) h11) fun v12 h12 =>
 bnd (gD v7 true (aA v12 h12) h12) fun v13 h13 =>
 bnd (gD v7 true (aD .eql v13 (aE 18) h13) h13) fun v14 h14 =>
 bnd (gD v4 false (aR v7 v14 (.b false) h14) h14) fun v15 h15 =>
 bnd (gD v4 false (some (v15, h15)) h15) fun v16 h16 =>
 bnd (gD v16 true (aA x3 h16) h16) fun v17 h17 =>
 bnd (gD v16 true (some (x20, h17)) h17) fun v18 h18 =>
 bnd (gD v16 true (aJ 1 v17 v18 h18) h18) fun v19 h19 =>
 bnd (gD v16 true (aA v19 h19) h19) fun v20 h20 =>
 bnd (gD v16 true (some (x20, h20)) h20) fun v21 h21 =>
 bnd (gD v16 true (aD .sub v21 (aE 2) h21) h21) fun v22 h22 =>
 bnd (gD v16 true (aD .eql v20 v22 h22) h22) fun v23 h23 =>
 bnd (gD v4 false (aR v16 v23 (.b false) h23) h23) fun v24 h24 =>
 bnd (aR v4 (.b true) v24 h24) fun v25 h25 =>
 aT v25 (
 bnd (aA x6 h25) fun v26 h26 =>
 bnd (aJ 1 v26 x20 h26) fun v27 h27 =>
 bnd (aG 1 v27 (aE 0) h27) fun _ h28 =>
 bnd (aA x7 h28) fun v29 h29 =>
 bnd (aL [(aE 0)] 1 [(0, 1, x20)] h29) fun v30 h30 =>
 bnd (aY 1 8 v29 v30 h30) fun v31 h31 =>
 bnd (aG 1 x7 v31 h31) fun _ h32 =>
  kY r n kk18 x2 x3 x6 x7 x19 x20 h32) (
  kY r n kk18 x2 x3 x6 x7 x19 x20 h25)
noncomputable def aFn (r : RT) (n : Nat) (kk18 : fH) (x2 x3 x6 x7 x19 x20 x21 : DV) (h0 : Hp) : aH :=
 aT x21 (
  vJ r n kk18 x2 x3 x6 x7 x19 x20 h0) (
  cP r n x2 x3 x6 x7 h0)
noncomputable def aNy (r : RT) (n : Nat) (kk18 : fH) (x2 x3 x6 x7 x19 x20 : DV) (h0 : Hp) : aH :=
 bnd (aD .lss x20 x19 h0) fun v1 h1 =>
  aFn r n kk18 x2 x3 x6 x7 x19 x20 v1 h1
noncomputable def qB (r : RT) (n : Nat) (m : Nat) : fH :=
 Nat.rec (motive := fun _ => fH) (fun _ _ _ _ _ _ _ => none) (fun _ ih => aNy r n ih) m
noncomputable def aZa (r : RT) (n : Nat) : fH := qB r n n
noncomputable def aJs (r : RT) (n : Nat) (x2 x3 x6 x7 x19 x20 : DV) (h0 : Hp) : aH :=
 aZa r n x2 x3 x6 x7 x19 x20 h0
noncomputable def xG (r : RT) (n : Nat) (x2 x3 x6 x7 : DV) (h0 : Hp) : aH :=
 bnd (aA x6 h0) fun v1 h1 =>
 bnd (cA v1 h1) fun v2 h2 =>
  aJs r n x2 x3 x6 x7 v2 (aE 0) h2
noncomputable def qL (r : RT) (n : Nat) (x2 x3 x6 : DV) (h0 : Hp) : aH :=
 bnd (bN [.l0] h0) fun v1 h1 =>
  xG r n x2 x3 x6 v1 h1
noncomputable def rJ (r : RT) (n : Nat) (x2 x3 : DV) (h0 : Hp) : aH :=
 bnd (aA x2 h0) fun v1 h1 =>
 bnd (cA v1 h1) fun v2 h2 =>
 bnd (cN 1 8 [(aE 0)] v2 v2 h2) fun v3 h3 =>
 bnd (bN [.l0] h3) fun v4 h4 =>
 bnd (aG 1 v4 v3 h4) fun _ h5 =>
  qL r n x2 x3 v4 h5
noncomputable def s175 (r : RT) (n : Nat) (x0 x1 : DV) (h0 : Hp) : aH :=
 bnd (bR x0 h0) fun v1 h1 =>
 bnd (bR x1 h1) fun v2 h2 =>
  rJ r n v1 v2 h2
noncomputable abbrev c175 : Code := cf Tryz.f175
noncomputable abbrev aPq : Code := cR c175
noncomputable abbrev aIw : Code := cL aPq
noncomputable abbrev aJo : Code := cR aIw
noncomputable abbrev aHf : Code := cR aJo
noncomputable abbrev aGb : Code := cR aHf
noncomputable abbrev aEy : Code := cR aGb
noncomputable abbrev aFi : Code := cR aEy
noncomputable abbrev aBz : Code := cR aFi
noncomputable abbrev dAm : Code := cR aBz
noncomputable abbrev tS : Code := cL aBz
noncomputable abbrev uK : Code := cL tS
noncomputable abbrev iP : Code := cL uK
noncomputable abbrev aKr : Code := cR iP
noncomputable abbrev uX : Code := cL aKr
noncomputable abbrev uT : Code := cR uX
noncomputable abbrev tY : Code := cR uT
noncomputable abbrev sY : Code := cR tY
noncomputable abbrev vD : Code := cR sY
noncomputable abbrev tG : Code := cR vD
noncomputable abbrev cMm : Code := cR tG
noncomputable abbrev bBz : Code := cL tG
noncomputable abbrev bAt : Code := cL vD
noncomputable abbrev bAl : Code := cL sY
noncomputable abbrev bCs : Code := cL tY
noncomputable abbrev aXm : Code := cL uT
noncomputable abbrev bAq : Code := cL uX
noncomputable abbrev bDp : Code := cL iP
noncomputable abbrev bAj : Code := cL aFi
noncomputable abbrev bDw : Code := cL aEy
noncomputable abbrev aCm : Code := cL aGb
noncomputable abbrev pH : Code := cL aHf
noncomputable abbrev aJj : Code := cR pH
noncomputable abbrev tI : Code := cL aJj
noncomputable abbrev iR : Code := cL tI
noncomputable abbrev uA : Code := cR iR
noncomputable abbrev sU : Code := cR uA
noncomputable abbrev cNz : Code := cR sU
noncomputable abbrev aJn : Code := cL sU
noncomputable abbrev bCo : Code := cL uA
noncomputable abbrev aWo : Code := cL iR
noncomputable abbrev aWh : Code := cL pH
noncomputable abbrev aDc : Code := cL aJo
noncomputable abbrev aIr : Code := cL aIw
noncomputable abbrev aHi : Code := cL c175
noncomputable abbrev r175 : K := aP CF Tryz.f175
noncomputable def D175 (r : RT) (n : Nat) (c : Code) (X : Nat → K) (k : K) : K := aN CF r 144 n c X r175 k
theorem cQf : D175 r n dAm x0 r175 = (K2 (bU r n) 6 9) :=
 (by kernel_rfl)
theorem cBy (kk9 : fH) : D175 r n cMm (xs (xs x0 2 (K2 (bU r n) 6 9)) 3 (K6 kk9 2 3 6 7 9 10)) (K6 kk9 2 3 6 7 9 10) = (K8 (tF r n kk9) 2 3 6 7 9 10 11 14) :=
 (by kernel_rfl)
theorem bEw (kk9 : fH) : D175 r n tG (xs (xs x0 2 (K2 (bU r n) 6 9)) 3 (K6 kk9 2 3 6 7 9 10)) (K6 kk9 2 3 6 7 9 10) = D175 r n bBz (xs (xs x0 2 (K2 (bU r n) 6 9)) 3 (K6 kk9 2 3 6 7 9 10)) (K8 (tF r n kk9) 2 3 6 7 9 10 11 14) :=
 congrArg (fun k => D175 r n bBz (xs (xs x0 2 (K2 (bU r n) 6 9)) 3 (K6 kk9 2 3 6 7 9 10)) k) (cBy r n kk9)
theorem bRa (kk9 : fH) : D175 r n tG (xs (xs x0 2 (K2 (bU r n) 6 9)) 3 (K6 kk9 2 3 6 7 9 10)) (K6 kk9 2 3 6 7 9 10) = (K10 (aJl r n kk9) 2 3 6 7 9 10 11 12 13 14) :=
 (bEw r n kk9).trans
 ((by kernel_rfl))
theorem bFx (kk9 : fH) : D175 r n vD (xs (xs x0 2 (K2 (bU r n) 6 9)) 3 (K6 kk9 2 3 6 7 9 10)) (K6 kk9 2 3 6 7 9 10) = D175 r n bAt (xs (xs x0 2 (K2 (bU r n) 6 9)) 3 (K6 kk9 2 3 6 7 9 10)) (K10 (aJl r n kk9) 2 3 6 7 9 10 11 12 13 14) :=
 congrArg (fun k => D175 r n bAt (xs (xs x0 2 (K2 (bU r n) 6 9)) 3 (K6 kk9 2 3 6 7 9 10)) k) (bRa r n kk9)
theorem cAn (kk9 : fH) : D175 r n vD (xs (xs x0 2 (K2 (bU r n) 6 9)) 3 (K6 kk9 2 3 6 7 9 10)) (K6 kk9 2 3 6 7 9 10) = (K10 (aJw r n kk9) 2 3 6 7 9 10 11 12 13 14) :=
 (bFx r n kk9).trans
 ((by kernel_rfl))
theorem bDz (kk9 : fH) : D175 r n sY (xs (xs x0 2 (K2 (bU r n) 6 9)) 3 (K6 kk9 2 3 6 7 9 10)) (K6 kk9 2 3 6 7 9 10) = D175 r n bAl (xs (xs x0 2 (K2 (bU r n) 6 9)) 3 (K6 kk9 2 3 6 7 9 10)) (K10 (aJw r n kk9) 2 3 6 7 9 10 11 12 13 14) :=
 congrArg (fun k => D175 r n bAl (xs (xs x0 2 (K2 (bU r n) 6 9)) 3 (K6 kk9 2 3 6 7 9 10)) k) (cAn r n kk9)
theorem bXk (kk9 : fH) : D175 r n sY (xs (xs x0 2 (K2 (bU r n) 6 9)) 3 (K6 kk9 2 3 6 7 9 10)) (K6 kk9 2 3 6 7 9 10) = (K9 (aCh r n kk9) 2 3 6 7 9 10 11 12 13) :=
 (bDz r n kk9).trans
 ((by kernel_rfl))
theorem bHj (kk9 : fH) : D175 r n tY (xs (xs x0 2 (K2 (bU r n) 6 9)) 3 (K6 kk9 2 3 6 7 9 10)) (K6 kk9 2 3 6 7 9 10) = D175 r n bCs (xs (xs x0 2 (K2 (bU r n) 6 9)) 3 (K6 kk9 2 3 6 7 9 10)) (K9 (aCh r n kk9) 2 3 6 7 9 10 11 12 13) :=
 congrArg (fun k => D175 r n bCs (xs (xs x0 2 (K2 (bU r n) 6 9)) 3 (K6 kk9 2 3 6 7 9 10)) k) (bXk r n kk9)
theorem bOd (kk9 : fH) : D175 r n tY (xs (xs x0 2 (K2 (bU r n) 6 9)) 3 (K6 kk9 2 3 6 7 9 10)) (K6 kk9 2 3 6 7 9 10) = (K7 (aJm r n kk9) 2 3 6 7 9 10 11) :=
 (bHj r n kk9).trans
 ((by kernel_rfl))
theorem bIf (kk9 : fH) : D175 r n uT (xs (xs x0 2 (K2 (bU r n) 6 9)) 3 (K6 kk9 2 3 6 7 9 10)) (K6 kk9 2 3 6 7 9 10) = D175 r n aXm (xs (xs x0 2 (K2 (bU r n) 6 9)) 3 (K6 kk9 2 3 6 7 9 10)) (K7 (aJm r n kk9) 2 3 6 7 9 10 11) :=
 congrArg (fun k => D175 r n aXm (xs (xs x0 2 (K2 (bU r n) 6 9)) 3 (K6 kk9 2 3 6 7 9 10)) k) (bOd r n kk9)
theorem cAg (kk9 : fH) : D175 r n uT (xs (xs x0 2 (K2 (bU r n) 6 9)) 3 (K6 kk9 2 3 6 7 9 10)) (K6 kk9 2 3 6 7 9 10) = (K7 (aGv r n kk9) 2 3 6 7 9 10 11) :=
 (bIf r n kk9).trans
 ((by kernel_rfl))
theorem bFl (kk9 : fH) : D175 r n uX (xs (xs x0 2 (K2 (bU r n) 6 9)) 3 (K6 kk9 2 3 6 7 9 10)) (K6 kk9 2 3 6 7 9 10) = D175 r n bAq (xs (xs x0 2 (K2 (bU r n) 6 9)) 3 (K6 kk9 2 3 6 7 9 10)) (K7 (aGv r n kk9) 2 3 6 7 9 10 11) :=
 congrArg (fun k => D175 r n bAq (xs (xs x0 2 (K2 (bU r n) 6 9)) 3 (K6 kk9 2 3 6 7 9 10)) k) (cAg r n kk9)
theorem cCo (kk9 : fH) : D175 r n aKr (xs x0 2 (K2 (bU r n) 6 9)) (K6 kk9 2 3 6 7 9 10) = (K6 (aCe r n kk9) 2 3 6 7 9 10) :=
 (by kernel_rfl : D175 r n aKr (xs x0 2 (K2 (bU r n) 6 9)) (K6 kk9 2 3 6 7 9 10) = D175 r n uX (xs (xs x0 2 (K2 (bU r n) 6 9)) 3 (K6 kk9 2 3 6 7 9 10)) (K6 kk9 2 3 6 7 9 10)).trans
 ((bFl r n kk9).trans
 ((by kernel_rfl)))
theorem bKl (kk9 : fH) : D175 r n iP (xs x0 2 (K2 (bU r n) 6 9)) (K6 kk9 2 3 6 7 9 10) = D175 r n bDp (xs x0 2 (K2 (bU r n) 6 9)) (K6 (aCe r n kk9) 2 3 6 7 9 10) :=
 congrArg (fun k => D175 r n bDp (xs x0 2 (K2 (bU r n) 6 9)) k) (cCo r n kk9)
theorem bPz (kk9 : fH) : D175 r n iP (xs x0 2 (K2 (bU r n) 6 9)) (K6 kk9 2 3 6 7 9 10) = (K6 (aZz r n kk9) 2 3 6 7 9 10) :=
 (bKl r n kk9).trans
 ((by kernel_rfl))
theorem bKa (m : Nat) : aM (fun kk => D175 r n iP (xs x0 2 (K2 (bU r n) 6 9)) kk) m = (K6 (tT r n m) 2 3 6 7 9 10) := by
 induction m with
 | zero => exact (by kernel_rfl : aM (fun kk => D175 r n iP (xs x0 2 (K2 (bU r n) 6 9)) kk) 0 = (K6 (tT r n 0) 2 3 6 7 9 10))
 | succ m ih =>
  refine (by kernel_rfl : aM (fun kk => D175 r n iP (xs x0 2 (K2 (bU r n) 6 9)) kk) (m + 1) = D175 r n iP (xs x0 2 (K2 (bU r n) 6 9)) (aM (fun kk => D175 r n iP (xs x0 2 (K2 (bU r n) 6 9)) kk) m)).trans ?_
  rw [ih]
  exact (bPz r n (tT r n m)).trans (by kernel_rfl)
theorem cEt : D175 r n uK (xs x0 2 (K2 (bU r n) 6 9)) (K2 (bU r n) 6 9) = (K6 (bYt r n) 2 3 6 7 9 10) :=
 (by kernel_rfl : D175 r n uK (xs x0 2 (K2 (bU r n) 6 9)) (K2 (bU r n) 6 9) = aM (fun kk => D175 r n iP (xs x0 2 (K2 (bU r n) 6 9)) kk) n).trans ((bKa r n n).trans (by kernel_rfl))
theorem bQp : D175 r n aBz x0 r175 = D175 r n tS x0 (K2 (bU r n) 6 9) :=
 congrArg (fun k => D175 r n tS x0 k) (cQf r n)
theorem cTf : D175 r n aBz x0 r175 = (K6 (aUs r n) 2 3 6 7 9 10) :=
 (bQp r n).trans
 ((by kernel_rfl : D175 r n tS x0 (K2 (bU r n) 6 9) = D175 r n uK (xs x0 2 (K2 (bU r n) 6 9)) (K2 (bU r n) 6 9)).trans
 ((cEt r n).trans (by kernel_rfl)))
theorem bMb : D175 r n aFi x0 r175 = D175 r n bAj x0 (K6 (aUs r n) 2 3 6 7 9 10) :=
 congrArg (fun k => D175 r n bAj x0 k) (cTf r n)
theorem cJa : D175 r n aFi x0 r175 = (K6 (aTj r n) 2 3 6 7 9 10) :=
 (bMb r n).trans
 ((by kernel_rfl))
theorem bEs : D175 r n aEy x0 r175 = D175 r n bDw x0 (K6 (aTj r n) 2 3 6 7 9 10) :=
 congrArg (fun k => D175 r n bDw x0 k) (cJa r n)
theorem cGo : D175 r n aEy x0 r175 = (K5 (wQ r n) 2 3 6 7 9) :=
 (bEs r n).trans
 ((by kernel_rfl))
theorem bFp : D175 r n aGb x0 r175 = D175 r n aCm x0 (K5 (wQ r n) 2 3 6 7 9) :=
 congrArg (fun k => D175 r n aCm x0 k) (cGo r n)
theorem bFo (q0 : cG) : D175 r n aCm x0 (K5 q0 2 3 6 7 9) = fun (env : aV) (h : Hp) =>
 bnd (bN [(.b false)] h) fun v1 h1 =>
 bnd (aG 1 v1 (.b true) h1) fun _ h2 =>
  q0 (env 2) (env 3) (env 6) (env 7) v1 h2 := by kernel_rfl
theorem aTt : (fun (env : aV) (h : Hp) =>
 bnd (bN [(.b false)] h) fun v1 h1 =>
 bnd (aG 1 v1 (.b true) h1) fun _ h2 =>
  wQ r n (env 2) (env 3) (env 6) (env 7) v1 h2) = (K4 (cP r n) 2 3 6 7) := by kernel_rfl
theorem cRw : D175 r n aGb x0 r175 = (K4 (cP r n) 2 3 6 7) :=
 (bFp r n).trans
 ((bFo r n (wQ r n)).trans (aTt r n))
theorem bQv (kk18 : fH) : D175 r n cNz (xs x0 0 (K4 (cP r n) 2 3 6 7)) (K6 kk18 2 3 6 7 19 20) = (K6 (kY r n kk18) 2 3 6 7 19 20) :=
 (by kernel_rfl)
theorem aTh (kk18 : fH) : D175 r n sU (xs x0 0 (K4 (cP r n) 2 3 6 7)) (K6 kk18 2 3 6 7 19 20) = D175 r n aJn (xs x0 0 (K4 (cP r n) 2 3 6 7)) (K6 (kY r n kk18) 2 3 6 7 19 20) :=
 congrArg (fun k => D175 r n aJn (xs x0 0 (K4 (cP r n) 2 3 6 7)) k) (bQv r n kk18)
theorem aOw (kk18 : fH) (q0 : fH) (q1 : dM) : D175 r n aJn (xs x0 0 (K4 q1 2 3 6 7)) (K6 q0 2 3 6 7 19 20) = fun (env : aV) (h : Hp) =>
 bnd (aA (env 6) h) fun v1 h1 =>
 bnd (aJ 1 v1 (env 20) h1) fun v2 h2 =>
 bnd (aG 1 v2 (.i .i64 (Int.negSucc 0)) h2) fun _ h3 =>
 bnd (aD .eql (env 20) (aE 0) h3) fun v4 h4 =>
 bnd (gD v4 false (some ((env 20), h4)) h4) fun v5 h5 =>
 bnd (gD v4 false (aD .gtr v5 (aE 1) h5) h5) fun v6 h6 =>
 bnd (gD v4 false (some (v6, h6)) h6) fun v7 h7 =>
 bnd (gD v7 true (aA (env 2) h7) h7) fun v8 h8 =>
 bnd (gD v7 true (some ((env 20), h8)) h8) fun v9 h9 =>
 bnd (gD v7 true (aD .sub v9 (aE 2) h9) h9) fun v10 h10 =>
 bnd (gD v7 true (aJ 3 v8 v10 h10) h10) fun v11 h11 =>
 bnd (gD v7 true (aB 0 v11 h11) h11) fun v12 h12 =>
 bnd (gD v7 true (aA v12 h12) h12) fun v13 h13 =>
 bnd (gD v7 true (aD .eql v13 (aE 18) h13) h13) fun v14 h14 =>
 bnd (gD v4 false (aR v7 v14 (.b false) h14) h14) fun v15 h15 =>
 bnd (gD v4 false (some (v15, h15)) h15) fun v16 h16 =>
 bnd (gD v16 true (aA (env 3) h16) h16) fun v17 h17 =>
 bnd (gD v16 true (some ((env 20), h17)) h17) fun v18 h18 =>
 bnd (gD v16 true (aJ 1 v17 v18 h18) h18) fun v19 h19 =>
 bnd (gD v16 true (aA v19 h19) h19) fun v20 h20 =>
 bnd (gD v16 true (some ((env 20), h20)) h20) fun v21 h21 =>
 bnd (gD v16 true (aD .sub v21 (aE 2) h21) h21) fun v22 h22 =>
 bnd (gD v16 true (aD .eql v20 v22 h22) h22) fun v23 h23 =>
 bnd (gD v4 false (aR v16 v23 (.b false) h23) h23) fun v24 h24 =>
 bnd (aR v4 (.b true) v24 h24) fun v25 h25 =>
 aT v25 (
 bnd (aA (env 6) h25) fun v26 h26 =>
 bnd (aJ 1 v26 (env 20) h26) fun v27 h27 =>
 bnd (aG 1 v27 (aE 0) h27) fun _ h28 =>
 bnd (aA (env 7) h28) fun v29 h29 =>
 bnd (aL [(aE 0)] 1 [(0, 1, (env 20))] h29) fun v30 h30 =>
 bnd (aY 1 8 v29 v30 h30) fun v31 h31 =>
 bnd (aG 1 (env 7) v31 h31) fun _ h32 =>
      q0 (env 2) (env 3) (env 6) (env 7) (env 19) (env 20) h32) (
      q0 (env 2) (env 3) (env 6) (env 7) (env 19) (env 20) h25) := by kernel_rfl
theorem aNe (kk18 : fH) : (fun (env : aV) (h : Hp) =>
 bnd (aA (env 6) h) fun v1 h1 =>
 bnd (aJ 1 v1 (env 20) h1) fun v2 h2 =>
 bnd (aG 1 v2 (.i .i64 (Int.negSucc 0)) h2) fun _ h3 =>
 bnd (aD .eql (env 20) (aE 0) h3) fun v4 h4 =>
 bnd (gD v4 false (some ((env 20), h4)) h4) fun v5 h5 =>
 bnd (gD v4 false (aD .gtr v5 (aE 1) h5) h5) fun v6 h6 =>
 bnd (gD v4 false (some (v6, h6)) h6) fun v7 h7 =>
 bnd (gD v7 true (aA (env 2) h7) h7) fun v8 h8 =>
 bnd (gD v7 true (some ((env 20), h8)) h8) fun v9 h9 =>
 bnd (gD v7 true (aD .sub v9 (aE 2) h9) h9) fun v10 h10 =>
 bnd (gD v7 true (aJ 3 v8 v10 h10) h10) fun v11 h11 =>
 bnd (gD v7 true (aB 0 v11 h11) h11) fun v12 h12 =>
 bnd (gD v7 true (aA v12 h12) h12) fun v13 h13 =>
 bnd (gD v7 true (aD .eql v13 (aE 18) h13) h13) fun v14 h14 =>
 bnd (gD v4 false (aR v7 v14 (.b false) h14) h14) fun v15 h15 =>
 bnd (gD v4 false (some (v15, h15)) h15) fun v16 h16 =>
 bnd (gD v16 true (aA (env 3) h16) h16) fun v17 h17 =>
 bnd (gD v16 true (some ((env 20), h17)) h17) fun v18 h18 =>
 bnd (gD v16 true (aJ 1 v17 v18 h18) h18) fun v19 h19 =>
 bnd (gD v16 true (aA v19 h19) h19) fun v20 h20 =>
 bnd (gD v16 true (some ((env 20), h20)) h20) fun v21 h21 =>
 bnd (gD v16 true (aD .sub v21 (aE 2) h21) h21) fun v22 h22 =>
 bnd (gD v16 true (aD .eql v20 v22 h22) h22) fun v23 h23 =>
 bnd (gD v4 false (aR v16 v23 (.b false) h23) h23) fun v24 h24 =>
 bnd (aR v4 (.b true) v24 h24) fun v25 h25 =>
 aT v25 (
 bnd (aA (env 6) h25) fun v26 h26 =>
 bnd (aJ 1 v26 (env 20) h26) fun v27 h27 =>
 bnd (aG 1 v27 (aE 0) h27) fun _ h28 =>
 bnd (aA (env 7) h28) fun v29 h29 =>
 bnd (aL [(aE 0)] 1 [(0, 1, (env 20))] h29) fun v30 h30 =>
 bnd (aY 1 8 v29 v30 h30) fun v31 h31 =>
 bnd (aG 1 (env 7) v31 h31) fun _ h32 =>
      kY r n kk18 (env 2) (env 3) (env 6) (env 7) (env 19) (env 20) h32) (
      kY r n kk18 (env 2) (env 3) (env 6) (env 7) (env 19) (env 20) h25)) = (K6 (vJ r n kk18) 2 3 6 7 19 20) := by kernel_rfl
theorem bIs (kk18 : fH) : D175 r n sU (xs x0 0 (K4 (cP r n) 2 3 6 7)) (K6 kk18 2 3 6 7 19 20) = (K6 (vJ r n kk18) 2 3 6 7 19 20) :=
 (aTh r n kk18).trans
 ((aOw r n kk18 (kY r n kk18) (cP r n)).trans (aNe r n kk18))
theorem aTq (kk18 : fH) : D175 r n uA (xs x0 0 (K4 (cP r n) 2 3 6 7)) (K6 kk18 2 3 6 7 19 20) = D175 r n bCo (xs x0 0 (K4 (cP r n) 2 3 6 7)) (K6 (vJ r n kk18) 2 3 6 7 19 20) :=
 congrArg (fun k => D175 r n bCo (xs x0 0 (K4 (cP r n) 2 3 6 7)) k) (bIs r n kk18)
theorem bMo (kk18 : fH) : D175 r n uA (xs x0 0 (K4 (cP r n) 2 3 6 7)) (K6 kk18 2 3 6 7 19 20) = (K7 (aFn r n kk18) 2 3 6 7 19 20 21) :=
 (aTq r n kk18).trans
 ((by kernel_rfl))
theorem aRu (kk18 : fH) : D175 r n iR (xs x0 0 (K4 (cP r n) 2 3 6 7)) (K6 kk18 2 3 6 7 19 20) = D175 r n aWo (xs x0 0 (K4 (cP r n) 2 3 6 7)) (K7 (aFn r n kk18) 2 3 6 7 19 20 21) :=
 congrArg (fun k => D175 r n aWo (xs x0 0 (K4 (cP r n) 2 3 6 7)) k) (bMo r n kk18)
theorem bFk (kk18 : fH) : D175 r n iR (xs x0 0 (K4 (cP r n) 2 3 6 7)) (K6 kk18 2 3 6 7 19 20) = (K6 (aNy r n kk18) 2 3 6 7 19 20) :=
 (aRu r n kk18).trans
 ((by kernel_rfl))
theorem bEk (m : Nat) : aM (fun kk => D175 r n iR (xs x0 0 (K4 (cP r n) 2 3 6 7)) kk) m = (K6 (qB r n m) 2 3 6 7 19 20) := by
 induction m with
 | zero => exact (by kernel_rfl : aM (fun kk => D175 r n iR (xs x0 0 (K4 (cP r n) 2 3 6 7)) kk) 0 = (K6 (qB r n 0) 2 3 6 7 19 20))
 | succ m ih =>
  refine (by kernel_rfl : aM (fun kk => D175 r n iR (xs x0 0 (K4 (cP r n) 2 3 6 7)) kk) (m + 1) = D175 r n iR (xs x0 0 (K4 (cP r n) 2 3 6 7)) (aM (fun kk => D175 r n iR (xs x0 0 (K4 (cP r n) 2 3 6 7)) kk) m)).trans ?_
  rw [ih]
  exact (bFk r n (qB r n m)).trans (by kernel_rfl)
theorem bLa : D175 r n tI (xs x0 0 (K4 (cP r n) 2 3 6 7)) (K4 (cP r n) 2 3 6 7) = (K6 (aZa r n) 2 3 6 7 19 20) :=
 (by kernel_rfl : D175 r n tI (xs x0 0 (K4 (cP r n) 2 3 6 7)) (K4 (cP r n) 2 3 6 7) = aM (fun kk => D175 r n iR (xs x0 0 (K4 (cP r n) 2 3 6 7)) kk) n).trans ((bEk r n n).trans (by kernel_rfl))
theorem bOm : D175 r n aJj x0 (K4 (cP r n) 2 3 6 7) = (K6 (aJs r n) 2 3 6 7 19 20) :=
 (by kernel_rfl : D175 r n aJj x0 (K4 (cP r n) 2 3 6 7) = D175 r n tI (xs x0 0 (K4 (cP r n) 2 3 6 7)) (K4 (cP r n) 2 3 6 7)).trans
 ((bLa r n).trans (by kernel_rfl))
theorem bGa : D175 r n aHf x0 r175 = D175 r n pH x0 (K4 (cP r n) 2 3 6 7) :=
 congrArg (fun k => D175 r n pH x0 k) (cRw r n)
theorem bFq : D175 r n pH x0 (K4 (cP r n) 2 3 6 7) = D175 r n aWh x0 (K6 (aJs r n) 2 3 6 7 19 20) :=
 congrArg (fun k => D175 r n aWh x0 k) (bOm r n)
theorem cUf : D175 r n aHf x0 r175 = (K4 (xG r n) 2 3 6 7) :=
 (bGa r n).trans
 ((bFq r n).trans
 ((by kernel_rfl)))
theorem bEa : D175 r n aJo x0 r175 = D175 r n aDc x0 (K4 (xG r n) 2 3 6 7) :=
 congrArg (fun k => D175 r n aDc x0 k) (cUf r n)
theorem bEf (q0 : dM) : D175 r n aDc x0 (K4 q0 2 3 6 7) = fun (env : aV) (h : Hp) =>
 bnd (bN [.l0] h) fun v1 h1 =>
  q0 (env 2) (env 3) (env 6) v1 h1 := by kernel_rfl
theorem aPm : (fun (env : aV) (h : Hp) =>
 bnd (bN [.l0] h) fun v1 h1 =>
  xG r n (env 2) (env 3) (env 6) v1 h1) = (K3 (qL r n) 2 3 6) := by kernel_rfl
theorem cIi : D175 r n aJo x0 r175 = (K3 (qL r n) 2 3 6) :=
 (bEa r n).trans
 ((bEf r n (xG r n)).trans (aPm r n))
theorem bGx : D175 r n aIw x0 r175 = D175 r n aIr x0 (K3 (qL r n) 2 3 6) :=
 congrArg (fun k => D175 r n aIr x0 k) (cIi r n)
theorem bGr (q0 : nA) : D175 r n aIr x0 (K3 q0 2 3 6) = fun (env : aV) (h : Hp) =>
 bnd (aA (env 2) h) fun v1 h1 =>
 bnd (cA v1 h1) fun v2 h2 =>
 bnd (cN 1 8 [(aE 0)] v2 v2 h2) fun v3 h3 =>
 bnd (bN [.l0] h3) fun v4 h4 =>
 bnd (aG 1 v4 v3 h4) fun _ h5 =>
  q0 (env 2) (env 3) v4 h5 := by kernel_rfl
theorem aOz : (fun (env : aV) (h : Hp) =>
 bnd (aA (env 2) h) fun v1 h1 =>
 bnd (cA v1 h1) fun v2 h2 =>
 bnd (cN 1 8 [(aE 0)] v2 v2 h2) fun v3 h3 =>
 bnd (bN [.l0] h3) fun v4 h4 =>
 bnd (aG 1 v4 v3 h4) fun _ h5 =>
  qL r n (env 2) (env 3) v4 h5) = (K2 (rJ r n) 2 3) := by kernel_rfl
theorem cGt : D175 r n aPq x0 r175 = (K2 (rJ r n) 2 3) :=
 (by kernel_rfl : D175 r n aPq x0 r175 = D175 r n aIw x0 r175).trans
 ((bGx r n).trans
 ((bGr r n (qL r n)).trans (aOz r n)))
theorem cFy : D175 r n c175 x0 r175 = D175 r n aHi x0 (K2 (rJ r n) 2 3) :=
 congrArg (fun k => D175 r n aHi x0 k) (cGt r n)
theorem cNo (q0 : gO) : D175 r n aHi x0 (K2 q0 2 3) = fun (env : aV) (h : Hp) =>
 bnd (bR (env 0) h) fun v1 h1 =>
 bnd (bR (env 1) h1) fun v2 h2 =>
  q0 v1 v2 h2 := by kernel_rfl
theorem bWz : (fun (env : aV) (h : Hp) =>
 bnd (bR (env 0) h) fun v1 h1 =>
 bnd (bR (env 1) h1) fun v2 h2 =>
  rJ r n v1 v2 h2) = (K2 (s175 r n) 0 1) := by kernel_rfl
theorem dJo : D175 r n c175 x0 r175 = (K2 (s175 r n) 0 1) :=
 (cFy r n).trans
 ((cNo r n (rJ r n)).trans (bWz r n))
theorem cYy : aF CF r n 175 args h = s175 r n (aU args 0) (aU args 1) h :=
 (by kernel_rfl : aF CF r n 175 args h = D175 r n c175 x0 r175 (aI args) h).trans ((congrFun (congrFun (dJo r n) (aI args)) h).trans (by kernel_rfl))
noncomputable def s177 (r : RT) (n : Nat) (x0 : DV) (h0 : Hp) : aH :=
 bnd (r 148 [x0] h0) fun v1 h1 =>
 bnd (gD v1 false (some (x0, h1)) h1) fun v2 h2 =>
 bnd (gD v1 false (r 151 [v2] h2) h2) fun v3 h3 =>
 bnd (aR v1 (.b true) v3 h3) fun v4 h4 =>
 some (v4, h4)
noncomputable abbrev c177 : Code := cf Tryz.f177
noncomputable abbrev r177 : K := aP CF Tryz.f177
noncomputable def D177 (r : RT) (n : Nat) (c : Code) (X : Nat → K) (k : K) : K := aN CF r 9 n c X r177 k
theorem dKq : D177 r n c177 x0 r177 = (K1 (s177 r n) 0) :=
 (by kernel_rfl)
theorem dAc : aF CF r n 177 args h = s177 r n (aU args 0) h :=
 (by kernel_rfl : aF CF r n 177 args h = D177 r n c177 x0 r177 (aI args) h).trans ((congrFun (congrFun (dKq r n) (aI args)) h).trans (by kernel_rfl))
end Go.Dd

