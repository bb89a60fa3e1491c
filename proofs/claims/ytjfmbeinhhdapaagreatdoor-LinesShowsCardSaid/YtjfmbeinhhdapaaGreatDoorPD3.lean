/- A part of the proof: Q10 Q11 Q12 Q13 Q14 Qt HK: each text has a comment of its own. -/
import Derived.Test.YtjfmbeinhhdapaaGreatDoorPD2
set_option linter.unusedVariables false
set_option linter.unusedSimpArgs false
set_option linter.constructorNameAsVariable false
set_option maxRecDepth 100000
namespace Go.Dd
open Go.Proofs
variable (r : RT) (n : Nat) (args : List DV) (h : Hp)
noncomputable def aDu (r : RT) (n : Nat) (x0 x1 : DV) (h0 : Hp) : aG :=
 bnd (r 348 [x0, x1] h0) fun v1 h1 =>
 bnd (aC 0 v1 h1) fun v2 h2 =>
 bnd (aC 1 v1 h2) fun v3 h3 =>
 bnd (bQ [(.s []), (.b false), (.b false), (aJ 0)] h3) fun v4 h4 =>
 bnd (aI 4 v4 v2 h4) fun _ h5 =>
 bnd (gD v3 true (aB 1 v4 h5) h5) fun v6 h6 =>
 bnd (gD v3 true (aA v6 h6) h6) fun v7 h7 =>
 bnd (aN v3 v7 (.b false) h7) fun v8 h8 =>
 aT v8 (
 bnd (aB 3 v4 h8) fun v9 h9 =>
 bnd (aA v9 h9) fun v10 h10 =>
 bnd (r 296 [x0, (aJ 8), v10, (aJ 0)] h10) fun v11 h11 =>
 some (.t [], h11)) (
 aT v3 (
 bnd (aB 3 v4 h8) fun v12 h12 =>
 bnd (aA v12 h12) fun v13 h13 =>
 bnd (r 296 [x0, (aJ 7), v13, (aJ 0)] h13) fun v14 h14 =>
 some (.t [], h14)) (
 bnd (r 428 [x1] h8) fun v15 h15 =>
 aT v15 (
 bnd (r 429 [x0, x1] h15) fun v16 h16 =>
 bnd (r 296 [x0, (aJ 9), v16, (aJ 0)] h16) fun v17 h17 =>
 some (.t [], h17)) (
 bnd (r 350 [x0, x1, (aJ 15)] h15) fun v18 h18 =>
 some (.t [], h18))))
noncomputable def s353 (r : RT) (n : Nat) (x0 x1 : DV) (h0 : Hp) : aG :=
 bnd (bW .eql x1 (.s [115, 101, 108, 102]) h0) fun v1 h1 =>
 aT v1 (
 bnd (r 296 [x0, (aJ 1), (aJ 0), (aJ 0)] h1) fun v2 h2 =>
 some (.t [], h2)) (
 bnd (bW .eql x1 (.s [110, 105, 108]) h1) fun v3 h3 =>
 aT v3 (
 bnd (r 296 [x0, (aJ 2), (aJ 0), (aJ 0)] h3) fun v4 h4 =>
 some (.t [], h4)) (
 bnd (bW .eql x1 (.s [116, 114, 117, 101]) h3) fun v5 h5 =>
 aT v5 (
 bnd (r 296 [x0, (aJ 3), (aJ 0), (aJ 0)] h5) fun v6 h6 =>
 some (.t [], h6)) (
 bnd (bW .eql x1 (.s [102, 97, 108, 115, 101]) h5) fun v7 h7 =>
 aT v7 (
 bnd (r 296 [x0, (aJ 4), (aJ 0), (aJ 0)] h7) fun v8 h8 =>
 some (.t [], h8)) (
 bnd (bW .eql x1 (.s [116, 104, 105, 115, 67, 111, 110, 116, 101, 120, 116]) h7) fun v9 h9 =>
 aT v9 (
 bnd (r 296 [x0, (aJ 5), (aJ 0), (aJ 0)] h9) fun v10 h10 =>
 some (.t [], h10)) (
 bnd (bW .eql x1 (.s [115, 117, 112, 101, 114]) h9) fun v11 h11 =>
 aT v11 (
 bnd (r 350 [x0, x1, (aJ 15)] h11) fun v12 h12 =>
       aDu r n x0 x1 h12) (
       aDu r n x0 x1 h11))))))
noncomputable abbrev c353 : Code := cf Tryz.f353
noncomputable abbrev cYe : Code := cR c353
noncomputable abbrev bNw : Code := cL c353
noncomputable abbrev r353 : K := aO CF Tryz.f353
noncomputable def D353 (r : RT) (n : Nat) (c : Code) (X : Nat → K) (k : K) : K := aM CF r 65 n c X r353 k
theorem cIz : D353 r n cYe x0 r353 = (K2 (aDu r n) 0 1) :=
 (by kernel_rfl)
theorem dId : D353 r n c353 x0 r353 = D353 r n bNw x0 (K2 (aDu r n) 0 1) :=
 congrArg (fun k => D353 r n bNw x0 k) (cIz r n)
theorem dPo : D353 r n c353 x0 r353 = (K2 (s353 r n) 0 1) :=
 (dId r n).trans
 ((by kernel_rfl))
theorem dAx : aF CF r n 353 args h = s353 r n (aS args 0) (aS args 1) h :=
 (by kernel_rfl : aF CF r n 353 args h = D353 r n c353 x0 r353 (aH args) h).trans ((congrFun (congrFun (dPo r n) (aH args)) h).trans (by kernel_rfl))
noncomputable def s355 (r : RT) (n : Nat) (x0 x1 : DV) (h0 : Hp) : aG :=
 bnd (cH x1 h0) fun v1 h1 =>
 bnd (aB 5 v1 h1) fun v2 h2 =>
 bnd (aA v2 h2) fun v3 h3 =>
 bnd (bV v3 h3) fun v4 h4 =>
 bnd (aD .eql v4 (aJ 0) h4) fun v5 h5 =>
 aT v5 (
 bnd (r 350 [x0, (.s []), (aJ 1)] h5) fun v6 h6 =>
 some (.t [], h6)) (
 bnd (aK 6 v1 h5) fun v7 h7 =>
 bnd (r 430 [x0, v7] h7) fun v8 h8 =>
 bnd (gD v8 false (some (x0, h8)) h8) fun v9 h9 =>
 bnd (gD v8 false (aK 6 v1 h9) h9) fun v10 h10 =>
 bnd (gD v8 false (r 431 [v9, v10] h10) h10) fun v11 h11 =>
 bnd (aN v8 (.b true) v11 h11) fun v12 h12 =>
 aT v12 (
 some (.t [], h12)) (
 bnd (aB 5 v1 h12) fun v13 h13 =>
 bnd (aA v13 h13) fun v14 h14 =>
 bnd (aE 6 v14 (aJ 0) h14) fun v15 h15 =>
 bnd (aK 6 v15 h15) fun v16 h16 =>
 bnd (r 433 [x0, v16] h16) fun v17 h17 =>
 bnd (aB 1 v1 h17) fun v18 h18 =>
 bnd (aA v18 h18) fun v19 h19 =>
 cnd (bB (aA v18 h12) v19 && true) (
 bnd (aB 5 v1 h19) fun v20 h20 =>
 bnd (aA v20 h20) fun v21 h21 =>
 cnd (bB (aA v20 h12) v21 && true) (
 bnd (cS 6 v21 (some (aJ 1)) none h21) fun v22 h22 =>
 cnd (bB (cS 6 v21 (some (aJ 1)) none h12) v22 && true) (
 bnd (r 432 [x0, v17, v19, v22] h22) fun v23 h23 =>
 some (.t [], h23))))))
noncomputable abbrev c355 : Code := cf Tryz.f355
noncomputable abbrev r355 : K := aO CF Tryz.f355
noncomputable def D355 (r : RT) (n : Nat) (c : Code) (X : Nat → K) (k : K) : K := aM CF r 31 n c X r355 k
theorem dPk : D355 r n c355 x0 r355 = (K2 (s355 r n) 0 1) :=
 (by kernel_rfl)
theorem dCo : aF CF r n 355 args h = s355 r n (aS args 0) (aS args 1) h :=
 (by kernel_rfl : aF CF r n 355 args h = D355 r n c355 x0 r355 (aH args) h).trans ((congrFun (congrFun (dPk r n) (aH args)) h).trans (by kernel_rfl))
noncomputable def s360 (r : RT) (n : Nat) (x0 x1 x2 : DV) (h0 : Hp) : aG :=
 bnd (aD .geq x0 x1 h0) fun v1 h1 =>
 bnd (gD v1 true (some (x0, h1)) h1) fun v2 h2 =>
 bnd (gD v1 true (some (x2, h2)) h2) fun v3 h3 =>
 bnd (gD v1 true (aD .leq v2 v3 h3) h3) fun v4 h4 =>
 bnd (aN v1 v4 (.b false) h4) fun v5 h5 =>
 some (v5, h5)
noncomputable abbrev c360 : Code := cf Tryz.f360
noncomputable abbrev r360 : K := aO CF Tryz.f360
noncomputable def D360 (r : RT) (n : Nat) (c : Code) (X : Nat → K) (k : K) : K := aM CF r 15 n c X r360 k
theorem dOh : D360 r n c360 x0 r360 = (K3 (s360 r n) 0 1 2) :=
 (by kernel_rfl)
theorem dCa : aF CF r n 360 args h = s360 r n (aS args 0) (aS args 1) (aS args 2) h :=
 (by kernel_rfl : aF CF r n 360 args h = D360 r n c360 x0 r360 (aH args) h).trans ((congrFun (congrFun (dOh r n) (aH args)) h).trans (by kernel_rfl))
noncomputable def s361 (r : RT) (n : Nat) (x0 x1 : DV) (h0 : Hp) : aG :=
 bnd (r 425 [x0, x1] h0) fun v1 h1 =>
 bnd (aD .geq v1 (aJ 0) h1) fun v2 h2 =>
 some (v2, h2)
noncomputable abbrev c361 : Code := cf Tryz.f361
noncomputable abbrev r361 : K := aO CF Tryz.f361
noncomputable def D361 (r : RT) (n : Nat) (c : Code) (X : Nat → K) (k : K) : K := aM CF r 9 n c X r361 k
theorem dUg : D361 r n c361 x0 r361 = (K2 (s361 r n) 0 1) :=
 (by kernel_rfl)
theorem dIv : aF CF r n 361 args h = s361 r n (aS args 0) (aS args 1) h :=
 (by kernel_rfl : aF CF r n 361 args h = D361 r n c361 x0 r361 (aH args) h).trans ((congrFun (congrFun (dUg r n) (aH args)) h).trans (by kernel_rfl))
noncomputable def s362 (r : RT) (n : Nat) (x0 : DV) (h0 : Hp) : aG :=
 bnd (cH x0 h0) fun v1 h1 =>
 bnd (aK 4 v1 h1) fun v2 h2 =>
 bnd (r 363 [v2, (aJ 20)] h2) fun v3 h3 =>
 bnd (hZ .not v3 h3) fun v4 h4 =>
 some (v4, h4)
noncomputable abbrev c362 : Code := cf Tryz.f362
noncomputable abbrev r362 : K := aO CF Tryz.f362
noncomputable def D362 (r : RT) (n : Nat) (c : Code) (X : Nat → K) (k : K) : K := aM CF r 6 n c X r362 k
theorem dRd : D362 r n c362 x0 r362 = (K1 (s362 r n) 0) :=
 (by kernel_rfl)
theorem dFt : aF CF r n 362 args h = s362 r n (aS args 0) h :=
 (by kernel_rfl : aF CF r n 362 args h = D362 r n c362 x0 r362 (aH args) h).trans ((congrFun (congrFun (dRd r n) (aH args)) h).trans (by kernel_rfl))
noncomputable def s363 (r : RT) (n : Nat) (x0 x1 : DV) (h0 : Hp) : aG :=
 bnd (cH x0 h0) fun v1 h1 =>
 bnd (cH x1 h1) fun v2 h2 =>
 bnd (aB 0 v1 h2) fun v3 h3 =>
 bnd (aA v3 h3) fun v4 h4 =>
 bnd (aD .eql v4 (aJ 1) h4) fun v5 h5 =>
 aT v5 (
 bnd (aB 1 v1 h5) fun v6 h6 =>
 bnd (aA v6 h6) fun v7 h7 =>
 bnd (bW .eql v7 (.s []) h7) fun v8 h8 =>
 bnd (gD v8 true (aB 3 v1 h8) h8) fun v9 h9 =>
 bnd (gD v8 true (aA v9 h9) h9) fun v10 h10 =>
 bnd (gD v8 true (bV v10 h10) h10) fun v11 h11 =>
 bnd (gD v8 true (aD .eql v11 (aJ 0) h11) h11) fun v12 h12 =>
 bnd (aN v8 v12 (.b false) h12) fun v13 h13 =>
 bnd (gD v13 true (aB 2 v1 h13) h13) fun v14 h14 =>
 bnd (gD v13 true (aA v14 h14) h14) fun v15 h15 =>
 bnd (gD v13 true (r 360 [v15, (.i .i64 (Int.negSucc 1152921504606846975)), (aJ 1152921504606846976)] h15) h15) fun v16 h16 =>
 bnd (aN v13 v16 (.b false) h16) fun v17 h17 =>
 some (v17, h17)) (
 bnd (aD .eql v4 (aJ 2) h5) fun v18 h18 =>
 aT v18 (
 bnd (aB 2 v1 h18) fun v19 h19 =>
 bnd (aA v19 h19) fun v20 h20 =>
 bnd (aD .eql v20 (aJ 0) h20) fun v21 h21 =>
 bnd (gD v21 true (aB 3 v1 h21) h21) fun v22 h22 =>
 bnd (gD v21 true (aA v22 h22) h22) fun v23 h23 =>
 bnd (gD v21 true (bV v23 h23) h23) fun v24 h24 =>
 bnd (gD v21 true (aD .eql v24 (aJ 0) h24) h24) fun v25 h25 =>
 bnd (aN v21 v25 (.b false) h25) fun v26 h26 =>
 bnd (gD v26 true (aB 1 v1 h26) h26) fun v27 h27 =>
 bnd (gD v26 true (aA v27 h27) h27) fun v28 h28 =>
 bnd (gD v26 true (cJ v28 h28) h28) fun v29 h29 =>
 bnd (gD v26 true (aD .leq v29 (aJ 250) h29) h29) fun v30 h30 =>
 bnd (aN v26 v30 (.b false) h30) fun v31 h31 =>
 some (v31, h31)) (
 bnd (aD .eql v4 (aJ 3) h18) fun v32 h32 =>
 aT v32 (
 bnd (aB 2 v1 h32) fun v33 h33 =>
 bnd (aA v33 h33) fun v34 h34 =>
 bnd (aD .eql v34 (aJ 0) h34) fun v35 h35 =>
 bnd (gD v35 true (aB 3 v1 h35) h35) fun v36 h36 =>
 bnd (gD v35 true (aA v36 h36) h36) fun v37 h37 =>
 bnd (gD v35 true (bV v37 h37) h37) fun v38 h38 =>
 bnd (gD v35 true (aD .eql v38 (aJ 0) h38) h38) fun v39 h39 =>
 bnd (aN v35 v39 (.b false) h39) fun v40 h40 =>
 bnd (gD v40 true (aB 1 v1 h40) h40) fun v41 h41 =>
 bnd (gD v40 true (aA v41 h41) h41) fun v42 h42 =>
 bnd (gD v40 true (cJ v42 h42) h42) fun v43 h43 =>
 bnd (gD v40 true (r 360 [v43, (aJ 1), (aJ 60)] h43) h43) fun v44 h44 =>
 bnd (aN v40 v44 (.b false) h44) fun v45 h45 =>
 some (v45, h45)) (
 bnd (aD .eql v4 (aJ 4) h32) fun v46 h46 =>
 aT v46 (
 bnd (aB 3 v1 h46) fun v47 h47 =>
 bnd (aA v47 h47) fun v48 h48 =>
 bnd (r 361 [v48, (.f 437 [] [v2])] h48) fun v49 h49 =>
 bnd (aB 2 v1 h49) fun v50 h50 =>
 bnd (aA v50 h50) fun v51 h51 =>
 bnd (aD .eql v51 (aJ 0) h51) fun v52 h52 =>
 bnd (gD v52 true (aB 1 v1 h52) h52) fun v53 h53 =>
 bnd (gD v52 true (aA v53 h53) h53) fun v54 h54 =>
 bnd (gD v52 true (bW .eql v54 (.s []) h54) h54) fun v55 h55 =>
 bnd (aN v52 v55 (.b false) h55) fun v56 h56 =>
 bnd (gD v56 true (aA v2 h56) h56) fun v57 h57 =>
 bnd (gD v56 true (aD .gtr v57 (aJ 0) h57) h57) fun v58 h58 =>
 bnd (aN v56 v58 (.b false) h58) fun v59 h59 =>
 bnd (gD v59 true (aB 3 v1 h59) h59) fun v60 h60 =>
 bnd (gD v59 true (aA v60 h60) h60) fun v61 h61 =>
 bnd (gD v59 true (bV v61 h61) h61) fun v62 h62 =>
 bnd (gD v59 true (aD .leq v62 (aJ 250) h62) h62) fun v63 h63 =>
 bnd (aN v59 v63 (.b false) h63) fun v64 h64 =>
 bnd (gD v64 true (some (v49, h64)) h64) fun v65 h65 =>
 bnd (gD v64 true (hZ .not v65 h65) h65) fun v66 h66 =>
 bnd (aN v64 v66 (.b false) h66) fun v67 h67 =>
 some (v67, h67)) (
 some ((.b false), h46)))))
noncomputable abbrev c363 : Code := cf Tryz.f363
noncomputable abbrev r363 : K := aO CF Tryz.f363
noncomputable def D363 (r : RT) (n : Nat) (c : Code) (X : Nat → K) (k : K) : K := aM CF r 86 n c X r363 k
theorem dOm : D363 r n c363 x0 r363 = (K2 (s363 r n) 0 1) :=
 (by kernel_rfl)
theorem dDc : aF CF r n 363 args h = s363 r n (aS args 0) (aS args 1) h :=
 (by kernel_rfl : aF CF r n 363 args h = D363 r n c363 x0 r363 (aH args) h).trans ((congrFun (congrFun (dOm r n) (aH args)) h).trans (by kernel_rfl))
noncomputable def bA (r : RT) (n : Nat) (h0 : Hp) : aG :=
 some ((.b true), h0)
noncomputable def wI (r : RT) (n : Nat) (x2 x3 x4 x27 x51 : DV) (h0 : Hp) : aG :=
 aT x51 (
 bnd (aB 1 x4 h0) fun v1 h1 =>
 bnd (aA v1 h1) fun v2 h2 =>
 bnd (aD .lss v2 x2 h2) fun v3 h3 =>
 some (v3, h3)) (
 bnd (aD .eql x27 (aJ 18) h0) fun v4 h4 =>
 aT v4 (
 bnd (aB 2 x4 h4) fun v5 h5 =>
 bnd (aA v5 h5) fun v6 h6 =>
 bnd (aD .leq v6 (aJ 4) h6) fun v7 h7 =>
 bnd (gD v7 true (aB 1 x4 h7) h7) fun v8 h8 =>
 bnd (gD v7 true (aA v8 h8) h8) fun v9 h9 =>
 bnd (gD v7 true (aB 2 x4 h9) h9) fun v10 h10 =>
 bnd (gD v7 true (aA v10 h10) h10) fun v11 h11 =>
 bnd (gD v7 true (aD .add v9 v11 h11) h11) fun v12 h12 =>
 bnd (gD v7 true (aB 2 x3 h12) h12) fun v13 h13 =>
 bnd (gD v7 true (aA v13 h13) h13) fun v14 h14 =>
 bnd (gD v7 true (aD .leq v12 v14 h14) h14) fun v15 h15 =>
 bnd (aN v7 v15 (.b false) h15) fun v16 h16 =>
 some (v16, h16)) (
   bA r n h4))
noncomputable def aXw (r : RT) (n : Nat) (x2 x3 x4 x27 : DV) (h0 : Hp) : aG :=
 bnd (aD .eql x27 (aJ 8) h0) fun v1 h1 =>
 aT v1 (
  wI r n x2 x3 x4 x27 v1 h1) (
 bnd (aD .eql x27 (aJ 11) h1) fun v2 h2 =>
  wI r n x2 x3 x4 x27 v2 h2)
noncomputable def uV (r : RT) (n : Nat) (x2 x3 x4 x27 x43 : DV) (h0 : Hp) : aG :=
 aT x43 (
 bnd (aB 1 x4 h0) fun v1 h1 =>
 bnd (aA v1 h1) fun v2 h2 =>
 bnd (aB 2 x3 h2) fun v3 h3 =>
 bnd (aA v3 h3) fun v4 h4 =>
 bnd (aD .lss v2 v4 h4) fun v5 h5 =>
 some (v5, h5)) (
  aXw r n x2 x3 x4 x27 h0)
noncomputable def aZr (r : RT) (n : Nat) (x2 x3 x4 x27 : DV) (h0 : Hp) : aG :=
 bnd (aD .eql x27 (aJ 7) h0) fun v1 h1 =>
 aT v1 (
  uV r n x2 x3 x4 x27 v1 h1) (
 bnd (aD .eql x27 (aJ 10) h1) fun v2 h2 =>
  uV r n x2 x3 x4 x27 v2 h2)
noncomputable def vX (r : RT) (n : Nat) (x2 x3 x4 x8 x27 x34 : DV) (h0 : Hp) : aG :=
 aT x34 (
 bnd (gD x8 true (aB 2 x4 h0) h0) fun v1 h1 =>
 bnd (gD x8 true (aA v1 h1) h1) fun v2 h2 =>
 bnd (gD x8 true (aD .leq v2 (aJ 4) h2) h2) fun v3 h3 =>
 bnd (aN x8 v3 (.b false) h3) fun v4 h4 =>
 some (v4, h4)) (
  aZr r n x2 x3 x4 x27 h0)
noncomputable def bNa (r : RT) (n : Nat) (x2 x3 x4 x8 x27 : DV) (h0 : Hp) : aG :=
 bnd (aD .eql x27 (aJ 14) h0) fun v1 h1 =>
 aT v1 (
  vX r n x2 x3 x4 x8 x27 v1 h1) (
 bnd (aD .eql x27 (aJ 15) h1) fun v2 h2 =>
  vX r n x2 x3 x4 x8 x27 v2 h2)
noncomputable def aTp (r : RT) (n : Nat) (x2 x3 x4 x8 x27 x31 : DV) (h0 : Hp) : aG :=
 aT x31 (
 some (x8, h0)) (
  bNa r n x2 x3 x4 x8 x27 h0)
noncomputable def bTh (r : RT) (n : Nat) (x2 x3 x4 x8 x27 : DV) (h0 : Hp) : aG :=
 bnd (aD .eql x27 (aJ 9) h0) fun v1 h1 =>
  aTp r n x2 x3 x4 x8 x27 v1 h1
noncomputable def aTq (r : RT) (n : Nat) (x2 x3 x4 x7 x8 x27 x28 : DV) (h0 : Hp) : aG :=
 aT x28 (
 some (x7, h0)) (
  bTh r n x2 x3 x4 x8 x27 h0)
noncomputable def aUe (r : RT) (n : Nat) (x2 x3 x4 x7 x8 x27 : DV) (h0 : Hp) : aG :=
 bnd (aD .eql x27 (aJ 6) h0) fun v1 h1 =>
  aTq r n x2 x3 x4 x7 x8 x27 v1 h1
noncomputable def aPd (r : RT) (n : Nat) (x2 x3 x4 x7 x8 : DV) (h0 : Hp) : aG :=
 bnd (aB 0 x4 h0) fun v1 h1 =>
 bnd (aA v1 h1) fun v2 h2 =>
  aUe r n x2 x3 x4 x7 x8 v2 h2
noncomputable def aRl (r : RT) (n : Nat) (x2 x3 x4 x7 : DV) (h0 : Hp) : aG :=
 bnd (gD x7 true (aB 4 x3 h0) h0) fun v1 h1 =>
 bnd (gD x7 true (aA v1 h1) h1) fun v2 h2 =>
 bnd (gD x7 true (aB 1 x4 h2) h2) fun v3 h3 =>
 bnd (gD x7 true (aA v3 h3) h3) fun v4 h4 =>
 bnd (gD x7 true (aE 4 v2 v4 h4) h4) fun v5 h5 =>
 bnd (gD x7 true (aB 0 v5 h5) h5) fun v6 h6 =>
 bnd (gD x7 true (aA v6 h6) h6) fun v7 h7 =>
 bnd (gD x7 true (aD .eql v7 (aJ 3) h7) h7) fun v8 h8 =>
 bnd (aN x7 v8 (.b false) h8) fun v9 h9 =>
  aPd r n x2 x3 x4 x7 v9 h9
noncomputable def aAw (r : RT) (n : Nat) (x2 x3 x4 : DV) (h0 : Hp) : aG :=
 bnd (aB 1 x4 h0) fun v1 h1 =>
 bnd (aA v1 h1) fun v2 h2 =>
 bnd (aB 4 x3 h2) fun v3 h3 =>
 bnd (aA v3 h3) fun v4 h4 =>
 bnd (bV v4 h4) fun v5 h5 =>
 bnd (aD .lss v2 v5 h5) fun v6 h6 =>
  aRl r n x2 x3 x4 v6 h6
noncomputable def s364 (r : RT) (n : Nat) (x0 x1 x2 : DV) (h0 : Hp) : aG :=
 bnd (cH x0 h0) fun v1 h1 =>
 bnd (cH x1 h1) fun v2 h2 =>
  aAw r n x2 v1 v2 h2
noncomputable abbrev c364 : Code := cf Tryz.f364
noncomputable abbrev aGe : Code := cR c364
noncomputable abbrev aIy : Code := cR aGe
noncomputable abbrev aIb : Code := cR aIy
noncomputable abbrev dDh : Code := cR aIb
noncomputable abbrev wO : Code := cL aIb
noncomputable abbrev aVs : Code := cR wO
noncomputable abbrev aId : Code := cL aVs
noncomputable abbrev yT : Code := cR aId
noncomputable abbrev zV : Code := cR yT
noncomputable abbrev qK : Code := cR zV
noncomputable abbrev qT : Code := cR qK
noncomputable abbrev pP : Code := cR qT
noncomputable abbrev qF : Code := cR pP
noncomputable abbrev qL : Code := cR qF
noncomputable abbrev qH : Code := cR qL
noncomputable abbrev cRo : Code := cR qH
noncomputable abbrev bDh : Code := cL qH
noncomputable abbrev cSl : Code := cL qL
noncomputable abbrev aZb : Code := cL qF
noncomputable abbrev cNr : Code := cL pP
noncomputable abbrev bEc : Code := cL qT
noncomputable abbrev cKd : Code := cL qK
noncomputable abbrev aWy : Code := cL zV
noncomputable abbrev cGa : Code := cL yT
noncomputable abbrev bBu : Code := cL aId
noncomputable abbrev bAp : Code := cL wO
noncomputable abbrev aYi : Code := cL aIy
noncomputable abbrev aXf : Code := cL aGe
noncomputable abbrev aFt : Code := cL c364
noncomputable abbrev r364 : K := aO CF Tryz.f364
noncomputable def D364 (r : RT) (n : Nat) (c : Code) (X : Nat → K) (k : K) : K := aM CF r 73 n c X r364 k
theorem cKe : D364 r n dDh x0 r364 = (K0 (bA r n)) :=
 (by kernel_rfl)
theorem cDf : D364 r n cRo (xs x0 0 (K0 (bA r n))) (K0 (bA r n)) = (K5 (wI r n) 2 3 4 27 51) :=
 (by kernel_rfl)
theorem bHs : D364 r n qH (xs x0 0 (K0 (bA r n))) (K0 (bA r n)) = D364 r n bDh (xs x0 0 (K0 (bA r n))) (K5 (wI r n) 2 3 4 27 51) :=
 congrArg (fun k => D364 r n bDh (xs x0 0 (K0 (bA r n))) k) (cDf r n)
theorem cCr : D364 r n qH (xs x0 0 (K0 (bA r n))) (K0 (bA r n)) = (K4 (aXw r n) 2 3 4 27) :=
 (bHs r n).trans
 ((by kernel_rfl))
theorem bJk : D364 r n qL (xs x0 0 (K0 (bA r n))) (K0 (bA r n)) = (K5 (uV r n) 2 3 4 27 43) :=
 (by kernel_rfl : D364 r n qL (xs x0 0 (K0 (bA r n))) (K0 (bA r n)) = (fun (env : aZ) (h : Hp) => aT (opr env (cC qL)) (D364 r n cSl (xs x0 0 (K0 (bA r n))) (K0 (bA r n)) env h) (D364 r n qH (xs x0 0 (K0 (bA r n))) (K0 (bA r n)) env h))).trans (by rw [cCr r n]; kernel_rfl)
theorem bHp : D364 r n qF (xs x0 0 (K0 (bA r n))) (K0 (bA r n)) = D364 r n aZb (xs x0 0 (K0 (bA r n))) (K5 (uV r n) 2 3 4 27 43) :=
 congrArg (fun k => D364 r n aZb (xs x0 0 (K0 (bA r n))) k) (bJk r n)
theorem bLn : D364 r n qF (xs x0 0 (K0 (bA r n))) (K0 (bA r n)) = (K4 (aZr r n) 2 3 4 27) :=
 (bHp r n).trans
 ((by kernel_rfl))
theorem bKf : D364 r n pP (xs x0 0 (K0 (bA r n))) (K0 (bA r n)) = (K6 (vX r n) 2 3 4 8 27 34) :=
 (by kernel_rfl : D364 r n pP (xs x0 0 (K0 (bA r n))) (K0 (bA r n)) = (fun (env : aZ) (h : Hp) => aT (opr env (cC pP)) (D364 r n cNr (xs x0 0 (K0 (bA r n))) (K0 (bA r n)) env h) (D364 r n qF (xs x0 0 (K0 (bA r n))) (K0 (bA r n)) env h))).trans (by rw [bLn r n]; kernel_rfl)
theorem bKt : D364 r n qT (xs x0 0 (K0 (bA r n))) (K0 (bA r n)) = D364 r n bEc (xs x0 0 (K0 (bA r n))) (K6 (vX r n) 2 3 4 8 27 34) :=
 congrArg (fun k => D364 r n bEc (xs x0 0 (K0 (bA r n))) k) (bKf r n)
theorem cFh : D364 r n qT (xs x0 0 (K0 (bA r n))) (K0 (bA r n)) = (K5 (bNa r n) 2 3 4 8 27) :=
 (bKt r n).trans
 ((by kernel_rfl))
theorem cLd : D364 r n qK (xs x0 0 (K0 (bA r n))) (K0 (bA r n)) = (K6 (aTp r n) 2 3 4 8 27 31) :=
 (by kernel_rfl : D364 r n qK (xs x0 0 (K0 (bA r n))) (K0 (bA r n)) = (fun (env : aZ) (h : Hp) => aT (opr env (cC qK)) (D364 r n cKd (xs x0 0 (K0 (bA r n))) (K0 (bA r n)) env h) (D364 r n qT (xs x0 0 (K0 (bA r n))) (K0 (bA r n)) env h))).trans (by rw [cFh r n]; kernel_rfl)
theorem bOn : D364 r n zV (xs x0 0 (K0 (bA r n))) (K0 (bA r n)) = D364 r n aWy (xs x0 0 (K0 (bA r n))) (K6 (aTp r n) 2 3 4 8 27 31) :=
 congrArg (fun k => D364 r n aWy (xs x0 0 (K0 (bA r n))) k) (cLd r n)
theorem cUj : D364 r n zV (xs x0 0 (K0 (bA r n))) (K0 (bA r n)) = (K5 (bTh r n) 2 3 4 8 27) :=
 (bOn r n).trans
 ((by kernel_rfl))
theorem cTt : D364 r n yT (xs x0 0 (K0 (bA r n))) (K0 (bA r n)) = (K7 (aTq r n) 2 3 4 7 8 27 28) :=
 (by kernel_rfl : D364 r n yT (xs x0 0 (K0 (bA r n))) (K0 (bA r n)) = (fun (env : aZ) (h : Hp) => aT (opr env (cC yT)) (D364 r n cGa (xs x0 0 (K0 (bA r n))) (K0 (bA r n)) env h) (D364 r n zV (xs x0 0 (K0 (bA r n))) (K0 (bA r n)) env h))).trans (by rw [cUj r n]; kernel_rfl)
theorem cCx : D364 r n aId (xs x0 0 (K0 (bA r n))) (K0 (bA r n)) = D364 r n bBu (xs x0 0 (K0 (bA r n))) (K7 (aTq r n) 2 3 4 7 8 27 28) :=
 congrArg (fun k => D364 r n bBu (xs x0 0 (K0 (bA r n))) k) (cTt r n)
theorem cQr : D364 r n aVs x0 (K0 (bA r n)) = (K6 (aUe r n) 2 3 4 7 8 27) :=
 (by kernel_rfl : D364 r n aVs x0 (K0 (bA r n)) = D364 r n aId (xs x0 0 (K0 (bA r n))) (K0 (bA r n))).trans
 ((cCx r n).trans
 ((by kernel_rfl)))
theorem bVn : D364 r n aIb x0 r364 = D364 r n wO x0 (K0 (bA r n)) :=
 congrArg (fun k => D364 r n wO x0 k) (cKe r n)
theorem bLw : D364 r n wO x0 (K0 (bA r n)) = D364 r n bAp x0 (K6 (aUe r n) 2 3 4 7 8 27) :=
 congrArg (fun k => D364 r n bAp x0 k) (cQr r n)
theorem cPs : D364 r n aIb x0 r364 = (K5 (aPd r n) 2 3 4 7 8) :=
 (bVn r n).trans
 ((bLw r n).trans
 ((by kernel_rfl)))
theorem bXs : D364 r n aIy x0 r364 = D364 r n aYi x0 (K5 (aPd r n) 2 3 4 7 8) :=
 congrArg (fun k => D364 r n aYi x0 k) (cPs r n)
theorem cGx : D364 r n aIy x0 r364 = (K4 (aRl r n) 2 3 4 7) :=
 (bXs r n).trans
 ((by kernel_rfl))
theorem bOw : D364 r n aGe x0 r364 = D364 r n aXf x0 (K4 (aRl r n) 2 3 4 7) :=
 congrArg (fun k => D364 r n aXf x0 k) (cGx r n)
theorem cHz : D364 r n aGe x0 r364 = (K3 (aAw r n) 2 3 4) :=
 (bOw r n).trans
 ((by kernel_rfl))
theorem cHb : D364 r n c364 x0 r364 = D364 r n aFt x0 (K3 (aAw r n) 2 3 4) :=
 congrArg (fun k => D364 r n aFt x0 k) (cHz r n)
theorem cKu (q0 : fG) : D364 r n aFt x0 (K3 q0 2 3 4) = fun (env : aZ) (h : Hp) =>
 bnd (cH (env 0) h) fun v1 h1 =>
 bnd (cH (env 1) h1) fun v2 h2 =>
  q0 (env 2) v1 v2 h2 := by kernel_rfl
theorem bQn : (fun (env : aZ) (h : Hp) =>
 bnd (cH (env 0) h) fun v1 h1 =>
 bnd (cH (env 1) h1) fun v2 h2 =>
  aAw r n (env 2) v1 v2 h2) = (K3 (s364 r n) 0 1 2) := by kernel_rfl
theorem dOz : D364 r n c364 x0 r364 = (K3 (s364 r n) 0 1 2) :=
 (cHb r n).trans
 ((cKu r n (aAw r n)).trans (bQn r n))
theorem dGy : aF CF r n 364 args h = s364 r n (aS args 0) (aS args 1) (aS args 2) h :=
 (by kernel_rfl : aF CF r n 364 args h = D364 r n c364 x0 r364 (aH args) h).trans ((congrFun (congrFun (dOz r n) (aH args)) h).trans (by kernel_rfl))
noncomputable def eQ (r : RT) (n : Nat) (x3 : DV) (h0 : Hp) : aG :=
 some (x3, h0)
noncomputable def bBo (r : RT) (n : Nat) (kk6 : cU) (x3 x4 x11 x12 : DV) (h0 : Hp) : aG :=
 bnd (aD .lss x12 x11 h0) fun v1 h1 =>
 aT v1 (
 bnd (gX CF r x4 [x12] h1) fun v2 h2 =>
 bnd (aE 1 x3 x12 h2) fun v3 h3 =>
 bnd (aI 1 v3 v2 h3) fun _ h4 =>
 bnd (aD .add x12 (aJ 1) h4) fun v5 h5 =>
      kk6 x3 x4 x11 v5 h5) (
      eQ r n x3 h1)
noncomputable def uK (r : RT) (n : Nat) (m : Nat) : cU :=
 Nat.rec (motive := fun _ => cU) (fun _ _ _ _ _ => none) (fun _ ih => bBo r n ih) m
noncomputable def bJp (r : RT) (n : Nat) : cU := uK r n n
noncomputable def aQo (r : RT) (n : Nat) (x3 x4 x11 x12 : DV) (h0 : Hp) : aG :=
 bJp r n x3 x4 x11 x12 h0
noncomputable def aVw (r : RT) (n : Nat) (x1 x3 x4 : DV) (h0 : Hp) : aG :=
 bnd (aA x1 h0) fun v1 h1 =>
 bnd (bV v1 h1) fun v2 h2 =>
  aQo r n x3 x4 v2 (aJ 0) h2
noncomputable def xI (r : RT) (n : Nat) (x1 x3 : DV) (h0 : Hp) : aG :=
 aVw r n x1 x3 (.f 438 [] [x1]) h0
noncomputable def sD (r : RT) (n : Nat) (x1 : DV) (h0 : Hp) : aG :=
 bnd (aA x1 h0) fun v1 h1 =>
 bnd (bV v1 h1) fun v2 h2 =>
 bnd (bN 1 8 [(aJ 0)] v2 v2 h2) fun v3 h3 =>
  xI r n x1 v3 h3
noncomputable def s365 (r : RT) (n : Nat) (x0 : DV) (h0 : Hp) : aG :=
 bnd (cH x0 h0) fun v1 h1 =>
  sD r n v1 h1
noncomputable abbrev c365 : Code := cf Tryz.f365
noncomputable abbrev aHq : Code := cR c365
noncomputable abbrev aKe : Code := cR aHq
noncomputable abbrev aHo : Code := cR aKe
noncomputable abbrev cZp : Code := cR aHo
noncomputable abbrev wR : Code := cL aHo
noncomputable abbrev aPb : Code := cR wR
noncomputable abbrev aJa : Code := cL aPb
noncomputable abbrev pH : Code := cL aJa
noncomputable abbrev bZr : Code := cL wR
noncomputable abbrev aYm : Code := cL aKe
noncomputable abbrev aJz : Code := cL aHq
noncomputable abbrev aFr : Code := cL c365
noncomputable abbrev r365 : K := aO CF Tryz.f365
noncomputable def D365 (r : RT) (n : Nat) (c : Code) (X : Nat → K) (k : K) : K := aM CF r 23 n c X r365 k
theorem cUi : D365 r n cZp x0 r365 = (K1 (eQ r n) 3) :=
 (by kernel_rfl)
theorem bXu (kk6 : cU) : D365 r n pH (xs x0 0 (K1 (eQ r n) 3)) (K4 kk6 3 4 11 12) = (K4 (bBo r n kk6) 3 4 11 12) :=
 (by kernel_rfl)
theorem bPz (m : Nat) : aL (fun kk => D365 r n pH (xs x0 0 (K1 (eQ r n) 3)) kk) m = (K4 (uK r n m) 3 4 11 12) := by
 induction m with
 | zero => exact (by kernel_rfl : aL (fun kk => D365 r n pH (xs x0 0 (K1 (eQ r n) 3)) kk) 0 = (K4 (uK r n 0) 3 4 11 12))
 | succ m ih =>
  refine (by kernel_rfl : aL (fun kk => D365 r n pH (xs x0 0 (K1 (eQ r n) 3)) kk) (m + 1) = D365 r n pH (xs x0 0 (K1 (eQ r n) 3)) (aL (fun kk => D365 r n pH (xs x0 0 (K1 (eQ r n) 3)) kk) m)).trans ?_
  rw [ih]
  exact (bXu r n (uK r n m)).trans (by kernel_rfl)
theorem cEu : D365 r n aJa (xs x0 0 (K1 (eQ r n) 3)) (K1 (eQ r n) 3) = (K4 (bJp r n) 3 4 11 12) :=
 (by kernel_rfl : D365 r n aJa (xs x0 0 (K1 (eQ r n) 3)) (K1 (eQ r n) 3) = aL (fun kk => D365 r n pH (xs x0 0 (K1 (eQ r n) 3)) kk) n).trans ((bPz r n n).trans (by kernel_rfl))
theorem cJv : D365 r n aPb x0 (K1 (eQ r n) 3) = (K4 (aQo r n) 3 4 11 12) :=
 (by kernel_rfl : D365 r n aPb x0 (K1 (eQ r n) 3) = D365 r n aJa (xs x0 0 (K1 (eQ r n) 3)) (K1 (eQ r n) 3)).trans
 ((cEu r n).trans (by kernel_rfl))
theorem bSi : D365 r n aHo x0 r365 = D365 r n wR x0 (K1 (eQ r n) 3) :=
 congrArg (fun k => D365 r n wR x0 k) (cUi r n)
theorem bRw : D365 r n wR x0 (K1 (eQ r n) 3) = D365 r n bZr x0 (K4 (aQo r n) 3 4 11 12) :=
 congrArg (fun k => D365 r n bZr x0 k) (cJv r n)
theorem cKa : D365 r n aHo x0 r365 = (K3 (aVw r n) 1 3 4) :=
 (bSi r n).trans
 ((bRw r n).trans
 ((by kernel_rfl)))
theorem bLb : D365 r n aKe x0 r365 = D365 r n aYm x0 (K3 (aVw r n) 1 3 4) :=
 congrArg (fun k => D365 r n aYm x0 k) (cKa r n)
theorem cFf : D365 r n aKe x0 r365 = (K2 (xI r n) 1 3) :=
 (bLb r n).trans
 ((by kernel_rfl))
theorem bRa : D365 r n aHq x0 r365 = D365 r n aJz x0 (K2 (xI r n) 1 3) :=
 congrArg (fun k => D365 r n aJz x0 k) (cFf r n)
theorem bPy (q0 : pR) : D365 r n aJz x0 (K2 q0 1 3) = fun (env : aZ) (h : Hp) =>
 bnd (aA (env 1) h) fun v1 h1 =>
 bnd (bV v1 h1) fun v2 h2 =>
 bnd (bN 1 8 [(aJ 0)] v2 v2 h2) fun v3 h3 =>
  q0 (env 1) v3 h3 := by kernel_rfl
theorem bHn : (fun (env : aZ) (h : Hp) =>
 bnd (aA (env 1) h) fun v1 h1 =>
 bnd (bV v1 h1) fun v2 h2 =>
 bnd (bN 1 8 [(aJ 0)] v2 v2 h2) fun v3 h3 =>
  xI r n (env 1) v3 h3) = (K1 (sD r n) 1) := by kernel_rfl
theorem cRi : D365 r n aHq x0 r365 = (K1 (sD r n) 1) :=
 (bRa r n).trans
 ((bPy r n (xI r n)).trans (bHn r n))
theorem dDp : D365 r n c365 x0 r365 = D365 r n aFr x0 (K1 (sD r n) 1) :=
 congrArg (fun k => D365 r n aFr x0 k) (cRi r n)
theorem cXy (q0 : TT1) : D365 r n aFr x0 (K1 q0 1) = fun (env : aZ) (h : Hp) =>
 bnd (cH (env 0) h) fun v1 h1 =>
  q0 v1 h1 := by kernel_rfl
theorem cJr : (fun (env : aZ) (h : Hp) =>
 bnd (cH (env 0) h) fun v1 h1 =>
  sD r n v1 h1) = (K1 (s365 r n) 0) := by kernel_rfl
theorem dWh : D365 r n c365 x0 r365 = (K1 (s365 r n) 0) :=
 (dDp r n).trans
 ((cXy r n (sD r n)).trans (cJr r n))
theorem dJi : aF CF r n 365 args h = s365 r n (aS args 0) h :=
 (by kernel_rfl : aF CF r n 365 args h = D365 r n c365 x0 r365 (aH args) h).trans ((congrFun (congrFun (dWh r n) (aH args)) h).trans (by kernel_rfl))
end Go.Dd

namespace Go.Dd
open Go.Proofs
variable (r : RT) (n : Nat) (args : List DV) (h : Hp)
noncomputable def bH (r : RT) (n : Nat) (h0 : Hp) : aG :=
 some ((.b true), h0)
noncomputable def cK (r : RT) (n : Nat) (kk4 : cI) (x0 x1 x11 x12 x13 : DV) (h0 : Hp) : aG :=
 bnd (aD .add x13 (aJ 1) h0) fun v1 h1 =>
  kk4 x0 x1 x11 x12 v1 h1
noncomputable def fU (r : RT) (n : Nat) (kk4 : cI) (x0 x1 x5 x6 x11 x12 x13 : DV) (h0 : Hp) : aG :=
 bnd (aK 3 x6 h0) fun v1 h1 =>
 bnd (r 384 [v1] h1) fun v2 h2 =>
 bnd (aD .geq v2 (aJ 0) h2) fun v3 h3 =>
 bnd (gD v3 true (some (v2, h3)) h3) fun v4 h4 =>
 bnd (gD v3 true (some (x0, h4)) h4) fun v5 h5 =>
 bnd (gD v3 true (bV v5 h5) h5) fun v6 h6 =>
 bnd (gD v3 true (aD .geq v4 v6 h6) h6) fun v7 h7 =>
 bnd (gD v3 true (some (v7, h7)) h7) fun v8 h8 =>
 bnd (gD v8 false (some (x1, h8)) h8) fun v9 h9 =>
 bnd (gD v8 false (some (v2, h9)) h9) fun v10 h10 =>
 bnd (gD v8 false (aE 1 v9 v10 h10) h10) fun v11 h11 =>
 bnd (gD v8 false (aA v11 h11) h11) fun v12 h12 =>
 bnd (gD v8 false (some (x1, h12)) h12) fun v13 h13 =>
 bnd (gD v8 false (some (x5, h13)) h13) fun v14 h14 =>
 bnd (gD v8 false (aE 1 v13 v14 h14) h14) fun v15 h15 =>
 bnd (gD v8 false (aA v15 h15) h15) fun v16 h16 =>
 bnd (gD v8 false (aD .neq v12 v16 h16) h16) fun v17 h17 =>
 bnd (gD v3 true (aN v8 (.b true) v17 h17) h17) fun v18 h18 =>
 bnd (aN v3 v18 (.b false) h18) fun v19 h19 =>
 aT v19 (
 some ((.b false), h19)) (
  cK r n kk4 x0 x1 x11 x12 x13 h19)
noncomputable def vI (r : RT) (n : Nat) (kk4 : cI) (x0 x1 x5 x6 x7 x8 x9 x11 x12 x13 : DV) (h0 : Hp) : aG :=
 bnd (hZ .not x8 h0) fun v1 h1 =>
 bnd (gD v1 false (some (x7, h1)) h1) fun v2 h2 =>
 bnd (gD v1 false (some (x9, h2)) h2) fun v3 h3 =>
 bnd (gD v1 false (aD .gtr v2 v3 h3) h3) fun v4 h4 =>
 bnd (aN v1 (.b true) v4 h4) fun v5 h5 =>
 aT v5 (
 some ((.b false), h5)) (
  fU r n kk4 x0 x1 x5 x6 x11 x12 x13 h5)
noncomputable def aJi (r : RT) (n : Nat) (kk4 : cI) (x0 x1 x5 x6 x7 x8 x9 x11 x12 x13 : DV) (h0 : Hp) : aG :=
 bnd (aE 1 x1 x5 h0) fun v1 h1 =>
 bnd (aA v1 h1) fun v2 h2 =>
 bnd (aD .geq v2 (aJ 0) h2) fun v3 h3 =>
 aT v3 (
 bnd (aE 1 x1 x5 h3) fun v4 h4 =>
 bnd (aA v4 h4) fun v5 h5 =>
 bnd (r 439 [x0, v5] h5) fun v6 h6 =>
 bnd (aC 0 v6 h6) fun v7 h7 =>
 bnd (aC 1 v6 h7) fun v8 h8 =>
  vI r n kk4 x0 x1 x5 x6 x7 x8 v7 x11 x12 x13 h8) (
  vI r n kk4 x0 x1 x5 x6 x7 x8 x9 x11 x12 x13 h3)
noncomputable def aLg (r : RT) (n : Nat) (kk4 : cI) (x0 x1 x5 x6 x7 x8 x11 x12 x13 : DV) (h0 : Hp) : aG :=
 bnd (bV x0 h0) fun v1 h1 =>
  aJi r n kk4 x0 x1 x5 x6 x7 x8 v1 x11 x12 x13 h1
noncomputable def bEa (r : RT) (n : Nat) (kk4 : cI) (x0 x1 x5 x6 x11 x12 x13 : DV) (h0 : Hp) : aG :=
 bnd (r 439 [x0, x5] h0) fun v1 h1 =>
 bnd (aC 0 v1 h1) fun v2 h2 =>
 bnd (aC 1 v1 h2) fun v3 h3 =>
  aLg r n kk4 x0 x1 x5 x6 v2 v3 x11 x12 x13 h3
noncomputable def aEy (r : RT) (n : Nat) (kk4 : cI) (x0 x1 x5 x6 x11 x12 x13 x20 : DV) (h0 : Hp) : aG :=
 aT x20 (
  bEa r n kk4 x0 x1 x5 x6 x11 x12 x13 h0) (
  fU r n kk4 x0 x1 x5 x6 x11 x12 x13 h0)
noncomputable def zX (r : RT) (n : Nat) (kk4 : cI) (x0 x1 x5 x6 x11 x12 x13 : DV) (h0 : Hp) : aG :=
 bnd (aB 0 x6 h0) fun v1 h1 =>
 bnd (aA v1 h1) fun v2 h2 =>
 bnd (aD .eql v2 (aJ 18) h2) fun v3 h3 =>
  aEy r n kk4 x0 x1 x5 x6 x11 x12 x13 v3 h3
noncomputable def aHt (r : RT) (n : Nat) (kk4 : cI) (x0 x1 x11 x12 x13 : DV) (h0 : Hp) : aG :=
 bnd (aE 3 x11 x13 h0) fun v1 h1 =>
 bnd (aK 3 v1 h1) fun v2 h2 =>
 bnd (bQ [(aJ 0), (aJ 0), (aJ 0)] h2) fun v3 h3 =>
 bnd (aI 3 v3 v2 h3) fun _ h4 =>
  zX r n kk4 x0 x1 x13 v3 x11 x12 x13 h4
noncomputable def aQg (r : RT) (n : Nat) (kk4 : cI) (x0 x1 x11 x12 x13 x14 : DV) (h0 : Hp) : aG :=
 aT x14 (
  aHt r n kk4 x0 x1 x11 x12 x13 h0) (
  bH r n h0)
noncomputable def bEj (r : RT) (n : Nat) (kk4 : cI) (x0 x1 x11 x12 x13 : DV) (h0 : Hp) : aG :=
 bnd (aD .lss x13 x12 h0) fun v1 h1 =>
  aQg r n kk4 x0 x1 x11 x12 x13 v1 h1
noncomputable def tY (r : RT) (n : Nat) (m : Nat) : cI :=
 Nat.rec (motive := fun _ => cI) (fun _ _ _ _ _ _ => none) (fun _ ih => bEj r n ih) m
noncomputable def cBt (r : RT) (n : Nat) : cI := tY r n n
noncomputable def aTm (r : RT) (n : Nat) (x0 x1 x11 x12 x13 : DV) (h0 : Hp) : aG :=
 cBt r n x0 x1 x11 x12 x13 h0
noncomputable def aTw (r : RT) (n : Nat) (x0 x1 : DV) (h0 : Hp) : aG :=
 bnd (bV x0 h0) fun v1 h1 =>
  aTm r n x0 x1 x0 v1 (aJ 0) h1
noncomputable def s366 (r : RT) (n : Nat) (x0 x1 : DV) (h0 : Hp) : aG :=
 aTw r n x0 x1 h0
noncomputable abbrev c366 : Code := cf Tryz.f366
noncomputable abbrev aGf : Code := cR c366
noncomputable abbrev dBo : Code := cR aGf
noncomputable abbrev yM : Code := cL aGf
noncomputable abbrev aVc : Code := cR yM
noncomputable abbrev aGg : Code := cL aVc
noncomputable abbrev kN : Code := cL aGg
noncomputable abbrev aLl : Code := cR kN
noncomputable abbrev aDv : Code := cR aLl
noncomputable abbrev dFq : Code := cR aDv
noncomputable abbrev vR : Code := cL aDv
noncomputable abbrev tZ : Code := cL vR
noncomputable abbrev uT : Code := cR tZ
noncomputable abbrev cKg : Code := cR uT
noncomputable abbrev qG : Code := cL uT
noncomputable abbrev pQ : Code := cR qG
noncomputable abbrev qX : Code := cL pQ
noncomputable abbrev uM : Code := cR qX
noncomputable abbrev uN : Code := cR uM
noncomputable abbrev cNe : Code := cR uN
noncomputable abbrev aYj : Code := cL uN
noncomputable abbrev bBn : Code := cL uM
noncomputable abbrev aYx : Code := cL qX
noncomputable abbrev cSv : Code := cR pQ
noncomputable abbrev bDe : Code := cL qG
noncomputable abbrev aCw : Code := cL tZ
noncomputable abbrev aZn : Code := cL aLl
noncomputable abbrev bAa : Code := cL kN
noncomputable abbrev aYr : Code := cL yM
noncomputable abbrev bBw : Code := cL c366
noncomputable abbrev r366 : K := aO CF Tryz.f366
noncomputable def D366 (r : RT) (n : Nat) (c : Code) (X : Nat → K) (k : K) : K := aM CF r 72 n c X r366 k
theorem cIy : D366 r n dBo x0 r366 = (K0 (bH r n)) :=
 (by kernel_rfl)
theorem cFe (kk4 : cI) : D366 r n dFq (xs x0 0 (K0 (bH r n))) (K5 kk4 0 1 11 12 13) = (K5 (cK r n kk4) 0 1 11 12 13) :=
 (by kernel_rfl)
theorem cHo (kk4 : cI) : D366 r n cKg (xs (xs x0 0 (K0 (bH r n))) 1 (K5 (cK r n kk4) 0 1 11 12 13)) (K5 (cK r n kk4) 0 1 11 12 13) = (K7 (fU r n kk4) 0 1 5 6 11 12 13) :=
 (by kernel_rfl)
theorem cCh (kk4 : cI) : D366 r n cNe (xs (xs x0 0 (K0 (bH r n))) 1 (K5 (cK r n kk4) 0 1 11 12 13)) (K7 (fU r n kk4) 0 1 5 6 11 12 13) = (K10 (vI r n kk4) 0 1 5 6 7 8 9 11 12 13) :=
 (by kernel_rfl)
theorem bFi (kk4 : cI) : D366 r n uN (xs (xs x0 0 (K0 (bH r n))) 1 (K5 (cK r n kk4) 0 1 11 12 13)) (K7 (fU r n kk4) 0 1 5 6 11 12 13) = D366 r n aYj (xs (xs x0 0 (K0 (bH r n))) 1 (K5 (cK r n kk4) 0 1 11 12 13)) (K10 (vI r n kk4) 0 1 5 6 7 8 9 11 12 13) :=
 congrArg (fun k => D366 r n aYj (xs (xs x0 0 (K0 (bH r n))) 1 (K5 (cK r n kk4) 0 1 11 12 13)) k) (cCh r n kk4)
theorem bLv (kk4 : cI) : D366 r n uN (xs (xs x0 0 (K0 (bH r n))) 1 (K5 (cK r n kk4) 0 1 11 12 13)) (K7 (fU r n kk4) 0 1 5 6 11 12 13) = (K10 (aJi r n kk4) 0 1 5 6 7 8 9 11 12 13) :=
 (bFi r n kk4).trans
 ((by kernel_rfl))
theorem bGe (kk4 : cI) : D366 r n uM (xs (xs x0 0 (K0 (bH r n))) 1 (K5 (cK r n kk4) 0 1 11 12 13)) (K7 (fU r n kk4) 0 1 5 6 11 12 13) = D366 r n bBn (xs (xs x0 0 (K0 (bH r n))) 1 (K5 (cK r n kk4) 0 1 11 12 13)) (K10 (aJi r n kk4) 0 1 5 6 7 8 9 11 12 13) :=
 congrArg (fun k => D366 r n bBn (xs (xs x0 0 (K0 (bH r n))) 1 (K5 (cK r n kk4) 0 1 11 12 13)) k) (bLv r n kk4)
theorem bPf (kk4 : cI) : D366 r n uM (xs (xs x0 0 (K0 (bH r n))) 1 (K5 (cK r n kk4) 0 1 11 12 13)) (K7 (fU r n kk4) 0 1 5 6 11 12 13) = (K9 (aLg r n kk4) 0 1 5 6 7 8 11 12 13) :=
 (bGe r n kk4).trans
 ((by kernel_rfl))
theorem bHt (kk4 : cI) : D366 r n qX (xs (xs x0 0 (K0 (bH r n))) 1 (K5 (cK r n kk4) 0 1 11 12 13)) (K7 (fU r n kk4) 0 1 5 6 11 12 13) = D366 r n aYx (xs (xs x0 0 (K0 (bH r n))) 1 (K5 (cK r n kk4) 0 1 11 12 13)) (K9 (aLg r n kk4) 0 1 5 6 7 8 11 12 13) :=
 congrArg (fun k => D366 r n aYx (xs (xs x0 0 (K0 (bH r n))) 1 (K5 (cK r n kk4) 0 1 11 12 13)) k) (bPf r n kk4)
theorem bJy (kk4 : cI) : D366 r n qX (xs (xs x0 0 (K0 (bH r n))) 1 (K5 (cK r n kk4) 0 1 11 12 13)) (K7 (fU r n kk4) 0 1 5 6 11 12 13) = (K7 (bEa r n kk4) 0 1 5 6 11 12 13) :=
 (bHt r n kk4).trans
 ((by kernel_rfl))
theorem bVf (kk4 : cI) : D366 r n pQ (xs (xs x0 0 (K0 (bH r n))) 1 (K5 (cK r n kk4) 0 1 11 12 13)) (K7 (fU r n kk4) 0 1 5 6 11 12 13) = (K8 (aEy r n kk4) 0 1 5 6 11 12 13 20) :=
 (by kernel_rfl : D366 r n pQ (xs (xs x0 0 (K0 (bH r n))) 1 (K5 (cK r n kk4) 0 1 11 12 13)) (K7 (fU r n kk4) 0 1 5 6 11 12 13) = (fun (env : aZ) (h : Hp) => aT (opr env (cC pQ)) (D366 r n qX (xs (xs x0 0 (K0 (bH r n))) 1 (K5 (cK r n kk4) 0 1 11 12 13)) (K7 (fU r n kk4) 0 1 5 6 11 12 13) env h) (D366 r n cSv (xs (xs x0 0 (K0 (bH r n))) 1 (K5 (cK r n kk4) 0 1 11 12 13)) (K7 (fU r n kk4) 0 1 5 6 11 12 13) env h))).trans (by rw [bJy r n kk4]; kernel_rfl)
theorem bSh (kk4 : cI) : D366 r n uT (xs (xs x0 0 (K0 (bH r n))) 1 (K5 (cK r n kk4) 0 1 11 12 13)) (K5 (cK r n kk4) 0 1 11 12 13) = D366 r n qG (xs (xs x0 0 (K0 (bH r n))) 1 (K5 (cK r n kk4) 0 1 11 12 13)) (K7 (fU r n kk4) 0 1 5 6 11 12 13) :=
 congrArg (fun k => D366 r n qG (xs (xs x0 0 (K0 (bH r n))) 1 (K5 (cK r n kk4) 0 1 11 12 13)) k) (cHo r n kk4)
theorem bOp (kk4 : cI) : D366 r n qG (xs (xs x0 0 (K0 (bH r n))) 1 (K5 (cK r n kk4) 0 1 11 12 13)) (K7 (fU r n kk4) 0 1 5 6 11 12 13) = D366 r n bDe (xs (xs x0 0 (K0 (bH r n))) 1 (K5 (cK r n kk4) 0 1 11 12 13)) (K8 (aEy r n kk4) 0 1 5 6 11 12 13 20) :=
 congrArg (fun k => D366 r n bDe (xs (xs x0 0 (K0 (bH r n))) 1 (K5 (cK r n kk4) 0 1 11 12 13)) k) (bVf r n kk4)
theorem cNo (kk4 : cI) : D366 r n uT (xs (xs x0 0 (K0 (bH r n))) 1 (K5 (cK r n kk4) 0 1 11 12 13)) (K5 (cK r n kk4) 0 1 11 12 13) = (K7 (zX r n kk4) 0 1 5 6 11 12 13) :=
 (bSh r n kk4).trans
 ((bOp r n kk4).trans
 ((by kernel_rfl)))
theorem cEd (kk4 : cI) : D366 r n aDv (xs x0 0 (K0 (bH r n))) (K5 kk4 0 1 11 12 13) = D366 r n vR (xs x0 0 (K0 (bH r n))) (K5 (cK r n kk4) 0 1 11 12 13) :=
 congrArg (fun k => D366 r n vR (xs x0 0 (K0 (bH r n))) k) (cFe r n kk4)
theorem bLm (kk4 : cI) : D366 r n tZ (xs (xs x0 0 (K0 (bH r n))) 1 (K5 (cK r n kk4) 0 1 11 12 13)) (K5 (cK r n kk4) 0 1 11 12 13) = D366 r n aCw (xs (xs x0 0 (K0 (bH r n))) 1 (K5 (cK r n kk4) 0 1 11 12 13)) (K7 (zX r n kk4) 0 1 5 6 11 12 13) :=
 congrArg (fun k => D366 r n aCw (xs (xs x0 0 (K0 (bH r n))) 1 (K5 (cK r n kk4) 0 1 11 12 13)) k) (cNo r n kk4)
theorem bXg (kk4 : cI) (q0 : xK) (q1 : Hp → aG) (q2 : cI) : D366 r n aCw (xs (xs x0 0 (K0 q1)) 1 (K5 q2 0 1 11 12 13)) (K7 q0 0 1 5 6 11 12 13) = fun (env : aZ) (h : Hp) =>
 bnd (aE 3 (env 11) (env 13) h) fun v1 h1 =>
 bnd (aK 3 v1 h1) fun v2 h2 =>
 bnd (bQ [(aJ 0), (aJ 0), (aJ 0)] h2) fun v3 h3 =>
 bnd (aI 3 v3 v2 h3) fun _ h4 =>
  q0 (env 0) (env 1) (env 13) v3 (env 11) (env 12) (env 13) h4 := by kernel_rfl
theorem bJc (kk4 : cI) : (fun (env : aZ) (h : Hp) =>
 bnd (aE 3 (env 11) (env 13) h) fun v1 h1 =>
 bnd (aK 3 v1 h1) fun v2 h2 =>
 bnd (bQ [(aJ 0), (aJ 0), (aJ 0)] h2) fun v3 h3 =>
 bnd (aI 3 v3 v2 h3) fun _ h4 =>
  zX r n kk4 (env 0) (env 1) (env 13) v3 (env 11) (env 12) (env 13) h4) = (K5 (aHt r n kk4) 0 1 11 12 13) := by kernel_rfl
theorem cPz (kk4 : cI) : D366 r n aDv (xs x0 0 (K0 (bH r n))) (K5 kk4 0 1 11 12 13) = (K5 (aHt r n kk4) 0 1 11 12 13) :=
 (cEd r n kk4).trans
 ((by kernel_rfl : D366 r n vR (xs x0 0 (K0 (bH r n))) (K5 (cK r n kk4) 0 1 11 12 13) = D366 r n tZ (xs (xs x0 0 (K0 (bH r n))) 1 (K5 (cK r n kk4) 0 1 11 12 13)) (K5 (cK r n kk4) 0 1 11 12 13)).trans
 ((bLm r n kk4).trans
 ((bXg r n kk4 (zX r n kk4) (bH r n) (cK r n kk4)).trans (bJc r n kk4))))
theorem cCl (kk4 : cI) : D366 r n aLl (xs x0 0 (K0 (bH r n))) (K5 kk4 0 1 11 12 13) = D366 r n aZn (xs x0 0 (K0 (bH r n))) (K5 (aHt r n kk4) 0 1 11 12 13) :=
 congrArg (fun k => D366 r n aZn (xs x0 0 (K0 (bH r n))) k) (cPz r n kk4)
theorem cOn (kk4 : cI) : D366 r n aLl (xs x0 0 (K0 (bH r n))) (K5 kk4 0 1 11 12 13) = (K6 (aQg r n kk4) 0 1 11 12 13 14) :=
 (cCl r n kk4).trans
 ((by kernel_rfl))
theorem bEw (kk4 : cI) : D366 r n kN (xs x0 0 (K0 (bH r n))) (K5 kk4 0 1 11 12 13) = D366 r n bAa (xs x0 0 (K0 (bH r n))) (K6 (aQg r n kk4) 0 1 11 12 13 14) :=
 congrArg (fun k => D366 r n bAa (xs x0 0 (K0 (bH r n))) k) (cOn r n kk4)
theorem bJu (kk4 : cI) : D366 r n kN (xs x0 0 (K0 (bH r n))) (K5 kk4 0 1 11 12 13) = (K5 (bEj r n kk4) 0 1 11 12 13) :=
 (bEw r n kk4).trans
 ((by kernel_rfl))
theorem cDv (m : Nat) : aL (fun kk => D366 r n kN (xs x0 0 (K0 (bH r n))) kk) m = (K5 (tY r n m) 0 1 11 12 13) := by
 induction m with
 | zero => exact (by kernel_rfl : aL (fun kk => D366 r n kN (xs x0 0 (K0 (bH r n))) kk) 0 = (K5 (tY r n 0) 0 1 11 12 13))
 | succ m ih =>
  refine (by kernel_rfl : aL (fun kk => D366 r n kN (xs x0 0 (K0 (bH r n))) kk) (m + 1) = D366 r n kN (xs x0 0 (K0 (bH r n))) (aL (fun kk => D366 r n kN (xs x0 0 (K0 (bH r n))) kk) m)).trans ?_
  rw [ih]
  exact (bJu r n (tY r n m)).trans (by kernel_rfl)
theorem cPf : D366 r n aGg (xs x0 0 (K0 (bH r n))) (K0 (bH r n)) = (K5 (cBt r n) 0 1 11 12 13) :=
 (by kernel_rfl : D366 r n aGg (xs x0 0 (K0 (bH r n))) (K0 (bH r n)) = aL (fun kk => D366 r n kN (xs x0 0 (K0 (bH r n))) kk) n).trans ((cDv r n n).trans (by kernel_rfl))
theorem cKw : D366 r n aVc x0 (K0 (bH r n)) = (K5 (aTm r n) 0 1 11 12 13) :=
 (by kernel_rfl : D366 r n aVc x0 (K0 (bH r n)) = D366 r n aGg (xs x0 0 (K0 (bH r n))) (K0 (bH r n))).trans
 ((cPf r n).trans (by kernel_rfl))
theorem bGx : D366 r n aGf x0 r366 = D366 r n yM x0 (K0 (bH r n)) :=
 congrArg (fun k => D366 r n yM x0 k) (cIy r n)
theorem bFp : D366 r n yM x0 (K0 (bH r n)) = D366 r n aYr x0 (K5 (aTm r n) 0 1 11 12 13) :=
 congrArg (fun k => D366 r n aYr x0 k) (cKw r n)
theorem cGl : D366 r n aGf x0 r366 = (K2 (aTw r n) 0 1) :=
 (bGx r n).trans
 ((bFp r n).trans
 ((by kernel_rfl)))
theorem cMp : D366 r n c366 x0 r366 = D366 r n bBw x0 (K2 (aTw r n) 0 1) :=
 congrArg (fun k => D366 r n bBw x0 k) (cGl r n)
theorem dSg : D366 r n c366 x0 r366 = (K2 (s366 r n) 0 1) :=
 (cMp r n).trans
 ((by kernel_rfl))
theorem dIm : aF CF r n 366 args h = s366 r n (aS args 0) (aS args 1) h :=
 (by kernel_rfl : aF CF r n 366 args h = D366 r n c366 x0 r366 (aH args) h).trans ((congrFun (congrFun (dSg r n) (aH args)) h).trans (by kernel_rfl))
noncomputable def bS (r : RT) (n : Nat) (x6 x9 : DV) (h0 : Hp) : aG :=
 bnd (aA x6 h0) fun v1 h1 =>
 bnd (aA x9 h1) fun v2 h2 =>
 some (.t [v1, v2], h2)
noncomputable def uA (r : RT) (n : Nat) (kk9 : gJ) (x2 x3 x6 x7 x9 x10 x11 x14 : DV) (h0 : Hp) : aG :=
 bnd (aD .add x11 (aJ 1) h0) fun v1 h1 =>
 bnd (aA x3 h1) fun v2 h2 =>
 bnd (aE 1 v2 x11 h2) fun v3 h3 =>
 bnd (aA v3 h3) fun v4 h4 =>
 bnd (gX CF r x10 [v1, v4, x14] h4) fun v5 h5 =>
  kk9 x2 x3 x6 x7 x9 x10 h5
noncomputable def aEm (r : RT) (n : Nat) (kk9 : gJ) (x2 x3 x6 x7 x9 x10 x11 x12 x13 x14 : DV) (h0 : Hp) : aG :=
 bnd (aB 0 x12 h0) fun v1 h1 =>
 bnd (aA v1 h1) fun v2 h2 =>
 bnd (aD .eql v2 (aJ 19) h2) fun v3 h3 =>
 aT v3 (
 bnd (aD .neq x13 (aJ 1) h3) fun v4 h4 =>
 bnd (gD v4 false (aA x3 h4) h4) fun v5 h5 =>
 bnd (gD v4 false (some (x11, h5)) h5) fun v6 h6 =>
 bnd (gD v4 false (aE 1 v5 v6 h6) h6) fun v7 h7 =>
 bnd (gD v4 false (aA v7 h7) h7) fun v8 h8 =>
 bnd (gD v4 false (aD .lss v8 (aJ 0) h8) h8) fun v9 h9 =>
 bnd (aN v4 (.b true) v9 h9) fun v10 h10 =>
 aT v10 (
 some (.t [.l0, (.b false)], h10)) (
   kk9 x2 x3 x6 x7 x9 x10 h10)) (
 bnd (aD .eql v2 (aJ 20) h3) fun v11 h11 =>
 aT v11 (
   kk9 x2 x3 x6 x7 x9 x10 h11) (
 bnd (aD .eql v2 (aJ 16) h11) fun v12 h12 =>
 aT v12 (
 bnd (aK 3 x12 h12) fun v13 h13 =>
 bnd (r 384 [v13] h13) fun v14 h14 =>
 bnd (aA x3 h14) fun v15 h15 =>
 cnd (bB (aA x3 h12) v15 && true) (
 bnd (aE 1 v15 x11 h15) fun v16 h16 =>
 bnd (aA v16 h16) fun v17 h17 =>
 cnd (bB (aA v16 h12) v17 && true) (
 bnd (gX CF r x10 [v14, v17, x14] h17) fun v18 h18 =>
    kk9 x2 x3 x6 x7 x9 x10 h18))) (
 bnd (aD .eql v2 (aJ 17) h12) fun v19 h19 =>
 aT v19 (
 bnd (aK 3 x12 h19) fun v20 h20 =>
 bnd (r 384 [v20] h20) fun v21 h21 =>
 bnd (aA x3 h21) fun v22 h22 =>
 cnd (bB (aA x3 h19) v22 && true) (
 bnd (aE 1 v22 x11 h22) fun v23 h23 =>
 bnd (aA v23 h23) fun v24 h24 =>
 cnd (bB (aA v23 h19) v24 && true) (
 bnd (gX CF r x10 [v21, v24, x14] h24) fun v25 h25 =>
     uA r n kk9 x2 x3 x6 x7 x9 x10 x11 x14 h25))) (
     uA r n kk9 x2 x3 x6 x7 x9 x10 x11 x14 h19))))
noncomputable def aFk (r : RT) (n : Nat) (kk9 : gJ) (x2 x3 x6 x7 x9 x10 x11 x12 x13 x14 : DV) (h0 : Hp) : aG :=
 bnd (aK 3 x12 h0) fun v1 h1 =>
 bnd (r 442 [v1] h1) fun v2 h2 =>
 bnd (aD .lss x13 v2 h2) fun v3 h3 =>
 bnd (gD v3 false (some (x14, h3)) h3) fun v4 h4 =>
 bnd (gD v3 false (aD .gtr v4 (aJ 24) h4) h4) fun v5 h5 =>
 bnd (aN v3 (.b true) v5 h5) fun v6 h6 =>
 aT v6 (
 some (.t [.l0, (.b false)], h6)) (
  aEm r n kk9 x2 x3 x6 x7 x9 x10 x11 x12 x13 x14 h6)
noncomputable def aKj (r : RT) (n : Nat) (kk9 : gJ) (x2 x3 x6 x7 x9 x10 x11 x12 x13 : DV) (h0 : Hp) : aG :=
 bnd (aK 3 x12 h0) fun v1 h1 =>
 bnd (r 441 [v1] h1) fun v2 h2 =>
 bnd (aD .add x13 v2 h2) fun v3 h3 =>
  aFk r n kk9 x2 x3 x6 x7 x9 x10 x11 x12 x13 v3 h3
noncomputable def aKy (r : RT) (n : Nat) (kk9 : gJ) (x2 x3 x6 x7 x9 x10 x11 : DV) (h0 : Hp) : aG :=
 bnd (aA x2 (resv 1 h0)) fun v1 h1 =>
 bnd (aE 3 v1 x11 h1) fun v2 h2 =>
 bnd (aK 3 v2 h2) fun v3 h3 =>
 bnd (aA x6 h3) fun v4 h4 =>
 bnd (aE 1 v4 x11 h4) fun v5 h5 =>
 bnd (aA v5 h5) fun v6 h6 =>
 bnd (lQ (cB 0 h0.next) [(aJ 0), (aJ 0), (aJ 0)] h6) fun v7 h7 =>
 bnd (aI 3 v7 v3 h7) fun v8 h8 =>
 cnd (bB (aA v5 h8) v6 && (bB (aA x6 h8) v4 && true)) (
  aKj r n kk9 x2 x3 x6 x7 x9 x10 x11 v7 v6 h8)
noncomputable def aIt (r : RT) (n : Nat) (kk9 : gJ) (x2 x3 x6 x7 x9 x10 x11 : DV) (h0 : Hp) : aG :=
 bnd (aA x7 h0) fun v1 h1 =>
 bnd (aA x7 h1) fun v2 h2 =>
 bnd (bV v2 h2) fun v3 h3 =>
 bnd (aD .sub v3 (aJ 1) h3) fun v4 h4 =>
 bnd (cS 1 v1 none (some v4) h4) fun v5 h5 =>
 bnd (aI 1 x7 v5 h5) fun _ h6 =>
  aKy r n kk9 x2 x3 x6 x7 x9 x10 x11 h6
noncomputable def aCm (r : RT) (n : Nat) (kk9 : gJ) (x2 x3 x6 x7 x9 x10 : DV) (h0 : Hp) : aG :=
 bnd (aA x7 h0) fun v1 h1 =>
 bnd (aA x7 h1) fun v2 h2 =>
 bnd (bV v2 h2) fun v3 h3 =>
 bnd (aD .sub v3 (aJ 1) h3) fun v4 h4 =>
 bnd (aE 1 v1 v4 h4) fun v5 h5 =>
 bnd (aA v5 h5) fun v6 h6 =>
  aIt r n kk9 x2 x3 x6 x7 x9 x10 v6 h6
noncomputable def aXd (r : RT) (n : Nat) (kk9 : gJ) (x2 x3 x6 x7 x9 x10 : DV) (h0 : Hp) : aG :=
 bnd (aA x7 h0) fun v1 h1 =>
 bnd (bV v1 h1) fun v2 h2 =>
 bnd (aD .gtr v2 (aJ 0) h2) fun v3 h3 =>
 bnd (gD v3 true (aA x9 h3) h3) fun v4 h4 =>
 bnd (aN v3 v4 (.b false) h4) fun v5 h5 =>
 aT v5 (
   aCm r n kk9 x2 x3 x6 x7 x9 x10 h5) (
   bS r n x6 x9 h5)
noncomputable def vD (r : RT) (n : Nat) (m : Nat) : gJ :=
 Nat.rec (motive := fun _ => gJ) (fun _ _ _ _ _ _ _ => none) (fun _ ih => aXd r n ih) m
noncomputable def cAl (r : RT) (n : Nat) : gJ := vD r n n
noncomputable def aUh (r : RT) (n : Nat) (x2 x3 x6 x7 x9 x10 : DV) (h0 : Hp) : aG :=
 cAl r n x2 x3 x6 x7 x9 x10 h0
noncomputable def aRc (r : RT) (n : Nat) (x2 x3 x6 x7 x9 x10 : DV) (h0 : Hp) : aG :=
 aUh r n x2 x3 x6 x7 x9 x10 h0
noncomputable def wQ (r : RT) (n : Nat) (x2 x3 x6 x7 x9 : DV) (h0 : Hp) : aG :=
 aRc r n x2 x3 x6 x7 x9 (.f 440 [] [x2, x3, x6, x9, x7]) h0
noncomputable def cT (r : RT) (n : Nat) (x2 x3 x6 x7 : DV) (h0 : Hp) : aG :=
 bnd (bQ [(.b false)] h0) fun v1 h1 =>
 bnd (aI 1 v1 (.b true) h1) fun _ h2 =>
  wQ r n x2 x3 x6 x7 v1 h2
noncomputable def lK (r : RT) (n : Nat) (kk18 : gJ) (x2 x3 x6 x7 x19 x20 : DV) (h0 : Hp) : aG :=
 bnd (aD .add x20 (aJ 1) h0) fun v1 h1 =>
  kk18 x2 x3 x6 x7 x19 v1 h1
noncomputable def uI (r : RT) (n : Nat) (kk18 : gJ) (x2 x3 x6 x7 x19 x20 : DV) (h0 : Hp) : aG :=
 bnd (aA x6 h0) fun v1 h1 =>
 bnd (aE 1 v1 x20 h1) fun v2 h2 =>
 bnd (aI 1 v2 (.i .i64 (Int.negSucc 0)) h2) fun _ h3 =>
 bnd (aD .eql x20 (aJ 0) h3) fun v4 h4 =>
 bnd (gD v4 false (some (x20, h4)) h4) fun v5 h5 =>
 bnd (gD v4 false (aD .gtr v5 (aJ 1) h5) h5) fun v6 h6 =>
 bnd (gD v4 false (some (v6, h6)) h6) fun v7 h7 =>
 bnd (gD v7 true (aA x2 h7) h7) fun v8 h8 =>
 bnd (gD v7 true (some (x20, h8)) h8) fun v9 h9 =>
 bnd (gD v7 true (aD .sub v9 (aJ 2) h9) h9) fun v10 h10 =>
 bnd (gD v7 true (aE 3 v8 v10 h10) h10) fun v11 h11 =>
 bnd (gD v7 true (aB 0 v11 h11) h11) fun v12 h12 =>
 bnd (gD v7 true (aA v12 h12) h12) fun v13 h13 =>
 bnd (gD v7 true (aD .eql v13 (aJ 18) h13) h13) fun v14 h14 =>
 bnd (gD v4 false (aN v7 v14 (.b false) h14) h14) fun v15 h15 =>
 bnd (gD v4 false (some (v15, h15)) h15) fun v16 h16 =>
 bnd (gD v16 true (aA x3 h16) h16) fun v17 h17 =>
 bnd (gD v16 true (some (x20, h17)) h17) fun v18 h18 =>
 bnd (gD v16 true (aE 1 v17 v18 h18) h18) fun v19 h19 =>
 bnd (gD v16 true (aA v19 h19) h19) fun v20 h20 =>
 bnd (gD v16 true (some (x20, h20)) h20) fun v21 h21 =>
 bnd (gD v16 true (aD .sub v21 (aJ 2) h21) h21) fun v22 h22 =>
 bnd (gD v16 true (aD .eql v20 v22 h22) h22) fun v23 h23 =>
 bnd (gD v4 false (aN v16 v23 (.b false) h23) h23) fun v24 h24 =>
 bnd (aN v4 (.b true) v24 h24) fun v25 h25 =>
 aT v25 (
 bnd (aA x6 h25) fun v26 h26 =>
 bnd (aE 1 v26 x20 h26) fun v27 h27 =>
 bnd (aI 1 v27 (aJ 0) h27) fun _ h28 =>
 bnd (aA x7 h28) fun v29 h29 =>
 bnd (aP [(aJ 0)] 1 [(0, 1, x20)] h29) fun v30 h30 =>
 bnd (bF 1 8 v29 v30 h30) fun v31 h31 =>
 bnd (aI 1 x7 v31 h31) fun _ h32 =>
  lK r n kk18 x2 x3 x6 x7 x19 x20 h32) (
  lK r n kk18 x2 x3 x6 x7 x19 x20 h25)
noncomputable def aJe (r : RT) (n : Nat) (kk18 : gJ) (x2 x3 x6 x7 x19 x20 x21 : DV) (h0 : Hp) : aG :=
 aT x21 (
  uI r n kk18 x2 x3 x6 x7 x19 x20 h0) (
  cT r n x2 x3 x6 x7 h0)
noncomputable def aLo (r : RT) (n : Nat) (kk18 : gJ) (x2 x3 x6 x7 x19 x20 : DV) (h0 : Hp) : aG :=
 bnd (aD .lss x20 x19 h0) fun v1 h1 =>
  aJe r n kk18 x2 x3 x6 x7 x19 x20 v1 h1
noncomputable def pZ (r : RT) (n : Nat) (m : Nat) : gJ :=
 Nat.rec (motive := fun _ => gJ) (fun _ _ _ _ _ _ _ => none) (fun _ ih => aLo r n ih) m
noncomputable def bAv (r : RT) (n : Nat) : gJ := pZ r n n
noncomputable def aGl (r : RT) (n : Nat) (x2 x3 x6 x7 x19 x20 : DV) (h0 : Hp) : aG :=
 bAv r n x2 x3 x6 x7 x19 x20 h0
noncomputable def xP (r : RT) (n : Nat) (x2 x3 x6 x7 : DV) (h0 : Hp) : aG :=
 bnd (aA x6 h0) fun v1 h1 =>
 bnd (bV v1 h1) fun v2 h2 =>
  aGl r n x2 x3 x6 x7 v2 (aJ 0) h2
noncomputable def rJ (r : RT) (n : Nat) (x2 x3 x6 : DV) (h0 : Hp) : aG :=
 bnd (bQ [.l0] h0) fun v1 h1 =>
  xP r n x2 x3 x6 v1 h1
noncomputable def sK (r : RT) (n : Nat) (x2 x3 : DV) (h0 : Hp) : aG :=
 bnd (aA x2 h0) fun v1 h1 =>
 bnd (bV v1 h1) fun v2 h2 =>
 bnd (bN 1 8 [(aJ 0)] v2 v2 h2) fun v3 h3 =>
 bnd (bQ [.l0] h3) fun v4 h4 =>
 bnd (aI 1 v4 v3 h4) fun _ h5 =>
  rJ r n x2 x3 v4 h5
noncomputable def s367 (r : RT) (n : Nat) (x0 x1 : DV) (h0 : Hp) : aG :=
 bnd (cH x0 h0) fun v1 h1 =>
 bnd (cH x1 h1) fun v2 h2 =>
  sK r n v1 v2 h2
noncomputable abbrev c367 : Code := cf Tryz.f367
noncomputable abbrev aOu : Code := cR c367
noncomputable abbrev aKv : Code := cL aOu
noncomputable abbrev aJc : Code := cR aKv
noncomputable abbrev aLe : Code := cR aJc
noncomputable abbrev aGa : Code := cR aLe
noncomputable abbrev aEa : Code := cR aGa
noncomputable abbrev aEi : Code := cR aEa
noncomputable abbrev aKi : Code := cR aEi
noncomputable abbrev dIs : Code := cR aKi
noncomputable abbrev vC : Code := cL aKi
noncomputable abbrev uO : Code := cL vC
noncomputable abbrev iN : Code := cL uO
noncomputable abbrev aHu : Code := cR iN
noncomputable abbrev tS : Code := cL aHu
noncomputable abbrev wE : Code := cR tS
noncomputable abbrev uU : Code := cR wE
noncomputable abbrev vM : Code := cR uU
noncomputable abbrev vJ : Code := cR vM
noncomputable abbrev uJ : Code := cR vJ
noncomputable abbrev cUu : Code := cR uJ
noncomputable abbrev bEs : Code := cL uJ
noncomputable abbrev bEk : Code := cL vJ
noncomputable abbrev bDz : Code := cL vM
noncomputable abbrev bEb : Code := cL uU
noncomputable abbrev aZe : Code := cL wE
noncomputable abbrev bDk : Code := cL tS
noncomputable abbrev bAe : Code := cL iN
noncomputable abbrev bBy : Code := cL aEi
noncomputable abbrev bAc : Code := cL aEa
noncomputable abbrev aJr : Code := cL aGa
noncomputable abbrev qY : Code := cL aLe
noncomputable abbrev aDp : Code := cR qY
noncomputable abbrev tU : Code := cL aDp
noncomputable abbrev iP : Code := cL tU
noncomputable abbrev tP : Code := cR iP
noncomputable abbrev wH : Code := cR tP
noncomputable abbrev cSd : Code := cR wH
noncomputable abbrev aFy : Code := cL wH
noncomputable abbrev bCq : Code := cL tP
noncomputable abbrev bDn : Code := cL iP
noncomputable abbrev bAi : Code := cL qY
noncomputable abbrev aHj : Code := cL aJc
noncomputable abbrev aCx : Code := cL aKv
noncomputable abbrev aJp : Code := cL c367
noncomputable abbrev r367 : K := aO CF Tryz.f367
noncomputable def D367 (r : RT) (n : Nat) (c : Code) (X : Nat → K) (k : K) : K := aM CF r 144 n c X r367 k
theorem cUt : D367 r n dIs x0 r367 = (K2 (bS r n) 6 9) :=
 (by kernel_rfl)
theorem bOd (kk9 : gJ) : D367 r n cUu (xs (xs x0 2 (K2 (bS r n) 6 9)) 3 (K6 kk9 2 3 6 7 9 10)) (K6 kk9 2 3 6 7 9 10) = (K8 (uA r n kk9) 2 3 6 7 9 10 11 14) :=
 (by kernel_rfl)
theorem bIl (kk9 : gJ) : D367 r n uJ (xs (xs x0 2 (K2 (bS r n) 6 9)) 3 (K6 kk9 2 3 6 7 9 10)) (K6 kk9 2 3 6 7 9 10) = D367 r n bEs (xs (xs x0 2 (K2 (bS r n) 6 9)) 3 (K6 kk9 2 3 6 7 9 10)) (K8 (uA r n kk9) 2 3 6 7 9 10 11 14) :=
 congrArg (fun k => D367 r n bEs (xs (xs x0 2 (K2 (bS r n) 6 9)) 3 (K6 kk9 2 3 6 7 9 10)) k) (bOd r n kk9)
theorem bXe (kk9 : gJ) : D367 r n uJ (xs (xs x0 2 (K2 (bS r n) 6 9)) 3 (K6 kk9 2 3 6 7 9 10)) (K6 kk9 2 3 6 7 9 10) = (K10 (aEm r n kk9) 2 3 6 7 9 10 11 12 13 14) :=
 (bIl r n kk9).trans
 ((by kernel_rfl))
theorem bJe (kk9 : gJ) : D367 r n vJ (xs (xs x0 2 (K2 (bS r n) 6 9)) 3 (K6 kk9 2 3 6 7 9 10)) (K6 kk9 2 3 6 7 9 10) = D367 r n bEk (xs (xs x0 2 (K2 (bS r n) 6 9)) 3 (K6 kk9 2 3 6 7 9 10)) (K10 (aEm r n kk9) 2 3 6 7 9 10 11 12 13 14) :=
 congrArg (fun k => D367 r n bEk (xs (xs x0 2 (K2 (bS r n) 6 9)) 3 (K6 kk9 2 3 6 7 9 10)) k) (bXe r n kk9)
theorem cAs (kk9 : gJ) : D367 r n vJ (xs (xs x0 2 (K2 (bS r n) 6 9)) 3 (K6 kk9 2 3 6 7 9 10)) (K6 kk9 2 3 6 7 9 10) = (K10 (aFk r n kk9) 2 3 6 7 9 10 11 12 13 14) :=
 (bJe r n kk9).trans
 ((by kernel_rfl))
theorem bHx (kk9 : gJ) : D367 r n vM (xs (xs x0 2 (K2 (bS r n) 6 9)) 3 (K6 kk9 2 3 6 7 9 10)) (K6 kk9 2 3 6 7 9 10) = D367 r n bDz (xs (xs x0 2 (K2 (bS r n) 6 9)) 3 (K6 kk9 2 3 6 7 9 10)) (K10 (aFk r n kk9) 2 3 6 7 9 10 11 12 13 14) :=
 congrArg (fun k => D367 r n bDz (xs (xs x0 2 (K2 (bS r n) 6 9)) 3 (K6 kk9 2 3 6 7 9 10)) k) (cAs r n kk9)
theorem bKj (kk9 : gJ) : D367 r n vM (xs (xs x0 2 (K2 (bS r n) 6 9)) 3 (K6 kk9 2 3 6 7 9 10)) (K6 kk9 2 3 6 7 9 10) = (K9 (aKj r n kk9) 2 3 6 7 9 10 11 12 13) :=
 (bHx r n kk9).trans
 ((by kernel_rfl))
theorem bGv (kk9 : gJ) : D367 r n uU (xs (xs x0 2 (K2 (bS r n) 6 9)) 3 (K6 kk9 2 3 6 7 9 10)) (K6 kk9 2 3 6 7 9 10) = D367 r n bEb (xs (xs x0 2 (K2 (bS r n) 6 9)) 3 (K6 kk9 2 3 6 7 9 10)) (K9 (aKj r n kk9) 2 3 6 7 9 10 11 12 13) :=
 congrArg (fun k => D367 r n bEb (xs (xs x0 2 (K2 (bS r n) 6 9)) 3 (K6 kk9 2 3 6 7 9 10)) k) (bKj r n kk9)
theorem cAb (kk9 : gJ) : D367 r n uU (xs (xs x0 2 (K2 (bS r n) 6 9)) 3 (K6 kk9 2 3 6 7 9 10)) (K6 kk9 2 3 6 7 9 10) = (K7 (aKy r n kk9) 2 3 6 7 9 10 11) :=
 (bGv r n kk9).trans
 ((by kernel_rfl))
theorem bFs (kk9 : gJ) : D367 r n wE (xs (xs x0 2 (K2 (bS r n) 6 9)) 3 (K6 kk9 2 3 6 7 9 10)) (K6 kk9 2 3 6 7 9 10) = D367 r n aZe (xs (xs x0 2 (K2 (bS r n) 6 9)) 3 (K6 kk9 2 3 6 7 9 10)) (K7 (aKy r n kk9) 2 3 6 7 9 10 11) :=
 congrArg (fun k => D367 r n aZe (xs (xs x0 2 (K2 (bS r n) 6 9)) 3 (K6 kk9 2 3 6 7 9 10)) k) (cAb r n kk9)
theorem bTd (kk9 : gJ) : D367 r n wE (xs (xs x0 2 (K2 (bS r n) 6 9)) 3 (K6 kk9 2 3 6 7 9 10)) (K6 kk9 2 3 6 7 9 10) = (K7 (aIt r n kk9) 2 3 6 7 9 10 11) :=
 (bFs r n kk9).trans
 ((by kernel_rfl))
theorem bGs (kk9 : gJ) : D367 r n tS (xs (xs x0 2 (K2 (bS r n) 6 9)) 3 (K6 kk9 2 3 6 7 9 10)) (K6 kk9 2 3 6 7 9 10) = D367 r n bDk (xs (xs x0 2 (K2 (bS r n) 6 9)) 3 (K6 kk9 2 3 6 7 9 10)) (K7 (aIt r n kk9) 2 3 6 7 9 10 11) :=
 congrArg (fun k => D367 r n bDk (xs (xs x0 2 (K2 (bS r n) 6 9)) 3 (K6 kk9 2 3 6 7 9 10)) k) (bTd r n kk9)
theorem bYc (kk9 : gJ) : D367 r n aHu (xs x0 2 (K2 (bS r n) 6 9)) (K6 kk9 2 3 6 7 9 10) = (K6 (aCm r n kk9) 2 3 6 7 9 10) :=
 (by kernel_rfl : D367 r n aHu (xs x0 2 (K2 (bS r n) 6 9)) (K6 kk9 2 3 6 7 9 10) = D367 r n tS (xs (xs x0 2 (K2 (bS r n) 6 9)) 3 (K6 kk9 2 3 6 7 9 10)) (K6 kk9 2 3 6 7 9 10)).trans
 ((bGs r n kk9).trans
 ((by kernel_rfl)))
theorem bRv (kk9 : gJ) : D367 r n iN (xs x0 2 (K2 (bS r n) 6 9)) (K6 kk9 2 3 6 7 9 10) = D367 r n bAe (xs x0 2 (K2 (bS r n) 6 9)) (K6 (aCm r n kk9) 2 3 6 7 9 10) :=
 congrArg (fun k => D367 r n bAe (xs x0 2 (K2 (bS r n) 6 9)) k) (bYc r n kk9)
theorem bRq (kk9 : gJ) : D367 r n iN (xs x0 2 (K2 (bS r n) 6 9)) (K6 kk9 2 3 6 7 9 10) = (K6 (aXd r n kk9) 2 3 6 7 9 10) :=
 (bRv r n kk9).trans
 ((by kernel_rfl))
theorem bPr (m : Nat) : aL (fun kk => D367 r n iN (xs x0 2 (K2 (bS r n) 6 9)) kk) m = (K6 (vD r n m) 2 3 6 7 9 10) := by
 induction m with
 | zero => exact (by kernel_rfl : aL (fun kk => D367 r n iN (xs x0 2 (K2 (bS r n) 6 9)) kk) 0 = (K6 (vD r n 0) 2 3 6 7 9 10))
 | succ m ih =>
  refine (by kernel_rfl : aL (fun kk => D367 r n iN (xs x0 2 (K2 (bS r n) 6 9)) kk) (m + 1) = D367 r n iN (xs x0 2 (K2 (bS r n) 6 9)) (aL (fun kk => D367 r n iN (xs x0 2 (K2 (bS r n) 6 9)) kk) m)).trans ?_
  rw [ih]
  exact (bRq r n (vD r n m)).trans (by kernel_rfl)
theorem cId : D367 r n uO (xs x0 2 (K2 (bS r n) 6 9)) (K2 (bS r n) 6 9) = (K6 (cAl r n) 2 3 6 7 9 10) :=
 (by kernel_rfl : D367 r n uO (xs x0 2 (K2 (bS r n) 6 9)) (K2 (bS r n) 6 9) = aL (fun kk => D367 r n iN (xs x0 2 (K2 (bS r n) 6 9)) kk) n).trans ((bPr r n n).trans (by kernel_rfl))
theorem bMt : D367 r n aKi x0 r367 = D367 r n vC x0 (K2 (bS r n) 6 9) :=
 congrArg (fun k => D367 r n vC x0 k) (cUt r n)
theorem cMw : D367 r n aKi x0 r367 = (K6 (aUh r n) 2 3 6 7 9 10) :=
 (bMt r n).trans
 ((by kernel_rfl : D367 r n vC x0 (K2 (bS r n) 6 9) = D367 r n uO (xs x0 2 (K2 (bS r n) 6 9)) (K2 (bS r n) 6 9)).trans
 ((cId r n).trans (by kernel_rfl)))
theorem bVt : D367 r n aEi x0 r367 = D367 r n bBy x0 (K6 (aUh r n) 2 3 6 7 9 10) :=
 congrArg (fun k => D367 r n bBy x0 k) (cMw r n)
theorem cQj : D367 r n aEi x0 r367 = (K6 (aRc r n) 2 3 6 7 9 10) :=
 (bVt r n).trans
 ((by kernel_rfl))
theorem bEx : D367 r n aEa x0 r367 = D367 r n bAc x0 (K6 (aRc r n) 2 3 6 7 9 10) :=
 congrArg (fun k => D367 r n bAc x0 k) (cQj r n)
theorem cQs : D367 r n aEa x0 r367 = (K5 (wQ r n) 2 3 6 7 9) :=
 (bEx r n).trans
 ((by kernel_rfl))
theorem bIm : D367 r n aGa x0 r367 = D367 r n aJr x0 (K5 (wQ r n) 2 3 6 7 9) :=
 congrArg (fun k => D367 r n aJr x0 k) (cQs r n)
theorem bHy (q0 : cI) : D367 r n aJr x0 (K5 q0 2 3 6 7 9) = fun (env : aZ) (h : Hp) =>
 bnd (bQ [(.b false)] h) fun v1 h1 =>
 bnd (aI 1 v1 (.b true) h1) fun _ h2 =>
  q0 (env 2) (env 3) (env 6) (env 7) v1 h2 := by kernel_rfl
theorem aSl : (fun (env : aZ) (h : Hp) =>
 bnd (bQ [(.b false)] h) fun v1 h1 =>
 bnd (aI 1 v1 (.b true) h1) fun _ h2 =>
  wQ r n (env 2) (env 3) (env 6) (env 7) v1 h2) = (K4 (cT r n) 2 3 6 7) := by kernel_rfl
theorem cIk : D367 r n aGa x0 r367 = (K4 (cT r n) 2 3 6 7) :=
 (bIm r n).trans
 ((bHy r n (wQ r n)).trans (aSl r n))
theorem bOr (kk18 : gJ) : D367 r n cSd (xs x0 0 (K4 (cT r n) 2 3 6 7)) (K6 kk18 2 3 6 7 19 20) = (K6 (lK r n kk18) 2 3 6 7 19 20) :=
 (by kernel_rfl)
theorem aUb (kk18 : gJ) : D367 r n wH (xs x0 0 (K4 (cT r n) 2 3 6 7)) (K6 kk18 2 3 6 7 19 20) = D367 r n aFy (xs x0 0 (K4 (cT r n) 2 3 6 7)) (K6 (lK r n kk18) 2 3 6 7 19 20) :=
 congrArg (fun k => D367 r n aFy (xs x0 0 (K4 (cT r n) 2 3 6 7)) k) (bOr r n kk18)
theorem aQr (kk18 : gJ) (q0 : gJ) (q1 : cU) : D367 r n aFy (xs x0 0 (K4 q1 2 3 6 7)) (K6 q0 2 3 6 7 19 20) = fun (env : aZ) (h : Hp) =>
 bnd (aA (env 6) h) fun v1 h1 =>
 bnd (aE 1 v1 (env 20) h1) fun v2 h2 =>
 bnd (aI 1 v2 (.i .i64 (Int.negSucc 0)) h2) fun _ h3 =>
 bnd (aD .eql (env 20) (aJ 0) h3) fun v4 h4 =>
 bnd (gD v4 false (some ((env 20), h4)) h4) fun v5 h5 =>
 bnd (gD v4 false (aD .gtr v5 (aJ 1) h5) h5) fun v6 h6 =>
 bnd (gD v4 false (some (v6, h6)) h6) fun v7 h7 =>
 bnd (gD v7 true (aA (env 2) h7) h7) fun v8 h8 =>
 bnd (gD v7 true (some ((env 20), h8)) h8) fun v9 h9 =>
 bnd (gD v7 true (aD .sub v9 (aJ 2) h9) h9) fun v10 h10 =>
 bnd (gD v7 true (aE 3 v8 v10 h10) h10) fun v11 h11 =>
 bnd (gD v7 true (aB 0 v11 h11) h11) fun v12 h12 =>
 bnd (gD v7 true (aA v12 h12) h12) fun v13 h13 =>
 bnd (gD v7 true (aD .eql v13 (aJ 18) h13) h13) fun v14 h14 =>
 bnd (gD v4 false (aN v7 v14 (.b false) h14) h14) fun v15 h15 =>
 bnd (gD v4 false (some (v15, h15)) h15) fun v16 h16 =>
 bnd (gD v16 true (aA (env 3) h16) h16) fun v17 h17 =>
 bnd (gD v16 true (some ((env 20), h17)) h17) fun v18 h18 =>
 bnd (gD v16 true (aE 1 v17 v18 h18) h18) fun v19 h19 =>
 bnd (gD v16 true (aA v19 h19) h19) fun v20 h20 =>
 bnd (gD v16 true (some ((env 20), h20)) h20) fun v21 h21 =>
 bnd (gD v16 true (aD .sub v21 (aJ 2) h21) h21) fun v22 h22 =>
 bnd (gD v16 true (aD .eql v20 v22 h22) h22) fun v23 h23 =>
 bnd (gD v4 false (aN v16 v23 (.b false) h23) h23) fun v24 h24 =>
 bnd (aN v4 (.b true) v24 h24) fun v25 h25 =>
 aT v25 (
 bnd (aA (env 6) h25) fun v26 h26 =>
 bnd (aE 1 v26 (env 20) h26) fun v27 h27 =>
 bnd (aI 1 v27 (aJ 0) h27) fun _ h28 =>
 bnd (aA (env 7) h28) fun v29 h29 =>
 bnd (aP [(aJ 0)] 1 [(0, 1, (env 20))] h29) fun v30 h30 =>
 bnd (bF 1 8 v29 v30 h30) fun v31 h31 =>
 bnd (aI 1 (env 7) v31 h31) fun _ h32 =>
      q0 (env 2) (env 3) (env 6) (env 7) (env 19) (env 20) h32) (
      q0 (env 2) (env 3) (env 6) (env 7) (env 19) (env 20) h25) := by kernel_rfl
theorem aMu (kk18 : gJ) : (fun (env : aZ) (h : Hp) =>
 bnd (aA (env 6) h) fun v1 h1 =>
 bnd (aE 1 v1 (env 20) h1) fun v2 h2 =>
 bnd (aI 1 v2 (.i .i64 (Int.negSucc 0)) h2) fun _ h3 =>
 bnd (aD .eql (env 20) (aJ 0) h3) fun v4 h4 =>
 bnd (gD v4 false (some ((env 20), h4)) h4) fun v5 h5 =>
 bnd (gD v4 false (aD .gtr v5 (aJ 1) h5) h5) fun v6 h6 =>
 bnd (gD v4 false (some (v6, h6)) h6) fun v7 h7 =>
 bnd (gD v7 true (aA (env 2) h7) h7) fun v8 h8 =>
 bnd (gD v7 true (some ((env 20), h8)) h8) fun v9 h9 =>
 bnd (gD v7 true (aD .sub v9 (aJ 2) h9) h9) fun v10 h10 =>
 bnd (gD v7 true (aE 3 v8 v10 h10) h10) fun v11 h11 =>
 bnd (gD v7 true (aB 0 v11 h11) h11) fun v12 h12 =>
 bnd (gD v7 true (aA v12 h12) h12) fun v13 h13 =>
 bnd (gD v7 true (aD .eql v13 (aJ 18) h13) h13) fun v14 h14 =>
 bnd (gD v4 false (aN v7 v14 (.b false) h14) h14) fun v15 h15 =>
 bnd (gD v4 false (some (v15, h15)) h15) fun v16 h16 =>
 bnd (gD v16 true (aA (env 3) h16) h16) fun v17 h17 =>
 bnd (gD v16 true (some ((env 20), h17)) h17) fun v18 h18 =>
 bnd (gD v16 true (aE 1 v17 v18 h18) h18) fun v19 h19 =>
 bnd (gD v16 true (aA v19 h19) h19) fun v20 h20 =>
 bnd (gD v16 true (some ((env 20), h20)) h20) fun v21 h21 =>
 bnd (gD v16 true (aD .sub v21 (aJ 2) h21) h21) fun v22 h22 =>
 bnd (gD v16 true (aD .eql v20 v22 h22) h22) fun v23 h23 =>
 bnd (gD v4 false (aN v16 v23 (.b false) h23) h23) fun v24 h24 =>
 bnd (aN v4 (.b true) v24 h24) fun v25 h25 =>
 aT v25 (
 bnd (aA (env 6) h25) fun v26 h26 =>
 bnd (aE 1 v26 (env 20) h26) fun v27 h27 =>
 bnd (aI 1 v27 (aJ 0) h27) fun _ h28 =>
 bnd (aA (env 7) h28) fun v29 h29 =>
 bnd (aP [(aJ 0)] 1 [(0, 1, (env 20))] h29) fun v30 h30 =>
 bnd (bF 1 8 v29 v30 h30) fun v31 h31 =>
 bnd (aI 1 (env 7) v31 h31) fun _ h32 =>
      lK r n kk18 (env 2) (env 3) (env 6) (env 7) (env 19) (env 20) h32) (
      lK r n kk18 (env 2) (env 3) (env 6) (env 7) (env 19) (env 20) h25)) = (K6 (uI r n kk18) 2 3 6 7 19 20) := by kernel_rfl
theorem bNl (kk18 : gJ) : D367 r n wH (xs x0 0 (K4 (cT r n) 2 3 6 7)) (K6 kk18 2 3 6 7 19 20) = (K6 (uI r n kk18) 2 3 6 7 19 20) :=
 (aUb r n kk18).trans
 ((aQr r n kk18 (lK r n kk18) (cT r n)).trans (aMu r n kk18))
theorem aVo (kk18 : gJ) : D367 r n tP (xs x0 0 (K4 (cT r n) 2 3 6 7)) (K6 kk18 2 3 6 7 19 20) = D367 r n bCq (xs x0 0 (K4 (cT r n) 2 3 6 7)) (K6 (uI r n kk18) 2 3 6 7 19 20) :=
 congrArg (fun k => D367 r n bCq (xs x0 0 (K4 (cT r n) 2 3 6 7)) k) (bNl r n kk18)
theorem cCk (kk18 : gJ) : D367 r n tP (xs x0 0 (K4 (cT r n) 2 3 6 7)) (K6 kk18 2 3 6 7 19 20) = (K7 (aJe r n kk18) 2 3 6 7 19 20 21) :=
 (aVo r n kk18).trans
 ((by kernel_rfl))
theorem aUc (kk18 : gJ) : D367 r n iP (xs x0 0 (K4 (cT r n) 2 3 6 7)) (K6 kk18 2 3 6 7 19 20) = D367 r n bDn (xs x0 0 (K4 (cT r n) 2 3 6 7)) (K7 (aJe r n kk18) 2 3 6 7 19 20 21) :=
 congrArg (fun k => D367 r n bDn (xs x0 0 (K4 (cT r n) 2 3 6 7)) k) (cCk r n kk18)
theorem bGn (kk18 : gJ) : D367 r n iP (xs x0 0 (K4 (cT r n) 2 3 6 7)) (K6 kk18 2 3 6 7 19 20) = (K6 (aLo r n kk18) 2 3 6 7 19 20) :=
 (aUc r n kk18).trans
 ((by kernel_rfl))
theorem bHe (m : Nat) : aL (fun kk => D367 r n iP (xs x0 0 (K4 (cT r n) 2 3 6 7)) kk) m = (K6 (pZ r n m) 2 3 6 7 19 20) := by
 induction m with
 | zero => exact (by kernel_rfl : aL (fun kk => D367 r n iP (xs x0 0 (K4 (cT r n) 2 3 6 7)) kk) 0 = (K6 (pZ r n 0) 2 3 6 7 19 20))
 | succ m ih =>
  refine (by kernel_rfl : aL (fun kk => D367 r n iP (xs x0 0 (K4 (cT r n) 2 3 6 7)) kk) (m + 1) = D367 r n iP (xs x0 0 (K4 (cT r n) 2 3 6 7)) (aL (fun kk => D367 r n iP (xs x0 0 (K4 (cT r n) 2 3 6 7)) kk) m)).trans ?_
  rw [ih]
  exact (bGn r n (pZ r n m)).trans (by kernel_rfl)
theorem bNk : D367 r n tU (xs x0 0 (K4 (cT r n) 2 3 6 7)) (K4 (cT r n) 2 3 6 7) = (K6 (bAv r n) 2 3 6 7 19 20) :=
 (by kernel_rfl : D367 r n tU (xs x0 0 (K4 (cT r n) 2 3 6 7)) (K4 (cT r n) 2 3 6 7) = aL (fun kk => D367 r n iP (xs x0 0 (K4 (cT r n) 2 3 6 7)) kk) n).trans ((bHe r n n).trans (by kernel_rfl))
theorem bLy : D367 r n aDp x0 (K4 (cT r n) 2 3 6 7) = (K6 (aGl r n) 2 3 6 7 19 20) :=
 (by kernel_rfl : D367 r n aDp x0 (K4 (cT r n) 2 3 6 7) = D367 r n tU (xs x0 0 (K4 (cT r n) 2 3 6 7)) (K4 (cT r n) 2 3 6 7)).trans
 ((bNk r n).trans (by kernel_rfl))
theorem bFx : D367 r n aLe x0 r367 = D367 r n qY x0 (K4 (cT r n) 2 3 6 7) :=
 congrArg (fun k => D367 r n qY x0 k) (cIk r n)
theorem bHv : D367 r n qY x0 (K4 (cT r n) 2 3 6 7) = D367 r n bAi x0 (K6 (aGl r n) 2 3 6 7 19 20) :=
 congrArg (fun k => D367 r n bAi x0 k) (bLy r n)
theorem cSk : D367 r n aLe x0 r367 = (K4 (xP r n) 2 3 6 7) :=
 (bFx r n).trans
 ((bHv r n).trans
 ((by kernel_rfl)))
theorem bHu : D367 r n aJc x0 r367 = D367 r n aHj x0 (K4 (xP r n) 2 3 6 7) :=
 congrArg (fun k => D367 r n aHj x0 k) (cSk r n)
theorem bJb (q0 : cU) : D367 r n aHj x0 (K4 q0 2 3 6 7) = fun (env : aZ) (h : Hp) =>
 bnd (bQ [.l0] h) fun v1 h1 =>
  q0 (env 2) (env 3) (env 6) v1 h1 := by kernel_rfl
theorem aQy : (fun (env : aZ) (h : Hp) =>
 bnd (bQ [.l0] h) fun v1 h1 =>
  xP r n (env 2) (env 3) (env 6) v1 h1) = (K3 (rJ r n) 2 3 6) := by kernel_rfl
theorem cQe : D367 r n aJc x0 r367 = (K3 (rJ r n) 2 3 6) :=
 (bHu r n).trans
 ((bJb r n (xP r n)).trans (aQy r n))
theorem bFz : D367 r n aKv x0 r367 = D367 r n aCx x0 (K3 (rJ r n) 2 3 6) :=
 congrArg (fun k => D367 r n aCx x0 k) (cQe r n)
theorem bGo (q0 : fG) : D367 r n aCx x0 (K3 q0 2 3 6) = fun (env : aZ) (h : Hp) =>
 bnd (aA (env 2) h) fun v1 h1 =>
 bnd (bV v1 h1) fun v2 h2 =>
 bnd (bN 1 8 [(aJ 0)] v2 v2 h2) fun v3 h3 =>
 bnd (bQ [.l0] h3) fun v4 h4 =>
 bnd (aI 1 v4 v3 h4) fun _ h5 =>
  q0 (env 2) (env 3) v4 h5 := by kernel_rfl
theorem aOv : (fun (env : aZ) (h : Hp) =>
 bnd (aA (env 2) h) fun v1 h1 =>
 bnd (bV v1 h1) fun v2 h2 =>
 bnd (bN 1 8 [(aJ 0)] v2 v2 h2) fun v3 h3 =>
 bnd (bQ [.l0] h3) fun v4 h4 =>
 bnd (aI 1 v4 v3 h4) fun _ h5 =>
  rJ r n (env 2) (env 3) v4 h5) = (K2 (sK r n) 2 3) := by kernel_rfl
theorem cKm : D367 r n aOu x0 r367 = (K2 (sK r n) 2 3) :=
 (by kernel_rfl : D367 r n aOu x0 r367 = D367 r n aKv x0 r367).trans
 ((bFz r n).trans
 ((bGo r n (rJ r n)).trans (aOv r n)))
theorem cIa : D367 r n c367 x0 r367 = D367 r n aJp x0 (K2 (sK r n) 2 3) :=
 congrArg (fun k => D367 r n aJp x0 k) (cKm r n)
theorem cSg (q0 : pR) : D367 r n aJp x0 (K2 q0 2 3) = fun (env : aZ) (h : Hp) =>
 bnd (cH (env 0) h) fun v1 h1 =>
 bnd (cH (env 1) h1) fun v2 h2 =>
  q0 v1 v2 h2 := by kernel_rfl
theorem bXf : (fun (env : aZ) (h : Hp) =>
 bnd (cH (env 0) h) fun v1 h1 =>
 bnd (cH (env 1) h1) fun v2 h2 =>
  sK r n v1 v2 h2) = (K2 (s367 r n) 0 1) := by kernel_rfl
theorem dOq : D367 r n c367 x0 r367 = (K2 (s367 r n) 0 1) :=
 (cIa r n).trans
 ((cSg r n (sK r n)).trans (bXf r n))
theorem dIz : aF CF r n 367 args h = s367 r n (aS args 0) (aS args 1) h :=
 (by kernel_rfl : aF CF r n 367 args h = D367 r n c367 x0 r367 (aH args) h).trans ((congrFun (congrFun (dOq r n) (aH args)) h).trans (by kernel_rfl))
noncomputable def s384 (r : RT) (n : Nat) (x0 : DV) (h0 : Hp) : aG :=
 bnd (cH x0 h0) fun v1 h1 =>
 bnd (aB 0 v1 h1) fun v2 h2 =>
 bnd (aA v2 h2) fun v3 h3 =>
 bnd (r 454 [v3] h3) fun v4 h4 =>
 bnd (hZ .not v4 h4) fun v5 h5 =>
 aT v5 (
 some ((.i .i64 (Int.negSucc 0)), h5)) (
 bnd (aB 1 v1 h5) fun v6 h6 =>
 bnd (aA v6 h6) fun v7 h7 =>
 bnd (aB 2 v1 h7) fun v8 h8 =>
 bnd (aA v8 h8) fun v9 h9 =>
 bnd (dN .shl v9 (.i .u64 (Int.ofNat 8)) h9) fun v10 h10 =>
 bnd (aD .add v7 v10 h10) fun v11 h11 =>
 some (v11, h11))
noncomputable abbrev c384 : Code := cf Tryz.f384
noncomputable abbrev r384 : K := aO CF Tryz.f384
noncomputable def D384 (r : RT) (n : Nat) (c : Code) (X : Nat → K) (k : K) : K := aM CF r 13 n c X r384 k
theorem dOt : D384 r n c384 x0 r384 = (K1 (s384 r n) 0) :=
 (by kernel_rfl)
theorem dGt : aF CF r n 384 args h = s384 r n (aS args 0) h :=
 (by kernel_rfl : aF CF r n 384 args h = D384 r n c384 x0 r384 (aH args) h).trans ((congrFun (congrFun (dOt r n) (aH args)) h).trans (by kernel_rfl))
end Go.Dd

namespace Go.Dd
open Go.Proofs
variable (r : RT) (n : Nat) (args : List DV) (h : Hp)
noncomputable def s415 (r : RT) (n : Nat) (x0 : DV) (h0 : Hp) : aG :=
 bnd (r 340 [x0] h0) fun v1 h1 =>
 bnd (gD v1 false (some (x0, h1)) h1) fun v2 h2 =>
 bnd (gD v1 false (r 343 [v2] h2) h2) fun v3 h3 =>
 bnd (aN v1 (.b true) v3 h3) fun v4 h4 =>
 some (v4, h4)
noncomputable abbrev c415 : Code := cf Tryz.f415
noncomputable abbrev r415 : K := aO CF Tryz.f415
noncomputable def D415 (r : RT) (n : Nat) (c : Code) (X : Nat → K) (k : K) : K := aM CF r 9 n c X r415 k
theorem dTg : D415 r n c415 x0 r415 = (K1 (s415 r n) 0) :=
 (by kernel_rfl)
theorem dKp : aF CF r n 415 args h = s415 r n (aS args 0) h :=
 (by kernel_rfl : aF CF r n 415 args h = D415 r n c415 x0 r415 (aH args) h).trans ((congrFun (congrFun (dTg r n) (aH args)) h).trans (by kernel_rfl))
noncomputable def eS (r : RT) (n : Nat) (h0 : Hp) : aG :=
 some ((.i .i64 (Int.negSucc 0)), h0)
noncomputable def bEi (r : RT) (n : Nat) (kk4 : cU) (x0 x1 x7 x8 : DV) (h0 : Hp) : aG :=
 bnd (aD .lss x8 x7 h0) fun v1 h1 =>
 aT v1 (
 bnd (aE 4 x0 x8 h1) fun v2 h2 =>
 bnd (aK 4 v2 h2) fun v3 h3 =>
 bnd (gX CF r x1 [v3] h3) fun v4 h4 =>
 aT v4 (
 some (x8, h4)) (
 bnd (aD .add x8 (aJ 1) h4) fun v5 h5 =>
    kk4 x0 x1 x7 v5 h5)) (
      eS r n h1)
noncomputable def uW (r : RT) (n : Nat) (m : Nat) : cU :=
 Nat.rec (motive := fun _ => cU) (fun _ _ _ _ _ => none) (fun _ ih => bEi r n ih) m
noncomputable def cDa (r : RT) (n : Nat) : cU := uW r n n
noncomputable def aTs (r : RT) (n : Nat) (x0 x1 x7 x8 : DV) (h0 : Hp) : aG :=
 cDa r n x0 x1 x7 x8 h0
noncomputable def aQb (r : RT) (n : Nat) (x0 x1 : DV) (h0 : Hp) : aG :=
 bnd (bV x0 h0) fun v1 h1 =>
  aTs r n x0 x1 v1 (aJ 0) h1
noncomputable def s423 (r : RT) (n : Nat) (x0 x1 : DV) (h0 : Hp) : aG :=
 aQb r n x0 x1 h0
noncomputable abbrev c423 : Code := cf Tryz.f423
noncomputable abbrev aHn : Code := cR c423
noncomputable abbrev dJd : Code := cR aHn
noncomputable abbrev xA : Code := cL aHn
noncomputable abbrev aRe : Code := cR xA
noncomputable abbrev aDz : Code := cL aRe
noncomputable abbrev pI : Code := cL aDz
noncomputable abbrev bJv : Code := cL xA
noncomputable abbrev bPs : Code := cL c423
noncomputable abbrev r423 : K := aO CF Tryz.f423
noncomputable def D423 (r : RT) (n : Nat) (c : Code) (X : Nat → K) (k : K) : K := aM CF r 19 n c X r423 k
theorem cHp : D423 r n dJd x0 r423 = (K0 (eS r n)) :=
 (by kernel_rfl)
theorem bNc (kk4 : cU) : D423 r n pI (xs x0 0 (K0 (eS r n))) (K4 kk4 0 1 7 8) = (K4 (bEi r n kk4) 0 1 7 8) :=
 (by kernel_rfl)
theorem bYi (m : Nat) : aL (fun kk => D423 r n pI (xs x0 0 (K0 (eS r n))) kk) m = (K4 (uW r n m) 0 1 7 8) := by
 induction m with
 | zero => exact (by kernel_rfl : aL (fun kk => D423 r n pI (xs x0 0 (K0 (eS r n))) kk) 0 = (K4 (uW r n 0) 0 1 7 8))
 | succ m ih =>
  refine (by kernel_rfl : aL (fun kk => D423 r n pI (xs x0 0 (K0 (eS r n))) kk) (m + 1) = D423 r n pI (xs x0 0 (K0 (eS r n))) (aL (fun kk => D423 r n pI (xs x0 0 (K0 (eS r n))) kk) m)).trans ?_
  rw [ih]
  exact (bNc r n (uW r n m)).trans (by kernel_rfl)
theorem cIm : D423 r n aDz (xs x0 0 (K0 (eS r n))) (K0 (eS r n)) = (K4 (cDa r n) 0 1 7 8) :=
 (by kernel_rfl : D423 r n aDz (xs x0 0 (K0 (eS r n))) (K0 (eS r n)) = aL (fun kk => D423 r n pI (xs x0 0 (K0 (eS r n))) kk) n).trans ((bYi r n n).trans (by kernel_rfl))
theorem cUp : D423 r n aRe x0 (K0 (eS r n)) = (K4 (aTs r n) 0 1 7 8) :=
 (by kernel_rfl : D423 r n aRe x0 (K0 (eS r n)) = D423 r n aDz (xs x0 0 (K0 (eS r n))) (K0 (eS r n))).trans
 ((cIm r n).trans (by kernel_rfl))
theorem bTs : D423 r n aHn x0 r423 = D423 r n xA x0 (K0 (eS r n)) :=
 congrArg (fun k => D423 r n xA x0 k) (cHp r n)
theorem bRe : D423 r n xA x0 (K0 (eS r n)) = D423 r n bJv x0 (K4 (aTs r n) 0 1 7 8) :=
 congrArg (fun k => D423 r n bJv x0 k) (cUp r n)
theorem cOs : D423 r n aHn x0 r423 = (K2 (aQb r n) 0 1) :=
 (bTs r n).trans
 ((bRe r n).trans
 ((by kernel_rfl)))
theorem dHy : D423 r n c423 x0 r423 = D423 r n bPs x0 (K2 (aQb r n) 0 1) :=
 congrArg (fun k => D423 r n bPs x0 k) (cOs r n)
theorem dRw : D423 r n c423 x0 r423 = (K2 (s423 r n) 0 1) :=
 (dHy r n).trans
 ((by kernel_rfl))
theorem cZt : aF CF r n 423 args h = s423 r n (aS args 0) (aS args 1) h :=
 (by kernel_rfl : aF CF r n 423 args h = D423 r n c423 x0 r423 (aH args) h).trans ((congrFun (congrFun (dRw r n) (aH args)) h).trans (by kernel_rfl))
noncomputable def s424 (r : RT) (n : Nat) (x0 x1 : DV) (h0 : Hp) : aG :=
 bnd (cH x0 h0) fun v1 h1 =>
 bnd (aB 0 v1 h1) fun v2 h2 =>
 bnd (aA v2 h2) fun v3 h3 =>
 bnd (aA x1 h3) fun v4 h4 =>
 bnd (bW .eql v3 v4 h4) fun v5 h5 =>
 some (v5, h5)
noncomputable abbrev c424 : Code := cf Tryz.f424
noncomputable abbrev r424 : K := aO CF Tryz.f424
noncomputable def D424 (r : RT) (n : Nat) (c : Code) (X : Nat → K) (k : K) : K := aM CF r 8 n c X r424 k
theorem dNh : D424 r n c424 x0 r424 = (K2 (s424 r n) 0 1) :=
 (by kernel_rfl)
theorem dKx : aF CF r n 424 args h = s424 r n (aS args 0) (aS args 1) h :=
 (by kernel_rfl : aF CF r n 424 args h = D424 r n c424 x0 r424 (aH args) h).trans ((congrFun (congrFun (dNh r n) (aH args)) h).trans (by kernel_rfl))
noncomputable def eY (r : RT) (n : Nat) (h0 : Hp) : aG :=
 some ((.i .i64 (Int.negSucc 0)), h0)
noncomputable def aWo (r : RT) (n : Nat) (kk4 : cU) (x0 x1 x7 x8 : DV) (h0 : Hp) : aG :=
 bnd (aD .lss x8 x7 h0) fun v1 h1 =>
 aT v1 (
 bnd (aE 4 x0 x8 h1) fun v2 h2 =>
 bnd (aK 4 v2 h2) fun v3 h3 =>
 bnd (gX CF r x1 [v3] h3) fun v4 h4 =>
 aT v4 (
 some (x8, h4)) (
 bnd (aD .add x8 (aJ 1) h4) fun v5 h5 =>
    kk4 x0 x1 x7 v5 h5)) (
      eY r n h1)
noncomputable def uX (r : RT) (n : Nat) (m : Nat) : cU :=
 Nat.rec (motive := fun _ => cU) (fun _ _ _ _ _ => none) (fun _ ih => aWo r n ih) m
noncomputable def bRk (r : RT) (n : Nat) : cU := uX r n n
noncomputable def aVn (r : RT) (n : Nat) (x0 x1 x7 x8 : DV) (h0 : Hp) : aG :=
 bRk r n x0 x1 x7 x8 h0
noncomputable def aVm (r : RT) (n : Nat) (x0 x1 : DV) (h0 : Hp) : aG :=
 bnd (bV x0 h0) fun v1 h1 =>
  aVn r n x0 x1 v1 (aJ 0) h1
noncomputable def s425 (r : RT) (n : Nat) (x0 x1 : DV) (h0 : Hp) : aG :=
 aVm r n x0 x1 h0
noncomputable abbrev c425 : Code := cf Tryz.f425
noncomputable abbrev aDr : Code := cR c425
noncomputable abbrev dGh : Code := cR aDr
noncomputable abbrev aAt : Code := cL aDr
noncomputable abbrev aVi : Code := cR aAt
noncomputable abbrev aIm : Code := cL aVi
noncomputable abbrev oR : Code := cL aIm
noncomputable abbrev cEc : Code := cL aAt
noncomputable abbrev bXq : Code := cL c425
noncomputable abbrev r425 : K := aO CF Tryz.f425
noncomputable def D425 (r : RT) (n : Nat) (c : Code) (X : Nat → K) (k : K) : K := aM CF r 19 n c X r425 k
theorem cFj : D425 r n dGh x0 r425 = (K0 (eY r n)) :=
 (by kernel_rfl)
theorem bKe (kk4 : cU) : D425 r n oR (xs x0 0 (K0 (eY r n))) (K4 kk4 0 1 7 8) = (K4 (aWo r n kk4) 0 1 7 8) :=
 (by kernel_rfl)
theorem bMr (m : Nat) : aL (fun kk => D425 r n oR (xs x0 0 (K0 (eY r n))) kk) m = (K4 (uX r n m) 0 1 7 8) := by
 induction m with
 | zero => exact (by kernel_rfl : aL (fun kk => D425 r n oR (xs x0 0 (K0 (eY r n))) kk) 0 = (K4 (uX r n 0) 0 1 7 8))
 | succ m ih =>
  refine (by kernel_rfl : aL (fun kk => D425 r n oR (xs x0 0 (K0 (eY r n))) kk) (m + 1) = D425 r n oR (xs x0 0 (K0 (eY r n))) (aL (fun kk => D425 r n oR (xs x0 0 (K0 (eY r n))) kk) m)).trans ?_
  rw [ih]
  exact (bKe r n (uX r n m)).trans (by kernel_rfl)
theorem cGz : D425 r n aIm (xs x0 0 (K0 (eY r n))) (K0 (eY r n)) = (K4 (bRk r n) 0 1 7 8) :=
 (by kernel_rfl : D425 r n aIm (xs x0 0 (K0 (eY r n))) (K0 (eY r n)) = aL (fun kk => D425 r n oR (xs x0 0 (K0 (eY r n))) kk) n).trans ((bMr r n n).trans (by kernel_rfl))
theorem cQx : D425 r n aVi x0 (K0 (eY r n)) = (K4 (aVn r n) 0 1 7 8) :=
 (by kernel_rfl : D425 r n aVi x0 (K0 (eY r n)) = D425 r n aIm (xs x0 0 (K0 (eY r n))) (K0 (eY r n))).trans
 ((cGz r n).trans (by kernel_rfl))
theorem bWj : D425 r n aDr x0 r425 = D425 r n aAt x0 (K0 (eY r n)) :=
 congrArg (fun k => D425 r n aAt x0 k) (cFj r n)
theorem bTy : D425 r n aAt x0 (K0 (eY r n)) = D425 r n cEc x0 (K4 (aVn r n) 0 1 7 8) :=
 congrArg (fun k => D425 r n cEc x0 k) (cQx r n)
theorem cPg : D425 r n aDr x0 r425 = (K2 (aVm r n) 0 1) :=
 (bWj r n).trans
 ((bTy r n).trans
 ((by kernel_rfl)))
theorem dEh : D425 r n c425 x0 r425 = D425 r n bXq x0 (K2 (aVm r n) 0 1) :=
 congrArg (fun k => D425 r n bXq x0 k) (cPg r n)
theorem dSe : D425 r n c425 x0 r425 = (K2 (s425 r n) 0 1) :=
 (dEh r n).trans
 ((by kernel_rfl))
theorem dEq : aF CF r n 425 args h = s425 r n (aS args 0) (aS args 1) h :=
 (by kernel_rfl : aF CF r n 425 args h = D425 r n c425 x0 r425 (aH args) h).trans ((congrFun (congrFun (dSe r n) (aH args)) h).trans (by kernel_rfl))
noncomputable def s426 (r : RT) (n : Nat) (x0 x1 : DV) (h0 : Hp) : aG :=
 bnd (cH x0 h0) fun v1 h1 =>
 bnd (aK 4 v1 h1) fun v2 h2 =>
 bnd (aK 4 x1 h2) fun v3 h3 =>
 bnd (r 427 [v2, v3] h3) fun v4 h4 =>
 some (v4, h4)
noncomputable abbrev c426 : Code := cf Tryz.f426
noncomputable abbrev r426 : K := aO CF Tryz.f426
noncomputable def D426 (r : RT) (n : Nat) (c : Code) (X : Nat → K) (k : K) : K := aM CF r 7 n c X r426 k
theorem dQv : D426 r n c426 x0 r426 = (K2 (s426 r n) 0 1) :=
 (by kernel_rfl)
theorem dEx : aF CF r n 426 args h = s426 r n (aS args 0) (aS args 1) h :=
 (by kernel_rfl : aF CF r n 426 args h = D426 r n c426 x0 r426 (aH args) h).trans ((congrFun (congrFun (dQv r n) (aH args)) h).trans (by kernel_rfl))
noncomputable def s427 (r : RT) (n : Nat) (x0 x1 : DV) (h0 : Hp) : aG :=
 bnd (cH x0 h0) fun v1 h1 =>
 bnd (cH x1 h1) fun v2 h2 =>
 bnd (aB 0 v1 h2) fun v3 h3 =>
 bnd (aA v3 h3) fun v4 h4 =>
 bnd (aB 0 v2 h4) fun v5 h5 =>
 bnd (aA v5 h5) fun v6 h6 =>
 bnd (aD .eql v4 v6 h6) fun v7 h7 =>
 bnd (gD v7 true (aB 1 v1 h7) h7) fun v8 h8 =>
 bnd (gD v7 true (aA v8 h8) h8) fun v9 h9 =>
 bnd (gD v7 true (aB 1 v2 h9) h9) fun v10 h10 =>
 bnd (gD v7 true (aA v10 h10) h10) fun v11 h11 =>
 bnd (gD v7 true (bW .eql v9 v11 h11) h11) fun v12 h12 =>
 bnd (aN v7 v12 (.b false) h12) fun v13 h13 =>
 bnd (gD v13 true (aB 2 v1 h13) h13) fun v14 h14 =>
 bnd (gD v13 true (aA v14 h14) h14) fun v15 h15 =>
 bnd (gD v13 true (aB 2 v2 h15) h15) fun v16 h16 =>
 bnd (gD v13 true (aA v16 h16) h16) fun v17 h17 =>
 bnd (gD v13 true (aD .eql v15 v17 h17) h17) fun v18 h18 =>
 bnd (aN v13 v18 (.b false) h18) fun v19 h19 =>
 bnd (gD v19 true (aB 3 v1 h19) h19) fun v20 h20 =>
 bnd (gD v19 true (aA v20 h20) h20) fun v21 h21 =>
 bnd (gD v19 true (aB 3 v2 h21) h21) fun v22 h22 =>
 bnd (gD v19 true (aA v22 h22) h22) fun v23 h23 =>
 bnd (gD v19 true (r 482 [v21, v23, (.f 427 [] [])] h23) h23) fun v24 h24 =>
 bnd (aN v19 v24 (.b false) h24) fun v25 h25 =>
 some (v25, h25)
noncomputable abbrev c427 : Code := cf Tryz.f427
noncomputable abbrev r427 : K := aO CF Tryz.f427
noncomputable def D427 (r : RT) (n : Nat) (c : Code) (X : Nat → K) (k : K) : K := aM CF r 31 n c X r427 k
theorem dWg : D427 r n c427 x0 r427 = (K2 (s427 r n) 0 1) :=
 (by kernel_rfl)
theorem cZg : aF CF r n 427 args h = s427 r n (aS args 0) (aS args 1) h :=
 (by kernel_rfl : aF CF r n 427 args h = D427 r n c427 x0 r427 (aH args) h).trans ((congrFun (congrFun (dWg r n) (aH args)) h).trans (by kernel_rfl))
noncomputable def s429 (r : RT) (n : Nat) (x0 x1 : DV) (h0 : Hp) : aG :=
 bnd (bL [(aJ 0), (.s []), (aJ 0), .l0] [(0, 1, (aJ 3)), (1, 1, x1)] h0) fun v1 h1 =>
 bnd (aLz [x0, v1] h1) fun v2 h2 =>
 some (v2, h2)
noncomputable abbrev c429 : Code := cf Tryz.f429
noncomputable abbrev r429 : K := aO CF Tryz.f429
noncomputable def D429 (r : RT) (n : Nat) (c : Code) (X : Nat → K) (k : K) : K := aM CF r 9 n c X r429 k
theorem dSu : D429 r n c429 x0 r429 = (K2 (s429 r n) 0 1) :=
 (by kernel_rfl)
theorem dAy : aF CF r n 429 args h = s429 r n (aS args 0) (aS args 1) h :=
 (by kernel_rfl : aF CF r n 429 args h = D429 r n c429 x0 r429 (aH args) h).trans ((congrFun (congrFun (dSu r n) (aH args)) h).trans (by kernel_rfl))
end Go.Dd

namespace Go.Dd
open Go.Proofs
variable (r : RT) (n : Nat) (args : List DV) (h : Hp)
noncomputable def s433 (r : RT) (n : Nat) (x0 x1 : DV) (h0 : Hp) : aG :=
 bnd (cH x1 h0) fun v1 h1 =>
 bnd (aK 6 v1 h1) fun v2 h2 =>
 bnd (r 492 [v2] h2) fun v3 h3 =>
 aT v3 (
 bnd (r 296 [x0, (aJ 1), (aJ 0), (aJ 0)] h3) fun v4 h4 =>
 some ((aJ 15), h4)) (
 bnd (aK 6 v1 h3) fun v5 h5 =>
 bnd (r 295 [x0, v5] h5) fun v6 h6 =>
 some ((aJ 14), h6))
noncomputable abbrev c433 : Code := cf Tryz.f433
noncomputable abbrev r433 : K := aO CF Tryz.f433
noncomputable def D433 (r : RT) (n : Nat) (c : Code) (X : Nat → K) (k : K) : K := aM CF r 12 n c X r433 k
theorem dQf : D433 r n c433 x0 r433 = (K2 (s433 r n) 0 1) :=
 (by kernel_rfl)
theorem dBb : aF CF r n 433 args h = s433 r n (aS args 0) (aS args 1) h :=
 (by kernel_rfl : aF CF r n 433 args h = D433 r n c433 x0 r433 (aH args) h).trans ((congrFun (congrFun (dQf r n) (aH args)) h).trans (by kernel_rfl))
noncomputable def dF (r : RT) (n : Nat) (x4 : DV) (h0 : Hp) : aG :=
 some (x4, h0)
noncomputable def aGy (r : RT) (n : Nat) (kk5 : cU) (x0 x1 x4 x5 : DV) (h0 : Hp) : aG :=
 bnd (aD .add x5 (aJ 1) h0) fun v1 h1 =>
  kk5 x0 x1 x4 v1 h1
noncomputable def aQm (r : RT) (n : Nat) (kk5 : cU) (x0 x1 x4 x5 : DV) (h0 : Hp) : aG :=
 bnd (aA x1 h0) fun v1 h1 =>
 bnd (r 439 [v1, x5] h1) fun v2 h2 =>
 bnd (aC 0 v2 h2) fun v3 h3 =>
 bnd (aC 1 v2 h3) fun v4 h4 =>
 bnd (gD v4 true (some (x0, h4)) h4) fun v5 h5 =>
 bnd (gD v4 true (some (v3, h5)) h5) fun v6 h6 =>
 bnd (gD v4 true (aD .lss v5 v6 h6) h6) fun v7 h7 =>
 bnd (aN v4 v7 (.b false) h7) fun v8 h8 =>
 aT v8 (
  aGy r n kk5 x0 x1 x5 x5 h8) (
  aGy r n kk5 x0 x1 x4 x5 h8)
noncomputable def aYv (r : RT) (n : Nat) (kk5 : cU) (x0 x1 x4 x5 : DV) (h0 : Hp) : aG :=
 bnd (aD .add x5 (aJ 2) h0) fun v1 h1 =>
 bnd (aD .leq v1 x0 h1) fun v2 h2 =>
 aT v2 (
   aQm r n kk5 x0 x1 x4 x5 h2) (
   dF r n x4 h2)
noncomputable def vO (r : RT) (n : Nat) (m : Nat) : cU :=
 Nat.rec (motive := fun _ => cU) (fun _ _ _ _ _ => none) (fun _ ih => aYv r n ih) m
noncomputable def bUk (r : RT) (n : Nat) : cU := vO r n n
noncomputable def aTj (r : RT) (n : Nat) (x0 x1 x4 x5 : DV) (h0 : Hp) : aG :=
 bUk r n x0 x1 x4 x5 h0
noncomputable def aOt (r : RT) (n : Nat) (x0 x1 x4 : DV) (h0 : Hp) : aG :=
 aTj r n x0 x1 x4 (aJ 0) h0
noncomputable def aVd (r : RT) (n : Nat) (x0 x1 : DV) (h0 : Hp) : aG :=
 aOt r n x0 x1 (.i .i64 (Int.negSucc 0)) h0
noncomputable def s438 (r : RT) (n : Nat) (x0 x1 : DV) (h0 : Hp) : aG :=
 aVd r n x0 x1 h0
noncomputable abbrev c438 : Code := cf Tryz.f438
noncomputable abbrev aCo : Code := cR c438
noncomputable abbrev aFa : Code := cR aCo
noncomputable abbrev dJt : Code := cR aFa
noncomputable abbrev yB : Code := cL aFa
noncomputable abbrev aSm : Code := cR yB
noncomputable abbrev aDt : Code := cL aSm
noncomputable abbrev kI : Code := cL aDt
noncomputable abbrev aIc : Code := cR kI
noncomputable abbrev cZc : Code := cR aIc
noncomputable abbrev aYg : Code := cL aIc
noncomputable abbrev bCd : Code := cL kI
noncomputable abbrev bDd : Code := cL yB
noncomputable abbrev aWx : Code := cL aCo
noncomputable abbrev aZa : Code := cL c438
noncomputable abbrev r438 : K := aO CF Tryz.f438
noncomputable def D438 (r : RT) (n : Nat) (c : Code) (X : Nat → K) (k : K) : K := aM CF r 28 n c X r438 k
theorem cHm : D438 r n dJt x0 r438 = (K1 (dF r n) 4) :=
 (by kernel_rfl)
theorem cNu (kk5 : cU) : D438 r n cZc (xs x0 0 (K1 (dF r n) 4)) (K4 kk5 0 1 4 5) = (K4 (aGy r n kk5) 0 1 4 5) :=
 (by kernel_rfl)
theorem bZs (kk5 : cU) : D438 r n aIc (xs x0 0 (K1 (dF r n) 4)) (K4 kk5 0 1 4 5) = D438 r n aYg (xs x0 0 (K1 (dF r n) 4)) (K4 (aGy r n kk5) 0 1 4 5) :=
 congrArg (fun k => D438 r n aYg (xs x0 0 (K1 (dF r n) 4)) k) (cNu r n kk5)
theorem cMx (kk5 : cU) : D438 r n aIc (xs x0 0 (K1 (dF r n) 4)) (K4 kk5 0 1 4 5) = (K4 (aQm r n kk5) 0 1 4 5) :=
 (bZs r n kk5).trans
 ((by kernel_rfl))
theorem bJq (kk5 : cU) : D438 r n kI (xs x0 0 (K1 (dF r n) 4)) (K4 kk5 0 1 4 5) = D438 r n bCd (xs x0 0 (K1 (dF r n) 4)) (K4 (aQm r n kk5) 0 1 4 5) :=
 congrArg (fun k => D438 r n bCd (xs x0 0 (K1 (dF r n) 4)) k) (cMx r n kk5)
theorem cDt (kk5 : cU) : D438 r n kI (xs x0 0 (K1 (dF r n) 4)) (K4 kk5 0 1 4 5) = (K4 (aYv r n kk5) 0 1 4 5) :=
 (bJq r n kk5).trans
 ((by kernel_rfl))
theorem bQp (m : Nat) : aL (fun kk => D438 r n kI (xs x0 0 (K1 (dF r n) 4)) kk) m = (K4 (vO r n m) 0 1 4 5) := by
 induction m with
 | zero => exact (by kernel_rfl : aL (fun kk => D438 r n kI (xs x0 0 (K1 (dF r n) 4)) kk) 0 = (K4 (vO r n 0) 0 1 4 5))
 | succ m ih =>
  refine (by kernel_rfl : aL (fun kk => D438 r n kI (xs x0 0 (K1 (dF r n) 4)) kk) (m + 1) = D438 r n kI (xs x0 0 (K1 (dF r n) 4)) (aL (fun kk => D438 r n kI (xs x0 0 (K1 (dF r n) 4)) kk) m)).trans ?_
  rw [ih]
  exact (cDt r n (vO r n m)).trans (by kernel_rfl)
theorem cOx : D438 r n aDt (xs x0 0 (K1 (dF r n) 4)) (K1 (dF r n) 4) = (K4 (bUk r n) 0 1 4 5) :=
 (by kernel_rfl : D438 r n aDt (xs x0 0 (K1 (dF r n) 4)) (K1 (dF r n) 4) = aL (fun kk => D438 r n kI (xs x0 0 (K1 (dF r n) 4)) kk) n).trans ((bQp r n n).trans (by kernel_rfl))
theorem cMl : D438 r n aSm x0 (K1 (dF r n) 4) = (K4 (aTj r n) 0 1 4 5) :=
 (by kernel_rfl : D438 r n aSm x0 (K1 (dF r n) 4) = D438 r n aDt (xs x0 0 (K1 (dF r n) 4)) (K1 (dF r n) 4)).trans
 ((cOx r n).trans (by kernel_rfl))
theorem bTm : D438 r n aFa x0 r438 = D438 r n yB x0 (K1 (dF r n) 4) :=
 congrArg (fun k => D438 r n yB x0 k) (cHm r n)
theorem bZf : D438 r n yB x0 (K1 (dF r n) 4) = D438 r n bDd x0 (K4 (aTj r n) 0 1 4 5) :=
 congrArg (fun k => D438 r n bDd x0 k) (cMl r n)
theorem cSz : D438 r n aFa x0 r438 = (K3 (aOt r n) 0 1 4) :=
 (bTm r n).trans
 ((bZf r n).trans
 ((by kernel_rfl)))
theorem bNh : D438 r n aCo x0 r438 = D438 r n aWx x0 (K3 (aOt r n) 0 1 4) :=
 congrArg (fun k => D438 r n aWx x0 k) (cSz r n)
theorem cPd : D438 r n aCo x0 r438 = (K2 (aVd r n) 0 1) :=
 (bNh r n).trans
 ((by kernel_rfl))
theorem dJa : D438 r n c438 x0 r438 = D438 r n aZa x0 (K2 (aVd r n) 0 1) :=
 congrArg (fun k => D438 r n aZa x0 k) (cPd r n)
theorem dPc : D438 r n c438 x0 r438 = (K2 (s438 r n) 0 1) :=
 (dJa r n).trans
 ((by kernel_rfl))
theorem dHc : aF CF r n 438 args h = s438 r n (aS args 0) (aS args 1) h :=
 (by kernel_rfl : aF CF r n 438 args h = D438 r n c438 x0 r438 (aH args) h).trans ((congrFun (congrFun (dPc r n) (aH args)) h).trans (by kernel_rfl))
noncomputable def s439 (r : RT) (n : Nat) (x0 x1 : DV) (h0 : Hp) : aG :=
 bnd (aE 3 x0 x1 h0) fun v1 h1 =>
 bnd (aB 0 v1 h1) fun v2 h2 =>
 bnd (aA v2 h2) fun v3 h3 =>
 bnd (aD .neq v3 (aJ 18) h3) fun v4 h4 =>
 bnd (gD v4 false (some (x1, h4)) h4) fun v5 h5 =>
 bnd (gD v4 false (aD .add v5 (aJ 1) h5) h5) fun v6 h6 =>
 bnd (gD v4 false (some (x0, h6)) h6) fun v7 h7 =>
 bnd (gD v4 false (bV v7 h7) h7) fun v8 h8 =>
 bnd (gD v4 false (aD .geq v6 v8 h8) h8) fun v9 h9 =>
 bnd (aN v4 (.b true) v9 h9) fun v10 h10 =>
 bnd (gD v10 false (some (x0, h10)) h10) fun v11 h11 =>
 bnd (gD v10 false (some (x1, h11)) h11) fun v12 h12 =>
 bnd (gD v10 false (aD .add v12 (aJ 1) h12) h12) fun v13 h13 =>
 bnd (gD v10 false (aE 3 v11 v13 h13) h13) fun v14 h14 =>
 bnd (gD v10 false (aB 0 v14 h14) h14) fun v15 h15 =>
 bnd (gD v10 false (aA v15 h15) h15) fun v16 h16 =>
 bnd (gD v10 false (aD .neq v16 (aJ 16) h16) h16) fun v17 h17 =>
 bnd (aN v10 (.b true) v17 h17) fun v18 h18 =>
 aT v18 (
 some (.t [(aJ 0), (.b false)], h18)) (
 bnd (aD .add x1 (aJ 1) h18) fun v19 h19 =>
 bnd (aE 3 x0 v19 h19) fun v20 h20 =>
 bnd (aK 3 v20 h20) fun v21 h21 =>
 bnd (r 384 [v21] h21) fun v22 h22 =>
 bnd (aD .add x1 (aJ 2) h22) fun v23 h23 =>
 bnd (aD .gtr v22 v23 h23) fun v24 h24 =>
 some (.t [v22, v24], h24))
noncomputable abbrev c439 : Code := cf Tryz.f439
noncomputable abbrev r439 : K := aO CF Tryz.f439
noncomputable def D439 (r : RT) (n : Nat) (c : Code) (X : Nat → K) (k : K) : K := aM CF r 40 n c X r439 k
theorem dPr : D439 r n c439 x0 r439 = (K2 (s439 r n) 0 1) :=
 (by kernel_rfl)
theorem cZm : aF CF r n 439 args h = s439 r n (aS args 0) (aS args 1) h :=
 (by kernel_rfl : aF CF r n 439 args h = D439 r n c439 x0 r439 (aH args) h).trans ((congrFun (congrFun (dPr r n) (aH args)) h).trans (by kernel_rfl))
noncomputable def s440 (r : RT) (n : Nat) (x0 x1 x2 x3 x4 x5 x6 x7 : DV) (h0 : Hp) : aG :=
 bnd (aA x3 h0) fun v1 h1 =>
 bnd (bV v1 h1) fun v2 h2 =>
 bnd (aD .geq x0 v2 h2) fun v3 h3 =>
 bnd (gD v3 false (aA x4 h3) h3) fun v4 h4 =>
 bnd (gD v3 false (some (x0, h4)) h4) fun v5 h5 =>
 bnd (gD v3 false (aE 1 v4 v5 h5) h5) fun v6 h6 =>
 bnd (gD v3 false (aA v6 h6) h6) fun v7 h7 =>
 bnd (gD v3 false (some (x1, h7)) h7) fun v8 h8 =>
 bnd (gD v3 false (aD .neq v7 v8 h8) h8) fun v9 h9 =>
 bnd (aN v3 (.b true) v9 h9) fun v10 h10 =>
 bnd (gD v10 false (aA x5 h10) h10) fun v11 h11 =>
 bnd (gD v10 false (some (x0, h11)) h11) fun v12 h12 =>
 bnd (gD v10 false (aE 1 v11 v12 h12) h12) fun v13 h13 =>
 bnd (gD v10 false (aA v13 h13) h13) fun v14 h14 =>
 bnd (gD v10 false (aD .geq v14 (aJ 0) h14) h14) fun v15 h15 =>
 bnd (gD v10 false (some (v15, h15)) h15) fun v16 h16 =>
 bnd (gD v16 true (aA x5 h16) h16) fun v17 h17 =>
 bnd (gD v16 true (some (x0, h17)) h17) fun v18 h18 =>
 bnd (gD v16 true (aE 1 v17 v18 h18) h18) fun v19 h19 =>
 bnd (gD v16 true (aA v19 h19) h19) fun v20 h20 =>
 bnd (gD v16 true (some (x2, h20)) h20) fun v21 h21 =>
 bnd (gD v16 true (aD .neq v20 v21 h21) h21) fun v22 h22 =>
 bnd (gD v10 false (aN v16 v22 (.b false) h22) h22) fun v23 h23 =>
 bnd (aN v10 (.b true) v23 h23) fun v24 h24 =>
 aT v24 (
 bnd (aI 1 x6 (.b false) h24) fun _ h25 =>
 some (.t [], h25)) (
 bnd (aA x5 h24) fun v26 h26 =>
 bnd (aE 1 v26 x0 h26) fun v27 h27 =>
 bnd (aA v27 h27) fun v28 h28 =>
 bnd (aD .lss v28 (aJ 0) h28) fun v29 h29 =>
 aT v29 (
 bnd (aA x5 h29) fun v30 h30 =>
 bnd (aE 1 v30 x0 h30) fun v31 h31 =>
 bnd (aI 1 v31 x2 h31) fun _ h32 =>
 bnd (aA x7 h32) fun v33 h33 =>
 bnd (aP [(aJ 0)] 1 [(0, 1, x0)] h33) fun v34 h34 =>
 bnd (bF 1 8 v33 v34 h34) fun v35 h35 =>
 bnd (aI 1 x7 v35 h35) fun _ h36 =>
 some (.t [], h36)) (
 some (.t [], h29)))
noncomputable abbrev c440 : Code := cf Tryz.f440
noncomputable abbrev r440 : K := aO CF Tryz.f440
noncomputable def D440 (r : RT) (n : Nat) (c : Code) (X : Nat → K) (k : K) : K := aM CF r 53 n c X r440 k
theorem dQh : D440 r n c440 x0 r440 = (K8 (s440 r n) 0 1 2 3 4 5 6 7) :=
 (by kernel_rfl)
theorem dFm : aF CF r n 440 args h = s440 r n (aS args 0) (aS args 1) (aS args 2) (aS args 3) (aS args 4) (aS args 5) (aS args 6) (aS args 7) h :=
 (by kernel_rfl : aF CF r n 440 args h = D440 r n c440 x0 r440 (aH args) h).trans ((congrFun (congrFun (dQh r n) (aH args)) h).trans (by kernel_rfl))
noncomputable def bZ (r : RT) (n : Nat) (h0 : Hp) : aG :=
 some ((aJ 0), h0)
noncomputable def aGh (r : RT) (n : Nat) (x1 x22 : DV) (h0 : Hp) : aG :=
 aT x22 (
 bnd (aB 2 x1 h0) fun v1 h1 =>
 bnd (aA v1 h1) fun v2 h2 =>
 bnd (hZ .neg v2 h2) fun v3 h3 =>
 some (v3, h3)) (
  bZ r n h0)
noncomputable def bVp (r : RT) (n : Nat) (x1 x4 : DV) (h0 : Hp) : aG :=
 bnd (aD .eql x4 (aJ 14) h0) fun v1 h1 =>
 aT v1 (
  aGh r n x1 v1 h1) (
 bnd (aD .eql x4 (aJ 15) h1) fun v2 h2 =>
  aGh r n x1 v2 h2)
noncomputable def rV (r : RT) (n : Nat) (x1 x4 x17 : DV) (h0 : Hp) : aG :=
 aT x17 (
 some ((.i .i64 (Int.negSucc 0)), h0)) (
  bVp r n x1 x4 h0)
noncomputable def cCj (r : RT) (n : Nat) (x1 x4 : DV) (h0 : Hp) : aG :=
 bnd (aD .eql x4 (aJ 12) h0) fun v1 h1 =>
 aT v1 (
  rV r n x1 x4 v1 h1) (
 bnd (aD .eql x4 (aJ 17) h1) fun v2 h2 =>
 aT v2 (
   rV r n x1 x4 v2 h2) (
 bnd (aD .eql x4 (aJ 19) h2) fun v3 h3 =>
 aT v3 (
    rV r n x1 x4 v3 h3) (
 bnd (aD .eql x4 (aJ 20) h3) fun v4 h4 =>
    rV r n x1 x4 v4 h4)))
noncomputable def iJ (r : RT) (n : Nat) (x1 x4 x5 : DV) (h0 : Hp) : aG :=
 aT x5 (
 some ((aJ 1), h0)) (
  cCj r n x1 x4 h0)
noncomputable def aRz (r : RT) (n : Nat) (x1 x4 : DV) (h0 : Hp) : aG :=
 bnd (aD .eql x4 (aJ 1) h0) fun v1 h1 =>
 aT v1 (
  iJ r n x1 x4 v1 h1) (
 bnd (aD .eql x4 (aJ 2) h1) fun v2 h2 =>
 aT v2 (
   iJ r n x1 x4 v2 h2) (
 bnd (aD .eql x4 (aJ 3) h2) fun v3 h3 =>
 aT v3 (
    iJ r n x1 x4 v3 h3) (
 bnd (aD .eql x4 (aJ 4) h3) fun v4 h4 =>
 aT v4 (
     iJ r n x1 x4 v4 h4) (
 bnd (aD .eql x4 (aJ 5) h4) fun v5 h5 =>
 aT v5 (
      iJ r n x1 x4 v5 h5) (
 bnd (aD .eql x4 (aJ 6) h5) fun v6 h6 =>
 aT v6 (
       iJ r n x1 x4 v6 h6) (
 bnd (aD .eql x4 (aJ 7) h6) fun v7 h7 =>
 aT v7 (
        iJ r n x1 x4 v7 h7) (
 bnd (aD .eql x4 (aJ 8) h7) fun v8 h8 =>
 aT v8 (
         iJ r n x1 x4 v8 h8) (
 bnd (aD .eql x4 (aJ 9) h8) fun v9 h9 =>
 aT v9 (
          iJ r n x1 x4 v9 h9) (
 bnd (aD .eql x4 (aJ 13) h9) fun v10 h10 =>
 aT v10 (
           iJ r n x1 x4 v10 h10) (
 bnd (aD .eql x4 (aJ 18) h10) fun v11 h11 =>
           iJ r n x1 x4 v11 h11))))))))))
noncomputable def xZ (r : RT) (n : Nat) (x1 : DV) (h0 : Hp) : aG :=
 bnd (aB 0 x1 h0) fun v1 h1 =>
 bnd (aA v1 h1) fun v2 h2 =>
  aRz r n x1 v2 h2
noncomputable def s441 (r : RT) (n : Nat) (x0 : DV) (h0 : Hp) : aG :=
 bnd (cH x0 h0) fun v1 h1 =>
  xZ r n v1 h1
noncomputable abbrev c441 : Code := cf Tryz.f441
noncomputable abbrev aHa : Code := cR c441
noncomputable abbrev dFb : Code := cR aHa
noncomputable abbrev yV : Code := cL aHa
noncomputable abbrev aPz : Code := cR yV
noncomputable abbrev aDw : Code := cL aPz
noncomputable abbrev aAm : Code := cR aDw
noncomputable abbrev zH : Code := cR aAm
noncomputable abbrev aAq : Code := cR zH
noncomputable abbrev yL : Code := cR aAq
noncomputable abbrev cTa : Code := cR yL
noncomputable abbrev bDo : Code := cL yL
noncomputable abbrev cMh : Code := cL aAq
noncomputable abbrev aWl : Code := cL zH
noncomputable abbrev cGe : Code := cL aAm
noncomputable abbrev bCl : Code := cL aDw
noncomputable abbrev bAb : Code := cL yV
noncomputable abbrev aDc : Code := cL c441
noncomputable abbrev r441 : K := aO CF Tryz.f441
noncomputable def D441 (r : RT) (n : Nat) (c : Code) (X : Nat → K) (k : K) : K := aM CF r 28 n c X r441 k
theorem cOg : D441 r n dFb x0 r441 = (K0 (bZ r n)) :=
 (by kernel_rfl)
theorem cTb : D441 r n cTa (xs x0 0 (K0 (bZ r n))) (K0 (bZ r n)) = (K2 (aGh r n) 1 22) :=
 (by kernel_rfl)
theorem bVh : D441 r n yL (xs x0 0 (K0 (bZ r n))) (K0 (bZ r n)) = D441 r n bDo (xs x0 0 (K0 (bZ r n))) (K2 (aGh r n) 1 22) :=
 congrArg (fun k => D441 r n bDo (xs x0 0 (K0 (bZ r n))) k) (cTb r n)
theorem cPv : D441 r n yL (xs x0 0 (K0 (bZ r n))) (K0 (bZ r n)) = (K2 (bVp r n) 1 4) :=
 (bVh r n).trans
 ((by kernel_rfl))
theorem cGk : D441 r n aAq (xs x0 0 (K0 (bZ r n))) (K0 (bZ r n)) = (K3 (rV r n) 1 4 17) :=
 (by kernel_rfl : D441 r n aAq (xs x0 0 (K0 (bZ r n))) (K0 (bZ r n)) = (fun (env : aZ) (h : Hp) => aT (opr env (cC aAq)) (D441 r n cMh (xs x0 0 (K0 (bZ r n))) (K0 (bZ r n)) env h) (D441 r n yL (xs x0 0 (K0 (bZ r n))) (K0 (bZ r n)) env h))).trans (by rw [cPv r n]; kernel_rfl)
theorem bSc : D441 r n zH (xs x0 0 (K0 (bZ r n))) (K0 (bZ r n)) = D441 r n aWl (xs x0 0 (K0 (bZ r n))) (K3 (rV r n) 1 4 17) :=
 congrArg (fun k => D441 r n aWl (xs x0 0 (K0 (bZ r n))) k) (cGk r n)
theorem cJc : D441 r n zH (xs x0 0 (K0 (bZ r n))) (K0 (bZ r n)) = (K2 (cCj r n) 1 4) :=
 (bSc r n).trans
 ((by kernel_rfl))
theorem cSn : D441 r n aAm (xs x0 0 (K0 (bZ r n))) (K0 (bZ r n)) = (K3 (iJ r n) 1 4 5) :=
 (by kernel_rfl : D441 r n aAm (xs x0 0 (K0 (bZ r n))) (K0 (bZ r n)) = (fun (env : aZ) (h : Hp) => aT (opr env (cC aAm)) (D441 r n cGe (xs x0 0 (K0 (bZ r n))) (K0 (bZ r n)) env h) (D441 r n zH (xs x0 0 (K0 (bZ r n))) (K0 (bZ r n)) env h))).trans (by rw [cJc r n]; kernel_rfl)
theorem bZu : D441 r n aDw (xs x0 0 (K0 (bZ r n))) (K0 (bZ r n)) = D441 r n bCl (xs x0 0 (K0 (bZ r n))) (K3 (iJ r n) 1 4 5) :=
 congrArg (fun k => D441 r n bCl (xs x0 0 (K0 (bZ r n))) k) (cSn r n)
theorem cUh : D441 r n aPz x0 (K0 (bZ r n)) = (K2 (aRz r n) 1 4) :=
 (by kernel_rfl : D441 r n aPz x0 (K0 (bZ r n)) = D441 r n aDw (xs x0 0 (K0 (bZ r n))) (K0 (bZ r n))).trans
 ((bZu r n).trans
 ((by kernel_rfl)))
theorem bNe : D441 r n aHa x0 r441 = D441 r n yV x0 (K0 (bZ r n)) :=
 congrArg (fun k => D441 r n yV x0 k) (cOg r n)
theorem bUd : D441 r n yV x0 (K0 (bZ r n)) = D441 r n bAb x0 (K2 (aRz r n) 1 4) :=
 congrArg (fun k => D441 r n bAb x0 k) (cUh r n)
theorem cJt : D441 r n aHa x0 r441 = (K1 (xZ r n) 1) :=
 (bNe r n).trans
 ((bUd r n).trans
 ((by kernel_rfl)))
theorem dAj : D441 r n c441 x0 r441 = D441 r n aDc x0 (K1 (xZ r n) 1) :=
 congrArg (fun k => D441 r n aDc x0 k) (cJt r n)
theorem dEe (q0 : TT1) : D441 r n aDc x0 (K1 q0 1) = fun (env : aZ) (h : Hp) =>
 bnd (cH (env 0) h) fun v1 h1 =>
  q0 v1 h1 := by kernel_rfl
theorem cPb : (fun (env : aZ) (h : Hp) =>
 bnd (cH (env 0) h) fun v1 h1 =>
  xZ r n v1 h1) = (K1 (s441 r n) 0) := by kernel_rfl
theorem dRg : D441 r n c441 x0 r441 = (K1 (s441 r n) 0) :=
 (dAj r n).trans
 ((dEe r n (xZ r n)).trans (cPb r n))
theorem cYs : aF CF r n 441 args h = s441 r n (aS args 0) h :=
 (by kernel_rfl : aF CF r n 441 args h = D441 r n c441 x0 r441 (aH args) h).trans ((congrFun (congrFun (dRg r n) (aH args)) h).trans (by kernel_rfl))
noncomputable def dB (r : RT) (n : Nat) (h0 : Hp) : aG :=
 some ((aJ 0), h0)
noncomputable def aEv (r : RT) (n : Nat) (x1 x13 : DV) (h0 : Hp) : aG :=
 aT x13 (
 bnd (aB 2 x1 h0) fun v1 h1 =>
 bnd (aA v1 h1) fun v2 h2 =>
 bnd (aD .add v2 (aJ 1) h2) fun v3 h3 =>
 some (v3, h3)) (
  dB r n h0)
noncomputable def bRn (r : RT) (n : Nat) (x1 x4 : DV) (h0 : Hp) : aG :=
 bnd (aD .eql x4 (aJ 14) h0) fun v1 h1 =>
 aT v1 (
  aEv r n x1 v1 h1) (
 bnd (aD .eql x4 (aJ 15) h1) fun v2 h2 =>
  aEv r n x1 v2 h2)
noncomputable def lS (r : RT) (n : Nat) (x1 x4 x5 : DV) (h0 : Hp) : aG :=
 aT x5 (
 some ((aJ 1), h0)) (
  bRn r n x1 x4 h0)
noncomputable def aUi (r : RT) (n : Nat) (x1 x4 : DV) (h0 : Hp) : aG :=
 bnd (aD .eql x4 (aJ 12) h0) fun v1 h1 =>
 aT v1 (
  lS r n x1 x4 v1 h1) (
 bnd (aD .eql x4 (aJ 13) h1) fun v2 h2 =>
 aT v2 (
   lS r n x1 x4 v2 h2) (
 bnd (aD .eql x4 (aJ 10) h2) fun v3 h3 =>
 aT v3 (
    lS r n x1 x4 v3 h3) (
 bnd (aD .eql x4 (aJ 11) h3) fun v4 h4 =>
 aT v4 (
     lS r n x1 x4 v4 h4) (
 bnd (aD .eql x4 (aJ 17) h4) fun v5 h5 =>
 aT v5 (
      lS r n x1 x4 v5 h5) (
 bnd (aD .eql x4 (aJ 20) h5) fun v6 h6 =>
 aT v6 (
       lS r n x1 x4 v6 h6) (
 bnd (aD .eql x4 (aJ 19) h6) fun v7 h7 =>
       lS r n x1 x4 v7 h7))))))
noncomputable def yN (r : RT) (n : Nat) (x1 : DV) (h0 : Hp) : aG :=
 bnd (aB 0 x1 h0) fun v1 h1 =>
 bnd (aA v1 h1) fun v2 h2 =>
  aUi r n x1 v2 h2
noncomputable def s442 (r : RT) (n : Nat) (x0 : DV) (h0 : Hp) : aG :=
 bnd (cH x0 h0) fun v1 h1 =>
  yN r n v1 h1
noncomputable abbrev c442 : Code := cf Tryz.f442
noncomputable abbrev aKb : Code := cR c442
noncomputable abbrev dLc : Code := cR aKb
noncomputable abbrev aAd : Code := cL aKb
noncomputable abbrev aVy : Code := cR aAd
noncomputable abbrev aCs : Code := cL aVy
noncomputable abbrev zW : Code := cR aCs
noncomputable abbrev aAn : Code := cR zW
noncomputable abbrev dEr : Code := cR aAn
noncomputable abbrev bPv : Code := cL aAn
noncomputable abbrev cSr : Code := cL zW
noncomputable abbrev bDp : Code := cL aCs
noncomputable abbrev aXe : Code := cL aAd
noncomputable abbrev aHz : Code := cL c442
noncomputable abbrev r442 : K := aO CF Tryz.f442
noncomputable def D442 (r : RT) (n : Nat) (c : Code) (X : Nat → K) (k : K) : K := aM CF r 19 n c X r442 k
theorem cRb : D442 r n dLc x0 r442 = (K0 (dB r n)) :=
 (by kernel_rfl)
theorem cRr : D442 r n dEr (xs x0 0 (K0 (dB r n))) (K0 (dB r n)) = (K2 (aEv r n) 1 13) :=
 (by kernel_rfl)
theorem bJn : D442 r n aAn (xs x0 0 (K0 (dB r n))) (K0 (dB r n)) = D442 r n bPv (xs x0 0 (K0 (dB r n))) (K2 (aEv r n) 1 13) :=
 congrArg (fun k => D442 r n bPv (xs x0 0 (K0 (dB r n))) k) (cRr r n)
theorem cPu : D442 r n aAn (xs x0 0 (K0 (dB r n))) (K0 (dB r n)) = (K2 (bRn r n) 1 4) :=
 (bJn r n).trans
 ((by kernel_rfl))
theorem cHn : D442 r n zW (xs x0 0 (K0 (dB r n))) (K0 (dB r n)) = (K3 (lS r n) 1 4 5) :=
 (by kernel_rfl : D442 r n zW (xs x0 0 (K0 (dB r n))) (K0 (dB r n)) = (fun (env : aZ) (h : Hp) => aT (opr env (cC zW)) (D442 r n cSr (xs x0 0 (K0 (dB r n))) (K0 (dB r n)) env h) (D442 r n aAn (xs x0 0 (K0 (dB r n))) (K0 (dB r n)) env h))).trans (by rw [cPu r n]; kernel_rfl)
theorem bWk : D442 r n aCs (xs x0 0 (K0 (dB r n))) (K0 (dB r n)) = D442 r n bDp (xs x0 0 (K0 (dB r n))) (K3 (lS r n) 1 4 5) :=
 congrArg (fun k => D442 r n bDp (xs x0 0 (K0 (dB r n))) k) (cHn r n)
theorem cUd : D442 r n aVy x0 (K0 (dB r n)) = (K2 (aUi r n) 1 4) :=
 (by kernel_rfl : D442 r n aVy x0 (K0 (dB r n)) = D442 r n aCs (xs x0 0 (K0 (dB r n))) (K0 (dB r n))).trans
 ((bWk r n).trans
 ((by kernel_rfl)))
theorem bLp : D442 r n aKb x0 r442 = D442 r n aAd x0 (K0 (dB r n)) :=
 congrArg (fun k => D442 r n aAd x0 k) (cRb r n)
theorem bKm : D442 r n aAd x0 (K0 (dB r n)) = D442 r n aXe x0 (K2 (aUi r n) 1 4) :=
 congrArg (fun k => D442 r n aXe x0 k) (cUd r n)
theorem cRd : D442 r n aKb x0 r442 = (K1 (yN r n) 1) :=
 (bLp r n).trans
 ((bKm r n).trans
 ((by kernel_rfl)))
theorem dFi : D442 r n c442 x0 r442 = D442 r n aHz x0 (K1 (yN r n) 1) :=
 congrArg (fun k => D442 r n aHz x0 k) (cRd r n)
theorem dKu (q0 : TT1) : D442 r n aHz x0 (K1 q0 1) = fun (env : aZ) (h : Hp) =>
 bnd (cH (env 0) h) fun v1 h1 =>
  q0 v1 h1 := by kernel_rfl
theorem cJi : (fun (env : aZ) (h : Hp) =>
 bnd (cH (env 0) h) fun v1 h1 =>
  yN r n v1 h1) = (K1 (s442 r n) 0) := by kernel_rfl
theorem dNo : D442 r n c442 x0 r442 = (K1 (s442 r n) 0) :=
 (dFi r n).trans
 ((dKu r n (yN r n)).trans (cJi r n))
theorem dBx : aF CF r n 442 args h = s442 r n (aS args 0) h :=
 (by kernel_rfl : aF CF r n 442 args h = D442 r n c442 x0 r442 (aH args) h).trans ((congrFun (congrFun (dNo r n) (aH args)) h).trans (by kernel_rfl))
noncomputable def s454 (r : RT) (n : Nat) (x0 : DV) (h0 : Hp) : aG :=
 bnd (aD .eql x0 (aJ 16) h0) fun v1 h1 =>
 bnd (gD v1 false (some (x0, h1)) h1) fun v2 h2 =>
 bnd (gD v1 false (aD .eql v2 (aJ 17) h2) h2) fun v3 h3 =>
 bnd (aN v1 (.b true) v3 h3) fun v4 h4 =>
 some (v4, h4)
noncomputable abbrev c454 : Code := cf Tryz.f454
noncomputable abbrev r454 : K := aO CF Tryz.f454
noncomputable def D454 (r : RT) (n : Nat) (c : Code) (X : Nat → K) (k : K) : K := aM CF r 9 n c X r454 k
theorem dNi : D454 r n c454 x0 r454 = (K1 (s454 r n) 0) :=
 (by kernel_rfl)
theorem dAl : aF CF r n 454 args h = s454 r n (aS args 0) h :=
 (by kernel_rfl : aF CF r n 454 args h = D454 r n c454 x0 r454 (aH args) h).trans ((congrFun (congrFun (dNi r n) (aH args)) h).trans (by kernel_rfl))
noncomputable def lW (r : RT) (n : Nat) (x0 x2 x5 : DV) (h0 : Hp) : aG :=
 bnd (r 290 [x0] h0) fun v1 h1 =>
 bnd (aK 6 x5 h1) fun v2 h2 =>
 bnd (aI 6 x2 v2 h2) fun _ h3 =>
 bnd (aK 6 x2 h3) fun v4 _ =>
 some (.t [v4, (.b true)], h3)
noncomputable def rG (r : RT) (n : Nat) (x0 x2 x4 x5 : DV) (h0 : Hp) : aG :=
 bnd (aY x0 h0) fun v1 h1 =>
 bnd (aB 3 v1 h1) fun v2 h2 =>
 bnd (aA v2 h2) fun v3 h3 =>
 bnd (aD .neq v3 (aJ 0) h3) fun v4 h4 =>
 aT v4 (
 bnd (aK 6 x5 h4) fun v5 h5 =>
 bnd (aI 6 x2 v5 h5) fun _ h6 =>
 bnd (aK 6 x2 h6) fun v7 _ =>
 some (.t [v7, (.b false)], h6)) (
 bnd (r 505 [x0] h4) fun v8 h8 =>
 aT v8 (
 bnd (r 290 [x0] h8) fun v9 h9 =>
 bnd (r 290 [x0] h9) fun v10 h10 =>
 bnd (jS 2 v10 h10) fun v11 h11 =>
 bnd (hZ .neg v11 h11) fun v12 h12 =>
 bnd (bL tJ [(0, 1, (aJ 1)), (2, 1, v12)] h12) fun v13 h13 =>
 bnd (aI 6 x2 v13 h13) fun _ h14 =>
 bnd (aK 6 x2 h14) fun v15 _ =>
 some (.t [v15, (.b true)], h14)) (
 bnd (aB 0 x4 h8) fun v16 h16 =>
 bnd (aA v16 h16) fun v17 h17 =>
 bnd (aD .eql v17 (aJ 4) h17) fun v18 h18 =>
 aT v18 (
 bnd (aB 0 x5 h18) fun v19 h19 =>
 bnd (aI 1 v19 (aJ 1) h19) fun _ h20 =>
    lW r n x0 x2 x5 h20) (
 bnd (aB 0 x4 h18) fun v21 h21 =>
 bnd (aA v21 h21) fun v22 h22 =>
 bnd (aD .eql v22 (aJ 5) h22) fun v23 h23 =>
 aT v23 (
 bnd (aB 0 x5 h23) fun v24 h24 =>
 bnd (aI 1 v24 (aJ 2) h24) fun _ h25 =>
     lW r n x0 x2 x5 h25) (
 bnd (aB 0 x4 h23) fun v26 h26 =>
 bnd (aA v26 h26) fun v27 h27 =>
 bnd (aD .eql v27 (aJ 6) h27) fun v28 h28 =>
 aT v28 (
 bnd (aB 0 x5 h28) fun v29 h29 =>
 bnd (aI 1 v29 (aJ 3) h29) fun _ h30 =>
      lW r n x0 x2 x5 h30) (
 bnd (aK 6 x5 h28) fun v31 h31 =>
 bnd (aI 6 x2 v31 h31) fun _ h32 =>
 bnd (aK 6 x2 h32) fun v33 _ =>
 some (.t [v33, (.b false)], h32))))))
noncomputable def sJ (r : RT) (n : Nat) (x0 x2 x4 : DV) (h0 : Hp) : aG :=
 bnd (aB 1 x4 h0) fun v1 h1 =>
 bnd (aA v1 h1) fun v2 h2 =>
 bnd (aB 2 x4 h2) fun v3 h3 =>
 bnd (aA v3 h3) fun v4 h4 =>
 bnd (bL tJ [(1, 1, v2), (2, 1, v4)] h4) fun v5 h5 =>
 bnd (bQ tJ h5) fun v6 h6 =>
 bnd (aI 6 v6 v5 h6) fun _ h7 =>
  rG r n x0 x2 x4 v6 h7
noncomputable def rF (r : RT) (n : Nat) (x0 x2 : DV) (h0 : Hp) : aG :=
 bnd (r 293 [x0, (aJ 0)] h0) fun v1 h1 =>
 bnd (bQ [(aJ 0), (.s []), (aJ 0), (aJ 0)] h1) fun v2 h2 =>
 bnd (aI 4 v2 v1 h2) fun _ h3 =>
  sJ r n x0 x2 v2 h3
noncomputable def s476 (r : RT) (n : Nat) (x0 : DV) (h0 : Hp) : aG :=
 bnd (bQ tJ h0) fun v1 h1 =>
  rF r n x0 v1 h1
noncomputable abbrev c476 : Code := cf Tryz.f476
noncomputable abbrev aFn : Code := cR c476
noncomputable abbrev aHe : Code := cR aFn
noncomputable abbrev aJs : Code := cR aHe
noncomputable abbrev dKs : Code := cR aJs
noncomputable abbrev aTh : Code := cL aJs
noncomputable abbrev aQh : Code := cL aHe
noncomputable abbrev aOw : Code := cL aFn
noncomputable abbrev aUy : Code := cL c476
noncomputable abbrev r476 : K := aO CF Tryz.f476
noncomputable def D476 (r : RT) (n : Nat) (c : Code) (X : Nat → K) (k : K) : K := aM CF r 49 n c X r476 k
theorem cGp : D476 r n dKs x0 r476 = (K3 (lW r n) 0 2 5) :=
 (by kernel_rfl)
theorem bUp : D476 r n aJs x0 r476 = D476 r n aTh x0 (K3 (lW r n) 0 2 5) :=
 congrArg (fun k => D476 r n aTh x0 k) (cGp r n)
theorem cCb (q0 : fG) : D476 r n aTh x0 (K3 q0 0 2 5) = fun (env : aZ) (h : Hp) =>
 bnd (aY (env 0) h) fun v1 h1 =>
 bnd (aB 3 v1 h1) fun v2 h2 =>
 bnd (aA v2 h2) fun v3 h3 =>
 bnd (aD .neq v3 (aJ 0) h3) fun v4 h4 =>
 aT v4 (
 bnd (aK 6 (env 5) h4) fun v5 h5 =>
 bnd (aI 6 (env 2) v5 h5) fun _ h6 =>
 bnd (aK 6 (env 2) h6) fun v7 _ =>
 some (.t [v7, (.b false)], h6)) (
 bnd (r 505 [(env 0)] h4) fun v8 h8 =>
 aT v8 (
 bnd (r 290 [(env 0)] h8) fun v9 h9 =>
 bnd (r 290 [(env 0)] h9) fun v10 h10 =>
 bnd (jS 2 v10 h10) fun v11 h11 =>
 bnd (hZ .neg v11 h11) fun v12 h12 =>
 bnd (bL tJ [(0, 1, (aJ 1)), (2, 1, v12)] h12) fun v13 h13 =>
 bnd (aI 6 (env 2) v13 h13) fun _ h14 =>
 bnd (aK 6 (env 2) h14) fun v15 _ =>
 some (.t [v15, (.b true)], h14)) (
 bnd (aB 0 (env 4) h8) fun v16 h16 =>
 bnd (aA v16 h16) fun v17 h17 =>
 bnd (aD .eql v17 (aJ 4) h17) fun v18 h18 =>
 aT v18 (
 bnd (aB 0 (env 5) h18) fun v19 h19 =>
 bnd (aI 1 v19 (aJ 1) h19) fun _ h20 =>
     q0 (env 0) (env 2) (env 5) h20) (
 bnd (aB 0 (env 4) h18) fun v21 h21 =>
 bnd (aA v21 h21) fun v22 h22 =>
 bnd (aD .eql v22 (aJ 5) h22) fun v23 h23 =>
 aT v23 (
 bnd (aB 0 (env 5) h23) fun v24 h24 =>
 bnd (aI 1 v24 (aJ 2) h24) fun _ h25 =>
      q0 (env 0) (env 2) (env 5) h25) (
 bnd (aB 0 (env 4) h23) fun v26 h26 =>
 bnd (aA v26 h26) fun v27 h27 =>
 bnd (aD .eql v27 (aJ 6) h27) fun v28 h28 =>
 aT v28 (
 bnd (aB 0 (env 5) h28) fun v29 h29 =>
 bnd (aI 1 v29 (aJ 3) h29) fun _ h30 =>
       q0 (env 0) (env 2) (env 5) h30) (
 bnd (aK 6 (env 5) h28) fun v31 h31 =>
 bnd (aI 6 (env 2) v31 h31) fun _ h32 =>
 bnd (aK 6 (env 2) h32) fun v33 _ =>
 some (.t [v33, (.b false)], h32)))))) := by kernel_rfl
theorem bEu : (fun (env : aZ) (h : Hp) =>
 bnd (aY (env 0) h) fun v1 h1 =>
 bnd (aB 3 v1 h1) fun v2 h2 =>
 bnd (aA v2 h2) fun v3 h3 =>
 bnd (aD .neq v3 (aJ 0) h3) fun v4 h4 =>
 aT v4 (
 bnd (aK 6 (env 5) h4) fun v5 h5 =>
 bnd (aI 6 (env 2) v5 h5) fun _ h6 =>
 bnd (aK 6 (env 2) h6) fun v7 _ =>
 some (.t [v7, (.b false)], h6)) (
 bnd (r 505 [(env 0)] h4) fun v8 h8 =>
 aT v8 (
 bnd (r 290 [(env 0)] h8) fun v9 h9 =>
 bnd (r 290 [(env 0)] h9) fun v10 h10 =>
 bnd (jS 2 v10 h10) fun v11 h11 =>
 bnd (hZ .neg v11 h11) fun v12 h12 =>
 bnd (bL tJ [(0, 1, (aJ 1)), (2, 1, v12)] h12) fun v13 h13 =>
 bnd (aI 6 (env 2) v13 h13) fun _ h14 =>
 bnd (aK 6 (env 2) h14) fun v15 _ =>
 some (.t [v15, (.b true)], h14)) (
 bnd (aB 0 (env 4) h8) fun v16 h16 =>
 bnd (aA v16 h16) fun v17 h17 =>
 bnd (aD .eql v17 (aJ 4) h17) fun v18 h18 =>
 aT v18 (
 bnd (aB 0 (env 5) h18) fun v19 h19 =>
 bnd (aI 1 v19 (aJ 1) h19) fun _ h20 =>
     lW r n (env 0) (env 2) (env 5) h20) (
 bnd (aB 0 (env 4) h18) fun v21 h21 =>
 bnd (aA v21 h21) fun v22 h22 =>
 bnd (aD .eql v22 (aJ 5) h22) fun v23 h23 =>
 aT v23 (
 bnd (aB 0 (env 5) h23) fun v24 h24 =>
 bnd (aI 1 v24 (aJ 2) h24) fun _ h25 =>
      lW r n (env 0) (env 2) (env 5) h25) (
 bnd (aB 0 (env 4) h23) fun v26 h26 =>
 bnd (aA v26 h26) fun v27 h27 =>
 bnd (aD .eql v27 (aJ 6) h27) fun v28 h28 =>
 aT v28 (
 bnd (aB 0 (env 5) h28) fun v29 h29 =>
 bnd (aI 1 v29 (aJ 3) h29) fun _ h30 =>
       lW r n (env 0) (env 2) (env 5) h30) (
 bnd (aK 6 (env 5) h28) fun v31 h31 =>
 bnd (aI 6 (env 2) v31 h31) fun _ h32 =>
 bnd (aK 6 (env 2) h32) fun v33 _ =>
 some (.t [v33, (.b false)], h32))))))) = (K4 (rG r n) 0 2 4 5) := by kernel_rfl
theorem cTx : D476 r n aJs x0 r476 = (K4 (rG r n) 0 2 4 5) :=
 (bUp r n).trans
 ((cCb r n (lW r n)).trans (bEu r n))
theorem bZc : D476 r n aHe x0 r476 = D476 r n aQh x0 (K4 (rG r n) 0 2 4 5) :=
 congrArg (fun k => D476 r n aQh x0 k) (cTx r n)
theorem cBn (q0 : cU) : D476 r n aQh x0 (K4 q0 0 2 4 5) = fun (env : aZ) (h : Hp) =>
 bnd (aB 1 (env 4) h) fun v1 h1 =>
 bnd (aA v1 h1) fun v2 h2 =>
 bnd (aB 2 (env 4) h2) fun v3 h3 =>
 bnd (aA v3 h3) fun v4 h4 =>
 bnd (bL tJ [(1, 1, v2), (2, 1, v4)] h4) fun v5 h5 =>
 bnd (bQ tJ h5) fun v6 h6 =>
 bnd (aI 6 v6 v5 h6) fun _ h7 =>
  q0 (env 0) (env 2) (env 4) v6 h7 := by kernel_rfl
theorem bGy : (fun (env : aZ) (h : Hp) =>
 bnd (aB 1 (env 4) h) fun v1 h1 =>
 bnd (aA v1 h1) fun v2 h2 =>
 bnd (aB 2 (env 4) h2) fun v3 h3 =>
 bnd (aA v3 h3) fun v4 h4 =>
 bnd (bL tJ [(1, 1, v2), (2, 1, v4)] h4) fun v5 h5 =>
 bnd (bQ tJ h5) fun v6 h6 =>
 bnd (aI 6 v6 v5 h6) fun _ h7 =>
  rG r n (env 0) (env 2) (env 4) v6 h7) = (K3 (sJ r n) 0 2 4) := by kernel_rfl
theorem cNq : D476 r n aHe x0 r476 = (K3 (sJ r n) 0 2 4) :=
 (bZc r n).trans
 ((cBn r n (rG r n)).trans (bGy r n))
theorem cCi : D476 r n aFn x0 r476 = D476 r n aOw x0 (K3 (sJ r n) 0 2 4) :=
 congrArg (fun k => D476 r n aOw x0 k) (cNq r n)
theorem bZe (q0 : fG) : D476 r n aOw x0 (K3 q0 0 2 4) = fun (env : aZ) (h : Hp) =>
 bnd (r 293 [(env 0), (aJ 0)] h) fun v1 h1 =>
 bnd (bQ [(aJ 0), (.s []), (aJ 0), (aJ 0)] h1) fun v2 h2 =>
 bnd (aI 4 v2 v1 h2) fun _ h3 =>
  q0 (env 0) (env 2) v2 h3 := by kernel_rfl
theorem bGa : (fun (env : aZ) (h : Hp) =>
 bnd (r 293 [(env 0), (aJ 0)] h) fun v1 h1 =>
 bnd (bQ [(aJ 0), (.s []), (aJ 0), (aJ 0)] h1) fun v2 h2 =>
 bnd (aI 4 v2 v1 h2) fun _ h3 =>
  sJ r n (env 0) (env 2) v2 h3) = (K2 (rF r n) 0 2) := by kernel_rfl
theorem cFv : D476 r n aFn x0 r476 = (K2 (rF r n) 0 2) :=
 (cCi r n).trans
 ((bZe r n (sJ r n)).trans (bGa r n))
theorem dEw : D476 r n c476 x0 r476 = D476 r n aUy x0 (K2 (rF r n) 0 2) :=
 congrArg (fun k => D476 r n aUy x0 k) (cFv r n)
theorem cYj (q0 : pR) : D476 r n aUy x0 (K2 q0 0 2) = fun (env : aZ) (h : Hp) =>
 bnd (bQ tJ h) fun v1 h1 =>
  q0 (env 0) v1 h1 := by kernel_rfl
theorem cUc : (fun (env : aZ) (h : Hp) =>
 bnd (bQ tJ h) fun v1 h1 =>
  rF r n (env 0) v1 h1) = (K1 (s476 r n) 0) := by kernel_rfl
theorem dMj : D476 r n c476 x0 r476 = (K1 (s476 r n) 0) :=
 (dEw r n).trans
 ((cYj r n (rF r n)).trans (cUc r n))
theorem dCq : aF CF r n 476 args h = s476 r n (aS args 0) h :=
 (by kernel_rfl : aF CF r n 476 args h = D476 r n c476 x0 r476 (aH args) h).trans ((congrFun (congrFun (dMj r n) (aH args)) h).trans (by kernel_rfl))
end Go.Dd

namespace Go.Dd
open Go.Proofs
variable (r : RT) (n : Nat) (args : List DV) (h : Hp)
noncomputable def s492 (r : RT) (n : Nat) (x0 : DV) (h0 : Hp) : aG :=
 bnd (cH x0 h0) fun v1 h1 =>
 bnd (aB 0 v1 h1) fun v2 h2 =>
 bnd (aA v2 h2) fun v3 h3 =>
 bnd (aD .eql v3 (aJ 5) h3) fun v4 h4 =>
 bnd (gD v4 true (aB 1 v1 h4) h4) fun v5 h5 =>
 bnd (gD v4 true (aA v5 h5) h5) fun v6 h6 =>
 bnd (gD v4 true (bW .eql v6 (.s [115, 117, 112, 101, 114]) h6) h6) fun v7 h7 =>
 bnd (aN v4 v7 (.b false) h7) fun v8 h8 =>
 some (v8, h8)
noncomputable abbrev c492 : Code := cf Tryz.f492
noncomputable abbrev r492 : K := aO CF Tryz.f492
noncomputable def D492 (r : RT) (n : Nat) (c : Code) (X : Nat → K) (k : K) : K := aM CF r 11 n c X r492 k
theorem dSi : D492 r n c492 x0 r492 = (K1 (s492 r n) 0) :=
 (by kernel_rfl)
theorem dIc : aF CF r n 492 args h = s492 r n (aS args 0) h :=
 (by kernel_rfl : aF CF r n 492 args h = D492 r n c492 x0 r492 (aH args) h).trans ((congrFun (congrFun (dSi r n) (aH args)) h).trans (by kernel_rfl))
noncomputable def s505 (r : RT) (n : Nat) (x0 : DV) (h0 : Hp) : aG :=
 bnd (r 293 [x0, (aJ 1)] h0) fun v1 h1 =>
 bnd (bQ [(aJ 0), (.s []), (aJ 0), (aJ 0)] h1) fun v2 h2 =>
 bnd (aI 4 v2 v1 h2) fun _ h3 =>
 bnd (r 289 [x0, (aJ 3), (.s [45])] h3) fun v4 h4 =>
 bnd (gD v4 true (aB 0 v2 h4) h4) fun v5 h5 =>
 bnd (gD v4 true (aA v5 h5) h5) fun v6 h6 =>
 bnd (gD v4 true (aD .eql v6 (aJ 4) h6) h6) fun v7 h7 =>
 bnd (aN v4 v7 (.b false) h7) fun v8 h8 =>
 bnd (gD v8 true (aB 3 v2 h8) h8) fun v9 h9 =>
 bnd (gD v8 true (aA v9 h9) h9) fun v10 h10 =>
 bnd (gD v8 true (some (x0, h10)) h10) fun v11 h11 =>
 bnd (gD v8 true (r 293 [v11, (aJ 0)] h11) h11) fun v12 h12 =>
 cnd (bB (gD v8 true (aA v9 h12) h12) v10 && true) (
 bnd (gD v8 true (jS 3 v12 h12) h12) fun v13 h13 =>
 bnd (gD v8 true (aD .add v13 (aJ 1) h13) h13) fun v14 h14 =>
 bnd (gD v8 true (aD .eql v10 v14 h14) h14) fun v15 h15 =>
 bnd (aN v8 v15 (.b false) h15) fun v16 h16 =>
 some (v16, h16))
noncomputable abbrev c505 : Code := cf Tryz.f505
noncomputable abbrev r505 : K := aO CF Tryz.f505
noncomputable def D505 (r : RT) (n : Nat) (c : Code) (X : Nat → K) (k : K) : K := aM CF r 22 n c X r505 k
theorem dMk : D505 r n c505 x0 r505 = (K1 (s505 r n) 0) :=
 (by kernel_rfl)
theorem cZh : aF CF r n 505 args h = s505 r n (aS args 0) h :=
 (by kernel_rfl : aF CF r n 505 args h = D505 r n c505 x0 r505 (aH args) h).trans ((congrFun (congrFun (dMk r n) (aH args)) h).trans (by kernel_rfl))
end Go.Dd

namespace Go.Dd
open Go.Proofs
section
variable (ih : RT) (m : Nat) (f : FuncId) (args : List DV) (h : Hp)
theorem cY {i : Nat} {s r : aG} (e1 : s = aF CF ih m i args h) (e2 : r = aF CF ih m f args h) : (bif Nat.beq f i then s else r) = aF CF ih m f args h := by
 cases e : Nat.beq f i with
 | false => exact e2
 | true => cases Nat.eq_of_beq_eq_true e; exact e1
theorem ndC {i : Nat} {a b : aG} (e1 : a = aF CF ih m f args h) (e2 : b = aF CF ih m f args h) : (bif Nat.blt f i then a else b) = aF CF ih m f args h := by
 cases Nat.blt f i with
 | false => exact e2
 | true => exact e1
noncomputable def qg0 : aG := bif Nat.beq f 3 then s3 ih m (aS args 0) h else bif Nat.beq f 4 then s4 ih m (aS args 0) (aS args 1) h else bif Nat.beq f 5 then s5 ih m (aS args 0) h else bif Nat.beq f 6 then s6 ih m (aS args 0) (aS args 1) h else bif Nat.beq f 7 then s7 ih m (aS args 0) h else bif Nat.beq f 8 then s8 ih m (aS args 0) h else bif Nat.beq f 9 then s9 ih m (aS args 0) h else bif Nat.beq f 10 then s10 ih m (aS args 0) (aS args 1) h else aF CF ih m f args h
theorem eAw : qg0 ih m f args h = aF CF ih m f args h := cY ih m f args h (eBg ih m args h).symm (cY ih m f args h (dZe ih m args h).symm (cY ih m f args h (dUn ih m args h).symm (cY ih m f args h (dZo ih m args h).symm (cY ih m f args h (dYr ih m args h).symm (cY ih m f args h (dYo ih m args h).symm (cY ih m f args h (eAo ih m args h).symm (cY ih m f args h (dSc ih m args h).symm rfl)))))))
noncomputable def qg1 : aG := bif Nat.beq f 11 then s11 ih m h else bif Nat.beq f 12 then s12 ih m (aS args 0) h else bif Nat.beq f 13 then s13 ih m (aS args 0) h else bif Nat.beq f 17 then s17 ih m (aS args 0) (aS args 1) h else bif Nat.beq f 18 then s18 ih m (aS args 0) h else bif Nat.beq f 19 then s19 ih m (aS args 0) (aS args 1) h else bif Nat.beq f 20 then s20 ih m (aS args 0) h else bif Nat.beq f 21 then s21 ih m (aS args 0) (aS args 1) h else aF CF ih m f args h
theorem dZx : qg1 ih m f args h = aF CF ih m f args h := cY ih m f args h (cXv ih m args h).symm (cY ih m f args h (cVv ih m args h).symm (cY ih m f args h (cXb ih m args h).symm (cY ih m f args h (dTs ih m args h).symm (cY ih m f args h (dPz ih m args h).symm (cY ih m f args h (dUz ih m args h).symm (cY ih m f args h (dPe ih m args h).symm (cY ih m f args h (dOy ih m args h).symm rfl)))))))
noncomputable def qg2 : aG := bif Nat.beq f 22 then s22 ih m (aS args 0) (aS args 1) h else bif Nat.beq f 26 then s26 ih m (aS args 0) h else bif Nat.beq f 27 then s27 ih m (aS args 0) h else bif Nat.beq f 30 then s30 ih m (aS args 0) (aS args 1) h else bif Nat.beq f 34 then s34 ih m h else bif Nat.beq f 35 then s35 ih m (aS args 0) h else bif Nat.beq f 36 then s36 ih m (aS args 0) h else bif Nat.beq f 45 then s45 ih m (aS args 0) (aS args 1) h else aF CF ih m f args h
theorem eBf : qg2 ih m f args h = aF CF ih m f args h := cY ih m f args h (cXa ih m args h).symm (cY ih m f args h (cXq ih m args h).symm (cY ih m f args h (cWo ih m args h).symm (cY ih m f args h (dNg ih m args h).symm (cY ih m f args h (dSd ih m args h).symm (cY ih m f args h (dVw ih m args h).symm (cY ih m f args h (cVh ih m args h).symm (cY ih m f args h (dPg ih m args h).symm rfl)))))))
noncomputable def qg3 : aG := bif Nat.beq f 50 then s50 ih m (aS args 0) h else bif Nat.beq f 51 then s51 ih m (aS args 0) h else bif Nat.beq f 52 then s52 ih m (aS args 0) h else bif Nat.beq f 53 then s53 ih m (aS args 0) h else bif Nat.beq f 54 then s54 ih m (aS args 0) h else bif Nat.beq f 55 then s55 ih m (aS args 0) h else bif Nat.beq f 73 then s73 ih m (aS args 0) h else bif Nat.beq f 75 then s75 ih m (aS args 0) (aS args 1) h else aF CF ih m f args h
theorem dXc : qg3 ih m f args h = aF CF ih m f args h := cY ih m f args h (dOx ih m args h).symm (cY ih m f args h (dPm ih m args h).symm (cY ih m f args h (dUt ih m args h).symm (cY ih m f args h (dRj ih m args h).symm (cY ih m f args h (dVr ih m args h).symm (cY ih m f args h (dOf ih m args h).symm (cY ih m f args h (dUu ih m args h).symm (cY ih m f args h (dQr ih m args h).symm rfl)))))))
noncomputable def qg4 : aG := bif Nat.beq f 79 then s79 ih m (aS args 0) (aS args 1) h else bif Nat.beq f 81 then s81 ih m (aS args 0) (aS args 1) h else bif Nat.beq f 82 then s82 ih m (aS args 0) (aS args 1) h else bif Nat.beq f 83 then s83 ih m (aS args 0) h else bif Nat.beq f 85 then s85 ih m (aS args 0) (aS args 1) (aS args 2) h else bif Nat.beq f 87 then s87 ih m (aS args 0) (aS args 1) (aS args 2) h else bif Nat.beq f 123 then s123 ih m (aS args 0) (aS args 1) h else bif Nat.beq f 129 then s129 ih m (aS args 0) (aS args 1) (aS args 2) h else aF CF ih m f args h
theorem dWu : qg4 ih m f args h = aF CF ih m f args h := cY ih m f args h (dUv ih m args h).symm (cY ih m f args h (dOg ih m args h).symm (cY ih m f args h (dMw ih m args h).symm (cY ih m f args h (dTf ih m args h).symm (cY ih m f args h (dNd ih m args h).symm (cY ih m f args h (dVh ih m args h).symm (cY ih m f args h (cZx ih m args h).symm (cY ih m f args h (dHu ih m args h).symm rfl)))))))
noncomputable def qg5 : aG := bif Nat.beq f 130 then s130 ih m (aS args 0) (aS args 1) h else bif Nat.beq f 131 then s131 ih m (aS args 0) (aS args 1) h else bif Nat.beq f 133 then s133 ih m (aS args 0) (aS args 1) (aS args 2) (aS args 3) h else bif Nat.beq f 137 then s137 ih m (aS args 0) (aS args 1) h else bif Nat.beq f 138 then s138 ih m (aS args 0) h else bif Nat.beq f 139 then s139 ih m (aS args 0) (aS args 1) h else bif Nat.beq f 140 then s140 ih m (aS args 0) (aS args 1) h else bif Nat.beq f 141 then s141 ih m (aS args 0) (aS args 1) (aS args 2) h else aF CF ih m f args h
theorem eAh : qg5 ih m f args h = aF CF ih m f args h := cY ih m f args h (dJf ih m args h).symm (cY ih m f args h (dCi ih m args h).symm (cY ih m f args h (dCt ih m args h).symm (cY ih m f args h (cZa ih m args h).symm (cY ih m f args h (dAh ih m args h).symm (cY ih m f args h (dAg ih m args h).symm (cY ih m f args h (dCs ih m args h).symm (cY ih m f args h (cYa ih m args h).symm rfl)))))))
noncomputable def qg6 : aG := bif Nat.beq f 153 then s153 ih m (aS args 0) (aS args 1) h else bif Nat.beq f 158 then s158 ih m (aS args 0) (aS args 1) (aS args 2) h else bif Nat.beq f 193 then s193 ih m (aS args 0) (aS args 1) h else bif Nat.beq f 199 then s199 ih m (aS args 0) (aS args 1) h else bif Nat.beq f 202 then s202 ih m (aS args 0) h else bif Nat.beq f 203 then s203 ih m (aS args 0) (aS args 1) h else bif Nat.beq f 204 then s204 ih m (aS args 0) (aS args 1) (aS args 2) h else bif Nat.beq f 206 then s206 ih m (aS args 0) (aS args 1) h else aF CF ih m f args h
theorem eBc : qg6 ih m f args h = aF CF ih m f args h := cY ih m f args h (cYl ih m args h).symm (cY ih m f args h (dGc ih m args h).symm (cY ih m f args h (dAn ih m args h).symm (cY ih m f args h (dAs ih m args h).symm (cY ih m f args h (cZo ih m args h).symm (cY ih m f args h (dEf ih m args h).symm (cY ih m f args h (dJg ih m args h).symm (cY ih m f args h (dHo ih m args h).symm rfl)))))))
noncomputable def qg7 : aG := bif Nat.beq f 207 then s207 ih m (aS args 0) (aS args 1) (aS args 2) (aS args 3) h else bif Nat.beq f 217 then s217 ih m (aS args 0) (aS args 1) h else bif Nat.beq f 218 then s218 ih m (aS args 0) h else bif Nat.beq f 221 then s221 ih m (aS args 0) (aS args 1) (aS args 2) h else bif Nat.beq f 223 then s223 ih m (aS args 0) h else bif Nat.beq f 224 then s224 ih m (aS args 0) (aS args 1) h else bif Nat.beq f 225 then s225 ih m (aS args 0) (aS args 1) h else bif Nat.beq f 226 then s226 ih m (aS args 0) h else aF CF ih m f args h
theorem eCb : qg7 ih m f args h = aF CF ih m f args h := cY ih m f args h (dLm ih m args h).symm (cY ih m f args h (dHi ih m args h).symm (cY ih m f args h (dEl ih m args h).symm (cY ih m f args h (dCk ih m args h).symm (cY ih m f args h (dFc ih m args h).symm (cY ih m f args h (dKa ih m args h).symm (cY ih m f args h (dGv ih m args h).symm (cY ih m f args h (dCd ih m args h).symm rfl)))))))
noncomputable def qg8 : aG := bif Nat.beq f 227 then s227 ih m (aS args 0) (aS args 1) h else bif Nat.beq f 234 then s234 ih m (aS args 0) (aS args 1) h else bif Nat.beq f 286 then s286 ih m (aS args 0) (aS args 1) (aS args 2) h else bif Nat.beq f 287 then s287 ih m (aS args 0) h else bif Nat.beq f 288 then s288 ih m (aS args 0) h else bif Nat.beq f 289 then s289 ih m (aS args 0) (aS args 1) (aS args 2) h else bif Nat.beq f 290 then s290 ih m (aS args 0) h else bif Nat.beq f 291 then s291 ih m (aS args 0) h else aF CF ih m f args h
theorem dYp : qg8 ih m f args h = aF CF ih m f args h := cY ih m f args h (dKo ih m args h).symm (cY ih m f args h (cZv ih m args h).symm (cY ih m f args h (dLp ih m args h).symm (cY ih m f args h (dBf ih m args h).symm (cY ih m f args h (dHf ih m args h).symm (cY ih m f args h (dKk ih m args h).symm (cY ih m f args h (dDx ih m args h).symm (cY ih m f args h (cYf ih m args h).symm rfl)))))))
noncomputable def qg9 : aG := bif Nat.beq f 293 then s293 ih m (aS args 0) (aS args 1) h else bif Nat.beq f 295 then s295 ih m (aS args 0) (aS args 1) h else bif Nat.beq f 296 then s296 ih m (aS args 0) (aS args 1) (aS args 2) (aS args 3) h else bif Nat.beq f 297 then s297 ih m (aS args 0) h else bif Nat.beq f 298 then s298 ih m (aS args 0) (aS args 1) h else bif Nat.beq f 299 then s299 ih m (aS args 0) (aS args 1) h else bif Nat.beq f 303 then s303 ih m (aS args 0) h else bif Nat.beq f 338 then s338 ih m (aS args 0) (aS args 1) h else aF CF ih m f args h
theorem dXq : qg9 ih m f args h = aF CF ih m f args h := cY ih m f args h (dHk ih m args h).symm (cY ih m f args h (dKr ih m args h).symm (cY ih m f args h (dGq ih m args h).symm (cY ih m f args h (dFa ih m args h).symm (cY ih m f args h (dLx ih m args h).symm (cY ih m f args h (dJu ih m args h).symm (cY ih m f args h (dAv ih m args h).symm (cY ih m f args h (dBq ih m args h).symm rfl)))))))
noncomputable def dUy : aG := bif Nat.beq f 339 then s339 ih m (aS args 0) (aS args 1) h else bif Nat.beq f 340 then s340 ih m (aS args 0) h else bif Nat.beq f 341 then s341 ih m (aS args 0) h else bif Nat.beq f 342 then s342 ih m (aS args 0) h else bif Nat.beq f 343 then s343 ih m (aS args 0) h else bif Nat.beq f 344 then s344 ih m (aS args 0) h else bif Nat.beq f 348 then s348 ih m (aS args 0) (aS args 1) h else bif Nat.beq f 349 then s349 ih m (aS args 0) h else aF CF ih m f args h
theorem dQk : dUy ih m f args h = aF CF ih m f args h := cY ih m f args h (dDy ih m args h).symm (cY ih m f args h (dKd ih m args h).symm (cY ih m f args h (dCz ih m args h).symm (cY ih m f args h (dBp ih m args h).symm (cY ih m f args h (dBj ih m args h).symm (cY ih m f args h (dBi ih m args h).symm (cY ih m f args h (dBt ih m args h).symm (cY ih m f args h (cZz ih m args h).symm rfl)))))))
noncomputable def dUk : aG := bif Nat.beq f 353 then s353 ih m (aS args 0) (aS args 1) h else bif Nat.beq f 355 then s355 ih m (aS args 0) (aS args 1) h else bif Nat.beq f 360 then s360 ih m (aS args 0) (aS args 1) (aS args 2) h else bif Nat.beq f 361 then s361 ih m (aS args 0) (aS args 1) h else bif Nat.beq f 362 then s362 ih m (aS args 0) h else bif Nat.beq f 363 then s363 ih m (aS args 0) (aS args 1) h else bif Nat.beq f 364 then s364 ih m (aS args 0) (aS args 1) (aS args 2) h else bif Nat.beq f 365 then s365 ih m (aS args 0) h else aF CF ih m f args h
theorem dMm : dUk ih m f args h = aF CF ih m f args h := cY ih m f args h (dAx ih m args h).symm (cY ih m f args h (dCo ih m args h).symm (cY ih m f args h (dCa ih m args h).symm (cY ih m f args h (dIv ih m args h).symm (cY ih m f args h (dFt ih m args h).symm (cY ih m f args h (dDc ih m args h).symm (cY ih m f args h (dGy ih m args h).symm (cY ih m f args h (dJi ih m args h).symm rfl)))))))
noncomputable def dVo : aG := bif Nat.beq f 366 then s366 ih m (aS args 0) (aS args 1) h else bif Nat.beq f 367 then s367 ih m (aS args 0) (aS args 1) h else bif Nat.beq f 384 then s384 ih m (aS args 0) h else bif Nat.beq f 415 then s415 ih m (aS args 0) h else bif Nat.beq f 423 then s423 ih m (aS args 0) (aS args 1) h else bif Nat.beq f 424 then s424 ih m (aS args 0) (aS args 1) h else bif Nat.beq f 425 then s425 ih m (aS args 0) (aS args 1) h else bif Nat.beq f 426 then s426 ih m (aS args 0) (aS args 1) h else aF CF ih m f args h
theorem dMl : dVo ih m f args h = aF CF ih m f args h := cY ih m f args h (dIm ih m args h).symm (cY ih m f args h (dIz ih m args h).symm (cY ih m f args h (dGt ih m args h).symm (cY ih m f args h (dKp ih m args h).symm (cY ih m f args h (cZt ih m args h).symm (cY ih m f args h (dKx ih m args h).symm (cY ih m f args h (dEq ih m args h).symm (cY ih m f args h (dEx ih m args h).symm rfl)))))))
noncomputable def dRy : aG := bif Nat.beq f 427 then s427 ih m (aS args 0) (aS args 1) h else bif Nat.beq f 429 then s429 ih m (aS args 0) (aS args 1) h else bif Nat.beq f 433 then s433 ih m (aS args 0) (aS args 1) h else bif Nat.beq f 438 then s438 ih m (aS args 0) (aS args 1) h else bif Nat.beq f 439 then s439 ih m (aS args 0) (aS args 1) h else bif Nat.beq f 440 then s440 ih m (aS args 0) (aS args 1) (aS args 2) (aS args 3) (aS args 4) (aS args 5) (aS args 6) (aS args 7) h else bif Nat.beq f 441 then s441 ih m (aS args 0) h else bif Nat.beq f 442 then s442 ih m (aS args 0) h else aF CF ih m f args h
theorem dPi : dRy ih m f args h = aF CF ih m f args h := cY ih m f args h (cZg ih m args h).symm (cY ih m f args h (dAy ih m args h).symm (cY ih m f args h (dBb ih m args h).symm (cY ih m f args h (dHc ih m args h).symm (cY ih m f args h (cZm ih m args h).symm (cY ih m f args h (dFm ih m args h).symm (cY ih m f args h (cYs ih m args h).symm (cY ih m f args h (dBx ih m args h).symm rfl)))))))
noncomputable def dNx : aG := bif Nat.beq f 454 then s454 ih m (aS args 0) h else bif Nat.beq f 476 then s476 ih m (aS args 0) h else bif Nat.beq f 492 then s492 ih m (aS args 0) h else bif Nat.beq f 505 then s505 ih m (aS args 0) h else aF CF ih m f args h
theorem dOl : dNx ih m f args h = aF CF ih m f args h := cY ih m f args h (dAl ih m args h).symm (cY ih m f args h (dCq ih m args h).symm (cY ih m f args h (dIc ih m args h).symm (cY ih m f args h (cZh ih m args h).symm rfl)))
noncomputable def qd0 : aG := bif Nat.blt f 22 then qg1 ih m f args h else qg2 ih m f args h
theorem dZz : qd0 ih m f args h = aF CF ih m f args h := ndC ih m f args h (dZx ih m f args h) (eBf ih m f args h)
noncomputable def qd1 : aG := bif Nat.blt f 11 then qg0 ih m f args h else qd0 ih m f args h
theorem dXs : qd1 ih m f args h = aF CF ih m f args h := ndC ih m f args h (eAw ih m f args h) (dZz ih m f args h)
noncomputable def qd2 : aG := bif Nat.blt f 79 then qg3 ih m f args h else qg4 ih m f args h
theorem eBo : qd2 ih m f args h = aF CF ih m f args h := ndC ih m f args h (dXc ih m f args h) (dWu ih m f args h)
noncomputable def qd3 : aG := bif Nat.blt f 153 then qg5 ih m f args h else qg6 ih m f args h
theorem dWx : qd3 ih m f args h = aF CF ih m f args h := ndC ih m f args h (eAh ih m f args h) (eBc ih m f args h)
noncomputable def qd4 : aG := bif Nat.blt f 130 then qd2 ih m f args h else qd3 ih m f args h
theorem eCe : qd4 ih m f args h = aF CF ih m f args h := ndC ih m f args h (eBo ih m f args h) (dWx ih m f args h)
noncomputable def qd5 : aG := bif Nat.blt f 50 then qd1 ih m f args h else qd4 ih m f args h
theorem dZs : qd5 ih m f args h = aF CF ih m f args h := ndC ih m f args h (dXs ih m f args h) (eCe ih m f args h)
noncomputable def qd6 : aG := bif Nat.blt f 227 then qg7 ih m f args h else qg8 ih m f args h
theorem dYg : qd6 ih m f args h = aF CF ih m f args h := ndC ih m f args h (eCb ih m f args h) (dYp ih m f args h)
noncomputable def qd7 : aG := bif Nat.blt f 339 then qg9 ih m f args h else dUy ih m f args h
theorem eAm : qd7 ih m f args h = aF CF ih m f args h := ndC ih m f args h (dXq ih m f args h) (dQk ih m f args h)
noncomputable def qd8 : aG := bif Nat.blt f 293 then qd6 ih m f args h else qd7 ih m f args h
theorem dZy : qd8 ih m f args h = aF CF ih m f args h := ndC ih m f args h (dYg ih m f args h) (eAm ih m f args h)
noncomputable def qd9 : aG := bif Nat.blt f 366 then dUk ih m f args h else dVo ih m f args h
theorem dZt : qd9 ih m f args h = aF CF ih m f args h := ndC ih m f args h (dMm ih m f args h) (dMl ih m f args h)
noncomputable def dNl : aG := bif Nat.blt f 454 then dRy ih m f args h else dNx ih m f args h
theorem dWe : dNl ih m f args h = aF CF ih m f args h := ndC ih m f args h (dPi ih m f args h) (dOl ih m f args h)
noncomputable def dTy : aG := bif Nat.blt f 427 then qd9 ih m f args h else dNl ih m f args h
theorem dOk : dTy ih m f args h = aF CF ih m f args h := ndC ih m f args h (dZt ih m f args h) (dWe ih m f args h)
noncomputable def dVs : aG := bif Nat.blt f 353 then qd8 ih m f args h else dTy ih m f args h
theorem dUa : dVs ih m f args h = aF CF ih m f args h := ndC ih m f args h (dZy ih m f args h) (dOk ih m f args h)
noncomputable def dTc : aG := bif Nat.blt f 207 then qd5 ih m f args h else dVs ih m f args h
theorem dQl : dTc ih m f args h = aF CF ih m f args h := ndC ih m f args h (dZs ih m f args h) (dUa ih m f args h)
end
noncomputable def shB (ih : RT) (m : Nat) (f : FuncId) (args : List DV) (h : Hp) : aG := dTc ih m f args h
theorem cBp (ih : RT) (m : Nat) (f : FuncId) (args : List DV) (h : Hp) : shB ih m f args h = aF CF ih m f args h := dQl ih m f args h
noncomputable def kS (n : Nat) : FuncId → List DV → Hp → aG :=
 Nat.rec (motive := fun _ => FuncId → List DV → Hp → aG) (fun _ _ _ => none) (fun m ih => fun f args h => bif rgB f then iX CF ih m itm f args h else shB ih m f args h) n
theorem mZ (f : FuncId) (hf : rgB f = false) (n : Nat) (args : List DV) (h : Hp) : kS (n + 1) f args h = aF CF (kS n) n f args h := by
 show (bif rgB f then iX CF (kS n) n itm f args h else shB (kS n) n f args h) = _
 rw [hf, cond_false, cBp]
theorem wL : ∀ n, kS n = fI CF n
 | 0 => rfl
 | n + 1 => by
  funext f args h
  show (bif rgB f then iX CF (kS n) n itm f args h else shB (kS n) n f args h) = (bif rgB f then iX CF (fI CF n) n itm f else aF CF (fI CF n) n f) args h
  rw [← wL n]
  cases rgB f with
  | true => rfl
  | false => exact cBp _ _ _ _ _
end Go.Dd

namespace Go.Dd
noncomputable section
def mkW (l : List Nat) : Nat → WT → WT := List.rec (motive := fun _ => Nat → WT → WT) (fun _ t => t) (fun x _ ih i t => ih (Nat.add i 1) (t.set i (.ofNat x))) l
def cYt (l : List (Nat × Nat)) : WT → WT := List.rec (motive := fun _ => WT → WT) (fun t => t) (fun x _ ih t => ih (t.set x.1 (.ofNat x.2))) l
def mkP (l : List Nat) : WT → WT := List.rec (motive := fun _ => WT → WT) (fun t => t) (fun x _ ih t => ih (t.set x (.ofNat 1))) l
def cWk (l : List Nat) : Nat → List Nat := List.rec (motive := fun _ => Nat → List Nat) (fun _ => []) (fun x _ ih n => bif Nat.beq n 0 then [] else x :: ih (Nat.sub n 1)) l
def dHg (f : Nat) : Nat → Pos := Nat.rec (motive := fun _ => Nat → Pos) (fun _ => .h) (fun _ ih n => bif Nat.beq n 1 then .h else bif Nat.beq (Nat.mod n 2) 0 then .o (ih (Nat.div n 2)) else .i (ih (Nat.div n 2))) f
def cO (n : Nat) : Pos := dHg 24 (Nat.add 1023 n)
def eL : List Nat := [79, 98, 106, 101, 99, 116]
def aEq : List Nat := [67, 108, 97, 115, 115]
def aAb : List Nat := [84, 114, 117, 101]
def pE : List Nat := [70, 97, 108, 115, 101]
def dT : List Nat := [73, 110, 116, 101, 103, 101, 114]
def aHv : List Nat := [65, 114, 114, 97, 121]
def qV : List Nat := [83, 116, 114, 105, 110, 103]
def cGb : List Nat := [83, 121, 109, 98, 111, 108]
def rM : List Nat := [66, 108, 111, 99, 107]
def iT : List Nat := [67, 111, 110, 116, 101, 120, 116]
def aMc : List Nat := [77, 101, 115, 115, 97, 103, 101]
def dQn : List (List Nat × List Nat) := [
 (eL, [61, 32, 111, 116, 104, 101, 114, 32, 94, 115, 101, 108, 102, 32, 61, 61, 32, 111, 116, 104, 101, 114]),
 (eL, [61, 61, 32, 111, 116, 104, 101, 114, 32, 60, 112, 114, 105, 109, 105, 116, 105, 118, 101, 58, 32, 49, 48, 62]),
 (eL, [99, 108, 97, 115, 115, 32, 60, 112, 114, 105, 109, 105, 116, 105, 118, 101, 58, 32, 49, 49, 62]),
 (eL, [105, 115, 78, 105, 108, 32, 94, 115, 101, 108, 102, 32, 61, 61, 32, 110, 105, 108]),
 (eL, [110, 111, 116, 78, 105, 108, 32, 94, 40, 115, 101, 108, 102, 32, 61, 61, 32, 110, 105, 108, 41, 32, 61, 61, 32, 102, 97, 108, 115, 101]),
 (eL, [126, 61, 32, 111, 116, 104, 101, 114, 32, 94, 40, 115, 101, 108, 102, 32, 61, 32, 111, 116, 104, 101, 114, 41, 32, 61, 61, 32, 102, 97, 108, 115, 101]),
 (eL, [121, 111, 117, 114, 115, 101, 108, 102, 32, 94, 115, 101, 108, 102]),
 (eL, [105, 110, 115, 116, 86, 97, 114, 65, 116, 58, 32, 105, 32, 60, 112, 114, 105, 109, 105, 116, 105, 118, 101, 58, 32, 53, 48, 62]),
 (eL, [105, 110, 115, 116, 86, 97, 114, 65, 116, 58, 32, 105, 32, 112, 117, 116, 58, 32, 120, 32, 60, 112, 114, 105, 109, 105, 116, 105, 118, 101, 58, 32, 53, 49, 62]),
 (eL, [98, 101, 99, 111, 109, 101, 58, 32, 111, 116, 104, 101, 114, 32, 60, 112, 114, 105, 109, 105, 116, 105, 118, 101, 58, 32, 54, 48, 62]),
 (eL, [112, 101, 114, 102, 111, 114, 109, 58, 32, 115, 32, 60, 112, 114, 105, 109, 105, 116, 105, 118, 101, 58, 32, 51, 49, 62]),
 (eL, [112, 101, 114, 102, 111, 114, 109, 58, 32, 115, 32, 119, 105, 116, 104, 58, 32, 97, 32, 60, 112, 114, 105, 109, 105, 116, 105, 118, 101, 58, 32, 51, 50, 62]),
 (eL, [115, 104, 111, 119, 32, 60, 112, 114, 105, 109, 105, 116, 105, 118, 101, 58, 32, 55, 48, 62]),
 (eL, [101, 114, 114, 111, 114, 58, 32, 115, 32, 60, 112, 114, 105, 109, 105, 116, 105, 118, 101, 58, 32, 55, 49, 62]),
 (eL, [100, 111, 101, 115, 78, 111, 116, 85, 110, 100, 101, 114, 115, 116, 97, 110, 100, 58, 32, 109, 32, 60, 112, 114, 105, 109, 105, 116, 105, 118, 101, 58, 32, 55, 50, 62]),
 (eL, [109, 117, 115, 116, 66, 101, 66, 111, 111, 108, 101, 97, 110, 32, 60, 112, 114, 105, 109, 105, 116, 105, 118, 101, 58, 32, 55, 51, 62]),
 (aEq, [110, 101, 119, 32, 60, 112, 114, 105, 109, 105, 116, 105, 118, 101, 58, 32, 50, 51, 62]),
 (aEq, [110, 101, 119, 58, 32, 110, 32, 60, 112, 114, 105, 109, 105, 116, 105, 118, 101, 58, 32, 50, 52, 62]),
 (aEq, [110, 97, 109, 101, 32, 60, 112, 114, 105, 109, 105, 116, 105, 118, 101, 58, 32, 52, 48, 62]),
 (aEq, [115, 117, 112, 101, 114, 99, 108, 97, 115, 115, 32, 60, 112, 114, 105, 109, 105, 116, 105, 118, 101, 58, 32, 52, 49, 62]),
 (aAb, [105, 102, 84, 114, 117, 101, 58, 32, 98, 32, 94, 98, 32, 118, 97, 108, 117, 101]),
 (aAb, [105, 102, 70, 97, 108, 115, 101, 58, 32, 98, 32, 94, 110, 105, 108]),
 (aAb, [105, 102, 84, 114, 117, 101, 58, 32, 97, 32, 105, 102, 70, 97, 108, 115, 101, 58, 32, 98, 32, 94, 97, 32, 118, 97, 108, 117, 101]),
 (aAb, [105, 102, 70, 97, 108, 115, 101, 58, 32, 97, 32, 105, 102, 84, 114, 117, 101, 58, 32, 98, 32, 94, 98, 32, 118, 97, 108, 117, 101]),
 (aAb, [97, 110, 100, 58, 32, 98, 32, 94, 98, 32, 118, 97, 108, 117, 101]),
 (aAb, [111, 114, 58, 32, 98, 32, 94, 115, 101, 108, 102]),
 (aAb, [110, 111, 116, 32, 94, 102, 97, 108, 115, 101]),
 (pE, [105, 102, 84, 114, 117, 101, 58, 32, 98, 32, 94, 110, 105, 108]),
 (pE, [105, 102, 70, 97, 108, 115, 101, 58, 32, 98, 32, 94, 98, 32, 118, 97, 108, 117, 101]),
 (pE, [105, 102, 84, 114, 117, 101, 58, 32, 97, 32, 105, 102, 70, 97, 108, 115, 101, 58, 32, 98, 32, 94, 98, 32, 118, 97, 108, 117, 101]),
 (pE, [105, 102, 70, 97, 108, 115, 101, 58, 32, 97, 32, 105, 102, 84, 114, 117, 101, 58, 32, 98, 32, 94, 97, 32, 118, 97, 108, 117, 101]),
 (pE, [97, 110, 100, 58, 32, 98, 32, 94, 115, 101, 108, 102]),
 (pE, [111, 114, 58, 32, 98, 32, 94, 98, 32, 118, 97, 108, 117, 101]),
 (pE, [110, 111, 116, 32, 94, 116, 114, 117, 101]),
 (dT, [43, 32, 110, 32, 60, 112, 114, 105, 109, 105, 116, 105, 118, 101, 58, 32, 49, 62, 32, 94, 115, 101, 108, 102, 32, 101, 114, 114, 111, 114, 58, 32, 35, 110, 117, 109, 98, 101, 114]),
 (dT, [45, 32, 110, 32, 60, 112, 114, 105, 109, 105, 116, 105, 118, 101, 58, 32, 50, 62, 32, 94, 115, 101, 108, 102, 32, 101, 114, 114, 111, 114, 58, 32, 35, 110, 117, 109, 98, 101, 114]),
 (dT, [42, 32, 110, 32, 60, 112, 114, 105, 109, 105, 116, 105, 118, 101, 58, 32, 51, 62, 32, 94, 115, 101, 108, 102, 32, 101, 114, 114, 111, 114, 58, 32, 35, 110, 117, 109, 98, 101, 114]),
 (dT, [47, 47, 32, 110, 32, 60, 112, 114, 105, 109, 105, 116, 105, 118, 101, 58, 32, 52, 62, 32, 94, 115, 101, 108, 102, 32, 101, 114, 114, 111, 114, 58, 32, 35, 110, 117, 109, 98, 101, 114]),
 (dT, [37, 32, 110, 32, 60, 112, 114, 105, 109, 105, 116, 105, 118, 101, 58, 32, 53, 62, 32, 94, 115, 101, 108, 102, 32, 101, 114, 114, 111, 114, 58, 32, 35, 110, 117, 109, 98, 101, 114]),
 (dT, [60, 32, 110, 32, 60, 112, 114, 105, 109, 105, 116, 105, 118, 101, 58, 32, 54, 62, 32, 94, 115, 101, 108, 102, 32, 101, 114, 114, 111, 114, 58, 32, 35, 110, 117, 109, 98, 101, 114]),
 (dT, [61, 32, 110, 32, 60, 112, 114, 105, 109, 105, 116, 105, 118, 101, 58, 32, 55, 62, 32, 94, 102, 97, 108, 115, 101]),
 (dT, [62, 32, 110, 32, 94, 110, 32, 60, 32, 115, 101, 108, 102]),
 (dT, [60, 61, 32, 110, 32, 94, 40, 110, 32, 60, 32, 115, 101, 108, 102, 41, 32, 110, 111, 116]),
 (dT, [62, 61, 32, 110, 32, 94, 40, 115, 101, 108, 102, 32, 60, 32, 110, 41, 32, 110, 111, 116]),
 (dT, [110, 101, 103, 97, 116, 101, 100, 32, 94, 48, 32, 45, 32, 115, 101, 108, 102]),
 (dT, [97, 98, 115, 32, 115, 101, 108, 102, 32, 60, 32, 48, 32, 105, 102, 84, 114, 117, 101, 58, 32, 91, 94, 115, 101, 108, 102, 32, 110, 101, 103, 97, 116, 101, 100, 93]),
 (dT, [109, 97, 120, 58, 32, 110, 32, 115, 101, 108, 102, 32, 60, 32, 110, 32, 105, 102, 84, 114, 117, 101, 58, 32, 91, 94, 110, 93]),
 (dT, [116, 105, 109, 101, 115, 82, 101, 112, 101, 97, 116, 58, 32, 98, 32, 124, 32, 105, 32, 124, 32, 105, 32, 58, 61, 32, 48, 46, 32, 91, 105, 32, 60, 32, 115, 101, 108, 102, 93, 32, 119, 104, 105, 108, 101, 84, 114, 117, 101, 58, 32, 91, 98, 32, 118, 97, 108, 117, 101, 46, 32, 105, 32, 58, 61, 32, 105, 32, 43, 32, 49, 93]),
 (dT, [116, 111, 58, 32, 110, 32, 100, 111, 58, 32, 98, 32, 124, 32, 105, 32, 124, 32, 105, 32, 58, 61, 32, 115, 101, 108, 102, 46, 32, 91, 105, 32, 60, 61, 32, 110, 93, 32, 119, 104, 105, 108, 101, 84, 114, 117, 101, 58, 32, 91, 98, 32, 118, 97, 108, 117, 101, 58, 32, 105, 46, 32, 105, 32, 58, 61, 32, 105, 32, 43, 32, 49, 93]),
 (aHv, [97, 116, 58, 32, 105, 32, 60, 112, 114, 105, 109, 105, 116, 105, 118, 101, 58, 32, 50, 48, 62, 32, 94, 115, 101, 108, 102, 32, 101, 114, 114, 111, 114, 58, 32, 35, 105, 110, 100, 101, 120]),
 (aHv, [97, 116, 58, 32, 105, 32, 112, 117, 116, 58, 32, 120, 32, 60, 112, 114, 105, 109, 105, 116, 105, 118, 101, 58, 32, 50, 49, 62, 32, 94, 115, 101, 108, 102, 32, 101, 114, 114, 111, 114, 58, 32, 35, 105, 110, 100, 101, 120]),
 (aHv, [115, 105, 122, 101, 32, 60, 112, 114, 105, 109, 105, 116, 105, 118, 101, 58, 32, 50, 50, 62]),
 (aHv, [100, 111, 58, 32, 98, 32, 49, 32, 116, 111, 58, 32, 115, 101, 108, 102, 32, 115, 105, 122, 101, 32, 100, 111, 58, 32, 91, 58, 105, 32, 124, 32, 98, 32, 118, 97, 108, 117, 101, 58, 32, 40, 115, 101, 108, 102, 32, 97, 116, 58, 32, 105, 41, 93]),
 (qV, [97, 116, 58, 32, 105, 32, 60, 112, 114, 105, 109, 105, 116, 105, 118, 101, 58, 32, 50, 48, 62, 32, 94, 115, 101, 108, 102, 32, 101, 114, 114, 111, 114, 58, 32, 35, 105, 110, 100, 101, 120]),
 (qV, [97, 116, 58, 32, 105, 32, 112, 117, 116, 58, 32, 120, 32, 60, 112, 114, 105, 109, 105, 116, 105, 118, 101, 58, 32, 50, 49, 62, 32, 94, 115, 101, 108, 102, 32, 101, 114, 114, 111, 114, 58, 32, 35, 105, 110, 100, 101, 120]),
 (qV, [115, 105, 122, 101, 32, 60, 112, 114, 105, 109, 105, 116, 105, 118, 101, 58, 32, 50, 50, 62]),
 (qV, [44, 32, 115, 32, 60, 112, 114, 105, 109, 105, 116, 105, 118, 101, 58, 32, 50, 53, 62, 32, 94, 115, 101, 108, 102, 32, 101, 114, 114, 111, 114, 58, 32, 35, 115, 116, 114, 105, 110, 103]),
 (qV, [61, 32, 115, 32, 60, 112, 114, 105, 109, 105, 116, 105, 118, 101, 58, 32, 50, 54, 62]),
 (cGb, [61, 32, 115, 32, 94, 115, 101, 108, 102, 32, 61, 61, 32, 115]),
 (rM, [118, 97, 108, 117, 101, 32, 60, 112, 114, 105, 109, 105, 116, 105, 118, 101, 58, 32, 51, 51, 62, 32, 94, 115, 101, 108, 102, 32, 101, 114, 114, 111, 114, 58, 32, 35, 97, 114, 103, 117, 109, 101, 110, 116, 115]),
 (rM, [118, 97, 108, 117, 101, 58, 32, 97, 32, 60, 112, 114, 105, 109, 105, 116, 105, 118, 101, 58, 32, 51, 52, 62, 32, 94, 115, 101, 108, 102, 32, 101, 114, 114, 111, 114, 58, 32, 35, 97, 114, 103, 117, 109, 101, 110, 116, 115]),
 (rM, [118, 97, 108, 117, 101, 58, 32, 97, 32, 118, 97, 108, 117, 101, 58, 32, 98, 32, 60, 112, 114, 105, 109, 105, 116, 105, 118, 101, 58, 32, 51, 53, 62, 32, 94, 115, 101, 108, 102, 32, 101, 114, 114, 111, 114, 58, 32, 35, 97, 114, 103, 117, 109, 101, 110, 116, 115]),
 (rM, [119, 104, 105, 108, 101, 84, 114, 117, 101, 58, 32, 98, 32, 91, 115, 101, 108, 102, 32, 118, 97, 108, 117, 101, 93, 32, 119, 104, 105, 108, 101, 84, 114, 117, 101, 58, 32, 91, 98, 32, 118, 97, 108, 117, 101, 93]),
 (rM, [101, 110, 115, 117, 114, 101, 58, 32, 98, 32, 60, 112, 114, 105, 109, 105, 116, 105, 118, 101, 58, 32, 57, 48, 62, 32, 124, 32, 118, 32, 100, 111, 110, 101, 32, 124, 32, 118, 32, 58, 61, 32, 115, 101, 108, 102, 32, 118, 97, 108, 117, 101, 46, 32, 100, 111, 110, 101, 32, 58, 61, 32, 116, 114, 117, 101, 46, 32, 98, 32, 118, 97, 108, 117, 101, 46, 32, 94, 118]),
 (rM, [105, 102, 67, 117, 114, 116, 97, 105, 108, 101, 100, 58, 32, 98, 32, 60, 112, 114, 105, 109, 105, 116, 105, 118, 101, 58, 32, 57, 49, 62, 32, 124, 32, 118, 32, 100, 111, 110, 101, 32, 124, 32, 118, 32, 58, 61, 32, 115, 101, 108, 102, 32, 118, 97, 108, 117, 101, 46, 32, 100, 111, 110, 101, 32, 58, 61, 32, 116, 114, 117, 101, 46, 32, 94, 118]),
 (iT, [115, 101, 110, 100, 101, 114, 32, 60, 112, 114, 105, 109, 105, 116, 105, 118, 101, 58, 32, 56, 48, 62]),
 (iT, [114, 101, 99, 101, 105, 118, 101, 114, 32, 60, 112, 114, 105, 109, 105, 116, 105, 118, 101, 58, 32, 56, 49, 62]),
 (iT, [115, 101, 108, 101, 99, 116, 111, 114, 32, 60, 112, 114, 105, 109, 105, 116, 105, 118, 101, 58, 32, 56, 50, 62]),
 (iT, [112, 99, 32, 60, 112, 114, 105, 109, 105, 116, 105, 118, 101, 58, 32, 56, 51, 62]),
 (iT, [116, 101, 109, 112, 65, 116, 58, 32, 105, 32, 60, 112, 114, 105, 109, 105, 116, 105, 118, 101, 58, 32, 56, 52, 62, 32, 94, 115, 101, 108, 102, 32, 101, 114, 114, 111, 114, 58, 32, 35, 105, 110, 100, 101, 120]),
 (iT, [116, 101, 109, 112, 65, 116, 58, 32, 105, 32, 112, 117, 116, 58, 32, 120, 32, 60, 112, 114, 105, 109, 105, 116, 105, 118, 101, 58, 32, 56, 53, 62, 32, 94, 115, 101, 108, 102, 32, 101, 114, 114, 111, 114, 58, 32, 35, 105, 110, 100, 101, 120]),
 (iT, [114, 101, 116, 117, 114, 110, 58, 32, 120, 32, 60, 112, 114, 105, 109, 105, 116, 105, 118, 101, 58, 32, 56, 54, 62, 32, 94, 115, 101, 108, 102, 32, 99, 97, 110, 110, 111, 116, 82, 101, 116, 117, 114, 110, 58, 32, 120]),
 (iT, [99, 97, 110, 110, 111, 116, 82, 101, 116, 117, 114, 110, 58, 32, 120, 32, 60, 112, 114, 105, 109, 105, 116, 105, 118, 101, 58, 32, 55, 52, 62]),
 (aMc, [115, 101, 108, 101, 99, 116, 111, 114, 32, 94, 115, 101, 108, 101, 99, 116, 111, 114]),
 (aMc, [97, 114, 103, 117, 109, 101, 110, 116, 115, 32, 94, 97, 114, 103, 117, 109, 101, 110, 116, 115])]
def eAq (l : List (List Nat × List Nat)) : Nat → List DV := List.rec (motive := fun _ => Nat → List DV) (fun _ => []) (fun _ _ ih p => .l (cO p) 0 2 2 :: ih (Nat.add p 1)) l
def dRr (l : List (List Nat × Nat)) : List (DV × DV) := List.rec (motive := fun _ => List (DV × DV)) [] (fun x _ ih => (.s x.1, .i .i64 (.ofNat x.2)) :: ih) l
def eCc (l : List Nat) : List DV := List.rec (motive := fun _ => List DV) [] (fun x _ ih => .i .i64 (.ofNat x) :: ih) l
def wsF : List Nat := [0, 0, 0, 24, 24, 1, 294, 0, 1, 322, 2670, 1, 24, 24, 2, 338, 6, 1, 364, 3024, 7, 24, 24, 3, 380, 6, 1, 426, 0, 7, 24, 24, 4, 442, 6, 1, 472, 0, 7, 24, 24, 5, 488, 60, 1, 512, 3738, 7, 24, 24, 6, 528, 60, 1, 554, 4204, 7, 24, 24, 7, 570, 6, 1, 600, 6046, 7, 24, 24, 8, 616, 114, 1, 656, 0, 7, 24, 24, 9, 672, 114, 1, 712, 0, 7, 24, 24, 10, 728, 6, 1, 754, 6538, 3, 24, 24, 11, 770, 6, 1, 798, 6942, 5, 24, 24, 12, 814, 186, 1, 842, 7018, 5, 24, 24, 13, 858, 6, 1, 884, 7746, 7, 24, 24, 14, 900, 6, 1, 930, 8508, 7, 24, 24, 15, 946, 6, 1, 974, 0, 7, 24, 24, 16, 990, 6, 5, 1086, 8632, 1, 26, 204, 17, 79, 98, 106, 101, 99, 116, 8, 168, 18, 294, 0, 0, 168, 19, 8, 168, 20, 6, 0, 22, 204, 21, 67, 108, 97, 115, 115, 8, 168, 22, 338, 312, 0, 168, 23, 8, 168, 24, 24, 328, 62, 204, 25, 85, 110, 100, 101, 102, 105, 110, 101, 100, 79, 98, 106, 101, 99, 116, 8, 168, 26, 380, 354, 0, 168, 27, 8, 168, 28, 42, 370, 30, 204, 29, 66, 111, 111, 108, 101, 97, 110, 8, 168, 30, 442, 416, 0, 168, 31, 8, 168, 32, 60, 432, 18, 204, 33, 84, 114, 117, 101, 8, 168, 34, 488, 462, 0, 168, 35, 8, 168, 36, 78, 478, 22, 204, 37, 70, 97, 108, 115, 101, 8, 168, 38, 528, 502, 0, 168, 39, 8, 168, 40, 96, 518, 30, 204, 41, 73, 110, 116, 101, 103, 101, 114, 8, 168, 42, 570, 544, 0, 168, 43, 8, 168, 44, 114, 560, 50, 204, 45, 83, 109, 97, 108, 108, 73, 110, 116, 101, 103, 101, 114, 8, 168, 46, 616, 590, 0, 168, 47, 8, 168, 48, 132, 606, 50, 204, 49, 76, 97, 114, 103, 101, 73, 110, 116, 101, 103, 101, 114, 8, 168, 50, 672, 646, 0, 168, 51, 8, 168, 52, 150, 662, 22, 204, 53, 65, 114, 114, 97, 121, 8, 168, 54, 728, 702, 0, 168, 55, 8, 168, 56, 168, 718, 26, 204, 57, 83, 116, 114, 105, 110, 103, 8, 168, 58, 770, 744, 0, 168, 59, 8, 168, 60, 186, 760, 26, 204, 61, 83, 121, 109, 98, 111, 108, 8, 168, 62, 814, 788, 0, 168, 63, 8, 168, 64, 204, 804, 22, 204, 65, 66, 108, 111, 99, 107, 8, 168, 66, 858, 832, 0, 168, 67, 8, 168, 68, 222, 848, 30, 204, 69, 67, 111, 110, 116, 101, 120, 116, 8, 168, 70, 900, 874, 0, 168, 71, 8, 168, 72, 240, 890, 26, 204, 73, 77, 101, 116, 104, 111, 100, 8, 168, 74, 946, 920, 0, 168, 75, 8, 168, 76, 258, 936, 30, 204, 77, 77, 101, 115, 115, 97, 103, 101, 8, 168, 78, 990, 964, 34, 204, 79, 115, 101, 108, 101, 99, 116, 111, 114, 8, 168, 80, 1020, 1010, 38, 204, 81, 97, 114, 103, 117, 109, 101, 110, 116, 115, 8, 168, 82, 1052, 1042, 8, 168, 83, 1020, 1052, 8, 168, 84, 276, 980, 6, 204, 85, 61, 8, 168, 86, 1106, 1076, 10, 204, 87, 61, 61, 8, 168, 88, 1124, 1114, 4, 168, 89, 1124, 50, 186, 90, 1, 0, 0, 7, 0, 0, 14, 0, 1, 20, 0, 0, 4, 168, 91, 1152, 28, 258, 92, 1106, 3, 3, 1, 1144, 1182, 6, 8, 168, 93, 1190, 0, 0, 168, 94, 26, 186, 95, 1, 0, 0, 20, 0, 0, 4, 168, 96, 1226, 28, 258, 97, 1124, 3, 3, 21, 1220, 1244, 6, 8, 168, 98, 1252, 1210, 22, 204, 99, 99, 108, 97, 115, 115, 8, 168, 100, 1282, 1134, 0, 168, 101, 26, 186, 102, 1, 0, 0, 20, 0, 0, 4, 168, 103, 1314, 28, 258, 104, 1282, 1, 1, 23, 1308, 1332, 6, 8, 168, 105, 1340, 1272, 22, 204, 106, 105, 115, 78, 105, 108, 8, 168, 107, 1370, 1298, 4, 168, 108, 1124, 50, 186, 109, 1, 0, 0, 2, 0, 0, 14, 0, 1, 20, 0, 0, 4, 168, 110, 1404, 28, 258, 111, 1370, 1, 1, 1, 1396, 1434, 6, 8, 168, 112, 1442, 1360, 26, 204, 113, 110, 111, 116, 78, 105, 108, 8, 168, 114, 1472, 1386, 4, 168, 115, 1124, 74, 186, 116, 1, 0, 0, 2, 0, 0, 14, 0, 1, 4, 0, 0, 14, 0, 1, 20, 0, 0, 4, 168, 117, 1508, 28, 258, 118, 1472, 1, 1, 1, 1500, 1550, 6, 8, 168, 119, 1558, 1462, 10, 204, 120, 126, 61, 8, 168, 121, 1588, 1490, 8, 168, 122, 1106, 1124, 74, 186, 123, 1, 0, 0, 7, 0, 0, 14, 0, 1, 4, 0, 0, 14, 1, 1, 20, 0, 0, 4, 168, 124, 1618, 28, 258, 125, 1588, 3, 3, 1, 1608, 1660, 6, 8, 168, 126, 1668, 1578, 34, 204, 127, 121, 111, 117, 114, 115, 101, 108, 102, 8, 168, 128, 1698, 1598, 0, 168, 129, 26, 186, 130, 1, 0, 0, 20, 0, 0, 4, 168, 131, 1736, 28, 258, 132, 1698, 1, 1, 1, 1730, 1754, 6, 8, 168, 133, 1762, 1688, 42, 204, 134, 105, 110, 115, 116, 86, 97, 114, 65, 116, 58, 8, 168, 135, 1792, 1720, 0, 168, 136, 26, 186, 137, 1, 0, 0, 20, 0, 0, 4, 168, 138, 1834, 28, 258, 139, 1792, 3, 3, 101, 1828, 1852, 6, 8, 168, 140, 1860, 1782, 58, 204, 141, 105, 110, 115, 116, 86, 97, 114, 65, 116, 58, 112, 117, 116, 58, 8, 168, 142, 1890, 1818, 0, 168, 143, 26, 186, 144, 1, 0, 0, 20, 0, 0, 4, 168, 145, 1940, 28, 258, 146, 1890, 5, 5, 103, 1934, 1958, 6, 8, 168, 147, 1966, 1880, 30, 204, 148, 98, 101, 99, 111, 109, 101, 58, 8, 168, 149, 1996, 1924, 0, 168, 150, 26, 186, 151, 1, 0, 0, 20, 0, 0, 4, 168, 152, 2032, 28, 258, 153, 1996, 3, 3, 121, 2026, 2050, 6, 8, 168, 154, 2058, 1986, 34, 204, 155, 112, 101, 114, 102, 111, 114, 109, 58, 8, 168, 156, 2088, 2016, 0, 168, 157, 26, 186, 158, 1, 0, 0, 20, 0, 0, 4, 168, 159, 2126, 28, 258, 160, 2088, 3, 3, 63, 2120, 2144, 6, 8, 168, 161, 2152, 2078, 54, 204, 162, 112, 101, 114, 102, 111, 114, 109, 58, 119, 105, 116, 104, 58, 8, 168, 163, 2182, 2110, 0, 168, 164, 26, 186, 165, 1, 0, 0, 20, 0, 0, 4, 168, 166, 2230, 28, 258, 167, 2182, 5, 5, 65, 2224, 2248, 6, 8, 168, 168, 2256, 2172, 18, 204, 169, 115, 104, 111, 119, 8, 168, 170, 2286, 2214, 0, 168, 171, 26, 186, 172, 1, 0, 0, 20, 0, 0, 4, 168, 173, 2316, 28, 258, 174, 2286, 1, 1, 141, 2310, 2334, 6, 8, 168, 175, 2342, 2276, 26, 204, 176, 101, 114, 114, 111, 114, 58, 8, 168, 177, 2372, 2300, 0, 168, 178, 26, 186, 179, 1, 0, 0, 20, 0, 0, 4, 168, 180, 2406, 28, 258, 181, 2372, 3, 3, 143, 2400, 2424, 6, 8, 168, 182, 2432, 2362, 74, 204, 183, 100, 111, 101, 115, 78, 111, 116, 85, 110, 100, 101, 114, 115, 116, 97, 110, 100, 58, 8, 168, 184, 2462, 2390, 0, 168, 185, 26, 186, 186, 1, 0, 0, 20, 0, 0, 4, 168, 187, 2520, 28, 258, 188, 2462, 3, 3, 145, 2514, 2538, 6, 8, 168, 189, 2546, 2452, 54, 204, 190, 109, 117, 115, 116, 66, 101, 66, 111, 111, 108, 101, 97, 110, 8, 168, 191, 2576, 2504, 0, 168, 192, 26, 186, 193, 1, 0, 0, 20, 0, 0, 4, 168, 194, 2624, 28, 258, 195, 2576, 1, 1, 147, 2618, 2642, 6, 8, 168, 196, 2650, 2566, 14, 204, 197, 110, 101, 119, 8, 168, 198, 2680, 2608, 0, 168, 199, 26, 186, 200, 1, 0, 0, 20, 0, 0, 4, 168, 201, 2708, 28, 258, 202, 2680, 1, 1, 47, 2702, 2726, 24, 8, 168, 203, 2734, 0, 18, 204, 204, 110, 101, 119, 58, 8, 168, 205, 2764, 2692, 0, 168, 206, 26, 186, 207, 1, 0, 0, 20, 0, 0, 4, 168, 208, 2794, 28, 258, 209, 2764, 3, 3, 49, 2788, 2812, 24, 8, 168, 210, 2820, 2754, 18, 204, 211, 110, 97, 109, 101, 8, 168, 212, 2850, 2778, 0, 168, 213, 26, 186, 214, 1, 0, 0, 20, 0, 0, 4, 168, 215, 2880, 28, 258, 216, 2850, 1, 1, 81, 2874, 2898, 24, 8, 168, 217, 2906, 2840, 42, 204, 218, 115, 117, 112, 101, 114, 99, 108, 97, 115, 115, 8, 168, 219, 2936, 2864, 0, 168, 220, 26, 186, 221, 1, 0, 0, 20, 0, 0, 4, 168, 222, 2978, 28, 258, 223, 2936, 1, 1, 83, 2972, 2996, 24, 8, 168, 224, 3004, 2926, 30, 204, 225, 105, 102, 84, 114, 117, 101, 58, 8, 168, 226, 3034, 2962, 22, 204, 227, 118, 97, 108, 117, 101, 8, 168, 228, 3064, 3054, 4, 168, 229, 3064, 38, 186, 230, 7, 0, 0, 14, 0, 0, 20, 0, 0, 4, 168, 231, 3098, 28, 258, 232, 3034, 3, 3, 1, 3090, 3122, 78, 8, 168, 233, 3130, 0, 34, 204, 234, 105, 102, 70, 97, 108, 115, 101, 58, 8, 168, 235, 3160, 3080, 0, 168, 236, 26, 186, 237, 2, 0, 0, 20, 0, 0, 4, 168, 238, 3198, 28, 258, 239, 3160, 3, 3, 1, 3192, 3216, 78, 8, 168, 240, 3224, 3150, 62, 204, 241, 105, 102, 84, 114, 117, 101, 58, 105, 102, 70, 97, 108, 115, 101, 58, 8, 168, 242, 3254, 3182, 4, 168, 243, 3064, 38, 186, 244, 7, 0, 0, 14, 0, 0, 20, 0, 0, 4, 168, 245, 3308, 28, 258, 246, 3254, 5, 5, 1, 3300, 3332, 78, 8, 168, 247, 3340, 3244, 62, 204, 248, 105, 102, 70, 97, 108, 115, 101, 58, 105, 102, 84, 114, 117, 101, 58, 8, 168, 249, 3370, 3290, 4, 168, 250, 3064, 38, 186, 251, 7, 1, 0, 14, 0, 0, 20, 0, 0, 4, 168, 252, 3424, 28, 258, 253, 3370, 5, 5, 1, 3416, 3448, 78, 8, 168, 254, 3456, 3360, 18, 204, 255, 97, 110, 100, 58, 8, 168, 256, 3486, 3406, 4, 168, 257, 3064, 38, 186, 258, 7, 0, 0, 14, 0, 0, 20, 0, 0, 4, 168, 259, 3518, 28, 258, 260, 3486, 3, 3, 1, 3510, 3542, 78, 8, 168, 261, 3550, 3476, 14, 204, 262, 111, 114, 58, 8, 168, 263, 3580, 3500, 0, 168, 264, 26, 186, 265, 1, 0, 0, 20, 0, 0, 4, 168, 266, 3608, 28, 258, 267, 3580, 3, 3, 1, 3602, 3626, 78, 8, 168, 268, 3634, 3570, 14, 204, 269, 110, 111, 116, 8, 168, 270, 3664, 3592, 0, 168, 271, 26, 186, 272, 4, 0, 0, 20, 0, 0, 4, 168, 273, 3692, 28, 258, 274, 3664, 1, 1, 1, 3686, 3710, 78, 8, 168, 275, 3718, 3654, 0, 168, 276, 26, 186, 277, 2, 0, 0, 20, 0, 0, 4, 168, 278, 3754, 28, 258, 279, 3034, 3, 3, 1, 3748, 3772, 96, 8, 168, 280, 3780, 0, 4, 168, 281, 3064, 38, 186, 282, 7, 0, 0, 14, 0, 0, 20, 0, 0, 4, 168, 283, 3818, 28, 258, 284, 3160, 3, 3, 1, 3810, 3842, 96, 8, 168, 285, 3850, 3800, 4, 168, 286, 3064, 38, 186, 287, 7, 1, 0, 14, 0, 0, 20, 0, 0, 4, 168, 288, 3888, 28, 258, 289, 3254, 5, 5, 1, 3880, 3912, 96, 8, 168, 290, 3920, 3870, 4, 168, 291, 3064, 38, 186, 292, 7, 0, 0, 14, 0, 0, 20, 0, 0, 4, 168, 293, 3958, 28, 258, 294, 3370, 5, 5, 1, 3950, 3982, 96, 8, 168, 295, 3990, 3940, 0, 168, 296, 26, 186, 297, 1, 0, 0, 20, 0, 0, 4, 168, 298, 4026, 28, 258, 299, 3486, 3, 3, 1, 4020, 4044, 96, 8, 168, 300, 4052, 4010, 4, 168, 301, 3064, 38, 186, 302, 7, 0, 0, 14, 0, 0, 20, 0, 0, 4, 168, 303, 4090, 28, 258, 304, 3580, 3, 3, 1, 4082, 4114, 96, 8, 168, 305, 4122, 4072, 0, 168, 306, 26, 186, 307, 3, 0, 0, 20, 0, 0, 4, 168, 308, 4158, 28, 258, 309, 3664, 1, 1, 1, 4152, 4176, 96, 8, 168, 310, 4184, 4142, 6, 204, 311, 43, 8, 168, 312, 4214, 3676, 26, 204, 313, 110, 117, 109, 98, 101, 114, 8, 168, 314, 4232, 4222, 8, 168, 315, 4232, 2372, 50, 186, 316, 1, 0, 0, 6, 0, 0, 14, 1, 1, 20, 0, 0, 4, 168, 317, 4270, 28, 258, 318, 4214, 3, 3, 3, 4260, 4300, 114, 8, 168, 319, 4308, 0, 6, 204, 320, 45, 8, 168, 321, 4338, 4250, 8, 168, 322, 4232, 2372, 50, 186, 323, 1, 0, 0, 6, 0, 0, 14, 1, 1, 20, 0, 0, 4, 168, 324, 4366, 28, 258, 325, 4338, 3, 3, 5, 4356, 4396, 114, 8, 168, 326, 4404, 4328, 6, 204, 327, 42, 8, 168, 328, 4434, 4346, 8, 168, 329, 4232, 2372, 50, 186, 330, 1, 0, 0, 6, 0, 0, 14, 1, 1, 20, 0, 0, 4, 168, 331, 4462, 28, 258, 332, 4434, 3, 3, 7, 4452, 4492, 114, 8, 168, 333, 4500, 4424, 10, 204, 334, 47, 47, 8, 168, 335, 4530, 4442, 8, 168, 336, 4232, 2372, 50, 186, 337, 1, 0, 0, 6, 0, 0, 14, 1, 1, 20, 0, 0, 4, 168, 338, 4560, 28, 258, 339, 4530, 3, 3, 9, 4550, 4590, 114, 8, 168, 340, 4598, 4520, 6, 204, 341, 37, 8, 168, 342, 4628, 4540, 8, 168, 343, 4232, 2372, 50, 186, 344, 1, 0, 0, 6, 0, 0, 14, 1, 1, 20, 0, 0, 4, 168, 345, 4656, 28, 258, 346, 4628, 3, 3, 11, 4646, 4686, 114, 8, 168, 347, 4694, 4618, 6, 204, 348, 60, 8, 168, 349, 4724, 4636, 8, 168, 350, 4232, 2372, 50, 186, 351, 1, 0, 0, 6, 0, 0, 14, 1, 1, 20, 0, 0, 4, 168, 352, 4752, 28, 258, 353, 4724, 3, 3, 13, 4742, 4782, 114, 8, 168, 354, 4790, 4714, 0, 168, 355, 26, 186, 356, 4, 0, 0, 20, 0, 0, 4, 168, 357, 4826, 28, 258, 358, 1106, 3, 3, 15, 4820, 4844, 114, 8, 168, 359, 4852, 4810, 6, 204, 360, 62, 8, 168, 361, 4882, 4732, 4, 168, 362, 4724, 50, 186, 363, 7, 0, 0, 1, 0, 0, 14, 0, 1, 20, 0, 0, 4, 168, 364, 4908, 28, 258, 365, 4882, 3, 3, 1, 4900, 4938, 114, 8, 168, 366, 4946, 4872, 10, 204, 367, 60, 61, 8, 168, 368, 4976, 4890, 8, 168, 369, 4724, 3664, 62, 186, 370, 7, 0, 0, 1, 0, 0, 14, 0, 1, 14, 1, 0, 20, 0, 0, 4, 168, 371, 5006, 28, 258, 372, 4976, 3, 3, 1, 4996, 5042, 114, 8, 168, 373, 5050, 4966, 10, 204, 374, 62, 61, 8, 168, 375, 5080, 4986, 8, 168, 376, 4724, 3664, 62, 186, 377, 1, 0, 0, 7, 0, 0, 14, 0, 1, 14, 1, 0, 20, 0, 0, 4, 168, 378, 5110, 28, 258, 379, 5080, 3, 3, 1, 5100, 5146, 114, 8, 168, 380, 5154, 5070, 30, 204, 381, 110, 101, 103, 97, 116, 101, 100, 8, 168, 382, 5184, 5090, 8, 168, 383, 1, 4338, 50, 186, 384, 6, 0, 0, 1, 0, 0, 14, 1, 1, 20, 0, 0, 4, 168, 385, 5224, 28, 258, 386, 5184, 1, 1, 1, 5214, 5254, 114, 8, 168, 387, 5262, 5174, 14, 204, 388, 97, 98, 115, 8, 168, 389, 5292, 5204, 12, 168, 390, 1, 4724, 5184, 158, 186, 391, 1, 0, 0, 6, 0, 0, 14, 1, 1, 17, 9, 0, 1, 0, 0, 14, 2, 0, 20, 0, 0, 2, 0, 0, 16, 10, 0, 2, 0, 0, 12, 0, 0, 1, 0, 0, 20, 0, 0, 4, 168, 392, 5326, 28, 258, 393, 5292, 1, 1, 1, 5314, 5410, 114, 8, 168, 394, 5418, 5282, 18, 204, 395, 109, 97, 120, 58, 8, 168, 396, 5448, 5304, 4, 168, 397, 4724, 146, 186, 398, 1, 0, 0, 7, 0, 0, 14, 0, 1, 17, 8, 0, 7, 0, 0, 20, 0, 0, 2, 0, 0, 16, 9, 0, 2, 0, 0, 12, 0, 0, 1, 0, 0, 20, 0, 0, 4, 168, 399, 5480, 28, 258, 400, 5448, 3, 3, 1, 5472, 5558, 114, 8, 168, 401, 5566, 5438, 50, 204, 402, 116, 105, 109, 101, 115, 82, 101, 112, 101, 97, 116, 58, 8, 168, 403, 5596, 5462, 20, 168, 404, 1, 4724, 3064, 3, 4214, 242, 186, 405, 6, 0, 0, 10, 1, 0, 12, 0, 0, 7, 1, 0, 1, 0, 0, 14, 1, 1, 17, 16, 0, 7, 0, 0, 14, 2, 0, 12, 0, 0, 7, 1, 0, 6, 3, 0, 14, 4, 1, 10, 1, 0, 12, 0, 0, 16, 3, 0, 2, 0, 0, 12, 0, 0, 1, 0, 0, 20, 0, 0, 4, 168, 406, 5652, 28, 258, 407, 5596, 3, 5, 1, 5636, 5778, 114, 8, 168, 408, 5786, 5586, 26, 204, 409, 116, 111, 58, 100, 111, 58, 8, 168, 410, 5816, 5626, 26, 204, 411, 118, 97, 108, 117, 101, 58, 8, 168, 412, 5844, 5834, 16, 168, 413, 4976, 5844, 3, 4214, 254, 186, 414, 1, 0, 0, 10, 2, 0, 12, 0, 0, 7, 2, 0, 7, 0, 0, 14, 0, 1, 17, 17, 0, 7, 1, 0, 7, 2, 0, 14, 1, 1, 12, 0, 0, 7, 2, 0, 6, 2, 0, 14, 3, 1, 10, 2, 0, 12, 0, 0, 16, 3, 0, 2, 0, 0, 12, 0, 0, 1, 0, 0, 20, 0, 0, 4, 168, 415, 5886, 28, 258, 416, 5816, 5, 7, 1, 5872, 6018, 114, 8, 168, 417, 6026, 5806, 14, 204, 418, 97, 116, 58, 8, 168, 419, 6056, 5862, 22, 204, 420, 105, 110, 100, 101, 120, 8, 168, 421, 6078, 6068, 8, 168, 422, 6078, 2372, 50, 186, 423, 1, 0, 0, 6, 0, 0, 14, 1, 1, 20, 0, 0, 4, 168, 424, 6114, 28, 258, 425, 6056, 3, 3, 41, 6104, 6144, 168, 8, 168, 426, 6152, 0, 30, 204, 427, 97, 116, 58, 112, 117, 116, 58, 8, 168, 428, 6182, 6094, 8, 168, 429, 6078, 2372, 50, 186, 430, 1, 0, 0, 6, 0, 0, 14, 1, 1, 20, 0, 0, 4, 168, 431, 6222, 28, 258, 432, 6182, 5, 5, 43, 6212, 6252, 168, 8, 168, 433, 6260, 6172, 18, 204, 434, 115, 105, 122, 101, 8, 168, 435, 6290, 6202, 0, 168, 436, 26, 186, 437, 1, 0, 0, 20, 0, 0, 4, 168, 438, 6320, 28, 258, 439, 6290, 1, 1, 45, 6314, 6338, 168, 8, 168, 440, 6346, 6280, 14, 204, 441, 100, 111, 58, 8, 168, 442, 6376, 6304, 20, 168, 443, 3, 6290, 6056, 5844, 5816, 182, 186, 444, 6, 0, 0, 1, 0, 0, 14, 1, 0, 18, 1, 1, 16, 11, 0, 7, 0, 0, 1, 0, 0, 7, 1, 0, 14, 2, 1, 14, 3, 1, 19, 0, 0, 14, 4, 2, 12, 0, 0, 1, 0, 0, 20, 0, 0, 4, 168, 445, 6414, 28, 258, 446, 6376, 3, 5, 1, 6398, 6510, 168, 8, 168, 447, 6518, 6366, 8, 168, 448, 6078, 2372, 50, 186, 449, 1, 0, 0, 6, 0, 0, 14, 1, 1, 20, 0, 0, 4, 168, 450, 6558, 28, 258, 451, 6056, 3, 3, 41, 6548, 6588, 186, 8, 168, 452, 6596, 0, 8, 168, 453, 6078, 2372, 50, 186, 454, 1, 0, 0, 6, 0, 0, 14, 1, 1, 20, 0, 0, 4, 168, 455, 6636, 28, 258, 456, 6182, 5, 5, 43, 6626, 6666, 186, 8, 168, 457, 6674, 6616, 0, 168, 458, 26, 186, 459, 1, 0, 0, 20, 0, 0, 4, 168, 460, 6710, 28, 258, 461, 6290, 1, 1, 45, 6704, 6728, 186, 8, 168, 462, 6736, 6694, 6, 204, 463, 44, 8, 168, 464, 6766, 6388, 26, 204, 465, 115, 116, 114, 105, 110, 103, 8, 168, 466, 6784, 6774, 8, 168, 467, 6784, 2372, 50, 186, 468, 1, 0, 0, 6, 0, 0, 14, 1, 1, 20, 0, 0, 4, 168, 469, 6822, 28, 258, 470, 6766, 3, 3, 51, 6812, 6852, 186, 8, 168, 471, 6860, 6756, 0, 168, 472, 26, 186, 473, 1, 0, 0, 20, 0, 0, 4, 168, 474, 6896, 28, 258, 475, 1106, 3, 3, 53, 6890, 6914, 186, 8, 168, 476, 6922, 6880, 4, 168, 477, 1124, 50, 186, 478, 1, 0, 0, 7, 0, 0, 14, 0, 1, 20, 0, 0, 4, 168, 479, 6960, 28, 258, 480, 1106, 3, 3, 1, 6952, 6990, 204, 8, 168, 481, 6998, 0, 8, 168, 482, 1052, 2372, 50, 186, 483, 1, 0, 0, 6, 0, 0, 14, 1, 1, 20, 0, 0, 4, 168, 484, 7038, 28, 258, 485, 3064, 1, 1, 67, 7028, 7068, 222, 8, 168, 486, 7076, 0, 8, 168, 487, 1052, 2372, 50, 186, 488, 1, 0, 0, 6, 0, 0, 14, 1, 1, 20, 0, 0, 4, 168, 489, 7116, 28, 258, 490, 5844, 3, 3, 69, 7106, 7146, 222, 8, 168, 491, 7154, 7096, 50, 204, 492, 118, 97, 108, 117, 101, 58, 118, 97, 108, 117, 101, 58, 8, 168, 493, 7184, 6802, 8, 168, 494, 1052, 2372, 50, 186, 495, 1, 0, 0, 6, 0, 0, 14, 1, 1, 20, 0, 0, 4, 168, 496, 7234, 28, 258, 497, 7184, 5, 5, 71, 7224, 7264, 222, 8, 168, 498, 7272, 7174, 42, 204, 499, 119, 104, 105, 108, 101, 84, 114, 117, 101, 58, 8, 168, 500, 7302, 7214, 4, 168, 501, 3064, 134, 186, 502, 1, 0, 0, 14, 0, 0, 17, 7, 0, 7, 0, 0, 14, 0, 0, 12, 0, 0, 16, 0, 0, 2, 0, 0, 12, 0, 0, 1, 0, 0, 20, 0, 0, 4, 168, 503, 7346, 28, 258, 504, 7302, 3, 3, 1, 7338, 7418, 222, 8, 168, 505, 7426, 7292, 30, 204, 506, 101, 110, 115, 117, 114, 101, 58, 8, 168, 507, 7456, 7328, 4, 168, 508, 3064, 146, 186, 509, 1, 0, 0, 14, 0, 0, 10, 1, 0, 12, 0, 0, 3, 0, 0, 10, 2, 0, 12, 0, 0, 7, 0, 0, 14, 0, 0, 12, 0, 0, 7, 1, 0, 20, 0, 0, 4, 168, 510, 7494, 28, 258, 511, 7456, 3, 7, 181, 7486, 7572, 222, 8, 168, 512, 7580, 7446, 50, 204, 513, 105, 102, 67, 117, 114, 116, 97, 105, 108, 101, 100, 58, 8, 168, 514, 7610, 7476, 4, 168, 515, 3064, 110, 186, 516, 1, 0, 0, 14, 0, 0, 10, 1, 0, 12, 0, 0, 3, 0, 0, 10, 2, 0, 12, 0, 0, 7, 1, 0, 20, 0, 0, 4, 168, 517, 7658, 28, 258, 518, 7610, 3, 7, 183, 7650, 7718, 222, 8, 168, 519, 7726, 7600, 26, 204, 520, 115, 101, 110, 100, 101, 114, 8, 168, 521, 7756, 7640, 0, 168, 522, 26, 186, 523, 1, 0, 0, 20, 0, 0, 4, 168, 524, 7790, 28, 258, 525, 7756, 1, 1, 161, 7784, 7808, 240, 8, 168, 526, 7816, 0, 34, 204, 527, 114, 101, 99, 101, 105, 118, 101, 114, 8, 168, 528, 7846, 7774, 0, 168, 529, 26, 186, 530, 1, 0, 0, 20, 0, 0, 4, 168, 531, 7884, 28, 258, 532, 7846, 1, 1, 163, 7878, 7902, 240, 8, 168, 533, 7910, 7836, 0, 168, 534, 26, 186, 535, 1, 0, 0, 20, 0, 0, 4, 168, 536, 7946, 28, 258, 537, 1020, 1, 1, 165, 7940, 7964, 240, 8, 168, 538, 7972, 7930, 10, 204, 539, 112, 99, 8, 168, 540, 8002, 7868, 0, 168, 541, 26, 186, 542, 1, 0, 0, 20, 0, 0, 4, 168, 543, 8028, 28, 258, 544, 8002, 1, 1, 167, 8022, 8046, 240, 8, 168, 545, 8054, 7992, 30, 204, 546, 116, 101, 109, 112, 65, 116, 58, 8, 168, 547, 8084, 8012, 8, 168, 548, 6078, 2372, 50, 186, 549, 1, 0, 0, 6, 0, 0, 14, 1, 1, 20, 0, 0, 4, 168, 550, 8124, 28, 258, 551, 8084, 3, 3, 169, 8114, 8154, 240, 8, 168, 552, 8162, 8074, 46, 204, 553, 116, 101, 109, 112, 65, 116, 58, 112, 117, 116, 58, 8, 168, 554, 8192, 8104, 8, 168, 555, 6078, 2372, 50, 186, 556, 1, 0, 0, 6, 0, 0, 14, 1, 1, 20, 0, 0, 4, 168, 557, 8240, 28, 258, 558, 8192, 5, 5, 171, 8230, 8270, 240, 8, 168, 559, 8278, 8182, 30, 204, 560, 114, 101, 116, 117, 114, 110, 58, 8, 168, 561, 8308, 8220, 54, 204, 562, 99, 97, 110, 110, 111, 116, 82, 101, 116, 117, 114, 110, 58, 8, 168, 563, 8338, 8328, 4, 168, 564, 8338, 50, 186, 565, 1, 0, 0, 7, 0, 0, 14, 0, 1, 20, 0, 0, 4, 168, 566, 8388, 28, 258, 567, 8308, 3, 3, 173, 8380, 8418, 240, 8, 168, 568, 8426, 8298, 0, 168, 569, 26, 186, 570, 1, 0, 0, 20, 0, 0, 4, 168, 571, 8462, 28, 258, 572, 8338, 3, 3, 149, 8456, 8480, 240, 8, 168, 573, 8488, 8446, 0, 168, 574, 26, 186, 575, 8, 0, 0, 20, 0, 0, 4, 168, 576, 8524, 28, 258, 577, 1020, 1, 1, 1, 8518, 8542, 276, 8, 168, 578, 8550, 0, 0, 168, 579, 26, 186, 580, 8, 1, 0, 20, 0, 0, 4, 168, 581, 8586, 28, 258, 582, 1052, 1, 1, 1, 8580, 8604, 276, 8, 168, 583, 8612, 8570]
def plF : List Nat := [3, 12, 21, 30, 39, 48, 57, 66, 75, 84, 93, 102, 111, 120, 129, 138, 147, 156, 161, 164, 169, 177, 182, 185, 190, 208, 213, 216, 221, 231, 236, 239, 244, 251, 256, 259, 264, 272, 277, 280, 285, 295, 300, 303, 308, 323, 328, 331, 336, 351, 356, 359, 364, 372, 377, 380, 385, 394, 399, 402, 407, 416, 421, 424, 429, 437, 442, 445, 450, 460, 465, 468, 473, 482, 487, 490, 495, 505, 510, 521, 526, 538, 543, 548, 553, 557, 562, 567, 572, 576, 591, 595, 605, 610, 613, 622, 626, 636, 641, 649, 654, 657, 666, 670, 680, 685, 693, 698, 702, 717, 721, 731, 736, 745, 750, 754, 775, 779, 789, 794, 799, 804, 809, 830, 834, 844, 849, 860, 865, 868, 877, 881, 891, 896, 909, 914, 917, 926, 930, 940, 945, 962, 967, 970, 979, 983, 993, 998, 1008, 1013, 1016, 1025, 1029, 1039, 1044, 1055, 1060, 1063, 1072, 1076, 1086, 1091, 1107, 1112, 1115, 1124, 1128, 1138, 1143, 1150, 1155, 1158, 1167, 1171, 1181, 1186, 1195, 1200, 1203, 1212, 1216, 1226, 1231, 1252, 1257, 1260, 1269, 1273, 1283, 1288, 1304, 1309, 1312, 1321, 1325, 1335, 1340, 1346, 1351, 1354, 1363, 1367, 1377, 1382, 1389, 1394, 1397, 1406, 1410, 1420, 1425, 1432, 1437, 1440, 1449, 1453, 1463, 1468, 1481, 1486, 1489, 1498, 1502, 1512, 1517, 1527, 1532, 1540, 1545, 1549, 1561, 1565, 1575, 1580, 1591, 1596, 1599, 1608, 1612, 1622, 1627, 1645, 1650, 1654, 1666, 1670, 1680, 1685, 1703, 1708, 1712, 1724, 1728, 1738, 1743, 1750, 1755, 1759, 1771, 1775, 1785, 1790, 1796, 1801, 1804, 1813, 1817, 1827, 1832, 1838, 1843, 1846, 1855, 1859, 1869, 1874, 1877, 1886, 1890, 1900, 1905, 1909, 1921, 1925, 1935, 1940, 1944, 1956, 1960, 1970, 1975, 1979, 1991, 1995, 2005, 2010, 2013, 2022, 2026, 2036, 2041, 2045, 2057, 2061, 2071, 2076, 2079, 2088, 2092, 2102, 2107, 2111, 2116, 2125, 2130, 2135, 2150, 2154, 2164, 2169, 2173, 2178, 2183, 2198, 2202, 2212, 2217, 2221, 2226, 2231, 2246, 2250, 2260, 2265, 2270, 2275, 2280, 2295, 2299, 2309, 2314, 2318, 2323, 2328, 2343, 2347, 2357, 2362, 2366, 2371, 2376, 2391, 2395, 2405, 2410, 2413, 2422, 2426, 2436, 2441, 2445, 2450, 2454, 2469, 2473, 2483, 2488, 2493, 2498, 2503, 2521, 2525, 2535, 2540, 2545, 2550, 2555, 2573, 2577, 2587, 2592, 2602, 2607, 2612, 2627, 2631, 2641, 2646, 2652, 2657, 2663, 2705, 2709, 2719, 2724, 2731, 2736, 2740, 2779, 2783, 2793, 2798, 2813, 2818, 2826, 2889, 2893, 2903, 2908, 2917, 2922, 2931, 2936, 2943, 3009, 3013, 3023, 3028, 3034, 3039, 3047, 3052, 3057, 3072, 3076, 3086, 3091, 3101, 3106, 3111, 3126, 3130, 3140, 3145, 3152, 3157, 3160, 3169, 3173, 3183, 3188, 3194, 3199, 3207, 3255, 3259, 3269, 3274, 3279, 3294, 3298, 3308, 3313, 3318, 3333, 3337, 3347, 3352, 3355, 3364, 3368, 3378, 3383, 3387, 3392, 3401, 3406, 3411, 3426, 3430, 3440, 3445, 3448, 3457, 3461, 3471, 3476, 3480, 3495, 3499, 3509, 3514, 3519, 3534, 3538, 3548, 3553, 3558, 3573, 3577, 3587, 3592, 3607, 3612, 3617, 3632, 3636, 3646, 3651, 3664, 3669, 3673, 3709, 3713, 3723, 3728, 3738, 3743, 3747, 3786, 3790, 3800, 3805, 3820, 3825, 3829, 3859, 3863, 3873, 3878, 3887, 3892, 3895, 3904, 3908, 3918, 3923, 3934, 3939, 3942, 3951, 3955, 3965, 3970, 3973, 3982, 3986, 3996, 4001, 4006, 4011, 4014, 4023, 4027, 4037, 4042, 4052, 4057, 4062, 4077, 4081, 4091, 4096, 4110, 4115, 4120, 4135, 4139, 4149, 4154, 4164, 4169, 4185, 4190, 4194, 4209, 4213, 4223, 4228, 4231, 4240, 4244, 4254, 4259, 4262, 4271, 4275, 4285, 4290, 4293, 4302, 4306, 4316]
def syF : List (List Nat × Nat) := [([79, 98, 106, 101, 99, 116], 294), ([67, 108, 97, 115, 115], 338), ([85, 110, 100, 101, 102, 105, 110, 101, 100, 79, 98, 106, 101, 99, 116], 380), ([66, 111, 111, 108, 101, 97, 110], 442), ([84, 114, 117, 101], 488), ([70, 97, 108, 115, 101], 528), ([73, 110, 116, 101, 103, 101, 114], 570), ([83, 109, 97, 108, 108, 73, 110, 116, 101, 103, 101, 114], 616), ([76, 97, 114, 103, 101, 73, 110, 116, 101, 103, 101, 114], 672), ([65, 114, 114, 97, 121], 728), ([83, 116, 114, 105, 110, 103], 770), ([83, 121, 109, 98, 111, 108], 814), ([66, 108, 111, 99, 107], 858), ([67, 111, 110, 116, 101, 120, 116], 900), ([77, 101, 116, 104, 111, 100], 946), ([77, 101, 115, 115, 97, 103, 101], 990), ([115, 101, 108, 101, 99, 116, 111, 114], 1020), ([97, 114, 103, 117, 109, 101, 110, 116, 115], 1052), ([61], 1106), ([61, 61], 1124), ([99, 108, 97, 115, 115], 1282), ([105, 115, 78, 105, 108], 1370), ([110, 111, 116, 78, 105, 108], 1472), ([126, 61], 1588), ([121, 111, 117, 114, 115, 101, 108, 102], 1698), ([105, 110, 115, 116, 86, 97, 114, 65, 116, 58], 1792), ([105, 110, 115, 116, 86, 97, 114, 65, 116, 58, 112, 117, 116, 58], 1890), ([98, 101, 99, 111, 109, 101, 58], 1996), ([112, 101, 114, 102, 111, 114, 109, 58], 2088), ([112, 101, 114, 102, 111, 114, 109, 58, 119, 105, 116, 104, 58], 2182), ([115, 104, 111, 119], 2286), ([101, 114, 114, 111, 114, 58], 2372), ([100, 111, 101, 115, 78, 111, 116, 85, 110, 100, 101, 114, 115, 116, 97, 110, 100, 58], 2462), ([109, 117, 115, 116, 66, 101, 66, 111, 111, 108, 101, 97, 110], 2576), ([110, 101, 119], 2680), ([110, 101, 119, 58], 2764), ([110, 97, 109, 101], 2850), ([115, 117, 112, 101, 114, 99, 108, 97, 115, 115], 2936), ([105, 102, 84, 114, 117, 101, 58], 3034), ([118, 97, 108, 117, 101], 3064), ([105, 102, 70, 97, 108, 115, 101, 58], 3160), ([105, 102, 84, 114, 117, 101, 58, 105, 102, 70, 97, 108, 115, 101, 58], 3254), ([105, 102, 70, 97, 108, 115, 101, 58, 105, 102, 84, 114, 117, 101, 58], 3370), ([97, 110, 100, 58], 3486), ([111, 114, 58], 3580), ([110, 111, 116], 3664), ([43], 4214), ([110, 117, 109, 98, 101, 114], 4232), ([45], 4338), ([42], 4434), ([47, 47], 4530), ([37], 4628), ([60], 4724), ([62], 4882), ([60, 61], 4976), ([62, 61], 5080), ([110, 101, 103, 97, 116, 101, 100], 5184), ([97, 98, 115], 5292), ([109, 97, 120, 58], 5448), ([116, 105, 109, 101, 115, 82, 101, 112, 101, 97, 116, 58], 5596), ([116, 111, 58, 100, 111, 58], 5816), ([118, 97, 108, 117, 101, 58], 5844), ([97, 116, 58], 6056), ([105, 110, 100, 101, 120], 6078), ([97, 116, 58, 112, 117, 116, 58], 6182), ([115, 105, 122, 101], 6290), ([100, 111, 58], 6376), ([44], 6766), ([115, 116, 114, 105, 110, 103], 6784), ([118, 97, 108, 117, 101, 58, 118, 97, 108, 117, 101, 58], 7184), ([119, 104, 105, 108, 101, 84, 114, 117, 101, 58], 7302), ([101, 110, 115, 117, 114, 101, 58], 7456), ([105, 102, 67, 117, 114, 116, 97, 105, 108, 101, 100, 58], 7610), ([115, 101, 110, 100, 101, 114], 7756), ([114, 101, 99, 101, 105, 118, 101, 114], 7846), ([112, 99], 8002), ([116, 101, 109, 112, 65, 116, 58], 8084), ([116, 101, 109, 112, 65, 116, 58, 112, 117, 116, 58], 8192), ([114, 101, 116, 117, 114, 110, 58], 8308), ([99, 97, 110, 110, 111, 116, 82, 101, 116, 117, 114, 110, 58], 8338)]
def clF : List (List Nat × Nat) := [([79, 98, 106, 101, 99, 116], 6), ([67, 108, 97, 115, 115], 24), ([85, 110, 100, 101, 102, 105, 110, 101, 100, 79, 98, 106, 101, 99, 116], 42), ([66, 111, 111, 108, 101, 97, 110], 60), ([84, 114, 117, 101], 78), ([70, 97, 108, 115, 101], 96), ([73, 110, 116, 101, 103, 101, 114], 114), ([83, 109, 97, 108, 108, 73, 110, 116, 101, 103, 101, 114], 132), ([76, 97, 114, 103, 101, 73, 110, 116, 101, 103, 101, 114], 150), ([65, 114, 114, 97, 121], 168), ([83, 116, 114, 105, 110, 103], 186), ([83, 121, 109, 98, 111, 108], 204), ([66, 108, 111, 99, 107], 222), ([67, 111, 110, 116, 101, 120, 116], 240), ([77, 101, 116, 104, 111, 100], 258), ([77, 101, 115, 115, 97, 103, 101], 276)]
def dOp (l : List (List Nat × Nat)) : Nat → List (List Nat × Nat) := List.rec (motive := fun _ => Nat → List (List Nat × Nat)) (fun _ => []) (fun x _ ih n => bif Nat.beq n 0 then [] else x :: ih (Nat.sub n 1)) l
def dVd (l : List (List Nat × List Nat)) : Nat → List (Pos × Ob) := List.rec (motive := fun _ => Nat → List (Pos × Ob)) (fun _ => []) (fun x _ ih p => (cO p, .row .ex [.s x.1, .s x.2]) :: ih (Nat.add p 1)) l
def dUl (l : List (List Nat × List Nat)) : Nat → List (List Nat × List Nat) := List.rec (motive := fun _ => Nat → List (List Nat × List Nat)) (fun _ => []) (fun x l ih n => bif Nat.beq n 0 then x :: l else ih (Nat.sub n 1)) l
def nJ (N fin made ns : Nat) (roots : List Nat) (pt : List (Nat × Nat)) (k : Nat) : List (Pos × Ob) :=
 (cO 7, .row .ex [.p (cO 3) 0, .l (cO 4) 0 18 18, .m (cO 5), .m (cO 6)]) ::
 (cO 6, .mp (dRr clF)) :: (cO 5, .mp (dRr (dOp syF ns))) :: (cO 4, .row .ex (eCc roots)) ::
 (cO 3, .row .ex [.l (cO 1) 0 N N, .i .i64 (.ofNat fin), .i .i64 (.ofNat made), .m (cO 2)]) ::
 (cO 2, .mi (mkP (cWk plF made) .e)) :: (cO 1, .big N (cYt pt (mkW (cWk wsF fin) 0 .e))) ::
 (cO 431, .row .ex (eAq dQn 356)) :: dVd (dUl dQn k) (Nat.add 356 k)
def cXw (l : List (Pos × Ob)) : Tr Ob := List.rec (motive := fun _ => Tr Ob) .e (fun x _ ih => Tr.set x.2 x.1 ih) l
def iS (nx : Nat) (l : List (Pos × Ob)) : Hp := ⟨cO nx, cXw l⟩
def bZi (x y : Int) : Bool := match x, y with
 | .ofNat a, .ofNat b => Nat.beq a b
 | .negSucc a, .negSucc b => Nat.beq a b
 | _, _ => false
def wtE (t : WT) : WT → Bool := WT.rec (motive := fun _ => WT → Bool) (fun u => WT.rec (motive := fun _ => Bool) true (fun _ _ _ _ _ => false) u)
 (fun _ v _ ihl ihr u => WT.rec (motive := fun _ => Bool) false (fun l' v' r' _ _ => bZi v v' && (ihl l' && ihr r')) u) t
def dvE (x y : DV) : Bool := match x, y with
 | .i .i64 a, .i .i64 b => bZi a b
 | .s a, .s b => tM a b
 | .p a o, .p b q => mI a b && Nat.beq o q
 | .l a o n c, .l b q m d => mI a b && (Nat.beq o q && (Nat.beq n m && Nat.beq c d))
 | .m a, .m b => mI a b
 | .b a, .b b => a == b
 | .l0, .l0 => true
 | .p0, .p0 => true
 | .m0, .m0 => true
 | _, _ => false
def cLf (l : List DV) : List DV → Bool := List.rec (motive := fun _ => List DV → Bool) (fun m => List.rec (motive := fun _ => Bool) true (fun _ _ _ => false) m)
 (fun x _ ih m => List.rec (motive := fun _ => Bool) false (fun y m _ => dvE x y && ih m) m) l
def dLf (l : List (DV × DV)) : List (DV × DV) → Bool := List.rec (motive := fun _ => List (DV × DV) → Bool) (fun m => List.rec (motive := fun _ => Bool) true (fun _ _ _ => false) m)
 (fun x _ ih m => List.rec (motive := fun _ => Bool) false (fun y m _ => dvE x.1 y.1 && (dvE x.2 y.2 && ih m)) m) l
def obE (o p : Ob) : Bool := match o, p with
 | .row .ex l, .row .ex m => cLf l m
 | .mp l, .mp m => dLf l m
 | .big n t, .big m u => Nat.beq n m && wtE t u
 | .mi t, .mi u => wtE t u
 | _, _ => false
def bVc (g : Tr Ob) (l : List (Pos × Ob)) : Bool := List.rec (motive := fun _ => Bool) true (fun x _ ih => (match g.get x.1 with
 | some o => obE o x.2
 | none => false) && ih) l
def lR (r : aG) (vs : List DV) (nx : Nat) (l : List (Pos × Ob)) : Bool := match r with
 | some (.t us, g) => cLf us vs && (mI g.next (cO nx) && bVc g.bl l)
 | _ => false
def itN (n : Nat) (K : DV → DV → DV → DV → Hp → aG) : DV → DV → DV → DV → Hp → aG :=
 Nat.rec (motive := fun _ => DV → DV → DV → DV → Hp → aG) K (fun _ ih => kM (kS 899) 899 ih) n
def bQg : DV → DV → DV → DV → Hp → aG := fun a b c d h => some (.t [a, b, c, d], h)
def lF (k : Nat) : List DV := [.p (cO 7) 0, .l (cO 431) 0 75 75, .i .i64 (.ofNat 75), .i .i64 (.ofNat k)]
def nQ (k n : Nat) (h : Hp) : aG := itN n bQg (.p (cO 7) 0) (.l (cO 431) 0 75 75) (.i .i64 (.ofNat 75)) (.i .i64 (.ofNat k)) h
end
end Go.Dd

