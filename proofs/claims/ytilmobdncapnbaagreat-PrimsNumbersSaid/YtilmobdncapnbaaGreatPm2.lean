/- A part of the proof: Q2 Q3 Q4 Q5 Q6: each text has a comment of its own. -/
import Derived.Test.YtilmobdncapnbaaGreatPm1
set_option linter.unusedVariables false
set_option linter.unusedSimpArgs false
set_option linter.constructorNameAsVariable false
set_option maxRecDepth 100000
namespace Go.Dd
open Go.Proofs
variable (r : RT) (n : Nat) (args : List DV) (h : Hp)
noncomputable def s58 (r : RT) (n : Nat) (x0 : DV) (h0 : Hp) : aI :=
 bnd (aO x0 h0) fun v1 h1 =>
 bnd (aC 0 v1 h1) fun v2 h2 =>
 bnd (aA v2 h2) fun v3 h3 =>
 bnd (r 23 [v3] h3) fun v4 h4 =>
 bnd (aO x0 h4) fun v5 h5 =>
 bnd (aC 0 v5 h5) fun v6 h6 =>
 bnd (aA v6 h6) fun v7 h7 =>
 cnd (bJ (aA v6 h0) v7 && true) (
 bnd (aO x0 h7) fun v8 h8 =>
 bnd (aC 2 v8 h8) fun v9 h9 =>
 bnd (aA v9 h9) fun v10 h10 =>
 cnd (bJ (aA v9 h0) v10 && true) (
 bnd (r 32 [v7, v10] h10) fun v11 h11 =>
 bnd (aO x0 h11) fun v12 h12 =>
 bnd (aC 1 v12 h12) fun v13 h13 =>
 bnd (aA v13 h13) fun v14 h14 =>
 bnd (aD .eql v14 (.i .i64 (Int.ofNat 23)) h14) fun v15 h15 =>
 aT v15 (
 bnd (aD .neq v11 (.i .i64 (Int.ofNat 0)) h15) fun v16 h16 =>
 aT v16 (
 bnd (r 54 [] h16) fun v17 h17 =>
 bnd (aB 0 v17 h17) fun v18 h18 =>
 bnd (aB 1 v17 h18) fun v19 h19 =>
 some (.t [v18, v19], h19)) (
 bnd (aO x0 h16) fun v20 h20 =>
 bnd (aC 2 v20 h20) fun v21 h21 =>
 bnd (aA v21 h21) fun v22 h22 =>
 bnd (aO x0 h22) fun v23 h23 =>
 bnd (aC 0 v23 h23) fun v24 h24 =>
 bnd (aA v24 h24) fun v25 h25 =>
 bnd (aO x0 h25) fun v26 h26 =>
 bnd (aC 2 v26 h26) fun v27 h27 =>
 bnd (aA v27 h27) fun v28 h28 =>
 bnd (r 37 [v25, v28] h28) fun v29 h29 =>
 cnd (bJ (aA v21 h29) v22 && true) (
 bnd (iR [v4, v22, (.i .i64 (Int.ofNat 0)), v29] h29) fun v30 h30 =>
 bnd (aB 0 v30 h30) fun v31 h31 =>
 bnd (aB 1 v30 h31) fun v32 h32 =>
 some (.t [v31, v32], h32)))) (
 bnd (aO x0 h15) fun v33 h33 =>
 bnd (aC 0 v33 h33) fun v34 h34 =>
 bnd (aA v34 h34) fun v35 h35 =>
 bnd (aO x0 h35) fun v36 h36 =>
 bnd (aC 3 v36 h36) fun v37 h37 =>
 bnd (aA v37 h37) fun v38 h38 =>
 bnd (aJ 1 v38 (.i .i64 (Int.ofNat 0)) h38) fun v39 h39 =>
 bnd (aA v39 h39) fun v40 h40 =>
 bnd (r 15 [v35, v40] h40) fun v41 h41 =>
 bnd (aB 0 v41 h41) fun v42 h42 =>
 bnd (aB 1 v41 h42) fun v43 h43 =>
 bnd (dR .not v43 h43) fun v44 h44 =>
 bnd (gD v44 false (some (v42, h44)) h44) fun v45 h45 =>
 bnd (gD v44 false (aD .lss v45 (.i .i64 (Int.ofNat 0)) h45) h45) fun v46 h46 =>
 bnd (aQ v44 (.b true) v46 h46) fun v47 h47 =>
 bnd (gD v47 false (some (v42, h47)) h47) fun v48 h48 =>
 bnd (gD v47 false (aD .gtr v48 (.i .i64 (Int.ofNat 250)) h48) h48) fun v49 h49 =>
 bnd (aQ v47 (.b true) v49 h49) fun v50 h50 =>
 aT v50 (
 bnd (r 54 [] h50) fun v51 h51 =>
 bnd (aB 0 v51 h51) fun v52 h52 =>
 bnd (aB 1 v51 h52) fun v53 h53 =>
 some (.t [v52, v53], h53)) (
 bnd (aO x0 h50) fun v54 h54 =>
 bnd (aC 2 v54 h54) fun v55 h55 =>
 bnd (aA v55 h55) fun v56 h56 =>
 bnd (aO x0 h56) fun v57 h57 =>
 bnd (aC 0 v57 h57) fun v58 h58 =>
 bnd (aA v58 h58) fun v59 h59 =>
 bnd (r 30 [v59, (.i .i64 (Int.ofNat 9))] h59) fun v60 h60 =>
 cnd (bJ (aA v55 h60) v56 && true) (
 bnd (aD .eql v56 v60 h60) fun v61 h61 =>
 aT v61 (
 bnd (aO x0 h61) fun v62 h62 =>
 bnd (aC 2 v62 h62) fun v63 h63 =>
 bnd (aA v63 h63) fun v64 h64 =>
 bnd (iR [v4, v64, (.i .i64 (Int.ofNat 0)), v42] h64) fun v65 h65 =>
 bnd (aB 0 v65 h65) fun v66 h66 =>
 bnd (aB 1 v65 h66) fun v67 h67 =>
 some (.t [v66, v67], h67)) (
 bnd (aO x0 h61) fun v68 h68 =>
 bnd (aC 2 v68 h68) fun v69 h69 =>
 bnd (aA v69 h69) fun v70 h70 =>
 bnd (aO x0 h70) fun v71 h71 =>
 bnd (aC 0 v71 h71) fun v72 h72 =>
 bnd (aA v72 h72) fun v73 h73 =>
 bnd (r 30 [v73, (.i .i64 (Int.ofNat 10))] h73) fun v74 h74 =>
 cnd (bJ (aA v69 h74) v70 && true) (
 bnd (aD .eql v70 v74 h74) fun v75 h75 =>
 aT v75 (
 bnd (aO x0 h75) fun v76 h76 =>
 bnd (aC 2 v76 h76) fun v77 h77 =>
 bnd (aA v77 h77) fun v78 h78 =>
 bnd (iR [v4, v78, (.i .i64 (Int.ofNat 2)), v42] h78) fun v79 h79 =>
 bnd (aB 0 v79 h79) fun v80 h80 =>
 bnd (aB 1 v79 h80) fun v81 h81 =>
 some (.t [v80, v81], h81)) (
 bnd (r 54 [] h75) fun v82 h82 =>
 bnd (aB 0 v82 h82) fun v83 h83 =>
 bnd (aB 1 v82 h83) fun v84 h84 =>
 some (.t [v83, v84], h84)))))))))
noncomputable abbrev c58 : Code := cf Tryz.f58
noncomputable abbrev r58 : K := aP CF Tryz.f58
noncomputable def D58 (r : RT) (n : Nat) (c : Code) (X : Nat → K) (k : K) : K := aM CF r 120 n c X r58 k
theorem dPz : D58 r n c58 x0 r58 = (K1 (s58 r n) 0) :=
 (by kernel_rfl)
theorem dMm : aE CF r n 58 args h = s58 r n (aS args 0) h :=
 (by kernel_rfl : aE CF r n 58 args h = D58 r n c58 x0 r58 (aG args) h).trans ((congrFun (congrFun (dPz r n) (aG args)) h).trans (by kernel_rfl))
noncomputable def s60 (r : RT) (n : Nat) (x0 : DV) (h0 : Hp) : aI :=
 bnd (aO x0 h0) fun v1 h1 =>
 bnd (aC 0 v1 h1) fun v2 h2 =>
 bnd (aA v2 h2) fun v3 h3 =>
 bnd (aO x0 h3) fun v4 h4 =>
 bnd (aC 2 v4 h4) fun v5 h5 =>
 bnd (aA v5 h5) fun v6 h6 =>
 bnd (r 32 [v3, v6] h6) fun v7 h7 =>
 bnd (aD .lss v7 (.i .i64 (Int.ofNat 0)) h7) fun v8 h8 =>
 aT v8 (
 bnd (r 54 [] h8) fun v9 h9 =>
 bnd (aB 0 v9 h9) fun v10 h10 =>
 bnd (aB 1 v9 h10) fun v11 h11 =>
 some (.t [v10, v11], h11)) (
 bnd (aO x0 h8) fun v12 h12 =>
 bnd (aC 1 v12 h12) fun v13 h13 =>
 bnd (aA v13 h13) fun v14 h14 =>
 bnd (aD .eql v14 (.i .i64 (Int.ofNat 41)) h14) fun v15 h15 =>
 aT v15 (
 bnd (aO x0 h15) fun v16 h16 =>
 bnd (aC 0 v16 h16) fun v17 h17 =>
 bnd (aA v17 h17) fun v18 h18 =>
 bnd (aO x0 h18) fun v19 h19 =>
 bnd (aC 2 v19 h19) fun v20 h20 =>
 bnd (aA v20 h20) fun v21 h21 =>
 bnd (r 35 [v18, v21] h21) fun v22 h22 =>
 some (.t [v22, (.i .i64 (Int.ofNat 0))], h22)) (
 bnd (aO x0 h15) fun v23 h23 =>
 bnd (aC 0 v23 h23) fun v24 h24 =>
 bnd (aA v24 h24) fun v25 h25 =>
 bnd (aO x0 h25) fun v26 h26 =>
 bnd (aC 0 v26 h26) fun v27 h27 =>
 bnd (aA v27 h27) fun v28 h28 =>
 bnd (aO x0 h28) fun v29 h29 =>
 bnd (aC 2 v29 h29) fun v30 h30 =>
 bnd (aA v30 h30) fun v31 h31 =>
 bnd (r 34 [v28, v31] h31) fun v32 h32 =>
 cnd (bJ (aA v24 h32) v25 && true) (
 bnd (r 44 [v25, v32] h32) fun v33 h33 =>
 bnd (aB 0 v33 h33) fun v34 h34 =>
 bnd (aB 1 v33 h34) fun v35 h35 =>
 some (.t [v34, v35], h35))))
noncomputable abbrev c60 : Code := cf Tryz.f60
noncomputable abbrev r60 : K := aP CF Tryz.f60
noncomputable def D60 (r : RT) (n : Nat) (c : Code) (X : Nat → K) (k : K) : K := aM CF r 49 n c X r60 k
theorem dRm : D60 r n c60 x0 r60 = (K1 (s60 r n) 0) :=
 (by kernel_rfl)
theorem dMb : aE CF r n 60 args h = s60 r n (aS args 0) h :=
 (by kernel_rfl : aE CF r n 60 args h = D60 r n c60 x0 r60 (aG args) h).trans ((congrFun (congrFun (dRm r n) (aG args)) h).trans (by kernel_rfl))
noncomputable def s61 (r : RT) (n : Nat) (x0 : DV) (h0 : Hp) : aI :=
 bnd (aO x0 h0) fun v1 h1 =>
 bnd (aC 0 v1 h1) fun v2 h2 =>
 bnd (aA v2 h2) fun v3 h3 =>
 bnd (r 23 [v3] h3) fun v4 h4 =>
 bnd (aO x0 h4) fun v5 h5 =>
 bnd (aC 2 v5 h5) fun v6 h6 =>
 bnd (aA v6 h6) fun v7 h7 =>
 bnd (isF [v4, v7] h7) fun v8 h8 =>
 bnd (dR .not v8 h8) fun v9 h9 =>
 bnd (gD v9 false (some (x0, h9)) h9) fun v10 h10 =>
 bnd (gD v9 false (aO v10 h10) h10) fun v11 h11 =>
 bnd (gD v9 false (aC 0 v11 h11) h11) fun v12 h12 =>
 bnd (gD v9 false (aA v12 h12) h12) fun v13 h13 =>
 bnd (gD v9 false (some (x0, h13)) h13) fun v14 h14 =>
 bnd (gD v9 false (aO v14 h14) h14) fun v15 h15 =>
 bnd (gD v9 false (aC 0 v15 h15) h15) fun v16 h16 =>
 bnd (gD v9 false (aA v16 h16) h16) fun v17 h17 =>
 bnd (gD v9 false (some (x0, h17)) h17) fun v18 h18 =>
 bnd (gD v9 false (aO v18 h18) h18) fun v19 h19 =>
 bnd (gD v9 false (aC 2 v19 h19) h19) fun v20 h20 =>
 bnd (gD v9 false (aA v20 h20) h20) fun v21 h21 =>
 bnd (gD v9 false (r 25 [v17, v21] h21) h21) fun v22 h22 =>
 cnd (bJ (gD v9 false (aA v12 h22) h22) v13 && true) (
 bnd (gD v9 false (r 32 [v13, v22] h22) h22) fun v23 h23 =>
 bnd (gD v9 false (aD .neq v23 (.i .i64 (Int.ofNat 0)) h23) h23) fun v24 h24 =>
 bnd (aQ v9 (.b true) v24 h24) fun v25 h25 =>
 aT v25 (
 bnd (r 54 [] h25) fun v26 h26 =>
 bnd (aB 0 v26 h26) fun v27 h27 =>
 bnd (aB 1 v26 h27) fun v28 h28 =>
 some (.t [v27, v28], h28)) (
 bnd (r 97 [x0] h25) fun v29 h29 =>
 bnd (aB 0 v29 h29) fun v30 h30 =>
 bnd (aB 1 v29 h30) fun v31 h31 =>
 bnd (dR .not v31 h31) fun v32 h32 =>
 aT v32 (
 bnd (r 54 [] h32) fun v33 h33 =>
 bnd (aB 0 v33 h33) fun v34 h34 =>
 bnd (aB 1 v33 h34) fun v35 h35 =>
 some (.t [v34, v35], h35)) (
 bnd (aO x0 h32) fun v36 h36 =>
 bnd (aC 1 v36 h36) fun v37 h37 =>
 bnd (aA v37 h37) fun v38 h38 =>
 bnd (aD .eql v38 (.i .i64 (Int.ofNat 51)) h38) fun v39 h39 =>
 aT v39 (
 bnd (aO x0 h39) fun v40 h40 =>
 bnd (aC 2 v40 h40) fun v41 h41 =>
 bnd (aA v41 h41) fun v42 h42 =>
 bnd (aO x0 h42) fun v43 h43 =>
 bnd (aC 3 v43 h43) fun v44 h44 =>
 bnd (aA v44 h44) fun v45 h45 =>
 bnd (aJ 1 v45 (.i .i64 (Int.ofNat 1)) h45) fun v46 h46 =>
 bnd (aA v46 h46) fun v47 h47 =>
 bnd (sH [v4, v42, v30, v47] h47) fun v48 h48 =>
 bnd (aO x0 h48) fun v49 h49 =>
 bnd (aC 3 v49 h49) fun v50 h50 =>
 bnd (aA v50 h50) fun v51 h51 =>
 bnd (aJ 1 v51 (.i .i64 (Int.ofNat 1)) h51) fun v52 h52 =>
 bnd (aA v52 h52) fun v53 h53 =>
 some (.t [v53, (.i .i64 (Int.ofNat 0))], h53)) (
 bnd (aO x0 h39) fun v54 h54 =>
 bnd (aC 2 v54 h54) fun v55 h55 =>
 bnd (aA v55 h55) fun v56 h56 =>
 bnd (pF [v4, v56, v30] h56) fun v57 h57 =>
 bnd (aB 0 v57 h57) fun v58 h58 =>
 bnd (aB 1 v57 h58) fun v59 h59 =>
 some (.t [v58, v59], h59)))))
noncomputable abbrev c61 : Code := cf Tryz.f61
noncomputable abbrev r61 : K := aP CF Tryz.f61
noncomputable def D61 (r : RT) (n : Nat) (c : Code) (X : Nat → K) (k : K) : K := aM CF r 84 n c X r61 k
theorem dRb : D61 r n c61 x0 r61 = (K1 (s61 r n) 0) :=
 (by kernel_rfl)
theorem dHt : aE CF r n 61 args h = s61 r n (aS args 0) h :=
 (by kernel_rfl : aE CF r n 61 args h = D61 r n c61 x0 r61 (aG args) h).trans ((congrFun (congrFun (dRb r n) (aG args)) h).trans (by kernel_rfl))
noncomputable def s62 (r : RT) (n : Nat) (x0 : DV) (h0 : Hp) : aI :=
 bnd (aD .geq x0 (.i .i64 (Int.negSucc 1152921504606846975)) h0) fun v1 h1 =>
 bnd (gD v1 true (some (x0, h1)) h1) fun v2 h2 =>
 bnd (gD v1 true (aD .leq v2 (.i .i64 (Int.ofNat 1152921504606846976)) h2) h2) fun v3 h3 =>
 bnd (aQ v1 v3 (.b false) h3) fun v4 h4 =>
 some (v4, h4)
noncomputable abbrev c62 : Code := cf Tryz.f62
noncomputable abbrev r62 : K := aP CF Tryz.f62
noncomputable def D62 (r : RT) (n : Nat) (c : Code) (X : Nat → K) (k : K) : K := aM CF r 9 n c X r62 k
theorem dQi : D62 r n c62 x0 r62 = (K1 (s62 r n) 0) :=
 (by kernel_rfl)
theorem cQh : aE CF r n 62 args h = s62 r n (aS args 0) h :=
 (by kernel_rfl : aE CF r n 62 args h = D62 r n c62 x0 r62 (aG args) h).trans ((congrFun (congrFun (dQi r n) (aG args)) h).trans (by kernel_rfl))
noncomputable def s67 (r : RT) (n : Nat) (x0 x1 : DV) (h0 : Hp) : aI :=
 bnd (aO x0 h0) fun v1 h1 =>
 bnd (aC 0 v1 h1) fun v2 h2 =>
 bnd (aA v2 h2) fun v3 h3 =>
 bnd (isF [v3, x1] h3) fun v4 h4 =>
 bnd (gD v4 true (some (x0, h4)) h4) fun v5 h5 =>
 bnd (gD v4 true (aO v5 h5) h5) fun v6 h6 =>
 bnd (gD v4 true (aC 0 v6 h6) h6) fun v7 h7 =>
 bnd (gD v4 true (aA v7 h7) h7) fun v8 h8 =>
 bnd (gD v4 true (some (x1, h8)) h8) fun v9 h9 =>
 bnd (gD v4 true (kB [v8, v9] h9) h9) fun v10 h10 =>
 bnd (gD v4 true (some (x0, h10)) h10) fun v11 h11 =>
 bnd (gD v4 true (r 30 [v11, (aF 1)] h11) h11) fun v12 h12 =>
 bnd (gD v4 true (aD .eql v10 v12 h12) h12) fun v13 h13 =>
 bnd (aQ v4 v13 (.b false) h13) fun v14 h14 =>
 bnd (gD v14 true (some (x0, h14)) h14) fun v15 h15 =>
 bnd (gD v14 true (aO v15 h15) h15) fun v16 h16 =>
 bnd (gD v14 true (aC 0 v16 h16) h16) fun v17 h17 =>
 bnd (gD v14 true (aA v17 h17) h17) fun v18 h18 =>
 bnd (gD v14 true (some (x1, h18)) h18) fun v19 h19 =>
 bnd (gD v14 true (fZ [v18, v19] h19) h19) fun v20 h20 =>
 bnd (gD v14 true (aD .eql v20 (aF 6) h20) h20) fun v21 h21 =>
 bnd (aQ v14 v21 (.b false) h21) fun v22 h22 =>
 some (v22, h22)
noncomputable abbrev c67 : Code := cf Tryz.f67
noncomputable abbrev r67 : K := aP CF Tryz.f67
noncomputable def D67 (r : RT) (n : Nat) (c : Code) (X : Nat → K) (k : K) : K := aM CF r 31 n c X r67 k
theorem dTj : D67 r n c67 x0 r67 = (K2 (s67 r n) 0 1) :=
 (by kernel_rfl)
theorem dJc : aE CF r n 67 args h = s67 r n (aS args 0) (aS args 1) h :=
 (by kernel_rfl : aE CF r n 67 args h = D67 r n c67 x0 r67 (aG args) h).trans ((congrFun (congrFun (dTj r n) (aG args)) h).trans (by kernel_rfl))
noncomputable def s71 (r : RT) (n : Nat) (x0 : DV) (h0 : Hp) : aI :=
 bnd (gJ [x0] h0) fun v1 h1 =>
 bnd (aB 0 v1 h1) fun v2 h2 =>
 bnd (aB 1 v1 h2) fun v3 h3 =>
 some (v2, h3)
noncomputable abbrev c71 : Code := cf Tryz.f71
noncomputable abbrev r71 : K := aP CF Tryz.f71
noncomputable def D71 (r : RT) (n : Nat) (c : Code) (X : Nat → K) (k : K) : K := aM CF r 11 n c X r71 k
theorem dSy : D71 r n c71 x0 r71 = (K1 (s71 r n) 0) :=
 (by kernel_rfl)
theorem dJl : aE CF r n 71 args h = s71 r n (aS args 0) h :=
 (by kernel_rfl : aE CF r n 71 args h = D71 r n c71 x0 r71 (aG args) h).trans ((congrFun (congrFun (dSy r n) (aG args)) h).trans (by kernel_rfl))
noncomputable def s73 (r : RT) (n : Nat) (x0 x1 x2 : DV) (h0 : Hp) : aI :=
 bnd (r 30 [x0, (aF 9)] h0) fun v1 h1 =>
 bnd (aL [(aF 0), (aF 0)] 2 [(0, 1, x1), (1, 1, x2)] h1) fun v2 h2 =>
 bnd (r 82 [x0, v1, (aF 0), v2] h2) fun v3 h3 =>
 bnd (aB 0 v3 h3) fun v4 h4 =>
 bnd (aB 1 v3 h4) fun v5 h5 =>
 some (.t [v4, v5], h5)
noncomputable abbrev c73 : Code := cf Tryz.f73
noncomputable abbrev r73 : K := aP CF Tryz.f73
noncomputable def D73 (r : RT) (n : Nat) (c : Code) (X : Nat → K) (k : K) : K := aM CF r 17 n c X r73 k
theorem dOn : D73 r n c73 x0 r73 = (K3 (s73 r n) 0 1 2) :=
 (by kernel_rfl)
theorem cRm : aE CF r n 73 args h = s73 r n (aS args 0) (aS args 1) (aS args 2) h :=
 (by kernel_rfl : aE CF r n 73 args h = D73 r n c73 x0 r73 (aG args) h).trans ((congrFun (congrFun (dOn r n) (aG args)) h).trans (by kernel_rfl))
noncomputable def s75 (r : RT) (n : Nat) (x0 x1 x2 : DV) (h0 : Hp) : aI :=
 bnd (r 45 [x0, x1] h0) fun v1 h1 =>
 bnd (aD .eql v1 (aF 0) h1) fun v2 h2 =>
 aT v2 (
 some (.t [(aF 0), (aF 0), (.s []), (aF 24)], h2)) (
 bnd (r 99 [x2] h2) fun v3 h3 =>
 bnd (aB 0 v3 h3) fun v4 h4 =>
 bnd (aB 1 v3 h4) fun v5 h5 =>
 bnd (aB 2 v3 h5) fun v6 h6 =>
 bnd (bR lR h6) fun v7 h7 =>
 bnd (aH 6 v7 v4 h7) fun _ h8 =>
 bnd (aD .neq v6 (aF 0) h8) fun v9 h9 =>
 aT v9 (
 some (.t [(aF 0), v5, (.s []), v6], h9)) (
 bnd (aK 6 v7 (resv 1 h9)) fun v10 h10 =>
 bnd (r 77 [x0, v1] h10) fun v11 h11 =>
 cnd (bJ (aK 6 v7 h11) v10 && true) (
 bnd (r 100 [v10, v11] h11) fun v12 h12 =>
 bnd (aB 0 v12 h12) fun v13 h13 =>
 bnd (aB 1 v12 h13) fun v14 h14 =>
 bnd (aB 2 v12 h14) fun v15 h15 =>
 bnd (kC (bW 0 h9.next) [(.s []), (aF 0), (aF 0), (aF 0), .l0, .l0] h15) fun v16 h16 =>
 bnd (aH 6 v16 v13 h16) fun v17 h17 =>
 bnd (aD .neq v15 (aF 0) h17) fun v18 h18 =>
 aT v18 (
 some (.t [(aF 0), (aF 0), v14, v15], h18)) (
 bnd (aK 6 v16 h18) fun v19 h19 =>
 bnd (r 101 [x0, v1, v19] h19) fun v20 h20 =>
 bnd (aB 0 v20 h20) fun v21 h21 =>
 bnd (aB 1 v20 h21) fun v22 h22 =>
 bnd (aD .neq v22 (aF 0) h22) fun v23 h23 =>
 aT v23 (
 some (.t [(aF 0), (aF 0), (.s []), v22], h23)) (
 some (.t [v21, (aF 0), (.s []), (aF 0)], h23))))))
noncomputable abbrev c75 : Code := cf Tryz.f75
noncomputable abbrev r75 : K := aP CF Tryz.f75
noncomputable def D75 (r : RT) (n : Nat) (c : Code) (X : Nat → K) (k : K) : K := aM CF r 56 n c X r75 k
theorem dQh : D75 r n c75 x0 r75 = (K3 (s75 r n) 0 1 2) :=
 (by kernel_rfl)
theorem dHo : aE CF r n 75 args h = s75 r n (aS args 0) (aS args 1) (aS args 2) h :=
 (by kernel_rfl : aE CF r n 75 args h = D75 r n c75 x0 r75 (aG args) h).trans ((congrFun (congrFun (dQh r n) (aG args)) h).trans (by kernel_rfl))
noncomputable def bY (r : RT) (n : Nat) (x5 : DV) (h0 : Hp) : aI :=
 some (x5, h0)
noncomputable def cU (r : RT) (n : Nat) (kk5 : dJ) (x0 x1 x5 x6 : DV) (h0 : Hp) : aI :=
 bnd (aD .sub x6 (aF 1) h0) fun v1 h1 =>
  kk5 x0 x1 x5 v1 h1
noncomputable def eH (r : RT) (n : Nat) (kk5 : dJ) (x0 x1 x5 x6 x7 : DV) (h0 : Hp) : aI :=
 bnd (bB 1 16 x7 x5 h0) fun v1 h1 =>
 bnd (r 35 [x0, x1] h1) fun v2 h2 =>
  cU r n kk5 x0 v2 v1 x6 h2
noncomputable def aDu (r : RT) (n : Nat) (kk5 : dJ) (kk12 : TT8) (x0 x1 x5 x6 x7 x8 x34 x35 : DV) (h0 : Hp) : aI :=
 bnd (aD .lss x35 x34 h0) fun v1 h1 =>
 aT v1 (
 bnd (r 51 [x0, x8, x35] h1) fun v2 h2 =>
 bnd (r 33 [x0, v2] h2) fun v3 h3 =>
 bnd (aB 0 v3 h3) fun v4 h4 =>
 bnd (aB 1 v3 h4) fun v5 h5 =>
 bnd (aL [(.s [])] 1 [(0, 1, v4)] h5) fun v6 h6 =>
 bnd (bB 1 16 x7 v6 h6) fun v7 h7 =>
 bnd (aD .add x35 (aF 1) h7) fun v8 h8 =>
      kk12 x0 x1 x5 x6 v7 x8 x34 v8 h8) (
      eH r n kk5 x0 x1 x5 x6 x7 h1)
noncomputable def tL (r : RT) (n : Nat) (kk5 : dJ) (m : Nat) : TT8 :=
 Nat.rec (motive := fun _ => TT8) (fun _ _ _ _ _ _ _ _ _ => none) (fun _ ih => aDu r n kk5 ih) m
noncomputable def bTm (r : RT) (n : Nat) (kk5 : dJ) : TT8 := tL r n kk5 n
noncomputable def aRv (r : RT) (n : Nat) (kk5 : dJ) (x0 x1 x5 x6 x7 x8 x34 x35 : DV) (h0 : Hp) : aI :=
 bTm r n kk5 x0 x1 x5 x6 x7 x8 x34 x35 h0
noncomputable def bHg (r : RT) (n : Nat) (kk5 : dJ) (x0 x1 x5 x6 x7 x8 : DV) (h0 : Hp) : aI :=
 bnd (aO x0 h0) fun v1 h1 =>
 bnd (aC 0 v1 h1) fun v2 h2 =>
 bnd (aA v2 h2) fun v3 h3 =>
 bnd (fZ [v3, x8] h3) fun v4 h4 =>
  aRv r n kk5 x0 x1 x5 x6 x7 x8 v4 (aF 0) h4
noncomputable def bUj (r : RT) (n : Nat) (kk5 : dJ) (x0 x1 x5 x6 x7 : DV) (h0 : Hp) : aI :=
 bnd (r 51 [x0, x1, (aF 3)] h0) fun v1 h1 =>
  bHg r n kk5 x0 x1 x5 x6 x7 v1 h1
noncomputable def bUz (r : RT) (n : Nat) (kk5 : dJ) (x0 x1 x5 x6 : DV) (h0 : Hp) : aI :=
 bUj r n kk5 x0 x1 x5 x6 .l0 h0
noncomputable def bVz (r : RT) (n : Nat) (kk5 : dJ) (x0 x1 x5 x6 : DV) (h0 : Hp) : aI :=
 bnd (aD .gtr x6 (aF 0) h0) fun v1 h1 =>
 bnd (gD v1 true (some (x0, h1)) h1) fun v2 h2 =>
 bnd (gD v1 true (some (x1, h2)) h2) fun v3 h3 =>
 bnd (gD v1 true (r 67 [v2, v3] h3) h3) fun v4 h4 =>
 bnd (aQ v1 v4 (.b false) h4) fun v5 h5 =>
 aT v5 (
   bUz r n kk5 x0 x1 x5 x6 h5) (
   bY r n x5 h5)
noncomputable def aCn (r : RT) (n : Nat) (m : Nat) : dJ :=
 Nat.rec (motive := fun _ => dJ) (fun _ _ _ _ _ => none) (fun _ ih => bVz r n ih) m
noncomputable def cRw (r : RT) (n : Nat) : dJ := aCn r n n
noncomputable def bWg (r : RT) (n : Nat) (x0 x1 x5 x6 : DV) (h0 : Hp) : aI :=
 cRw r n x0 x1 x5 x6 h0
noncomputable def bNf (r : RT) (n : Nat) (x0 x1 x5 : DV) (h0 : Hp) : aI :=
 bnd (aO x0 h0) fun v1 h1 =>
 bnd (aC 0 v1 h1) fun v2 h2 =>
 bnd (aA v2 h2) fun v3 h3 =>
 bnd (aAt [v3] h3) fun v4 h4 =>
  bWg r n x0 x1 x5 v4 h4
noncomputable def bRi (r : RT) (n : Nat) (x0 x1 : DV) (h0 : Hp) : aI :=
 bNf r n x0 x1 .l0 h0
noncomputable def s77 (r : RT) (n : Nat) (x0 x1 : DV) (h0 : Hp) : aI :=
 bRi r n x0 x1 h0
noncomputable abbrev c77 : Code := cf Tryz.f77
noncomputable abbrev aVv : Code := cR c77
noncomputable abbrev bBu : Code := cR aVv
noncomputable abbrev dLl : Code := cR bBu
noncomputable abbrev aMf : Code := cL bBu
noncomputable abbrev bKe : Code := cR aMf
noncomputable abbrev bAf : Code := cL bKe
noncomputable abbrev nE : Code := cL bAf
noncomputable abbrev bBm : Code := cR nE
noncomputable abbrev dMz : Code := cR bBm
noncomputable abbrev aBe : Code := cL bBm
noncomputable abbrev aDv : Code := cL aBe
noncomputable abbrev aHk : Code := cR aDv
noncomputable abbrev aCl : Code := cR aHk
noncomputable abbrev dDe : Code := cR aCl
noncomputable abbrev yR : Code := cL aCl
noncomputable abbrev aRi : Code := cR yR
noncomputable abbrev aDq : Code := cL aRi
noncomputable abbrev mH : Code := cL aDq
noncomputable abbrev bPj : Code := cL yR
noncomputable abbrev bJj : Code := cL aHk
noncomputable abbrev bHs : Code := cL aDv
noncomputable abbrev bPh : Code := cL nE
noncomputable abbrev bWh : Code := cL aMf
noncomputable abbrev bTp : Code := cL aVv
noncomputable abbrev bOm : Code := cL c77
noncomputable abbrev r77 : K := aP CF Tryz.f77
noncomputable def D77 (r : RT) (n : Nat) (c : Code) (X : Nat → K) (k : K) : K := aM CF r 59 n c X r77 k
theorem dAz : D77 r n dLl x0 r77 = (K1 (bY r n) 5) :=
 (by kernel_rfl)
theorem dAp (kk5 : dJ) : D77 r n dMz (xs x0 0 (K1 (bY r n) 5)) (K4 kk5 0 1 5 6) = (K4 (cU r n kk5) 0 1 5 6) :=
 (by kernel_rfl)
theorem cGd (kk5 : dJ) : D77 r n dDe (xs (xs x0 0 (K1 (bY r n) 5)) 1 (K4 (cU r n kk5) 0 1 5 6)) (K4 (cU r n kk5) 0 1 5 6) = (K5 (eH r n kk5) 0 1 5 6 7) :=
 (by kernel_rfl)
theorem bIw (kk5 : dJ) (kk12 : TT8) (q0 : TT1) (q1 : dJ) (q2 : cF) : D77 r n mH (xs (xs (xs x0 0 (K1 q0 5)) 1 (K4 q1 0 1 5 6)) 2 (K5 q2 0 1 5 6 7)) (K8 kk12 0 1 5 6 7 8 34 35) = fun (env : aW) (h : Hp) =>
 bnd (aD .lss (env 35) (env 34) h) fun v1 h1 =>
 aT v1 (
 bnd (r 51 [(env 0), (env 8), (env 35)] h1) fun v2 h2 =>
 bnd (r 33 [(env 0), v2] h2) fun v3 h3 =>
 bnd (aB 0 v3 h3) fun v4 h4 =>
 bnd (aB 1 v3 h4) fun v5 h5 =>
 bnd (aL [(.s [])] 1 [(0, 1, v4)] h5) fun v6 h6 =>
 bnd (bB 1 16 (env 7) v6 h6) fun v7 h7 =>
 bnd (aD .add (env 35) (aF 1) h7) fun v8 h8 =>
      kk12 (env 0) (env 1) (env 5) (env 6) v7 (env 8) (env 34) v8 h8) (
      q2 (env 0) (env 1) (env 5) (env 6) (env 7) h1) := by kernel_rfl
theorem bEl (kk5 : dJ) (kk12 : TT8) : (fun (env : aW) (h : Hp) =>
 bnd (aD .lss (env 35) (env 34) h) fun v1 h1 =>
 aT v1 (
 bnd (r 51 [(env 0), (env 8), (env 35)] h1) fun v2 h2 =>
 bnd (r 33 [(env 0), v2] h2) fun v3 h3 =>
 bnd (aB 0 v3 h3) fun v4 h4 =>
 bnd (aB 1 v3 h4) fun v5 h5 =>
 bnd (aL [(.s [])] 1 [(0, 1, v4)] h5) fun v6 h6 =>
 bnd (bB 1 16 (env 7) v6 h6) fun v7 h7 =>
 bnd (aD .add (env 35) (aF 1) h7) fun v8 h8 =>
      kk12 (env 0) (env 1) (env 5) (env 6) v7 (env 8) (env 34) v8 h8) (
      eH r n kk5 (env 0) (env 1) (env 5) (env 6) (env 7) h1)) = (K8 (aDu r n kk5 kk12) 0 1 5 6 7 8 34 35) := by kernel_rfl
theorem bMg (kk5 : dJ) (kk12 : TT8) : D77 r n mH (xs (xs (xs x0 0 (K1 (bY r n) 5)) 1 (K4 (cU r n kk5) 0 1 5 6)) 2 (K5 (eH r n kk5) 0 1 5 6 7)) (K8 kk12 0 1 5 6 7 8 34 35) = (K8 (aDu r n kk5 kk12) 0 1 5 6 7 8 34 35) :=
 (bIw r n kk5 kk12 (bY r n) (cU r n kk5) (eH r n kk5)).trans (bEl r n kk5 kk12)
theorem bYc (kk5 : dJ) (m : Nat) : aR (fun kk => D77 r n mH (xs (xs (xs x0 0 (K1 (bY r n) 5)) 1 (K4 (cU r n kk5) 0 1 5 6)) 2 (K5 (eH r n kk5) 0 1 5 6 7)) kk) m = (K8 (tL r n kk5 m) 0 1 5 6 7 8 34 35) := by
 induction m with
 | zero => exact (by kernel_rfl : aR (fun kk => D77 r n mH (xs (xs (xs x0 0 (K1 (bY r n) 5)) 1 (K4 (cU r n kk5) 0 1 5 6)) 2 (K5 (eH r n kk5) 0 1 5 6 7)) kk) 0 = (K8 (tL r n kk5 0) 0 1 5 6 7 8 34 35))
 | succ m ih =>
  refine (by kernel_rfl : aR (fun kk => D77 r n mH (xs (xs (xs x0 0 (K1 (bY r n) 5)) 1 (K4 (cU r n kk5) 0 1 5 6)) 2 (K5 (eH r n kk5) 0 1 5 6 7)) kk) (m + 1) = D77 r n mH (xs (xs (xs x0 0 (K1 (bY r n) 5)) 1 (K4 (cU r n kk5) 0 1 5 6)) 2 (K5 (eH r n kk5) 0 1 5 6 7)) (aR (fun kk => D77 r n mH (xs (xs (xs x0 0 (K1 (bY r n) 5)) 1 (K4 (cU r n kk5) 0 1 5 6)) 2 (K5 (eH r n kk5) 0 1 5 6 7)) kk) m)).trans ?_
  rw [ih]
  exact (bMg r n kk5 (tL r n kk5 m)).trans (by kernel_rfl)
theorem cBr (kk5 : dJ) : D77 r n aDq (xs (xs (xs x0 0 (K1 (bY r n) 5)) 1 (K4 (cU r n kk5) 0 1 5 6)) 2 (K5 (eH r n kk5) 0 1 5 6 7)) (K5 (eH r n kk5) 0 1 5 6 7) = (K8 (bTm r n kk5) 0 1 5 6 7 8 34 35) :=
 (by kernel_rfl : D77 r n aDq (xs (xs (xs x0 0 (K1 (bY r n) 5)) 1 (K4 (cU r n kk5) 0 1 5 6)) 2 (K5 (eH r n kk5) 0 1 5 6 7)) (K5 (eH r n kk5) 0 1 5 6 7) = aR (fun kk => D77 r n mH (xs (xs (xs x0 0 (K1 (bY r n) 5)) 1 (K4 (cU r n kk5) 0 1 5 6)) 2 (K5 (eH r n kk5) 0 1 5 6 7)) kk) n).trans ((bYc r n kk5 n).trans (by kernel_rfl))
theorem cIm (kk5 : dJ) : D77 r n aRi (xs (xs x0 0 (K1 (bY r n) 5)) 1 (K4 (cU r n kk5) 0 1 5 6)) (K5 (eH r n kk5) 0 1 5 6 7) = (K8 (aRv r n kk5) 0 1 5 6 7 8 34 35) :=
 (by kernel_rfl : D77 r n aRi (xs (xs x0 0 (K1 (bY r n) 5)) 1 (K4 (cU r n kk5) 0 1 5 6)) (K5 (eH r n kk5) 0 1 5 6 7) = D77 r n aDq (xs (xs (xs x0 0 (K1 (bY r n) 5)) 1 (K4 (cU r n kk5) 0 1 5 6)) 2 (K5 (eH r n kk5) 0 1 5 6 7)) (K5 (eH r n kk5) 0 1 5 6 7)).trans
 ((cBr r n kk5).trans (by kernel_rfl))
theorem cNy (kk5 : dJ) : D77 r n aCl (xs (xs x0 0 (K1 (bY r n) 5)) 1 (K4 (cU r n kk5) 0 1 5 6)) (K4 (cU r n kk5) 0 1 5 6) = D77 r n yR (xs (xs x0 0 (K1 (bY r n) 5)) 1 (K4 (cU r n kk5) 0 1 5 6)) (K5 (eH r n kk5) 0 1 5 6 7) :=
 congrArg (fun k => D77 r n yR (xs (xs x0 0 (K1 (bY r n) 5)) 1 (K4 (cU r n kk5) 0 1 5 6)) k) (cGd r n kk5)
theorem cDy (kk5 : dJ) : D77 r n yR (xs (xs x0 0 (K1 (bY r n) 5)) 1 (K4 (cU r n kk5) 0 1 5 6)) (K5 (eH r n kk5) 0 1 5 6 7) = D77 r n bPj (xs (xs x0 0 (K1 (bY r n) 5)) 1 (K4 (cU r n kk5) 0 1 5 6)) (K8 (aRv r n kk5) 0 1 5 6 7 8 34 35) :=
 congrArg (fun k => D77 r n bPj (xs (xs x0 0 (K1 (bY r n) 5)) 1 (K4 (cU r n kk5) 0 1 5 6)) k) (cIm r n kk5)
theorem cUg (kk5 : dJ) : D77 r n aCl (xs (xs x0 0 (K1 (bY r n) 5)) 1 (K4 (cU r n kk5) 0 1 5 6)) (K4 (cU r n kk5) 0 1 5 6) = (K6 (bHg r n kk5) 0 1 5 6 7 8) :=
 (cNy r n kk5).trans
 ((cDy r n kk5).trans
 ((by kernel_rfl)))
theorem cFf (kk5 : dJ) : D77 r n aHk (xs (xs x0 0 (K1 (bY r n) 5)) 1 (K4 (cU r n kk5) 0 1 5 6)) (K4 (cU r n kk5) 0 1 5 6) = D77 r n bJj (xs (xs x0 0 (K1 (bY r n) 5)) 1 (K4 (cU r n kk5) 0 1 5 6)) (K6 (bHg r n kk5) 0 1 5 6 7 8) :=
 congrArg (fun k => D77 r n bJj (xs (xs x0 0 (K1 (bY r n) 5)) 1 (K4 (cU r n kk5) 0 1 5 6)) k) (cUg r n kk5)
theorem cSw (kk5 : dJ) : D77 r n aHk (xs (xs x0 0 (K1 (bY r n) 5)) 1 (K4 (cU r n kk5) 0 1 5 6)) (K4 (cU r n kk5) 0 1 5 6) = (K5 (bUj r n kk5) 0 1 5 6 7) :=
 (cFf r n kk5).trans
 ((by kernel_rfl))
theorem cJx (kk5 : dJ) : D77 r n bBm (xs x0 0 (K1 (bY r n) 5)) (K4 kk5 0 1 5 6) = D77 r n aBe (xs x0 0 (K1 (bY r n) 5)) (K4 (cU r n kk5) 0 1 5 6) :=
 congrArg (fun k => D77 r n aBe (xs x0 0 (K1 (bY r n) 5)) k) (dAp r n kk5)
theorem cKg (kk5 : dJ) : D77 r n aDv (xs (xs x0 0 (K1 (bY r n) 5)) 1 (K4 (cU r n kk5) 0 1 5 6)) (K4 (cU r n kk5) 0 1 5 6) = D77 r n bHs (xs (xs x0 0 (K1 (bY r n) 5)) 1 (K4 (cU r n kk5) 0 1 5 6)) (K5 (bUj r n kk5) 0 1 5 6 7) :=
 congrArg (fun k => D77 r n bHs (xs (xs x0 0 (K1 (bY r n) 5)) 1 (K4 (cU r n kk5) 0 1 5 6)) k) (cSw r n kk5)
theorem cYz (kk5 : dJ) : D77 r n bBm (xs x0 0 (K1 (bY r n) 5)) (K4 kk5 0 1 5 6) = (K4 (bUz r n kk5) 0 1 5 6) :=
 (cJx r n kk5).trans
 ((by kernel_rfl : D77 r n aBe (xs x0 0 (K1 (bY r n) 5)) (K4 (cU r n kk5) 0 1 5 6) = D77 r n aDv (xs (xs x0 0 (K1 (bY r n) 5)) 1 (K4 (cU r n kk5) 0 1 5 6)) (K4 (cU r n kk5) 0 1 5 6)).trans
 ((cKg r n kk5).trans
 ((by kernel_rfl))))
theorem cFg (kk5 : dJ) : D77 r n nE (xs x0 0 (K1 (bY r n) 5)) (K4 kk5 0 1 5 6) = D77 r n bPh (xs x0 0 (K1 (bY r n) 5)) (K4 (bUz r n kk5) 0 1 5 6) :=
 congrArg (fun k => D77 r n bPh (xs x0 0 (K1 (bY r n) 5)) k) (cYz r n kk5)
theorem cLq (kk5 : dJ) : D77 r n nE (xs x0 0 (K1 (bY r n) 5)) (K4 kk5 0 1 5 6) = (K4 (bVz r n kk5) 0 1 5 6) :=
 (cFg r n kk5).trans
 ((by kernel_rfl))
theorem cEo (m : Nat) : aR (fun kk => D77 r n nE (xs x0 0 (K1 (bY r n) 5)) kk) m = (K4 (aCn r n m) 0 1 5 6) := by
 induction m with
 | zero => exact (by kernel_rfl : aR (fun kk => D77 r n nE (xs x0 0 (K1 (bY r n) 5)) kk) 0 = (K4 (aCn r n 0) 0 1 5 6))
 | succ m ih =>
  refine (by kernel_rfl : aR (fun kk => D77 r n nE (xs x0 0 (K1 (bY r n) 5)) kk) (m + 1) = D77 r n nE (xs x0 0 (K1 (bY r n) 5)) (aR (fun kk => D77 r n nE (xs x0 0 (K1 (bY r n) 5)) kk) m)).trans ?_
  rw [ih]
  exact (cLq r n (aCn r n m)).trans (by kernel_rfl)
theorem dAc : D77 r n bAf (xs x0 0 (K1 (bY r n) 5)) (K1 (bY r n) 5) = (K4 (cRw r n) 0 1 5 6) :=
 (by kernel_rfl : D77 r n bAf (xs x0 0 (K1 (bY r n) 5)) (K1 (bY r n) 5) = aR (fun kk => D77 r n nE (xs x0 0 (K1 (bY r n) 5)) kk) n).trans ((cEo r n n).trans (by kernel_rfl))
theorem cWk : D77 r n bKe x0 (K1 (bY r n) 5) = (K4 (bWg r n) 0 1 5 6) :=
 (by kernel_rfl : D77 r n bKe x0 (K1 (bY r n) 5) = D77 r n bAf (xs x0 0 (K1 (bY r n) 5)) (K1 (bY r n) 5)).trans
 ((dAc r n).trans (by kernel_rfl))
theorem cIq : D77 r n bBu x0 r77 = D77 r n aMf x0 (K1 (bY r n) 5) :=
 congrArg (fun k => D77 r n aMf x0 k) (dAz r n)
theorem cJs : D77 r n aMf x0 (K1 (bY r n) 5) = D77 r n bWh x0 (K4 (bWg r n) 0 1 5 6) :=
 congrArg (fun k => D77 r n bWh x0 k) (cWk r n)
theorem cTh : D77 r n bBu x0 r77 = (K3 (bNf r n) 0 1 5) :=
 (cIq r n).trans
 ((cJs r n).trans
 ((by kernel_rfl)))
theorem bWm : D77 r n aVv x0 r77 = D77 r n bTp x0 (K3 (bNf r n) 0 1 5) :=
 congrArg (fun k => D77 r n bTp x0 k) (cTh r n)
theorem cXc : D77 r n aVv x0 r77 = (K2 (bRi r n) 0 1) :=
 (bWm r n).trans
 ((by kernel_rfl))
theorem dCk : D77 r n c77 x0 r77 = D77 r n bOm x0 (K2 (bRi r n) 0 1) :=
 congrArg (fun k => D77 r n bOm x0 k) (cXc r n)
theorem dUf : D77 r n c77 x0 r77 = (K2 (s77 r n) 0 1) :=
 (dCk r n).trans
 ((by kernel_rfl))
theorem dOd : aE CF r n 77 args h = s77 r n (aS args 0) (aS args 1) h :=
 (by kernel_rfl : aE CF r n 77 args h = D77 r n c77 x0 r77 (aG args) h).trans ((congrFun (congrFun (dUf r n) (aG args)) h).trans (by kernel_rfl))
noncomputable def gK (r : RT) (n : Nat) (x10 : DV) (h0 : Hp) : aI :=
 some (.t [x10, (aF 0)], h0)
noncomputable def rK (r : RT) (n : Nat) (kk6 : cF) (x0 x10 x29 x30 x31 : DV) (h0 : Hp) : aI :=
 bnd (aD .lss x31 x30 h0) fun v1 h1 =>
 aT v1 (
 bnd (aJ 1 x29 x31 h1) fun v2 h2 =>
 bnd (aA v2 h2) fun v3 h3 =>
 bnd (aO x0 h3) fun v4 h4 =>
 bnd (aC 0 v4 h4) fun v5 h5 =>
 bnd (aA v5 h5) fun v6 h6 =>
 bnd (sH [v6, x10, x31, v3] h6) fun v7 h7 =>
 bnd (aD .add x31 (aF 1) h7) fun v8 h8 =>
      kk6 x0 x10 x29 x30 v8 h8) (
      gK r n x10 h1)
noncomputable def nT (r : RT) (n : Nat) (m : Nat) : cF :=
 Nat.rec (motive := fun _ => cF) (fun _ _ _ _ _ _ => none) (fun _ ih => rK r n ih) m
noncomputable def bIl (r : RT) (n : Nat) : cF := nT r n n
noncomputable def aZw (r : RT) (n : Nat) (x0 x10 x29 x30 x31 : DV) (h0 : Hp) : aI :=
 bIl r n x0 x10 x29 x30 x31 h0
noncomputable def aXc (r : RT) (n : Nat) (x0 x3 x10 : DV) (h0 : Hp) : aI :=
 bnd (cJ x3 h0) fun v1 h1 =>
  aZw r n x0 x10 x3 v1 (aF 0) h1
noncomputable def aUg (r : RT) (n : Nat) (x0 x3 x10 x11 : DV) (h0 : Hp) : aI :=
 bnd (aD .neq x11 (aF 0) h0) fun v1 h1 =>
 aT v1 (
 some (.t [(aF 0), x11], h1)) (
  aXc r n x0 x3 x10 h1)
noncomputable def aVs (r : RT) (n : Nat) (x0 x1 x2 x3 : DV) (h0 : Hp) : aI :=
 bnd (aO x0 h0) fun v1 h1 =>
 bnd (aC 0 v1 h1) fun v2 h2 =>
 bnd (aA v2 h2) fun v3 h3 =>
 bnd (cJ x3 h3) fun v4 h4 =>
 bnd (iR [v3, x1, x2, v4] h4) fun v5 h5 =>
 bnd (aB 0 v5 h5) fun v6 h6 =>
 bnd (aB 1 v5 h6) fun v7 h7 =>
  aUg r n x0 x3 v6 v7 h7
noncomputable def s82 (r : RT) (n : Nat) (x0 x1 x2 x3 : DV) (h0 : Hp) : aI :=
 aVs r n x0 x1 x2 x3 h0
noncomputable abbrev c82 : Code := cf Tryz.f82
noncomputable abbrev bBs : Code := cR c82
noncomputable abbrev bAn : Code := cR bBs
noncomputable abbrev aTy : Code := cR bAn
noncomputable abbrev dJd : Code := cR aTy
noncomputable abbrev aKr : Code := cL aTy
noncomputable abbrev bJp : Code := cR aKr
noncomputable abbrev aZj : Code := cL bJp
noncomputable abbrev zA : Code := cL aZj
noncomputable abbrev cRe : Code := cL aKr
noncomputable abbrev bMh : Code := cL bAn
noncomputable abbrev bNp : Code := cL bBs
noncomputable abbrev bGo : Code := cL c82
noncomputable abbrev r82 : K := aP CF Tryz.f82
noncomputable def D82 (r : RT) (n : Nat) (c : Code) (X : Nat → K) (k : K) : K := aM CF r 46 n c X r82 k
theorem dCe : D82 r n dJd x0 r82 = (K1 (gK r n) 10) :=
 (by kernel_rfl)
theorem cGs (kk6 : cF) : D82 r n zA (xs x0 0 (K1 (gK r n) 10)) (K5 kk6 0 10 29 30 31) = (K5 (rK r n kk6) 0 10 29 30 31) :=
 (by kernel_rfl)
theorem cEd (m : Nat) : aR (fun kk => D82 r n zA (xs x0 0 (K1 (gK r n) 10)) kk) m = (K5 (nT r n m) 0 10 29 30 31) := by
 induction m with
 | zero => exact (by kernel_rfl : aR (fun kk => D82 r n zA (xs x0 0 (K1 (gK r n) 10)) kk) 0 = (K5 (nT r n 0) 0 10 29 30 31))
 | succ m ih =>
  refine (by kernel_rfl : aR (fun kk => D82 r n zA (xs x0 0 (K1 (gK r n) 10)) kk) (m + 1) = D82 r n zA (xs x0 0 (K1 (gK r n) 10)) (aR (fun kk => D82 r n zA (xs x0 0 (K1 (gK r n) 10)) kk) m)).trans ?_
  rw [ih]
  exact (cGs r n (nT r n m)).trans (by kernel_rfl)
theorem cTe : D82 r n aZj (xs x0 0 (K1 (gK r n) 10)) (K1 (gK r n) 10) = (K5 (bIl r n) 0 10 29 30 31) :=
 (by kernel_rfl : D82 r n aZj (xs x0 0 (K1 (gK r n) 10)) (K1 (gK r n) 10) = aR (fun kk => D82 r n zA (xs x0 0 (K1 (gK r n) 10)) kk) n).trans ((cEd r n n).trans (by kernel_rfl))
theorem cVs : D82 r n bJp x0 (K1 (gK r n) 10) = (K5 (aZw r n) 0 10 29 30 31) :=
 (by kernel_rfl : D82 r n bJp x0 (K1 (gK r n) 10) = D82 r n aZj (xs x0 0 (K1 (gK r n) 10)) (K1 (gK r n) 10)).trans
 ((cTe r n).trans (by kernel_rfl))
theorem cDi : D82 r n aTy x0 r82 = D82 r n aKr x0 (K1 (gK r n) 10) :=
 congrArg (fun k => D82 r n aKr x0 k) (dCe r n)
theorem cFj : D82 r n aKr x0 (K1 (gK r n) 10) = D82 r n cRe x0 (K5 (aZw r n) 0 10 29 30 31) :=
 congrArg (fun k => D82 r n cRe x0 k) (cVs r n)
theorem cZs : D82 r n aTy x0 r82 = (K3 (aXc r n) 0 3 10) :=
 (cDi r n).trans
 ((cFj r n).trans
 ((by kernel_rfl)))
theorem cOg : D82 r n bAn x0 r82 = D82 r n bMh x0 (K3 (aXc r n) 0 3 10) :=
 congrArg (fun k => D82 r n bMh x0 k) (cZs r n)
theorem dBv : D82 r n bAn x0 r82 = (K4 (aUg r n) 0 3 10 11) :=
 (cOg r n).trans
 ((by kernel_rfl))
theorem cDc : D82 r n bBs x0 r82 = D82 r n bNp x0 (K4 (aUg r n) 0 3 10 11) :=
 congrArg (fun k => D82 r n bNp x0 k) (dBv r n)
theorem cSp : D82 r n bBs x0 r82 = (K4 (aVs r n) 0 1 2 3) :=
 (cDc r n).trans
 ((by kernel_rfl))
theorem dFt : D82 r n c82 x0 r82 = D82 r n bGo x0 (K4 (aVs r n) 0 1 2 3) :=
 congrArg (fun k => D82 r n bGo x0 k) (cSp r n)
theorem dPw : D82 r n c82 x0 r82 = (K4 (s82 r n) 0 1 2 3) :=
 (dFt r n).trans
 ((by kernel_rfl))
theorem cSc : aE CF r n 82 args h = s82 r n (aS args 0) (aS args 1) (aS args 2) (aS args 3) h :=
 (by kernel_rfl : aE CF r n 82 args h = D82 r n c82 x0 r82 (aG args) h).trans ((congrFun (congrFun (dPw r n) (aG args)) h).trans (by kernel_rfl))
noncomputable def fQ (r : RT) (n : Nat) (x0 x1 x8 : DV) (h0 : Hp) : aI :=
 bnd (r 82 [x0, x1, (aF 2), x8] h0) fun v1 h1 =>
 bnd (aB 0 v1 h1) fun v2 h2 =>
 bnd (aB 1 v1 h2) fun v3 h3 =>
 some (.t [v2, v3], h3)
noncomputable def nO (r : RT) (n : Nat) (kk5 : gW) (x0 x1 x2 x8 x11 x12 : DV) (h0 : Hp) : aI :=
 bnd (aD .lss x12 x11 h0) fun v1 h1 =>
 aT v1 (
 bnd (fJ x2 x12 h1) fun v2 h2 =>
 bnd (cW .i64 v2 h2) fun v3 h3 =>
 bnd (aL [(aF 0)] 1 [(0, 1, v3)] h3) fun v4 h4 =>
 bnd (bB 1 8 x8 v4 h4) fun v5 h5 =>
 bnd (aD .add x12 (aF 1) h5) fun v6 h6 =>
      kk5 x0 x1 x2 v5 x11 v6 h6) (
      fQ r n x0 x1 x8 h1)
noncomputable def nM (r : RT) (n : Nat) (m : Nat) : gW :=
 Nat.rec (motive := fun _ => gW) (fun _ _ _ _ _ _ _ => none) (fun _ ih => nO r n ih) m
noncomputable def bSb (r : RT) (n : Nat) : gW := nM r n n
noncomputable def aWt (r : RT) (n : Nat) (x0 x1 x2 x8 x11 x12 : DV) (h0 : Hp) : aI :=
 bSb r n x0 x1 x2 x8 x11 x12 h0
noncomputable def aUj (r : RT) (n : Nat) (x0 x1 x2 x8 : DV) (h0 : Hp) : aI :=
 bnd (dV x2 h0) fun v1 h1 =>
  aWt r n x0 x1 x2 x8 v1 (aF 0) h1
noncomputable def bBk (r : RT) (n : Nat) (x0 x1 x2 : DV) (h0 : Hp) : aI :=
 aUj r n x0 x1 x2 .l0 h0
noncomputable def s83 (r : RT) (n : Nat) (x0 x1 x2 : DV) (h0 : Hp) : aI :=
 bBk r n x0 x1 x2 h0
noncomputable abbrev c83 : Code := cf Tryz.f83
noncomputable abbrev aUr : Code := cR c83
noncomputable abbrev aZz : Code := cR aUr
noncomputable abbrev dIw : Code := cR aZz
noncomputable abbrev aKs : Code := cL aZz
noncomputable abbrev bZy : Code := cR aKs
noncomputable abbrev aZu : Code := cL bZy
noncomputable abbrev sD : Code := cL aZu
noncomputable abbrev cRv : Code := cL aKs
noncomputable abbrev cRx : Code := cL aUr
noncomputable abbrev bMi : Code := cL c83
noncomputable abbrev r83 : K := aP CF Tryz.f83
noncomputable def D83 (r : RT) (n : Nat) (c : Code) (X : Nat → K) (k : K) : K := aM CF r 29 n c X r83 k
theorem dCa : D83 r n dIw x0 r83 = (K3 (fQ r n) 0 1 8) :=
 (by kernel_rfl)
theorem cKo (kk5 : gW) (q0 : nB) : D83 r n sD (xs x0 0 (K3 q0 0 1 8)) (K6 kk5 0 1 2 8 11 12) = fun (env : aW) (h : Hp) =>
 bnd (aD .lss (env 12) (env 11) h) fun v1 h1 =>
 aT v1 (
 bnd (fJ (env 2) (env 12) h1) fun v2 h2 =>
 bnd (cW .i64 v2 h2) fun v3 h3 =>
 bnd (aL [(aF 0)] 1 [(0, 1, v3)] h3) fun v4 h4 =>
 bnd (bB 1 8 (env 8) v4 h4) fun v5 h5 =>
 bnd (aD .add (env 12) (aF 1) h5) fun v6 h6 =>
      kk5 (env 0) (env 1) (env 2) v5 (env 11) v6 h6) (
      q0 (env 0) (env 1) (env 8) h1) := by kernel_rfl
theorem bKa (kk5 : gW) : (fun (env : aW) (h : Hp) =>
 bnd (aD .lss (env 12) (env 11) h) fun v1 h1 =>
 aT v1 (
 bnd (fJ (env 2) (env 12) h1) fun v2 h2 =>
 bnd (cW .i64 v2 h2) fun v3 h3 =>
 bnd (aL [(aF 0)] 1 [(0, 1, v3)] h3) fun v4 h4 =>
 bnd (bB 1 8 (env 8) v4 h4) fun v5 h5 =>
 bnd (aD .add (env 12) (aF 1) h5) fun v6 h6 =>
      kk5 (env 0) (env 1) (env 2) v5 (env 11) v6 h6) (
      fQ r n (env 0) (env 1) (env 8) h1)) = (K6 (nO r n kk5) 0 1 2 8 11 12) := by kernel_rfl
theorem cOi (kk5 : gW) : D83 r n sD (xs x0 0 (K3 (fQ r n) 0 1 8)) (K6 kk5 0 1 2 8 11 12) = (K6 (nO r n kk5) 0 1 2 8 11 12) :=
 (cKo r n kk5 (fQ r n)).trans (bKa r n kk5)
theorem cBc (m : Nat) : aR (fun kk => D83 r n sD (xs x0 0 (K3 (fQ r n) 0 1 8)) kk) m = (K6 (nM r n m) 0 1 2 8 11 12) := by
 induction m with
 | zero => exact (by kernel_rfl : aR (fun kk => D83 r n sD (xs x0 0 (K3 (fQ r n) 0 1 8)) kk) 0 = (K6 (nM r n 0) 0 1 2 8 11 12))
 | succ m ih =>
  refine (by kernel_rfl : aR (fun kk => D83 r n sD (xs x0 0 (K3 (fQ r n) 0 1 8)) kk) (m + 1) = D83 r n sD (xs x0 0 (K3 (fQ r n) 0 1 8)) (aR (fun kk => D83 r n sD (xs x0 0 (K3 (fQ r n) 0 1 8)) kk) m)).trans ?_
  rw [ih]
  exact (cOi r n (nM r n m)).trans (by kernel_rfl)
theorem dBh : D83 r n aZu (xs x0 0 (K3 (fQ r n) 0 1 8)) (K3 (fQ r n) 0 1 8) = (K6 (bSb r n) 0 1 2 8 11 12) :=
 (by kernel_rfl : D83 r n aZu (xs x0 0 (K3 (fQ r n) 0 1 8)) (K3 (fQ r n) 0 1 8) = aR (fun kk => D83 r n sD (xs x0 0 (K3 (fQ r n) 0 1 8)) kk) n).trans ((cBc r n n).trans (by kernel_rfl))
theorem cYg : D83 r n bZy x0 (K3 (fQ r n) 0 1 8) = (K6 (aWt r n) 0 1 2 8 11 12) :=
 (by kernel_rfl : D83 r n bZy x0 (K3 (fQ r n) 0 1 8) = D83 r n aZu (xs x0 0 (K3 (fQ r n) 0 1 8)) (K3 (fQ r n) 0 1 8)).trans
 ((dBh r n).trans (by kernel_rfl))
theorem cLs : D83 r n aZz x0 r83 = D83 r n aKs x0 (K3 (fQ r n) 0 1 8) :=
 congrArg (fun k => D83 r n aKs x0 k) (dCa r n)
theorem cFw : D83 r n aKs x0 (K3 (fQ r n) 0 1 8) = D83 r n cRv x0 (K6 (aWt r n) 0 1 2 8 11 12) :=
 congrArg (fun k => D83 r n cRv x0 k) (cYg r n)
theorem dEw : D83 r n aZz x0 r83 = (K4 (aUj r n) 0 1 2 8) :=
 (cLs r n).trans
 ((cFw r n).trans
 ((by kernel_rfl)))
theorem cDh : D83 r n aUr x0 r83 = D83 r n cRx x0 (K4 (aUj r n) 0 1 2 8) :=
 congrArg (fun k => D83 r n cRx x0 k) (dEw r n)
theorem cVp : D83 r n aUr x0 r83 = (K3 (bBk r n) 0 1 2) :=
 (cDh r n).trans
 ((by kernel_rfl))
theorem dGv : D83 r n c83 x0 r83 = D83 r n bMi x0 (K3 (bBk r n) 0 1 2) :=
 congrArg (fun k => D83 r n bMi x0 k) (cVp r n)
theorem dPx : D83 r n c83 x0 r83 = (K3 (s83 r n) 0 1 2) :=
 (dGv r n).trans
 ((by kernel_rfl))
theorem cRf : aE CF r n 83 args h = s83 r n (aS args 0) (aS args 1) (aS args 2) h :=
 (by kernel_rfl : aE CF r n 83 args h = D83 r n c83 x0 r83 (aG args) h).trans ((congrFun (congrFun (dPx r n) (aG args)) h).trans (by kernel_rfl))
noncomputable def s84 (r : RT) (n : Nat) (x0 x1 : DV) (h0 : Hp) : aI :=
 bnd (aA x1 h0) fun v1 h1 =>
 bnd (aO v1 h1) fun v2 h2 =>
 bnd (aC 0 v2 h2) fun v3 h3 =>
 bnd (aA v3 h3) fun v4 h4 =>
 bnd (aEo [v4, x0] h4) fun v5 h5 =>
 bnd (dR .not v5 h5) fun v6 h6 =>
 some (v6, h6)
noncomputable abbrev c84 : Code := cf Tryz.f84
noncomputable abbrev r84 : K := aP CF Tryz.f84
noncomputable def D84 (r : RT) (n : Nat) (c : Code) (X : Nat → K) (k : K) : K := aM CF r 11 n c X r84 k
theorem dTo : D84 r n c84 x0 r84 = (K2 (s84 r n) 0 1) :=
 (by kernel_rfl)
theorem cRz : aE CF r n 84 args h = s84 r n (aS args 0) (aS args 1) h :=
 (by kernel_rfl : aE CF r n 84 args h = D84 r n c84 x0 r84 (aG args) h).trans ((congrFun (congrFun (dTo r n) (aG args)) h).trans (by kernel_rfl))
noncomputable def s88 (r : RT) (n : Nat) (x0 x1 x2 : DV) (h0 : Hp) : aI :=
 bnd (aD .geq x0 x1 h0) fun v1 h1 =>
 bnd (gD v1 true (some (x0, h1)) h1) fun v2 h2 =>
 bnd (gD v1 true (some (x2, h2)) h2) fun v3 h3 =>
 bnd (gD v1 true (aD .leq v2 v3 h3) h3) fun v4 h4 =>
 bnd (aQ v1 v4 (.b false) h4) fun v5 h5 =>
 some (v5, h5)
noncomputable abbrev c88 : Code := cf Tryz.f88
noncomputable abbrev r88 : K := aP CF Tryz.f88
noncomputable def D88 (r : RT) (n : Nat) (c : Code) (X : Nat → K) (k : K) : K := aM CF r 15 n c X r88 k
theorem dSq : D88 r n c88 x0 r88 = (K3 (s88 r n) 0 1 2) :=
 (by kernel_rfl)
theorem cSe : aE CF r n 88 args h = s88 r n (aS args 0) (aS args 1) (aS args 2) h :=
 (by kernel_rfl : aE CF r n 88 args h = D88 r n c88 x0 r88 (aG args) h).trans ((congrFun (congrFun (dSq r n) (aG args)) h).trans (by kernel_rfl))
noncomputable def gT (r : RT) (n : Nat) (h0 : Hp) : aI :=
 some ((.i .i64 (Int.negSucc 0)), h0)
noncomputable def gN (r : RT) (n : Nat) (kk4 : dJ) (x0 x1 x7 x8 : DV) (h0 : Hp) : aI :=
 bnd (aD .lss x8 x7 h0) fun v1 h1 =>
 aT v1 (
 bnd (aJ 1 x0 x8 h1) fun v2 h2 =>
 bnd (aA v2 h2) fun v3 h3 =>
 bnd (fO CF r x1 [v3] h3) fun v4 h4 =>
 aT v4 (
 some (x8, h4)) (
 bnd (aD .add x8 (aF 1) h4) fun v5 h5 =>
    kk4 x0 x1 x7 v5 h5)) (
      gT r n h1)
noncomputable def iK (r : RT) (n : Nat) (m : Nat) : dJ :=
 Nat.rec (motive := fun _ => dJ) (fun _ _ _ _ _ => none) (fun _ ih => gN r n ih) m
noncomputable def aUd (r : RT) (n : Nat) : dJ := iK r n n
noncomputable def aLl (r : RT) (n : Nat) (x0 x1 x7 x8 : DV) (h0 : Hp) : aI :=
 aUd r n x0 x1 x7 x8 h0
noncomputable def aLm (r : RT) (n : Nat) (x0 x1 : DV) (h0 : Hp) : aI :=
 bnd (cJ x0 h0) fun v1 h1 =>
  aLl r n x0 x1 v1 (aF 0) h1
noncomputable def s89 (r : RT) (n : Nat) (x0 x1 : DV) (h0 : Hp) : aI :=
 aLm r n x0 x1 h0
noncomputable abbrev c89 : Code := cf Tryz.f89
noncomputable abbrev aWz : Code := cR c89
noncomputable abbrev dMl : Code := cR aWz
noncomputable abbrev aKj : Code := cL aWz
noncomputable abbrev bKb : Code := cR aKj
noncomputable abbrev aYg : Code := cL bKb
noncomputable abbrev uV : Code := cL aYg
noncomputable abbrev cRj : Code := cL aKj
noncomputable abbrev cQj : Code := cL c89
noncomputable abbrev r89 : K := aP CF Tryz.f89
noncomputable def D89 (r : RT) (n : Nat) (c : Code) (X : Nat → K) (k : K) : K := aM CF r 19 n c X r89 k
theorem dAg : D89 r n dMl x0 r89 = (K0 (gT r n)) :=
 (by kernel_rfl)
theorem cDx (kk4 : dJ) : D89 r n uV (xs x0 0 (K0 (gT r n))) (K4 kk4 0 1 7 8) = (K4 (gN r n kk4) 0 1 7 8) :=
 (by kernel_rfl)
theorem cPw (m : Nat) : aR (fun kk => D89 r n uV (xs x0 0 (K0 (gT r n))) kk) m = (K4 (iK r n m) 0 1 7 8) := by
 induction m with
 | zero => exact (by kernel_rfl : aR (fun kk => D89 r n uV (xs x0 0 (K0 (gT r n))) kk) 0 = (K4 (iK r n 0) 0 1 7 8))
 | succ m ih =>
  refine (by kernel_rfl : aR (fun kk => D89 r n uV (xs x0 0 (K0 (gT r n))) kk) (m + 1) = D89 r n uV (xs x0 0 (K0 (gT r n))) (aR (fun kk => D89 r n uV (xs x0 0 (K0 (gT r n))) kk) m)).trans ?_
  rw [ih]
  exact (cDx r n (iK r n m)).trans (by kernel_rfl)
theorem cUh : D89 r n aYg (xs x0 0 (K0 (gT r n))) (K0 (gT r n)) = (K4 (aUd r n) 0 1 7 8) :=
 (by kernel_rfl : D89 r n aYg (xs x0 0 (K0 (gT r n))) (K0 (gT r n)) = aR (fun kk => D89 r n uV (xs x0 0 (K0 (gT r n))) kk) n).trans ((cPw r n n).trans (by kernel_rfl))
theorem dEz : D89 r n bKb x0 (K0 (gT r n)) = (K4 (aLl r n) 0 1 7 8) :=
 (by kernel_rfl : D89 r n bKb x0 (K0 (gT r n)) = D89 r n aYg (xs x0 0 (K0 (gT r n))) (K0 (gT r n))).trans
 ((cUh r n).trans (by kernel_rfl))
theorem cLz : D89 r n aWz x0 r89 = D89 r n aKj x0 (K0 (gT r n)) :=
 congrArg (fun k => D89 r n aKj x0 k) (dAg r n)
theorem cGf : D89 r n aKj x0 (K0 (gT r n)) = D89 r n cRj x0 (K4 (aLl r n) 0 1 7 8) :=
 congrArg (fun k => D89 r n cRj x0 k) (dEz r n)
theorem cVy : D89 r n aWz x0 r89 = (K2 (aLm r n) 0 1) :=
 (cLz r n).trans
 ((cGf r n).trans
 ((by kernel_rfl)))
theorem dJn : D89 r n c89 x0 r89 = D89 r n cQj x0 (K2 (aLm r n) 0 1) :=
 congrArg (fun k => D89 r n cQj x0 k) (cVy r n)
theorem dPr : D89 r n c89 x0 r89 = (K2 (s89 r n) 0 1) :=
 (dJn r n).trans
 ((by kernel_rfl))
theorem bRq : aE CF r n 89 args h = s89 r n (aS args 0) (aS args 1) h :=
 (by kernel_rfl : aE CF r n 89 args h = D89 r n c89 x0 r89 (aG args) h).trans ((congrFun (congrFun (dPr r n) (aG args)) h).trans (by kernel_rfl))
noncomputable def s90 (r : RT) (n : Nat) (x0 x1 : DV) (h0 : Hp) : aI :=
 bnd (r 104 [x0] h0) fun v1 h1 =>
 bnd (dR .not v1 h1) fun v2 h2 =>
 bnd (gD v2 false (some (x1, h2)) h2) fun v3 h3 =>
 bnd (gD v2 false (r 104 [v3] h3) h3) fun v4 h4 =>
 bnd (gD v2 false (dR .not v4 h4) h4) fun v5 h5 =>
 bnd (aQ v2 (.b true) v5 h5) fun v6 h6 =>
 aT v6 (
 some (.t [(.i .i64 (Int.ofNat 0)), (.i .i64 (Int.ofNat 2))], h6)) (
 bnd (aD .add x0 x1 h6) fun v7 h7 =>
 bnd (r 105 [v7] h7) fun v8 h8 =>
 bnd (aB 0 v8 h8) fun v9 h9 =>
 bnd (aB 1 v8 h9) fun v10 h10 =>
 some (.t [v9, v10], h10))
noncomputable abbrev c90 : Code := cf Tryz.f90
noncomputable abbrev r90 : K := aP CF Tryz.f90
noncomputable def D90 (r : RT) (n : Nat) (c : Code) (X : Nat → K) (k : K) : K := aM CF r 20 n c X r90 k
theorem dSp : D90 r n c90 x0 r90 = (K2 (s90 r n) 0 1) :=
 (by kernel_rfl)
theorem cQp : aE CF r n 90 args h = s90 r n (aS args 0) (aS args 1) h :=
 (by kernel_rfl : aE CF r n 90 args h = D90 r n c90 x0 r90 (aG args) h).trans ((congrFun (congrFun (dSp r n) (aG args)) h).trans (by kernel_rfl))
noncomputable def s91 (r : RT) (n : Nat) (x0 x1 : DV) (h0 : Hp) : aI :=
 bnd (r 106 [x1] h0) fun v1 h1 =>
 bnd (r 90 [x0, v1] h1) fun v2 h2 =>
 bnd (aB 0 v2 h2) fun v3 h3 =>
 bnd (aB 1 v2 h3) fun v4 h4 =>
 some (.t [v3, v4], h4)
noncomputable abbrev c91 : Code := cf Tryz.f91
noncomputable abbrev r91 : K := aP CF Tryz.f91
noncomputable def D91 (r : RT) (n : Nat) (c : Code) (X : Nat → K) (k : K) : K := aM CF r 12 n c X r91 k
theorem dRj : D91 r n c91 x0 r91 = (K2 (s91 r n) 0 1) :=
 (by kernel_rfl)
theorem cQm : aE CF r n 91 args h = s91 r n (aS args 0) (aS args 1) h :=
 (by kernel_rfl : aE CF r n 91 args h = D91 r n c91 x0 r91 (aG args) h).trans ((congrFun (congrFun (dRj r n) (aG args)) h).trans (by kernel_rfl))
noncomputable def s93 (r : RT) (n : Nat) (x0 x1 : DV) (h0 : Hp) : aI :=
 bnd (r 108 [x0, x1] h0) fun v1 h1 =>
 bnd (aB 0 v1 h1) fun v2 h2 =>
 bnd (aB 1 v1 h2) fun v3 h3 =>
 bnd (aB 2 v1 h3) fun v4 h4 =>
 some (.t [v2, v4], h4)
noncomputable abbrev c93 : Code := cf Tryz.f93
noncomputable abbrev r93 : K := aP CF Tryz.f93
noncomputable def D93 (r : RT) (n : Nat) (c : Code) (X : Nat → K) (k : K) : K := aM CF r 18 n c X r93 k
theorem dQy : D93 r n c93 x0 r93 = (K2 (s93 r n) 0 1) :=
 (by kernel_rfl)
theorem cQz : aE CF r n 93 args h = s93 r n (aS args 0) (aS args 1) h :=
 (by kernel_rfl : aE CF r n 93 args h = D93 r n c93 x0 r93 (aG args) h).trans ((congrFun (congrFun (dQy r n) (aG args)) h).trans (by kernel_rfl))
noncomputable def s94 (r : RT) (n : Nat) (x0 x1 : DV) (h0 : Hp) : aI :=
 bnd (r 108 [x0, x1] h0) fun v1 h1 =>
 bnd (aB 0 v1 h1) fun v2 h2 =>
 bnd (aB 1 v1 h2) fun v3 h3 =>
 bnd (aB 2 v1 h3) fun v4 h4 =>
 some (.t [v3, v4], h4)
noncomputable abbrev c94 : Code := cf Tryz.f94
noncomputable abbrev r94 : K := aP CF Tryz.f94
noncomputable def D94 (r : RT) (n : Nat) (c : Code) (X : Nat → K) (k : K) : K := aM CF r 18 n c X r94 k
theorem dQd : D94 r n c94 x0 r94 = (K2 (s94 r n) 0 1) :=
 (by kernel_rfl)
theorem cRy : aE CF r n 94 args h = s94 r n (aS args 0) (aS args 1) h :=
 (by kernel_rfl : aE CF r n 94 args h = D94 r n c94 x0 r94 (aG args) h).trans ((congrFun (congrFun (dQd r n) (aG args)) h).trans (by kernel_rfl))
end Go.Dd

namespace Go.Dd
open Go.Proofs
variable (r : RT) (n : Nat) (args : List DV) (h : Hp)
noncomputable def s95 (r : RT) (n : Nat) (x0 : DV) (h0 : Hp) : aI :=
 aT x0 (
 some (.t [(aF 2), (aF 0)], h0)) (
 some (.t [(aF 4), (aF 0)], h0))
noncomputable abbrev c95 : Code := cf Tryz.f95
noncomputable abbrev r95 : K := aP CF Tryz.f95
noncomputable def D95 (r : RT) (n : Nat) (c : Code) (X : Nat → K) (k : K) : K := aM CF r 5 n c X r95 k
theorem dOs : D95 r n c95 x0 r95 = (K1 (s95 r n) 0) :=
 (by kernel_rfl)
theorem cRc : aE CF r n 95 args h = s95 r n (aS args 0) h :=
 (by kernel_rfl : aE CF r n 95 args h = D95 r n c95 x0 r95 (aG args) h).trans ((congrFun (congrFun (dOs r n) (aG args)) h).trans (by kernel_rfl))
noncomputable def s96 (r : RT) (n : Nat) (x0 x1 : DV) (h0 : Hp) : aI :=
 bnd (bX x0 h0) fun v1 h1 =>
 bnd (aA v1 (resv 1 h1)) fun v2 h2 =>
 bnd (aO v2 h2) fun v3 h3 =>
 bnd (aC 0 v3 h3) fun v4 h4 =>
 bnd (aA v4 h4) fun v5 h5 =>
 bnd (aA v1 h5) fun v6 h6 =>
 bnd (aO v6 h6) fun v7 h7 =>
 bnd (aC 2 v7 h7) fun v8 h8 =>
 bnd (aA v8 h8) fun v9 h9 =>
 bnd (r 25 [v5, v9] h9) fun v10 h10 =>
 bnd (kC (bW 0 h1.next) [(.i .i64 (Int.ofNat 0))] h10) fun v11 h11 =>
 bnd (aH 1 v11 v10 h11) fun v12 h12 =>
 bnd (r 52 [x1, (.f 109 [] [v1, v11])] h12) fun v13 h13 =>
 some (v13, h13)
noncomputable abbrev c96 : Code := cf Tryz.f96
noncomputable abbrev r96 : K := aP CF Tryz.f96
noncomputable def D96 (r : RT) (n : Nat) (c : Code) (X : Nat → K) (k : K) : K := aM CF r 18 n c X r96 k
theorem dTx : D96 r n c96 x0 r96 = (K2 (s96 r n) 0 1) :=
 (by kernel_rfl)
theorem dFn : aE CF r n 96 args h = s96 r n (aS args 0) (aS args 1) h :=
 (by kernel_rfl : aE CF r n 96 args h = D96 r n c96 x0 r96 (aG args) h).trans ((congrFun (congrFun (dTx r n) (aG args)) h).trans (by kernel_rfl))
noncomputable def s97 (r : RT) (n : Nat) (x0 : DV) (h0 : Hp) : aI :=
 bnd (aO x0 h0) fun v1 h1 =>
 bnd (aC 0 v1 h1) fun v2 h2 =>
 bnd (aA v2 h2) fun v3 h3 =>
 bnd (aO x0 h3) fun v4 h4 =>
 bnd (aC 3 v4 h4) fun v5 h5 =>
 bnd (aA v5 h5) fun v6 h6 =>
 bnd (aJ 1 v6 (.i .i64 (Int.ofNat 0)) h6) fun v7 h7 =>
 bnd (aA v7 h7) fun v8 h8 =>
 bnd (r 15 [v3, v8] h8) fun v9 h9 =>
 bnd (aB 0 v9 h9) fun v10 h10 =>
 bnd (aB 1 v9 h10) fun v11 h11 =>
 bnd (aD .sub v10 (.i .i64 (Int.ofNat 1)) h11) fun v12 h12 =>
 bnd (gD v11 true (some (v10, h12)) h12) fun v13 h13 =>
 bnd (gD v11 true (aD .geq v13 (.i .i64 (Int.ofNat 1)) h13) h13) fun v14 h14 =>
 bnd (aQ v11 v14 (.b false) h14) fun v15 h15 =>
 bnd (gD v15 true (some (v10, h15)) h15) fun v16 h16 =>
 bnd (gD v15 true (some (x0, h16)) h16) fun v17 h17 =>
 bnd (gD v15 true (aO v17 h17) h17) fun v18 h18 =>
 bnd (gD v15 true (aC 0 v18 h18) h18) fun v19 h19 =>
 bnd (gD v15 true (aA v19 h19) h19) fun v20 h20 =>
 bnd (gD v15 true (r 23 [v20] h20) h20) fun v21 h21 =>
 bnd (gD v15 true (some (x0, h21)) h21) fun v22 h22 =>
 bnd (gD v15 true (aO v22 h22) h22) fun v23 h23 =>
 bnd (gD v15 true (aC 2 v23 h23) h23) fun v24 h24 =>
 bnd (gD v15 true (aA v24 h24) h24) fun v25 h25 =>
 cnd (bJ (gD v15 true (aA v24 h11) h11) v25 && true) (
 bnd (gD v15 true (fZ [v21, v25] h25) h25) fun v26 h26 =>
 bnd (gD v15 true (aD .leq v16 v26 h26) h26) fun v27 h27 =>
 bnd (aQ v15 v27 (.b false) h27) fun v28 h28 =>
 some (.t [v12, v28], h28))
noncomputable abbrev c97 : Code := cf Tryz.f97
noncomputable abbrev r97 : K := aP CF Tryz.f97
noncomputable def D97 (r : RT) (n : Nat) (c : Code) (X : Nat → K) (k : K) : K := aM CF r 41 n c X r97 k
theorem dPj : D97 r n c97 x0 r97 = (K1 (s97 r n) 0) :=
 (by kernel_rfl)
theorem dGp : aE CF r n 97 args h = s97 r n (aS args 0) h :=
 (by kernel_rfl : aE CF r n 97 args h = D97 r n c97 x0 r97 (aG args) h).trans ((congrFun (congrFun (dPj r n) (aG args)) h).trans (by kernel_rfl))
noncomputable def vA (r : RT) (n : Nat) (x0 x1 x6 : DV) (h0 : Hp) : aI :=
 bnd (bL (bW 0 h0.next) [(.i .i64 (Int.ofNat 0))] 1 [(0, 1, (.i .i64 (Int.ofNat 11)))] (resv 1 h0)) fun v1 h1 =>
 bnd (r 96 [x0, v1] h1) fun v2 h2 =>
 bnd (gD v2 false (some (x0, h2)) h2) fun v3 h3 =>
 bnd (gD v2 false (aO v3 h3) h3) fun v4 h4 =>
 bnd (gD v2 false (aC 0 v4 h4) h4) fun v5 h5 =>
 bnd (gD v2 false (aA v5 h5) h5) fun v6 h6 =>
 bnd (gD v2 false (r 23 [v6] h6) h6) fun v7 h7 =>
 bnd (gD v2 false (some (x0, h7)) h7) fun v8 h8 =>
 bnd (gD v2 false (aO v8 h8) h8) fun v9 h9 =>
 bnd (gD v2 false (aC 2 v9 h9) h9) fun v10 h10 =>
 bnd (gD v2 false (aA v10 h10) h10) fun v11 h11 =>
 cnd (bJ (gD v2 false (aA v10 h2) h2) v11 && true) (
 bnd (gD v2 false (some (x1, h11)) h11) fun v12 h12 =>
 bnd (gD v2 false (some (x6, h12)) h12) fun v13 h13 =>
 bnd (gD v2 false (sH [v7, v11, v12, v13] h13) h13) fun v14 h14 =>
 bnd (gD v2 false (aD .neq v14 (.i .i64 (Int.ofNat 0)) h14) h14) fun v15 h15 =>
 bnd (aQ v2 (.b true) v15 h15) fun v16 h16 =>
 aT v16 (
 bnd (r 54 [] h16) fun v17 h17 =>
 bnd (aB 0 v17 h17) fun v18 h18 =>
 bnd (aB 1 v17 h18) fun v19 h19 =>
 some (.t [v18, v19], h19)) (
 bnd (aO x0 h16) fun v20 h20 =>
 bnd (aC 3 v20 h20) fun v21 h21 =>
 bnd (aA v21 h21) fun v22 h22 =>
 bnd (aJ 1 v22 (.i .i64 (Int.ofNat 1)) h22) fun v23 h23 =>
 bnd (aA v23 h23) fun v24 h24 =>
 some (.t [v24, (.i .i64 (Int.ofNat 0))], h24)))
noncomputable def aUy (r : RT) (n : Nat) (x0 x1 x6 : DV) (h0 : Hp) : aI :=
 bnd (aL [(.i .i64 (Int.ofNat 0))] 1 [(0, 1, (.i .i64 (Int.ofNat 10)))] h0) fun v1 h1 =>
 bnd (r 96 [x0, v1] h1) fun v2 h2 =>
 aT v2 (
 bnd (aO x0 h2) fun v3 h3 =>
 bnd (aC 0 v3 h3) fun v4 h4 =>
 bnd (aA v4 h4) fun v5 h5 =>
 bnd (r 15 [v5, x6] h5) fun v6 h6 =>
 bnd (aB 0 v6 h6) fun v7 h7 =>
 bnd (aB 1 v6 h7) fun v8 h8 =>
 bnd (dR .not v8 h8) fun v9 h9 =>
 aT v9 (
 bnd (r 54 [] h9) fun v10 h10 =>
 bnd (aB 0 v10 h10) fun v11 h11 =>
 bnd (aB 1 v10 h11) fun v12 h12 =>
 some (.t [v11, v12], h12)) (
   vA r n x0 x1 v7 h9)) (
  vA r n x0 x1 x6 h2)
noncomputable def bUl (r : RT) (n : Nat) (x0 x1 : DV) (h0 : Hp) : aI :=
 bnd (aO x0 h0) fun v1 h1 =>
 bnd (aC 3 v1 h1) fun v2 h2 =>
 bnd (aA v2 h2) fun v3 h3 =>
 bnd (aJ 1 v3 (.i .i64 (Int.ofNat 1)) h3) fun v4 h4 =>
 bnd (aA v4 h4) fun v5 h5 =>
  aUy r n x0 x1 v5 h5
noncomputable def s98 (r : RT) (n : Nat) (x0 x1 : DV) (h0 : Hp) : aI :=
 bUl r n x0 x1 h0
noncomputable abbrev c98 : Code := cf Tryz.f98
noncomputable abbrev aXd : Code := cR c98
noncomputable abbrev aXt : Code := cR aXd
noncomputable abbrev dLf : Code := cR aXt
noncomputable abbrev bHn : Code := cL aXt
noncomputable abbrev cQd : Code := cL aXd
noncomputable abbrev cRr : Code := cL c98
noncomputable abbrev r98 : K := aP CF Tryz.f98
noncomputable def D98 (r : RT) (n : Nat) (c : Code) (X : Nat → K) (k : K) : K := aM CF r 60 n c X r98 k
theorem cWn : D98 r n dLf x0 r98 = (K3 (vA r n) 0 1 6) :=
 (by kernel_rfl)
theorem cJr : D98 r n aXt x0 r98 = D98 r n bHn x0 (K3 (vA r n) 0 1 6) :=
 congrArg (fun k => D98 r n bHn x0 k) (cWn r n)
theorem cEp (q0 : nB) : D98 r n bHn x0 (K3 q0 0 1 6) = fun (env : aW) (h : Hp) =>
 bnd (aL [(.i .i64 (Int.ofNat 0))] 1 [(0, 1, (.i .i64 (Int.ofNat 10)))] h) fun v1 h1 =>
 bnd (r 96 [(env 0), v1] h1) fun v2 h2 =>
 aT v2 (
 bnd (aO (env 0) h2) fun v3 h3 =>
 bnd (aC 0 v3 h3) fun v4 h4 =>
 bnd (aA v4 h4) fun v5 h5 =>
 bnd (r 15 [v5, (env 6)] h5) fun v6 h6 =>
 bnd (aB 0 v6 h6) fun v7 h7 =>
 bnd (aB 1 v6 h7) fun v8 h8 =>
 bnd (dR .not v8 h8) fun v9 h9 =>
 aT v9 (
 bnd (r 54 [] h9) fun v10 h10 =>
 bnd (aB 0 v10 h10) fun v11 h11 =>
 bnd (aB 1 v10 h11) fun v12 h12 =>
 some (.t [v11, v12], h12)) (
    q0 (env 0) (env 1) v7 h9)) (
   q0 (env 0) (env 1) (env 6) h2) := by kernel_rfl
theorem bPs : (fun (env : aW) (h : Hp) =>
 bnd (aL [(.i .i64 (Int.ofNat 0))] 1 [(0, 1, (.i .i64 (Int.ofNat 10)))] h) fun v1 h1 =>
 bnd (r 96 [(env 0), v1] h1) fun v2 h2 =>
 aT v2 (
 bnd (aO (env 0) h2) fun v3 h3 =>
 bnd (aC 0 v3 h3) fun v4 h4 =>
 bnd (aA v4 h4) fun v5 h5 =>
 bnd (r 15 [v5, (env 6)] h5) fun v6 h6 =>
 bnd (aB 0 v6 h6) fun v7 h7 =>
 bnd (aB 1 v6 h7) fun v8 h8 =>
 bnd (dR .not v8 h8) fun v9 h9 =>
 aT v9 (
 bnd (r 54 [] h9) fun v10 h10 =>
 bnd (aB 0 v10 h10) fun v11 h11 =>
 bnd (aB 1 v10 h11) fun v12 h12 =>
 some (.t [v11, v12], h12)) (
    vA r n (env 0) (env 1) v7 h9)) (
   vA r n (env 0) (env 1) (env 6) h2)) = (K3 (aUy r n) 0 1 6) := by kernel_rfl
theorem dDk : D98 r n aXt x0 r98 = (K3 (aUy r n) 0 1 6) :=
 (cJr r n).trans
 ((cEp r n (vA r n)).trans (bPs r n))
theorem cEs : D98 r n aXd x0 r98 = D98 r n cQd x0 (K3 (aUy r n) 0 1 6) :=
 congrArg (fun k => D98 r n cQd x0 k) (dDk r n)
theorem dDz : D98 r n aXd x0 r98 = (K2 (bUl r n) 0 1) :=
 (cEs r n).trans
 ((by kernel_rfl))
theorem dLe : D98 r n c98 x0 r98 = D98 r n cRr x0 (K2 (bUl r n) 0 1) :=
 congrArg (fun k => D98 r n cRr x0 k) (dDz r n)
theorem dTr : D98 r n c98 x0 r98 = (K2 (s98 r n) 0 1) :=
 (dLe r n).trans
 ((by kernel_rfl))
theorem dFv : aE CF r n 98 args h = s98 r n (aS args 0) (aS args 1) h :=
 (by kernel_rfl : aE CF r n 98 args h = D98 r n c98 x0 r98 (aG args) h).trans ((congrFun (congrFun (dTr r n) (aG args)) h).trans (by kernel_rfl))
noncomputable def s99 (r : RT) (n : Nat) (x0 : DV) (h0 : Hp) : aI :=
 bnd (bR lR h0) fun v1 h1 =>
 bnd (r 110 [x0, (.f 111 [] [])] h1) fun v2 h2 =>
 bnd (aB 0 v2 h2) fun v3 h3 =>
 bnd (aB 1 v2 h3) fun v4 h4 =>
 bnd (aB 2 v2 h4) fun v5 h5 =>
 bnd (aH 6 v1 v3 h5) fun _ h6 =>
 bnd (aK 6 v1 h6) fun v7 _ =>
 some (.t [v7, v4, v5], h6)
noncomputable abbrev c99 : Code := cf Tryz.f99
noncomputable abbrev r99 : K := aP CF Tryz.f99
noncomputable def D99 (r : RT) (n : Nat) (c : Code) (X : Nat → K) (k : K) : K := aM CF r 10 n c X r99 k
theorem dUe : D99 r n c99 x0 r99 = (K1 (s99 r n) 0) :=
 (by kernel_rfl)
theorem dIm : aE CF r n 99 args h = s99 r n (aS args 0) h :=
 (by kernel_rfl : aE CF r n 99 args h = D99 r n c99 x0 r99 (aG args) h).trans ((congrFun (congrFun (dUe r n) (aG args)) h).trans (by kernel_rfl))
noncomputable def s100 (r : RT) (n : Nat) (x0 x1 : DV) (h0 : Hp) : aI :=
 bnd (bX x0 h0) fun v1 h1 =>
 bnd (bR [(.s []), (aF 0), (aF 0), (aF 0), .l0, .l0] h1) fun v2 h2 =>
 bnd (aK 6 v1 h2) fun v3 h3 =>
 bnd (r 112 [v3, x1, (.b false)] h3) fun v4 h4 =>
 bnd (aB 0 v4 h4) fun v5 h5 =>
 bnd (aB 1 v4 h5) fun v6 h6 =>
 bnd (aB 2 v4 h6) fun v7 h7 =>
 bnd (aH 6 v2 v5 h7) fun _ h8 =>
 bnd (aK 6 v2 h8) fun v9 _ =>
 some (.t [v9, v6, v7], h8)
noncomputable abbrev c100 : Code := cf Tryz.f100
noncomputable abbrev r100 : K := aP CF Tryz.f100
noncomputable def D100 (r : RT) (n : Nat) (c : Code) (X : Nat → K) (k : K) : K := aM CF r 13 n c X r100 k
theorem dNf : D100 r n c100 x0 r100 = (K2 (s100 r n) 0 1) :=
 (by kernel_rfl)
theorem dBl : aE CF r n 100 args h = s100 r n (aS args 0) (aS args 1) h :=
 (by kernel_rfl : aE CF r n 100 args h = D100 r n c100 x0 r100 (aG args) h).trans ((congrFun (congrFun (dNf r n) (aG args)) h).trans (by kernel_rfl))
noncomputable def s101 (r : RT) (n : Nat) (x0 x1 x2 : DV) (h0 : Hp) : aI :=
 bnd (bX x2 h0) fun v1 h1 =>
 bnd (aK 6 v1 h1) fun v2 h2 =>
 bnd (r 113 [x0, x1, v2] h2) fun v3 h3 =>
 bnd (aB 0 v3 h3) fun v4 h4 =>
 bnd (aB 1 v3 h4) fun v5 h5 =>
 bnd (aD .neq v5 (aF 0) h5) fun v6 h6 =>
 aT v6 (
 some (.t [(aF 0), v5], h6)) (
 bnd (r 51 [x0, v4, (aF 0)] h6) fun v7 h7 =>
 bnd (r 114 [x0, x1, v7, v4] h7) fun v8 h8 =>
 bnd (aD .neq v8 (aF 0) h8) fun v9 h9 =>
 aT v9 (
 some (.t [(aF 0), v8], h9)) (
 some (.t [v4, (aF 0)], h9)))
noncomputable abbrev c101 : Code := cf Tryz.f101
noncomputable abbrev r101 : K := aP CF Tryz.f101
noncomputable def D101 (r : RT) (n : Nat) (c : Code) (X : Nat → K) (k : K) : K := aM CF r 32 n c X r101 k
theorem dHj : D101 r n c101 x0 r101 = (K3 (s101 r n) 0 1 2) :=
 (by kernel_rfl)
theorem dEp : aE CF r n 101 args h = s101 r n (aS args 0) (aS args 1) (aS args 2) h :=
 (by kernel_rfl : aE CF r n 101 args h = D101 r n c101 x0 r101 (aG args) h).trans ((congrFun (congrFun (dHj r n) (aG args)) h).trans (by kernel_rfl))
noncomputable def s104 (r : RT) (n : Nat) (x0 : DV) (h0 : Hp) : aI :=
 bnd (r 88 [x0, (.i .i64 (Int.negSucc 1152921504606846975)), (.i .i64 (Int.ofNat 1152921504606846976))] h0) fun v1 h1 =>
 some (v1, h1)
noncomputable abbrev c104 : Code := cf Tryz.f104
noncomputable abbrev r104 : K := aP CF Tryz.f104
noncomputable def D104 (r : RT) (n : Nat) (c : Code) (X : Nat → K) (k : K) : K := aM CF r 5 n c X r104 k
theorem dFu : D104 r n c104 x0 r104 = (K1 (s104 r n) 0) :=
 (by kernel_rfl)
theorem bNj : aE CF r n 104 args h = s104 r n (aS args 0) h :=
 (by kernel_rfl : aE CF r n 104 args h = D104 r n c104 x0 r104 (aG args) h).trans ((congrFun (congrFun (dFu r n) (aG args)) h).trans (by kernel_rfl))
noncomputable def s105 (r : RT) (n : Nat) (x0 : DV) (h0 : Hp) : aI :=
 bnd (r 104 [x0] h0) fun v1 h1 =>
 bnd (dR .not v1 h1) fun v2 h2 =>
 aT v2 (
 some (.t [(.i .i64 (Int.ofNat 0)), (.i .i64 (Int.ofNat 2))], h2)) (
 some (.t [x0, (.i .i64 (Int.ofNat 0))], h2))
noncomputable abbrev c105 : Code := cf Tryz.f105
noncomputable abbrev r105 : K := aP CF Tryz.f105
noncomputable def D105 (r : RT) (n : Nat) (c : Code) (X : Nat → K) (k : K) : K := aM CF r 8 n c X r105 k
theorem dKm : D105 r n c105 x0 r105 = (K1 (s105 r n) 0) :=
 (by kernel_rfl)
theorem bWt : aE CF r n 105 args h = s105 r n (aS args 0) h :=
 (by kernel_rfl : aE CF r n 105 args h = D105 r n c105 x0 r105 (aG args) h).trans ((congrFun (congrFun (dKm r n) (aG args)) h).trans (by kernel_rfl))
noncomputable def s106 (r : RT) (n : Nat) (x0 : DV) (h0 : Hp) : aI :=
 bnd (r 104 [x0] h0) fun v1 h1 =>
 bnd (dR .not v1 h1) fun v2 h2 =>
 aT v2 (
 some (x0, h2)) (
 bnd (dR .neg x0 h2) fun v3 h3 =>
 some (v3, h3))
noncomputable abbrev c106 : Code := cf Tryz.f106
noncomputable abbrev r106 : K := aP CF Tryz.f106
noncomputable def D106 (r : RT) (n : Nat) (c : Code) (X : Nat → K) (k : K) : K := aM CF r 9 n c X r106 k
theorem dNd : D106 r n c106 x0 r106 = (K1 (s106 r n) 0) :=
 (by kernel_rfl)
theorem bVt : aE CF r n 106 args h = s106 r n (aS args 0) h :=
 (by kernel_rfl : aE CF r n 106 args h = D106 r n c106 x0 r106 (aG args) h).trans ((congrFun (congrFun (dNd r n) (aG args)) h).trans (by kernel_rfl))
noncomputable def s107 (r : RT) (n : Nat) (x0 x1 : DV) (h0 : Hp) : aI :=
 aT (.b false) (
 bnd (cW .u32 x0 h0) fun v1 h1 =>
 bnd (cW .u32 x1 h1) fun v2 h2 =>
 bnd (r 115 [v1, v2] h2) fun v3 h3 =>
 bnd (aB 0 v3 h3) fun v4 h4 =>
 bnd (aB 1 v3 h4) fun v5 h5 =>
 bnd (cW .u64 v4 h5) fun v6 h6 =>
 bnd (cW .u64 v5 h6) fun v7 h7 =>
 some (.t [v6, v7], h7)) (
 bnd (r 116 [x0, x1] h0) fun v8 h8 =>
 bnd (aB 0 v8 h8) fun v9 h9 =>
 bnd (aB 1 v8 h9) fun v10 h10 =>
 some (.t [v9, v10], h10))
noncomputable abbrev c107 : Code := cf Tryz.f107
noncomputable abbrev r107 : K := aP CF Tryz.f107
noncomputable def D107 (r : RT) (n : Nat) (c : Code) (X : Nat → K) (k : K) : K := aM CF r 30 n c X r107 k
theorem dNe : D107 r n c107 x0 r107 = (K2 (s107 r n) 0 1) :=
 (by kernel_rfl)
theorem cAn : aE CF r n 107 args h = s107 r n (aS args 0) (aS args 1) h :=
 (by kernel_rfl : aE CF r n 107 args h = D107 r n c107 x0 r107 (aG args) h).trans ((congrFun (congrFun (dNe r n) (aG args)) h).trans (by kernel_rfl))
noncomputable def yC (r : RT) (n : Nat) (x7 x8 : DV) (h0 : Hp) : aI :=
 some (.t [x7, x8, (.i .i64 (Int.ofNat 0))], h0)
noncomputable def aBo (r : RT) (n : Nat) (x1 x7 x8 : DV) (h0 : Hp) : aI :=
 bnd (aD .neq x8 (.i .i64 (Int.ofNat 0)) h0) fun v1 h1 =>
 bnd (gD v1 true (some (x8, h1)) h1) fun v2 h2 =>
 bnd (gD v1 true (aD .lss v2 (.i .i64 (Int.ofNat 0)) h2) h2) fun v3 h3 =>
 bnd (gD v1 true (some (x1, h3)) h3) fun v4 h4 =>
 bnd (gD v1 true (aD .lss v4 (.i .i64 (Int.ofNat 0)) h4) h4) fun v5 h5 =>
 bnd (gD v1 true (pEq .bool false v3 v5 h5) h5) fun v6 h6 =>
 bnd (aQ v1 v6 (.b false) h6) fun v7 h7 =>
 aT v7 (
 bnd (aD .sub x7 (.i .i64 (Int.ofNat 1)) h7) fun v8 h8 =>
 bnd (aD .add x8 x1 h8) fun v9 h9 =>
  yC r n v8 v9 h9) (
  yC r n x7 x8 h7)
noncomputable def aEw (r : RT) (n : Nat) (x0 x1 : DV) (h0 : Hp) : aI :=
 bnd (aD .quo x0 x1 h0) fun v1 h1 =>
 bnd (aD .rem x0 x1 h1) fun v2 h2 =>
  aBo r n x1 v1 v2 h2
noncomputable def aFz (r : RT) (n : Nat) (x0 x1 : DV) (h0 : Hp) : aI :=
 bnd (r 104 [x0] h0) fun v1 h1 =>
 bnd (dR .not v1 h1) fun v2 h2 =>
 bnd (gD v2 false (some (x1, h2)) h2) fun v3 h3 =>
 bnd (gD v2 false (r 104 [v3] h3) h3) fun v4 h4 =>
 bnd (gD v2 false (dR .not v4 h4) h4) fun v5 h5 =>
 bnd (aQ v2 (.b true) v5 h5) fun v6 h6 =>
 aT v6 (
 some (.t [(.i .i64 (Int.ofNat 0)), (.i .i64 (Int.ofNat 0)), (.i .i64 (Int.ofNat 2))], h6)) (
 bnd (aD .eql x1 (.i .i64 (Int.ofNat 0)) h6) fun v7 h7 =>
 aT v7 (
 some (.t [(.i .i64 (Int.ofNat 0)), (.i .i64 (Int.ofNat 0)), (.i .i64 (Int.ofNat 3))], h7)) (
   aEw r n x0 x1 h7))
noncomputable def s108 (r : RT) (n : Nat) (x0 x1 : DV) (h0 : Hp) : aI :=
 aFz r n x0 x1 h0
noncomputable abbrev c108 : Code := cf Tryz.f108
noncomputable abbrev aEk : Code := cR c108
noncomputable abbrev aCv : Code := cR aEk
noncomputable abbrev aEd : Code := cR aCv
noncomputable abbrev cTf : Code := cR aEd
noncomputable abbrev bUx : Code := cL aEd
noncomputable abbrev bLk : Code := cL aCv
noncomputable abbrev cAm : Code := cL aEk
noncomputable abbrev bGs : Code := cL c108
noncomputable abbrev r108 : K := aP CF Tryz.f108
noncomputable def D108 (r : RT) (n : Nat) (c : Code) (X : Nat → K) (k : K) : K := aM CF r 43 n c X r108 k
theorem cAt : D108 r n cTf x0 r108 = (K2 (yC r n) 7 8) :=
 (by kernel_rfl)
theorem bUn : D108 r n aEd x0 r108 = D108 r n bUx x0 (K2 (yC r n) 7 8) :=
 congrArg (fun k => D108 r n bUx x0 k) (cAt r n)
theorem cDv : D108 r n aEd x0 r108 = (K3 (aBo r n) 1 7 8) :=
 (bUn r n).trans
 ((by kernel_rfl))
theorem bTl : D108 r n aCv x0 r108 = D108 r n bLk x0 (K3 (aBo r n) 1 7 8) :=
 congrArg (fun k => D108 r n bLk x0 k) (cDv r n)
theorem cNb : D108 r n aCv x0 r108 = (K2 (aEw r n) 0 1) :=
 (bTl r n).trans
 ((by kernel_rfl))
theorem bIp : D108 r n aEk x0 r108 = D108 r n cAm x0 (K2 (aEw r n) 0 1) :=
 congrArg (fun k => D108 r n cAm x0 k) (cNb r n)
theorem cIt : D108 r n aEk x0 r108 = (K2 (aFz r n) 0 1) :=
 (bIp r n).trans
 ((by kernel_rfl))
theorem cVf : D108 r n c108 x0 r108 = D108 r n bGs x0 (K2 (aFz r n) 0 1) :=
 congrArg (fun k => D108 r n bGs x0 k) (cIt r n)
theorem dLu : D108 r n c108 x0 r108 = (K2 (s108 r n) 0 1) :=
 (cVf r n).trans
 ((by kernel_rfl))
theorem bRf : aE CF r n 108 args h = s108 r n (aS args 0) (aS args 1) h :=
 (by kernel_rfl : aE CF r n 108 args h = D108 r n c108 x0 r108 (aG args) h).trans ((congrFun (congrFun (dLu r n) (aG args)) h).trans (by kernel_rfl))
noncomputable def s109 (r : RT) (n : Nat) (x0 x1 x2 : DV) (h0 : Hp) : aI :=
 bnd (aA x1 h0) fun v1 h1 =>
 bnd (aO v1 h1) fun v2 h2 =>
 bnd (aC 0 v2 h2) fun v3 h3 =>
 bnd (aA v3 h3) fun v4 h4 =>
 bnd (r 30 [v4, x0] h4) fun v5 h5 =>
 bnd (aA x2 h5) fun v6 h6 =>
 cnd (bJ (aA x2 h0) v6 && true) (
 bnd (aD .eql v5 v6 h6) fun v7 h7 =>
 some (v7, h7))
noncomputable abbrev c109 : Code := cf Tryz.f109
noncomputable abbrev r109 : K := aP CF Tryz.f109
noncomputable def D109 (r : RT) (n : Nat) (c : Code) (X : Nat → K) (k : K) : K := aM CF r 13 n c X r109 k
theorem dNn : D109 r n c109 x0 r109 = (K3 (s109 r n) 0 1 2) :=
 (by kernel_rfl)
theorem cYu : aE CF r n 109 args h = s109 r n (aS args 0) (aS args 1) (aS args 2) h :=
 (by kernel_rfl : aE CF r n 109 args h = D109 r n c109 x0 r109 (aG args) h).trans ((congrFun (congrFun (dNn r n) (aG args)) h).trans (by kernel_rfl))
noncomputable def s110 (r : RT) (n : Nat) (x0 x1 : DV) (h0 : Hp) : aI :=
 bnd (bR lR h0) fun v1 h1 =>
 bnd (r 117 [x0] h1) fun v2 h2 =>
 bnd (aB 0 v2 h2) fun v3 h3 =>
 bnd (aB 1 v2 h3) fun v4 h4 =>
 bnd (aB 2 v2 h4) fun v5 h5 =>
 bnd (aD .neq v5 (aF 0) h5) fun v6 h6 =>
 aT v6 (
 bnd (bD lR [] h6) fun v7 h7 =>
 bnd (aH 6 v1 v7 h7) fun _ h8 =>
 bnd (aK 6 v1 h8) fun v9 _ =>
 some (.t [v9, v4, v5], h8)) (
 bnd (bD [.l0, (aF 0), (aF 0), (aF 0)] [(0, 1, v3)] h6) fun v10 h10 =>
 bnd (bX v10 h10) fun v11 h11 =>
 bnd (fO CF r x1 [v11] h11) fun v12 h12 =>
 bnd (bR lR h12) fun v13 h13 =>
 bnd (aH 6 v13 v12 h13) fun _ h14 =>
 bnd (r 118 [v11] h14) fun v15 h15 =>
 bnd (aC 4 v13 h15) fun v16 h16 =>
 bnd (aH 1 v16 v15 h16) fun _ h17 =>
 bnd (r 119 [v11] h17) fun v18 h18 =>
 bnd (aC 5 v13 h18) fun v19 h19 =>
 bnd (aH 1 v19 v18 h19) fun _ h20 =>
 bnd (r 120 [v11, (aF 0), (.s [])] h20) fun v21 h21 =>
 bnd (aO v11 h21) fun v22 h22 =>
 bnd (aC 3 v22 h22) fun v23 h23 =>
 bnd (aA v23 h23) fun v24 h24 =>
 bnd (aD .neq v24 (aF 0) h24) fun v25 h25 =>
 aT v25 (
 bnd (bD lR [] h25) fun v26 h26 =>
 bnd (aO v11 h26) fun v27 h27 =>
 bnd (aC 2 v27 h27) fun v28 h28 =>
 bnd (aA v28 h28) fun v29 h29 =>
 bnd (aO v11 h29) fun v30 h30 =>
 bnd (aC 3 v30 h30) fun v31 h31 =>
 bnd (aA v31 h31) fun v32 h32 =>
 bnd (aH 6 v1 v26 h32) fun v33 h33 =>
 cnd (bJ (aA v31 h33) v32 && (bJ (aA v28 h33) v29 && true)) (
 bnd (aK 6 v1 h33) fun v34 _ =>
 some (.t [v34, v29, v32], h33))) (
 bnd (aK 6 v13 h25) fun v35 h35 =>
 bnd (aH 6 v1 v35 h35) fun _ h36 =>
 bnd (aK 6 v1 h36) fun v37 _ =>
 some (.t [v37, (aF 0), (aF 0)], h36)))
noncomputable abbrev c110 : Code := cf Tryz.f110
noncomputable abbrev r110 : K := aP CF Tryz.f110
noncomputable def D110 (r : RT) (n : Nat) (c : Code) (X : Nat → K) (k : K) : K := aM CF r 52 n c X r110 k
theorem dNu : D110 r n c110 x0 r110 = (K2 (s110 r n) 0 1) :=
 (by kernel_rfl)
theorem dCi : aE CF r n 110 args h = s110 r n (aS args 0) (aS args 1) h :=
 (by kernel_rfl : aE CF r n 110 args h = D110 r n c110 x0 r110 (aG args) h).trans ((congrFun (congrFun (dNu r n) (aG args)) h).trans (by kernel_rfl))
noncomputable def s111 (r : RT) (n : Nat) (x0 : DV) (h0 : Hp) : aI :=
 bnd (bR lR h0) fun v1 h1 =>
 bnd (bD lR [(0, 1, (aF 11))] h1) fun v2 h2 =>
 bnd (bR lR h2) fun v3 h3 =>
 bnd (aH 6 v3 v2 h3) fun _ h4 =>
 bnd (r 121 [x0, v3] h4) fun v5 h5 =>
 bnd (r 122 [x0] h5) fun v6 h6 =>
 bnd (aC 2 v3 h6) fun v7 h7 =>
 bnd (aH 1 v7 v6 h7) fun _ h8 =>
 bnd (aK 6 v3 h8) fun v9 h9 =>
 bnd (aH 6 v1 v9 h9) fun _ h10 =>
 bnd (aK 6 v1 h10) fun v11 _ =>
 some (v11, h10)
noncomputable abbrev c111 : Code := cf Tryz.f111
noncomputable abbrev r111 : K := aP CF Tryz.f111
noncomputable def D111 (r : RT) (n : Nat) (c : Code) (X : Nat → K) (k : K) : K := aM CF r 11 n c X r111 k
theorem dGn : D111 r n c111 x0 r111 = (K1 (s111 r n) 0) :=
 (by kernel_rfl)
theorem cXi : aE CF r n 111 args h = s111 r n (aS args 0) h :=
 (by kernel_rfl : aE CF r n 111 args h = D111 r n c111 x0 r111 (aG args) h).trans ((congrFun (congrFun (dGn r n) (aG args)) h).trans (by kernel_rfl))
noncomputable def eG (r : RT) (n : Nat) (x6 x9 : DV) (h0 : Hp) : aI :=
 bnd (aO x9 h0) fun v1 h1 =>
 bnd (aC 0 v1 h1) fun v2 h2 =>
 bnd (aK 6 v2 h2) fun v3 h3 =>
 bnd (aH 6 x6 v3 h3) fun _ h4 =>
 bnd (aK 6 x6 h4) fun v5 _ =>
 some (.t [v5, (.s []), (aF 0)], h4)
noncomputable def aCb (r : RT) (n : Nat) (kk9 : cF) (x6 x9 x94 x95 x96 : DV) (h0 : Hp) : aI :=
 bnd (aD .lss x96 x95 h0) fun v1 h1 =>
 aT v1 (
 bnd (aJ 3 x94 x96 h1) fun v2 h2 =>
 bnd (aK 3 v2 h2) fun v3 h3 =>
 bnd (bR [(aF 0), (aF 0), (aF 0)] h3) fun v4 h4 =>
 bnd (aH 3 v4 v3 h4) fun _ h5 =>
 bnd (aK 3 v4 h5) fun v6 h6 =>
 bnd (r 124 [v6] h6) fun v7 h7 =>
 bnd (dR .not v7 h7) fun v8 h8 =>
 aT v8 (
 bnd (bD [(.s []), (aF 0), (aF 0), (aF 0), .l0, .l0] [] h8) fun v9 h9 =>
 bnd (aH 6 x6 v9 h9) fun _ h10 =>
 bnd (aK 6 x6 h10) fun v11 _ =>
 some (.t [v11, (.s []), (aF 12)], h10)) (
 bnd (aD .add x96 (aF 1) h8) fun v12 h12 =>
    kk9 x6 x9 x94 x95 v12 h12)) (
      eG r n x6 x9 h1)
noncomputable def uC (r : RT) (n : Nat) (m : Nat) : cF :=
 Nat.rec (motive := fun _ => cF) (fun _ _ _ _ _ _ => none) (fun _ ih => aCb r n ih) m
noncomputable def bXj (r : RT) (n : Nat) : cF := uC r n n
noncomputable def aPx (r : RT) (n : Nat) (x6 x9 x94 x95 x96 : DV) (h0 : Hp) : aI :=
 bXj r n x6 x9 x94 x95 x96 h0
noncomputable def yH (r : RT) (n : Nat) (x6 x9 : DV) (h0 : Hp) : aI :=
 bnd (aO x9 h0) fun v1 h1 =>
 bnd (aC 0 v1 h1) fun v2 h2 =>
 bnd (aC 5 v2 h2) fun v3 h3 =>
 bnd (aA v3 h3) fun v4 h4 =>
 bnd (cJ v4 h4) fun v5 h5 =>
  aPx r n x6 x9 v4 v5 (aF 0) h5
noncomputable def aGr (r : RT) (n : Nat) (x6 x9 : DV) (h0 : Hp) : aI :=
 bnd (aO x9 h0) fun v1 h1 =>
 bnd (aC 8 v1 h1) fun v2 h2 =>
 bnd (aA v2 h2) fun v3 h3 =>
 bnd (aD .neq v3 (aF 0) h3) fun v4 h4 =>
 aT v4 (
 bnd (bD [(.s []), (aF 0), (aF 0), (aF 0), .l0, .l0] [] h4) fun v5 h5 =>
 bnd (aO x9 h5) fun v6 h6 =>
 bnd (aC 7 v6 h6) fun v7 h7 =>
 bnd (aA v7 h7) fun v8 h8 =>
 bnd (aO x9 h8) fun v9 h9 =>
 bnd (aC 8 v9 h9) fun v10 h10 =>
 bnd (aA v10 h10) fun v11 h11 =>
 bnd (aH 6 x6 v5 h11) fun v12 h12 =>
 cnd (bJ (aA v10 h12) v11 && (bJ (aA v7 h12) v8 && true)) (
 bnd (aK 6 x6 h12) fun v13 _ =>
 some (.t [v13, v8, v11], h12))) (
 bnd (aO x9 h4) fun v14 h14 =>
 bnd (aC 0 v14 h14) fun v15 h15 =>
 bnd (aC 4 v15 h15) fun v16 h16 =>
 bnd (aA v16 h16) fun v17 h17 =>
 bnd (cJ v17 h17) fun v18 h18 =>
 bnd (aD .gtr v18 (aF 60) h18) fun v19 h19 =>
 aT v19 (
 bnd (bD [(.s []), (aF 0), (aF 0), (aF 0), .l0, .l0] [] h19) fun v20 h20 =>
 bnd (aH 6 x6 v20 h20) fun _ h21 =>
 bnd (aK 6 x6 h21) fun v22 _ =>
 some (.t [v22, (.s []), (aF 18)], h21)) (
 bnd (aO x9 h19) fun v23 h23 =>
 bnd (aC 0 v23 h23) fun v24 h24 =>
 bnd (aC 5 v24 h24) fun v25 h25 =>
 bnd (aA v25 h25) fun v26 h26 =>
 bnd (cJ v26 h26) fun v27 h27 =>
 bnd (aD .gtr v27 (aF 400) h27) fun v28 h28 =>
 aT v28 (
 bnd (bD [(.s []), (aF 0), (aF 0), (aF 0), .l0, .l0] [] h28) fun v29 h29 =>
 bnd (aH 6 x6 v29 h29) fun _ h30 =>
 bnd (aK 6 x6 h30) fun v31 _ =>
 some (.t [v31, (.s []), (aF 12)], h30)) (
    yH r n x6 x9 h28)))
noncomputable def eD (r : RT) (n : Nat) (x2 x3 x6 x9 : DV) (h0 : Hp) : aI :=
 bnd (aK 6 x3 h0) fun v1 h1 =>
 bnd (r 123 [x9, v1, x2] h1) fun v2 h2 =>
  aGr r n x6 x9 h2
noncomputable def zF (r : RT) (n : Nat) (kk11 : TT7) (x2 x3 x6 x9 x33 x34 x35 : DV) (h0 : Hp) : aI :=
 bnd (aD .lss x35 x34 h0) fun v1 h1 =>
 aT v1 (
 bnd (aJ 1 x33 x35 h1) fun v2 h2 =>
 bnd (aA v2 h2) fun v3 h3 =>
 bnd (aO x9 h3) fun v4 h4 =>
 bnd (aC 6 v4 h4) fun v5 h5 =>
 bnd (aA v5 h5) fun v6 h6 =>
 bnd (bD [(.s []), (.b false), (.b false), (aF 0)] [(0, 1, v3), (1, 1, (.b true)), (2, 1, (.b false)), (3, 1, x35)] h6) fun v7 h7 =>
 bnd (aL [(.s []), (.b false), (.b false), (aF 0)] 1 [(0, 4, v7)] h7) fun v8 h8 =>
 bnd (bB 4 32 v6 v8 h8) fun v9 h9 =>
 bnd (aO x9 h9) fun v10 h10 =>
 bnd (aC 6 v10 h10) fun v11 h11 =>
 bnd (aH 1 v11 v9 h11) fun _ h12 =>
 bnd (aD .add x35 (aF 1) h12) fun v13 h13 =>
      kk11 x2 x3 x6 x9 x33 x34 v13 h13) (
      eD r n x2 x3 x6 x9 h1)
noncomputable def pE (r : RT) (n : Nat) (m : Nat) : TT7 :=
 Nat.rec (motive := fun _ => TT7) (fun _ _ _ _ _ _ _ _ => none) (fun _ ih => zF r n ih) m
noncomputable def bAi (r : RT) (n : Nat) : TT7 := pE r n n
noncomputable def aHc (r : RT) (n : Nat) (x2 x3 x6 x9 x33 x34 x35 : DV) (h0 : Hp) : aI :=
 bAi r n x2 x3 x6 x9 x33 x34 x35 h0
noncomputable def yQ (r : RT) (n : Nat) (x1 x2 x3 x6 x9 : DV) (h0 : Hp) : aI :=
 bnd (cJ x1 h0) fun v1 h1 =>
  aHc r n x2 x3 x6 x9 x1 v1 (aF 0) h1
noncomputable def qR (r : RT) (n : Nat) (x1 x2 x3 x6 : DV) (h0 : Hp) : aI :=
 bnd (aC 1 x3 h0) fun v1 h1 =>
 bnd (aA v1 h1) fun v2 h2 =>
 bnd (aC 3 x3 h2) fun v3 h3 =>
 bnd (aA v3 h3) fun v4 h4 =>
 bnd (cJ v4 h4) fun v5 h5 =>
 bnd (aC 2 x3 h5) fun v6 h6 =>
 bnd (aA v6 h6) fun v7 h7 =>
 bnd (bD [(.s []), (aF 0), (aF 0), (aF 0), .l0, .l0] [(0, 1, v2), (1, 1, v5), (3, 1, v7)] h7) fun v8 h8 =>
 bnd (bD [(.s []), (aF 0), (aF 0), (aF 0), .l0, .l0, .l0, (.s []), (aF 0)] [(0, 6, v8)] h8) fun v9 h9 =>
 bnd (bX v9 h9) fun v10 h10 =>
  yQ r n x1 x2 x3 x6 v10 h10
noncomputable def qA (r : RT) (n : Nat) (x1 x2 x3 x6 : DV) (h0 : Hp) : aI :=
 bnd (aC 0 x3 h0) fun v1 h1 =>
 bnd (aA v1 h1) fun v2 h2 =>
 bnd (aD .neq v2 (aF 11) h2) fun v3 h3 =>
 bnd (gD v3 false (some (x1, h3)) h3) fun v4 h4 =>
 bnd (gD v3 false (cJ v4 h4) h4) fun v5 h5 =>
 bnd (gD v3 false (aD .gtr v5 (aF 8) h5) h5) fun v6 h6 =>
 bnd (aQ v3 (.b true) v6 h6) fun v7 h7 =>
 aT v7 (
 bnd (bD [(.s []), (aF 0), (aF 0), (aF 0), .l0, .l0] [] h7) fun v8 h8 =>
 bnd (aH 6 x6 v8 h8) fun _ h9 =>
 bnd (aK 6 x6 h9) fun v10 _ =>
 some (.t [v10, (.s []), (aF 1)], h9)) (
  qR r n x1 x2 x3 x6 h7)
noncomputable def s112 (r : RT) (n : Nat) (x0 x1 x2 : DV) (h0 : Hp) : aI :=
 bnd (bX x0 h0) fun v1 h1 =>
 bnd (bR [(.s []), (aF 0), (aF 0), (aF 0), .l0, .l0] h1) fun v2 h2 =>
  qA r n x1 x2 v1 v2 h2
noncomputable abbrev c112 : Code := cf Tryz.f112
noncomputable abbrev aDp : Code := cR c112
noncomputable abbrev aHv : Code := cR aDp
noncomputable abbrev aJo : Code := cR aHv
noncomputable abbrev aDr : Code := cR aJo
noncomputable abbrev aIw : Code := cR aDr
noncomputable abbrev aDg : Code := cR aIw
noncomputable abbrev dDt : Code := cR aDg
noncomputable abbrev wY : Code := cL aDg
noncomputable abbrev aQe : Code := cR wY
noncomputable abbrev tC : Code := cL aQe
noncomputable abbrev jT : Code := cL tC
noncomputable abbrev aXk : Code := cL wY
noncomputable abbrev aFu : Code := cL aIw
noncomputable abbrev bAd : Code := cL aDr
noncomputable abbrev pS : Code := cL aJo
noncomputable abbrev aHi : Code := cR pS
noncomputable abbrev sY : Code := cL aHi
noncomputable abbrev jR : Code := cL sY
noncomputable abbrev aVa : Code := cL pS
noncomputable abbrev aDi : Code := cL aHv
noncomputable abbrev aBb : Code := cL aDp
noncomputable abbrev aIf : Code := cL c112
noncomputable abbrev r112 : K := aP CF Tryz.f112
noncomputable def D112 (r : RT) (n : Nat) (c : Code) (X : Nat → K) (k : K) : K := aM CF r 109 n c X r112 k
theorem cCe : D112 r n dDt x0 r112 = (K2 (eG r n) 6 9) :=
 (by kernel_rfl)
theorem bIn (kk9 : cF) (q0 : rP) : D112 r n jT (xs x0 3 (K2 q0 6 9)) (K5 kk9 6 9 94 95 96) = fun (env : aW) (h : Hp) =>
 bnd (aD .lss (env 96) (env 95) h) fun v1 h1 =>
 aT v1 (
 bnd (aJ 3 (env 94) (env 96) h1) fun v2 h2 =>
 bnd (aK 3 v2 h2) fun v3 h3 =>
 bnd (bR [(aF 0), (aF 0), (aF 0)] h3) fun v4 h4 =>
 bnd (aH 3 v4 v3 h4) fun _ h5 =>
 bnd (aK 3 v4 h5) fun v6 h6 =>
 bnd (r 124 [v6] h6) fun v7 h7 =>
 bnd (dR .not v7 h7) fun v8 h8 =>
 aT v8 (
 bnd (bD [(.s []), (aF 0), (aF 0), (aF 0), .l0, .l0] [] h8) fun v9 h9 =>
 bnd (aH 6 (env 6) v9 h9) fun _ h10 =>
 bnd (aK 6 (env 6) h10) fun v11 _ =>
 some (.t [v11, (.s []), (aF 12)], h10)) (
 bnd (aD .add (env 96) (aF 1) h8) fun v12 h12 =>
    kk9 (env 6) (env 9) (env 94) (env 95) v12 h12)) (
      q0 (env 6) (env 9) h1) := by kernel_rfl
theorem bFp (kk9 : cF) : (fun (env : aW) (h : Hp) =>
 bnd (aD .lss (env 96) (env 95) h) fun v1 h1 =>
 aT v1 (
 bnd (aJ 3 (env 94) (env 96) h1) fun v2 h2 =>
 bnd (aK 3 v2 h2) fun v3 h3 =>
 bnd (bR [(aF 0), (aF 0), (aF 0)] h3) fun v4 h4 =>
 bnd (aH 3 v4 v3 h4) fun _ h5 =>
 bnd (aK 3 v4 h5) fun v6 h6 =>
 bnd (r 124 [v6] h6) fun v7 h7 =>
 bnd (dR .not v7 h7) fun v8 h8 =>
 aT v8 (
 bnd (bD [(.s []), (aF 0), (aF 0), (aF 0), .l0, .l0] [] h8) fun v9 h9 =>
 bnd (aH 6 (env 6) v9 h9) fun _ h10 =>
 bnd (aK 6 (env 6) h10) fun v11 _ =>
 some (.t [v11, (.s []), (aF 12)], h10)) (
 bnd (aD .add (env 96) (aF 1) h8) fun v12 h12 =>
    kk9 (env 6) (env 9) (env 94) (env 95) v12 h12)) (
      eG r n (env 6) (env 9) h1)) = (K5 (aCb r n kk9) 6 9 94 95 96) := by kernel_rfl
theorem bPa (kk9 : cF) : D112 r n jT (xs x0 3 (K2 (eG r n) 6 9)) (K5 kk9 6 9 94 95 96) = (K5 (aCb r n kk9) 6 9 94 95 96) :=
 (bIn r n kk9 (eG r n)).trans (bFp r n kk9)
theorem bGy (m : Nat) : aR (fun kk => D112 r n jT (xs x0 3 (K2 (eG r n) 6 9)) kk) m = (K5 (uC r n m) 6 9 94 95 96) := by
 induction m with
 | zero => exact (by kernel_rfl : aR (fun kk => D112 r n jT (xs x0 3 (K2 (eG r n) 6 9)) kk) 0 = (K5 (uC r n 0) 6 9 94 95 96))
 | succ m ih =>
  refine (by kernel_rfl : aR (fun kk => D112 r n jT (xs x0 3 (K2 (eG r n) 6 9)) kk) (m + 1) = D112 r n jT (xs x0 3 (K2 (eG r n) 6 9)) (aR (fun kk => D112 r n jT (xs x0 3 (K2 (eG r n) 6 9)) kk) m)).trans ?_
  rw [ih]
  exact (bPa r n (uC r n m)).trans (by kernel_rfl)
theorem cNw : D112 r n tC (xs x0 3 (K2 (eG r n) 6 9)) (K2 (eG r n) 6 9) = (K5 (bXj r n) 6 9 94 95 96) :=
 (by kernel_rfl : D112 r n tC (xs x0 3 (K2 (eG r n) 6 9)) (K2 (eG r n) 6 9) = aR (fun kk => D112 r n jT (xs x0 3 (K2 (eG r n) 6 9)) kk) n).trans ((bGy r n n).trans (by kernel_rfl))
theorem cKb : D112 r n aQe x0 (K2 (eG r n) 6 9) = (K5 (aPx r n) 6 9 94 95 96) :=
 (by kernel_rfl : D112 r n aQe x0 (K2 (eG r n) 6 9) = D112 r n tC (xs x0 3 (K2 (eG r n) 6 9)) (K2 (eG r n) 6 9)).trans
 ((cNw r n).trans (by kernel_rfl))
theorem bTw : D112 r n aDg x0 r112 = D112 r n wY x0 (K2 (eG r n) 6 9) :=
 congrArg (fun k => D112 r n wY x0 k) (cCe r n)
theorem bZn : D112 r n wY x0 (K2 (eG r n) 6 9) = D112 r n aXk x0 (K5 (aPx r n) 6 9 94 95 96) :=
 congrArg (fun k => D112 r n aXk x0 k) (cKb r n)
theorem cJb : D112 r n aDg x0 r112 = (K2 (yH r n) 6 9) :=
 (bTw r n).trans
 ((bZn r n).trans
 ((by kernel_rfl)))
theorem bSt : D112 r n aIw x0 r112 = D112 r n aFu x0 (K2 (yH r n) 6 9) :=
 congrArg (fun k => D112 r n aFu x0 k) (cJb r n)
theorem cAf (q0 : rP) : D112 r n aFu x0 (K2 q0 6 9) = fun (env : aW) (h : Hp) =>
 bnd (aO (env 9) h) fun v1 h1 =>
 bnd (aC 8 v1 h1) fun v2 h2 =>
 bnd (aA v2 h2) fun v3 h3 =>
 bnd (aD .neq v3 (aF 0) h3) fun v4 h4 =>
 aT v4 (
 bnd (bD [(.s []), (aF 0), (aF 0), (aF 0), .l0, .l0] [] h4) fun v5 h5 =>
 bnd (aO (env 9) h5) fun v6 h6 =>
 bnd (aC 7 v6 h6) fun v7 h7 =>
 bnd (aA v7 h7) fun v8 h8 =>
 bnd (aO (env 9) h8) fun v9 h9 =>
 bnd (aC 8 v9 h9) fun v10 h10 =>
 bnd (aA v10 h10) fun v11 h11 =>
 bnd (aH 6 (env 6) v5 h11) fun v12 h12 =>
 cnd (bJ (aA v10 h12) v11 && (bJ (aA v7 h12) v8 && true)) (
 bnd (aK 6 (env 6) h12) fun v13 _ =>
 some (.t [v13, v8, v11], h12))) (
 bnd (aO (env 9) h4) fun v14 h14 =>
 bnd (aC 0 v14 h14) fun v15 h15 =>
 bnd (aC 4 v15 h15) fun v16 h16 =>
 bnd (aA v16 h16) fun v17 h17 =>
 bnd (cJ v17 h17) fun v18 h18 =>
 bnd (aD .gtr v18 (aF 60) h18) fun v19 h19 =>
 aT v19 (
 bnd (bD [(.s []), (aF 0), (aF 0), (aF 0), .l0, .l0] [] h19) fun v20 h20 =>
 bnd (aH 6 (env 6) v20 h20) fun _ h21 =>
 bnd (aK 6 (env 6) h21) fun v22 _ =>
 some (.t [v22, (.s []), (aF 18)], h21)) (
 bnd (aO (env 9) h19) fun v23 h23 =>
 bnd (aC 0 v23 h23) fun v24 h24 =>
 bnd (aC 5 v24 h24) fun v25 h25 =>
 bnd (aA v25 h25) fun v26 h26 =>
 bnd (cJ v26 h26) fun v27 h27 =>
 bnd (aD .gtr v27 (aF 400) h27) fun v28 h28 =>
 aT v28 (
 bnd (bD [(.s []), (aF 0), (aF 0), (aF 0), .l0, .l0] [] h28) fun v29 h29 =>
 bnd (aH 6 (env 6) v29 h29) fun _ h30 =>
 bnd (aK 6 (env 6) h30) fun v31 _ =>
 some (.t [v31, (.s []), (aF 12)], h30)) (
     q0 (env 6) (env 9) h28))) := by kernel_rfl
theorem bDk : (fun (env : aW) (h : Hp) =>
 bnd (aO (env 9) h) fun v1 h1 =>
 bnd (aC 8 v1 h1) fun v2 h2 =>
 bnd (aA v2 h2) fun v3 h3 =>
 bnd (aD .neq v3 (aF 0) h3) fun v4 h4 =>
 aT v4 (
 bnd (bD [(.s []), (aF 0), (aF 0), (aF 0), .l0, .l0] [] h4) fun v5 h5 =>
 bnd (aO (env 9) h5) fun v6 h6 =>
 bnd (aC 7 v6 h6) fun v7 h7 =>
 bnd (aA v7 h7) fun v8 h8 =>
 bnd (aO (env 9) h8) fun v9 h9 =>
 bnd (aC 8 v9 h9) fun v10 h10 =>
 bnd (aA v10 h10) fun v11 h11 =>
 bnd (aH 6 (env 6) v5 h11) fun v12 h12 =>
 cnd (bJ (aA v10 h12) v11 && (bJ (aA v7 h12) v8 && true)) (
 bnd (aK 6 (env 6) h12) fun v13 _ =>
 some (.t [v13, v8, v11], h12))) (
 bnd (aO (env 9) h4) fun v14 h14 =>
 bnd (aC 0 v14 h14) fun v15 h15 =>
 bnd (aC 4 v15 h15) fun v16 h16 =>
 bnd (aA v16 h16) fun v17 h17 =>
 bnd (cJ v17 h17) fun v18 h18 =>
 bnd (aD .gtr v18 (aF 60) h18) fun v19 h19 =>
 aT v19 (
 bnd (bD [(.s []), (aF 0), (aF 0), (aF 0), .l0, .l0] [] h19) fun v20 h20 =>
 bnd (aH 6 (env 6) v20 h20) fun _ h21 =>
 bnd (aK 6 (env 6) h21) fun v22 _ =>
 some (.t [v22, (.s []), (aF 18)], h21)) (
 bnd (aO (env 9) h19) fun v23 h23 =>
 bnd (aC 0 v23 h23) fun v24 h24 =>
 bnd (aC 5 v24 h24) fun v25 h25 =>
 bnd (aA v25 h25) fun v26 h26 =>
 bnd (cJ v26 h26) fun v27 h27 =>
 bnd (aD .gtr v27 (aF 400) h27) fun v28 h28 =>
 aT v28 (
 bnd (bD [(.s []), (aF 0), (aF 0), (aF 0), .l0, .l0] [] h28) fun v29 h29 =>
 bnd (aH 6 (env 6) v29 h29) fun _ h30 =>
 bnd (aK 6 (env 6) h30) fun v31 _ =>
 some (.t [v31, (.s []), (aF 12)], h30)) (
     yH r n (env 6) (env 9) h28)))) = (K2 (aGr r n) 6 9) := by kernel_rfl
theorem cDg : D112 r n aIw x0 r112 = (K2 (aGr r n) 6 9) :=
 (bSt r n).trans
 ((cAf r n (yH r n)).trans (bDk r n))
theorem bYw : D112 r n aDr x0 r112 = D112 r n bAd x0 (K2 (aGr r n) 6 9) :=
 congrArg (fun k => D112 r n bAd x0 k) (cDg r n)
theorem cPt : D112 r n aDr x0 r112 = (K4 (eD r n) 2 3 6 9) :=
 (bYw r n).trans
 ((by kernel_rfl))
theorem bCp (kk11 : TT7) (q0 : dJ) : D112 r n jR (xs x0 0 (K4 q0 2 3 6 9)) (K7 kk11 2 3 6 9 33 34 35) = fun (env : aW) (h : Hp) =>
 bnd (aD .lss (env 35) (env 34) h) fun v1 h1 =>
 aT v1 (
 bnd (aJ 1 (env 33) (env 35) h1) fun v2 h2 =>
 bnd (aA v2 h2) fun v3 h3 =>
 bnd (aO (env 9) h3) fun v4 h4 =>
 bnd (aC 6 v4 h4) fun v5 h5 =>
 bnd (aA v5 h5) fun v6 h6 =>
 bnd (bD [(.s []), (.b false), (.b false), (aF 0)] [(0, 1, v3), (1, 1, (.b true)), (2, 1, (.b false)), (3, 1, (env 35))] h6) fun v7 h7 =>
 bnd (aL [(.s []), (.b false), (.b false), (aF 0)] 1 [(0, 4, v7)] h7) fun v8 h8 =>
 bnd (bB 4 32 v6 v8 h8) fun v9 h9 =>
 bnd (aO (env 9) h9) fun v10 h10 =>
 bnd (aC 6 v10 h10) fun v11 h11 =>
 bnd (aH 1 v11 v9 h11) fun _ h12 =>
 bnd (aD .add (env 35) (aF 1) h12) fun v13 h13 =>
      kk11 (env 2) (env 3) (env 6) (env 9) (env 33) (env 34) v13 h13) (
      q0 (env 2) (env 3) (env 6) (env 9) h1) := by kernel_rfl
theorem aNa (kk11 : TT7) : (fun (env : aW) (h : Hp) =>
 bnd (aD .lss (env 35) (env 34) h) fun v1 h1 =>
 aT v1 (
 bnd (aJ 1 (env 33) (env 35) h1) fun v2 h2 =>
 bnd (aA v2 h2) fun v3 h3 =>
 bnd (aO (env 9) h3) fun v4 h4 =>
 bnd (aC 6 v4 h4) fun v5 h5 =>
 bnd (aA v5 h5) fun v6 h6 =>
 bnd (bD [(.s []), (.b false), (.b false), (aF 0)] [(0, 1, v3), (1, 1, (.b true)), (2, 1, (.b false)), (3, 1, (env 35))] h6) fun v7 h7 =>
 bnd (aL [(.s []), (.b false), (.b false), (aF 0)] 1 [(0, 4, v7)] h7) fun v8 h8 =>
 bnd (bB 4 32 v6 v8 h8) fun v9 h9 =>
 bnd (aO (env 9) h9) fun v10 h10 =>
 bnd (aC 6 v10 h10) fun v11 h11 =>
 bnd (aH 1 v11 v9 h11) fun _ h12 =>
 bnd (aD .add (env 35) (aF 1) h12) fun v13 h13 =>
      kk11 (env 2) (env 3) (env 6) (env 9) (env 33) (env 34) v13 h13) (
      eD r n (env 2) (env 3) (env 6) (env 9) h1)) = (K7 (zF r n kk11) 2 3 6 9 33 34 35) := by kernel_rfl
theorem bEb (kk11 : TT7) : D112 r n jR (xs x0 0 (K4 (eD r n) 2 3 6 9)) (K7 kk11 2 3 6 9 33 34 35) = (K7 (zF r n kk11) 2 3 6 9 33 34 35) :=
 (bCp r n kk11 (eD r n)).trans (aNa r n kk11)
theorem bEw (m : Nat) : aR (fun kk => D112 r n jR (xs x0 0 (K4 (eD r n) 2 3 6 9)) kk) m = (K7 (pE r n m) 2 3 6 9 33 34 35) := by
 induction m with
 | zero => exact (by kernel_rfl : aR (fun kk => D112 r n jR (xs x0 0 (K4 (eD r n) 2 3 6 9)) kk) 0 = (K7 (pE r n 0) 2 3 6 9 33 34 35))
 | succ m ih =>
  refine (by kernel_rfl : aR (fun kk => D112 r n jR (xs x0 0 (K4 (eD r n) 2 3 6 9)) kk) (m + 1) = D112 r n jR (xs x0 0 (K4 (eD r n) 2 3 6 9)) (aR (fun kk => D112 r n jR (xs x0 0 (K4 (eD r n) 2 3 6 9)) kk) m)).trans ?_
  rw [ih]
  exact (bEb r n (pE r n m)).trans (by kernel_rfl)
theorem bZu : D112 r n sY (xs x0 0 (K4 (eD r n) 2 3 6 9)) (K4 (eD r n) 2 3 6 9) = (K7 (bAi r n) 2 3 6 9 33 34 35) :=
 (by kernel_rfl : D112 r n sY (xs x0 0 (K4 (eD r n) 2 3 6 9)) (K4 (eD r n) 2 3 6 9) = aR (fun kk => D112 r n jR (xs x0 0 (K4 (eD r n) 2 3 6 9)) kk) n).trans ((bEw r n n).trans (by kernel_rfl))
theorem bGq : D112 r n aHi x0 (K4 (eD r n) 2 3 6 9) = (K7 (aHc r n) 2 3 6 9 33 34 35) :=
 (by kernel_rfl : D112 r n aHi x0 (K4 (eD r n) 2 3 6 9) = D112 r n sY (xs x0 0 (K4 (eD r n) 2 3 6 9)) (K4 (eD r n) 2 3 6 9)).trans
 ((bZu r n).trans (by kernel_rfl))
theorem bYf : D112 r n aJo x0 r112 = D112 r n pS x0 (K4 (eD r n) 2 3 6 9) :=
 congrArg (fun k => D112 r n pS x0 k) (cPt r n)
theorem bKh : D112 r n pS x0 (K4 (eD r n) 2 3 6 9) = D112 r n aVa x0 (K7 (aHc r n) 2 3 6 9 33 34 35) :=
 congrArg (fun k => D112 r n aVa x0 k) (bGq r n)
theorem cBe : D112 r n aJo x0 r112 = (K5 (yQ r n) 1 2 3 6 9) :=
 (bYf r n).trans
 ((bKh r n).trans
 ((by kernel_rfl)))
theorem bFh : D112 r n aHv x0 r112 = D112 r n aDi x0 (K5 (yQ r n) 1 2 3 6 9) :=
 congrArg (fun k => D112 r n aDi x0 k) (cBe r n)
theorem bFm (q0 : cF) : D112 r n aDi x0 (K5 q0 1 2 3 6 9) = fun (env : aW) (h : Hp) =>
 bnd (aC 1 (env 3) h) fun v1 h1 =>
 bnd (aA v1 h1) fun v2 h2 =>
 bnd (aC 3 (env 3) h2) fun v3 h3 =>
 bnd (aA v3 h3) fun v4 h4 =>
 bnd (cJ v4 h4) fun v5 h5 =>
 bnd (aC 2 (env 3) h5) fun v6 h6 =>
 bnd (aA v6 h6) fun v7 h7 =>
 bnd (bD [(.s []), (aF 0), (aF 0), (aF 0), .l0, .l0] [(0, 1, v2), (1, 1, v5), (3, 1, v7)] h7) fun v8 h8 =>
 bnd (bD [(.s []), (aF 0), (aF 0), (aF 0), .l0, .l0, .l0, (.s []), (aF 0)] [(0, 6, v8)] h8) fun v9 h9 =>
 bnd (bX v9 h9) fun v10 h10 =>
  q0 (env 1) (env 2) (env 3) (env 6) v10 h10 := by kernel_rfl
theorem aPh : (fun (env : aW) (h : Hp) =>
 bnd (aC 1 (env 3) h) fun v1 h1 =>
 bnd (aA v1 h1) fun v2 h2 =>
 bnd (aC 3 (env 3) h2) fun v3 h3 =>
 bnd (aA v3 h3) fun v4 h4 =>
 bnd (cJ v4 h4) fun v5 h5 =>
 bnd (aC 2 (env 3) h5) fun v6 h6 =>
 bnd (aA v6 h6) fun v7 h7 =>
 bnd (bD [(.s []), (aF 0), (aF 0), (aF 0), .l0, .l0] [(0, 1, v2), (1, 1, v5), (3, 1, v7)] h7) fun v8 h8 =>
 bnd (bD [(.s []), (aF 0), (aF 0), (aF 0), .l0, .l0, .l0, (.s []), (aF 0)] [(0, 6, v8)] h8) fun v9 h9 =>
 bnd (bX v9 h9) fun v10 h10 =>
  yQ r n (env 1) (env 2) (env 3) (env 6) v10 h10) = (K4 (qR r n) 1 2 3 6) := by kernel_rfl
theorem cKz : D112 r n aHv x0 r112 = (K4 (qR r n) 1 2 3 6) :=
 (bFh r n).trans
 ((bFm r n (yQ r n)).trans (aPh r n))
theorem bDg : D112 r n aDp x0 r112 = D112 r n aBb x0 (K4 (qR r n) 1 2 3 6) :=
 congrArg (fun k => D112 r n aBb x0 k) (cKz r n)
theorem bEr (q0 : dJ) : D112 r n aBb x0 (K4 q0 1 2 3 6) = fun (env : aW) (h : Hp) =>
 bnd (aC 0 (env 3) h) fun v1 h1 =>
 bnd (aA v1 h1) fun v2 h2 =>
 bnd (aD .neq v2 (aF 11) h2) fun v3 h3 =>
 bnd (gD v3 false (some ((env 1), h3)) h3) fun v4 h4 =>
 bnd (gD v3 false (cJ v4 h4) h4) fun v5 h5 =>
 bnd (gD v3 false (aD .gtr v5 (aF 8) h5) h5) fun v6 h6 =>
 bnd (aQ v3 (.b true) v6 h6) fun v7 h7 =>
 aT v7 (
 bnd (bD [(.s []), (aF 0), (aF 0), (aF 0), .l0, .l0] [] h7) fun v8 h8 =>
 bnd (aH 6 (env 6) v8 h8) fun _ h9 =>
 bnd (aK 6 (env 6) h9) fun v10 _ =>
 some (.t [v10, (.s []), (aF 1)], h9)) (
   q0 (env 1) (env 2) (env 3) (env 6) h7) := by kernel_rfl
theorem aRa : (fun (env : aW) (h : Hp) =>
 bnd (aC 0 (env 3) h) fun v1 h1 =>
 bnd (aA v1 h1) fun v2 h2 =>
 bnd (aD .neq v2 (aF 11) h2) fun v3 h3 =>
 bnd (gD v3 false (some ((env 1), h3)) h3) fun v4 h4 =>
 bnd (gD v3 false (cJ v4 h4) h4) fun v5 h5 =>
 bnd (gD v3 false (aD .gtr v5 (aF 8) h5) h5) fun v6 h6 =>
 bnd (aQ v3 (.b true) v6 h6) fun v7 h7 =>
 aT v7 (
 bnd (bD [(.s []), (aF 0), (aF 0), (aF 0), .l0, .l0] [] h7) fun v8 h8 =>
 bnd (aH 6 (env 6) v8 h8) fun _ h9 =>
 bnd (aK 6 (env 6) h9) fun v10 _ =>
 some (.t [v10, (.s []), (aF 1)], h9)) (
   qR r n (env 1) (env 2) (env 3) (env 6) h7)) = (K4 (qA r n) 1 2 3 6) := by kernel_rfl
theorem cOt : D112 r n aDp x0 r112 = (K4 (qA r n) 1 2 3 6) :=
 (bDg r n).trans
 ((bEr r n (qR r n)).trans (aRa r n))
theorem cMu : D112 r n c112 x0 r112 = D112 r n aIf x0 (K4 (qA r n) 1 2 3 6) :=
 congrArg (fun k => D112 r n aIf x0 k) (cOt r n)
theorem cKh (q0 : dJ) : D112 r n aIf x0 (K4 q0 1 2 3 6) = fun (env : aW) (h : Hp) =>
 bnd (bX (env 0) h) fun v1 h1 =>
 bnd (bR [(.s []), (aF 0), (aF 0), (aF 0), .l0, .l0] h1) fun v2 h2 =>
  q0 (env 1) (env 2) v1 v2 h2 := by kernel_rfl
theorem bJv : (fun (env : aW) (h : Hp) =>
 bnd (bX (env 0) h) fun v1 h1 =>
 bnd (bR [(.s []), (aF 0), (aF 0), (aF 0), .l0, .l0] h1) fun v2 h2 =>
  qA r n (env 1) (env 2) v1 v2 h2) = (K3 (s112 r n) 0 1 2) := by kernel_rfl
theorem dIp : D112 r n c112 x0 r112 = (K3 (s112 r n) 0 1 2) :=
 (cMu r n).trans
 ((cKh r n (qA r n)).trans (bJv r n))
theorem cWb : aE CF r n 112 args h = s112 r n (aS args 0) (aS args 1) (aS args 2) h :=
 (by kernel_rfl : aE CF r n 112 args h = D112 r n c112 x0 r112 (aG args) h).trans ((congrFun (congrFun (dIp r n) (aG args)) h).trans (by kernel_rfl))
noncomputable def s113 (r : RT) (n : Nat) (x0 x1 x2 : DV) (h0 : Hp) : aI :=
 bnd (bX x2 h0) fun v1 h1 =>
 bnd (r 67 [x0, x1] h1) fun v2 h2 =>
 bnd (dR .not v2 h2) fun v3 h3 =>
 aT v3 (
 some (.t [(aF 0), (aF 24)], h3)) (
 bnd (aK 6 v1 h3) fun v4 h4 =>
 bnd (r 37 [x0, x1] h4) fun v5 h5 =>
 cnd (bJ (aK 6 v1 h5) v4 && true) (
 bnd (r 125 [v4, v5] h5) fun v6 h6 =>
 bnd (aD .neq v6 (aF 0) h6) fun v7 h7 =>
 aT v7 (
 some (.t [(aF 0), v6], h7)) (
 bnd (aC 0 v1 h7) fun v8 h8 =>
 bnd (aA v8 h8) fun v9 h9 =>
 bnd (r 44 [x0, v9] h9) fun v10 h10 =>
 bnd (aB 0 v10 h10) fun v11 h11 =>
 bnd (aB 1 v10 h11) fun v12 h12 =>
 bnd (aD .neq v12 (aF 0) h12) fun v13 h13 =>
 aT v13 (
 some (.t [(aF 0), v12], h13)) (
 bnd (aC 4 v1 h13) fun v14 h14 =>
 bnd (aA v14 h14) fun v15 h15 =>
 bnd (bD [(aF 0), (.s []), (aF 0), .l0] [(0, 1, (aF 4)), (3, 1, v15)] h15) fun v16 h16 =>
 bnd (r 126 [x0, v16] h16) fun v17 h17 =>
 bnd (aB 0 v17 h17) fun v18 h18 =>
 bnd (aB 1 v17 h18) fun v19 h19 =>
 bnd (aD .neq v19 (aF 0) h19) fun v20 h20 =>
 aT v20 (
 some (.t [(aF 0), v19], h20)) (
 bnd (aC 5 v1 h20) fun v21 h21 =>
 bnd (aA v21 h21) fun v22 h22 =>
 bnd (r 127 [v22] h22) fun v23 h23 =>
 bnd (aB 0 v23 h23) fun v24 h24 =>
 bnd (aB 1 v23 h24) fun v25 h25 =>
 bnd (r 128 [x0, v24] h25) fun v26 h26 =>
 bnd (aB 0 v26 h26) fun v27 h27 =>
 bnd (aB 1 v26 h27) fun v28 h28 =>
 bnd (aD .neq v28 (aF 0) h28) fun v29 h29 =>
 aT v29 (
 some (.t [(aF 0), v28], h29)) (
 bnd (r 30 [x0, (aF 14)] (resv 1 h29)) fun v30 h30 =>
 bnd (aC 1 v1 h30) fun v31 h31 =>
 bnd (aA v31 h31) fun v32 h32 =>
 cnd (bJ (aA v31 (resv 1 h29)) v32 && true) (
 bnd (r 71 [v32] h32) fun v33 h33 =>
 bnd (aC 2 v1 h33) fun v34 h34 =>
 bnd (aA v34 h34) fun v35 h35 =>
 cnd (bJ (aA v34 h30) v35 && (bJ (aA v34 (resv 1 h29)) v35 && true)) (
 bnd (r 71 [v35] h35) fun v36 h36 =>
 bnd (aC 3 v1 h36) fun v37 h37 =>
 bnd (aA v37 h37) fun v38 h38 =>
 cnd (bJ (aA v37 h33) v38 && (bJ (aA v37 h30) v38 && (bJ (aA v37 (resv 1 h29)) v38 && true))) (
 bnd (r 71 [v38] h38) fun v39 h39 =>
 bnd (bL (bW 0 h29.next) [(aF 0), (aF 0), (aF 0), (aF 0), (aF 0), (aF 0), (aF 0)] 7 [(0, 1, v11), (1, 1, v33), (2, 1, v36), (3, 1, v39), (4, 1, v18), (5, 1, v27), (6, 1, x1)] h39) fun v40 h40 =>
 bnd (r 82 [x0, v30, (aF 0), v40] h40) fun v41 h41 =>
 bnd (aB 0 v41 h41) fun v42 h42 =>
 bnd (aB 1 v41 h42) fun v43 h43 =>
 some (.t [v42, v43], h43))))))))))
noncomputable abbrev c113 : Code := cf Tryz.f113
noncomputable abbrev r113 : K := aP CF Tryz.f113
noncomputable def D113 (r : RT) (n : Nat) (c : Code) (X : Nat → K) (k : K) : K := aM CF r 83 n c X r113 k
theorem dHm : D113 r n c113 x0 r113 = (K3 (s113 r n) 0 1 2) :=
 (by kernel_rfl)
theorem cVg : aE CF r n 113 args h = s113 r n (aS args 0) (aS args 1) (aS args 2) h :=
 (by kernel_rfl : aE CF r n 113 args h = D113 r n c113 x0 r113 (aG args) h).trans ((congrFun (congrFun (dHm r n) (aG args)) h).trans (by kernel_rfl))
noncomputable def eN (r : RT) (n : Nat) (x0 x1 x3 : DV) (h0 : Hp) : aI :=
 bnd (r 51 [x0, x1, (aF 4)] h0) fun v1 h1 =>
 bnd (r 73 [x0, x3, v1] h1) fun v2 h2 =>
 bnd (aB 0 v2 h2) fun v3 h3 =>
 bnd (aB 1 v2 h3) fun v4 h4 =>
 bnd (aD .neq v4 (aF 0) h4) fun v5 h5 =>
 aT v5 (
 some (v4, h5)) (
 bnd (aO x0 h5) fun v6 h6 =>
 bnd (aC 0 v6 h6) fun v7 h7 =>
 bnd (aA v7 h7) fun v8 h8 =>
 bnd (sH [v8, x1, (aF 4), v3] h8) fun v9 h9 =>
 some (v9, h9))
noncomputable def bAb (r : RT) (n : Nat) (kk5 : gW) (x0 x1 x2 x3 x9 x10 : DV) (h0 : Hp) : aI :=
 bnd (aD .gtr x10 (aF 0) h0) fun v1 h1 =>
 bnd (gD v1 true (some (x0, h1)) h1) fun v2 h2 =>
 bnd (gD v1 true (aO v2 h2) h2) fun v3 h3 =>
 bnd (gD v1 true (aC 0 v3 h3) h3) fun v4 h4 =>
 bnd (gD v1 true (aA v4 h4) h4) fun v5 h5 =>
 bnd (gD v1 true (some (x9, h5)) h5) fun v6 h6 =>
 bnd (gD v1 true (isF [v5, v6] h6) h6) fun v7 h7 =>
 bnd (aQ v1 v7 (.b false) h7) fun v8 h8 =>
 aT v8 (
 bnd (r 51 [x0, x9, (aF 0)] h8) fun v9 h9 =>
 bnd (r 51 [x0, v9, (aF 0)] h9) fun v10 h10 =>
 bnd (aD .eql v10 x2 h10) fun v11 h11 =>
 aT v11 (
 bnd (aO x0 h11) fun v12 h12 =>
 bnd (aC 0 v12 h12) fun v13 h13 =>
 bnd (aA v13 h13) fun v14 h14 =>
 bnd (sH [v14, x9, (aF 0), x3] h14) fun v15 h15 =>
 some (v15, h15)) (
 bnd (r 51 [x0, x9, (aF 1)] h11) fun v16 h16 =>
 bnd (aD .sub x10 (aF 1) h16) fun v17 h17 =>
    kk5 x0 x1 x2 x3 v16 v17 h17)) (
      eN r n x0 x1 x3 h8)
noncomputable def uI (r : RT) (n : Nat) (m : Nat) : gW :=
 Nat.rec (motive := fun _ => gW) (fun _ _ _ _ _ _ _ => none) (fun _ ih => bAb r n ih) m
noncomputable def bZr (r : RT) (n : Nat) : gW := uI r n n
noncomputable def aTb (r : RT) (n : Nat) (x0 x1 x2 x3 x9 x10 : DV) (h0 : Hp) : aI :=
 bZr r n x0 x1 x2 x3 x9 x10 h0
noncomputable def aRs (r : RT) (n : Nat) (x0 x1 x2 x3 x9 : DV) (h0 : Hp) : aI :=
 bnd (aO x0 h0) fun v1 h1 =>
 bnd (aC 0 v1 h1) fun v2 h2 =>
 bnd (aA v2 h2) fun v3 h3 =>
 bnd (aAt [v3] h3) fun v4 h4 =>
  aTb r n x0 x1 x2 x3 x9 v4 h4
noncomputable def aNi (r : RT) (n : Nat) (x0 x1 x2 x3 : DV) (h0 : Hp) : aI :=
 bnd (r 51 [x0, x1, (aF 4)] h0) fun v1 h1 =>
  aRs r n x0 x1 x2 x3 v1 h1
noncomputable def s114 (r : RT) (n : Nat) (x0 x1 x2 x3 : DV) (h0 : Hp) : aI :=
 aNi r n x0 x1 x2 x3 h0
noncomputable abbrev c114 : Code := cf Tryz.f114
noncomputable abbrev aJf : Code := cR c114
noncomputable abbrev aIq : Code := cR aJf
noncomputable abbrev cZa : Code := cR aIq
noncomputable abbrev wU : Code := cL aIq
noncomputable abbrev aPu : Code := cR wU
noncomputable abbrev aHn : Code := cL aPu
noncomputable abbrev oJ : Code := cL aHn
noncomputable abbrev bYl : Code := cL wU
noncomputable abbrev bUb : Code := cL aJf
noncomputable abbrev aWn : Code := cL c114
noncomputable abbrev r114 : K := aP CF Tryz.f114
noncomputable def D114 (r : RT) (n : Nat) (c : Code) (X : Nat → K) (k : K) : K := aM CF r 69 n c X r114 k
theorem cNt : D114 r n cZa x0 r114 = (K3 (eN r n) 0 1 3) :=
 (by kernel_rfl)
theorem bMp (kk5 : gW) : D114 r n oJ (xs x0 0 (K3 (eN r n) 0 1 3)) (K6 kk5 0 1 2 3 9 10) = (K6 (bAb r n kk5) 0 1 2 3 9 10) :=
 (by kernel_rfl)
theorem bZx (m : Nat) : aR (fun kk => D114 r n oJ (xs x0 0 (K3 (eN r n) 0 1 3)) kk) m = (K6 (uI r n m) 0 1 2 3 9 10) := by
 induction m with
 | zero => exact (by kernel_rfl : aR (fun kk => D114 r n oJ (xs x0 0 (K3 (eN r n) 0 1 3)) kk) 0 = (K6 (uI r n 0) 0 1 2 3 9 10))
 | succ m ih =>
  refine (by kernel_rfl : aR (fun kk => D114 r n oJ (xs x0 0 (K3 (eN r n) 0 1 3)) kk) (m + 1) = D114 r n oJ (xs x0 0 (K3 (eN r n) 0 1 3)) (aR (fun kk => D114 r n oJ (xs x0 0 (K3 (eN r n) 0 1 3)) kk) m)).trans ?_
  rw [ih]
  exact (bMp r n (uI r n m)).trans (by kernel_rfl)
theorem cGu : D114 r n aHn (xs x0 0 (K3 (eN r n) 0 1 3)) (K3 (eN r n) 0 1 3) = (K6 (bZr r n) 0 1 2 3 9 10) :=
 (by kernel_rfl : D114 r n aHn (xs x0 0 (K3 (eN r n) 0 1 3)) (K3 (eN r n) 0 1 3) = aR (fun kk => D114 r n oJ (xs x0 0 (K3 (eN r n) 0 1 3)) kk) n).trans ((bZx r n n).trans (by kernel_rfl))
theorem cBo : D114 r n aPu x0 (K3 (eN r n) 0 1 3) = (K6 (aTb r n) 0 1 2 3 9 10) :=
 (by kernel_rfl : D114 r n aPu x0 (K3 (eN r n) 0 1 3) = D114 r n aHn (xs x0 0 (K3 (eN r n) 0 1 3)) (K3 (eN r n) 0 1 3)).trans
 ((cGu r n).trans (by kernel_rfl))
theorem bLn : D114 r n aIq x0 r114 = D114 r n wU x0 (K3 (eN r n) 0 1 3) :=
 congrArg (fun k => D114 r n wU x0 k) (cNt r n)
theorem bHi : D114 r n wU x0 (K3 (eN r n) 0 1 3) = D114 r n bYl x0 (K6 (aTb r n) 0 1 2 3 9 10) :=
 congrArg (fun k => D114 r n bYl x0 k) (cBo r n)
theorem cKe : D114 r n aIq x0 r114 = (K5 (aRs r n) 0 1 2 3 9) :=
 (bLn r n).trans
 ((bHi r n).trans
 ((by kernel_rfl)))
theorem bVn : D114 r n aJf x0 r114 = D114 r n bUb x0 (K5 (aRs r n) 0 1 2 3 9) :=
 congrArg (fun k => D114 r n bUb x0 k) (cKe r n)
theorem cGj : D114 r n aJf x0 r114 = (K4 (aNi r n) 0 1 2 3) :=
 (bVn r n).trans
 ((by kernel_rfl))
theorem dCn : D114 r n c114 x0 r114 = D114 r n aWn x0 (K4 (aNi r n) 0 1 2 3) :=
 congrArg (fun k => D114 r n aWn x0 k) (cGj r n)
theorem dGs : D114 r n c114 x0 r114 = (K4 (s114 r n) 0 1 2 3) :=
 (dCn r n).trans
 ((by kernel_rfl))
theorem cYi : aE CF r n 114 args h = s114 r n (aS args 0) (aS args 1) (aS args 2) (aS args 3) h :=
 (by kernel_rfl : aE CF r n 114 args h = D114 r n c114 x0 r114 (aG args) h).trans ((congrFun (congrFun (dGs r n) (aG args)) h).trans (by kernel_rfl))
noncomputable def s116 (r : RT) (n : Nat) (x0 x1 : DV) (h0 : Hp) : aI :=
 bnd (aD .and x0 (.i .u64 (Int.ofNat 4294967295)) h0) fun v1 h1 =>
 bnd (cS .shr x0 (.i .u64 (Int.ofNat 32)) h1) fun v2 h2 =>
 bnd (aD .and x1 (.i .u64 (Int.ofNat 4294967295)) h2) fun v3 h3 =>
 bnd (cS .shr x1 (.i .u64 (Int.ofNat 32)) h3) fun v4 h4 =>
 bnd (aD .mul v1 v3 h4) fun v5 h5 =>
 bnd (aD .mul v2 v3 h5) fun v6 h6 =>
 bnd (cS .shr v5 (.i .u64 (Int.ofNat 32)) h6) fun v7 h7 =>
 bnd (aD .add v6 v7 h7) fun v8 h8 =>
 bnd (aD .and v8 (.i .u64 (Int.ofNat 4294967295)) h8) fun v9 h9 =>
 bnd (cS .shr v8 (.i .u64 (Int.ofNat 32)) h9) fun v10 h10 =>
 bnd (aD .mul v1 v4 h10) fun v11 h11 =>
 bnd (aD .add v9 v11 h11) fun v12 h12 =>
 bnd (aD .mul v2 v4 h12) fun v13 h13 =>
 bnd (aD .add v13 v10 h13) fun v14 h14 =>
 bnd (cS .shr v12 (.i .u64 (Int.ofNat 32)) h14) fun v15 h15 =>
 bnd (aD .add v14 v15 h15) fun v16 h16 =>
 bnd (aD .mul x0 x1 h16) fun v17 h17 =>
 some (.t [v16, v17], h17)
noncomputable abbrev c116 : Code := cf Tryz.f116
noncomputable abbrev r116 : K := aP CF Tryz.f116
noncomputable def D116 (r : RT) (n : Nat) (c : Code) (X : Nat → K) (k : K) : K := aM CF r 51 n c X r116 k
theorem dId : D116 r n c116 x0 r116 = (K2 (s116 r n) 0 1) :=
 (by kernel_rfl)
theorem bSj : aE CF r n 116 args h = s116 r n (aS args 0) (aS args 1) h :=
 (by kernel_rfl : aE CF r n 116 args h = D116 r n c116 x0 r116 (aG args) h).trans ((congrFun (congrFun (dId r n) (aG args)) h).trans (by kernel_rfl))
noncomputable def eO (r : RT) (n : Nat) (x0 x6 : DV) (h0 : Hp) : aI :=
 bnd (dV x0 h0) fun v1 h1 =>
 bnd (bD [(aF 0), (.s []), (aF 0), (aF 0)] [(3, 1, v1)] h1) fun v2 h2 =>
 bnd (aL [(aF 0), (.s []), (aF 0), (aF 0)] 1 [(0, 4, v2)] h2) fun v3 h3 =>
 bnd (bB 4 40 x6 v3 h3) fun v4 h4 =>
 some (.t [v4, (aF 0), (aF 0)], h4)
noncomputable def aBw (r : RT) (n : Nat) (kk7 : nB) (x0 x5 x6 : DV) (h0 : Hp) : aI :=
 bnd (r 130 [(.s [9, 10, 13, 32])] h0) fun v1 h1 =>
 bnd (dV x0 h1) fun v2 h2 =>
 bnd (r 129 [x5, v1, v2] h2) fun v3 h3 =>
 bnd (aO x5 h3) fun v4 h4 =>
 bnd (aC 1 v4 h4) fun v5 h5 =>
 bnd (aA v5 h5) fun v6 h6 =>
 bnd (dV x0 h6) fun v7 h7 =>
 bnd (aD .geq v6 v7 h7) fun v8 h8 =>
 aT v8 (
   eO r n x0 x6 h8) (
 bnd (aO x5 h8) fun v9 h9 =>
 bnd (aC 1 v9 h9) fun v10 h10 =>
 bnd (aA v10 h10) fun v11 h11 =>
 bnd (fJ x0 v11 h11) fun v12 h12 =>
 bnd (aD .eql v12 (.i .u8 (Int.ofNat 34)) h12) fun v13 h13 =>
 aT v13 (
 bnd (aO x5 h13) fun v14 h14 =>
 bnd (aC 1 v14 h14) fun v15 h15 =>
 bnd (aA v15 h15) fun v16 h16 =>
 bnd (aD .add v16 (aF 1) h16) fun v17 h17 =>
 bnd (fF x0 (some v17) none h17) fun v18 h18 =>
 bnd (r 131 [v18, (.i .u8 (Int.ofNat 34))] h18) fun v19 h19 =>
 bnd (aD .lss v19 (aF 0) h19) fun v20 h20 =>
 aT v20 (
 bnd (aO x5 h20) fun v21 h21 =>
 bnd (aC 1 v21 h21) fun v22 h22 =>
 bnd (aA v22 h22) fun v23 h23 =>
 some (.t [.l0, v23, (aF 11)], h23)) (
 bnd (aO x5 h20) fun v24 h24 =>
 bnd (aC 1 v24 h24) fun v25 h25 =>
 bnd (aA v25 h25) fun v26 h26 =>
 bnd (aD .add v19 (aF 2) h26) fun v27 h27 =>
 bnd (aD .add v26 v27 h27) fun v28 h28 =>
 bnd (aO x5 h28) fun v29 h29 =>
 bnd (aC 1 v29 h29) fun v30 h30 =>
 bnd (aH 1 v30 v28 h30) fun _ h31 =>
     kk7 x0 x5 x6 h31)) (
 bnd (r 132 [x5] h13) fun v32 h32 =>
 bnd (aB 0 v32 h32) fun v33 h33 =>
 bnd (aB 1 v32 h33) fun v34 h34 =>
 bnd (bR [(aF 0), (.s []), (aF 0), (aF 0)] h34) fun v35 h35 =>
 bnd (aH 4 v35 v33 h35) fun _ h36 =>
 bnd (aD .neq v34 (aF 0) h36) fun v37 h37 =>
 aT v37 (
 bnd (aC 3 v35 h37) fun v38 h38 =>
 bnd (aA v38 h38) fun v39 h39 =>
 some (.t [.l0, v39, v34], h39)) (
 bnd (aK 4 v35 h37) fun v40 h40 =>
 bnd (aL [(aF 0), (.s []), (aF 0), (aF 0)] 1 [(0, 4, v40)] h40) fun v41 h41 =>
 bnd (bB 4 40 x6 v41 h41) fun v42 h42 =>
     kk7 x0 x5 v42 h42)))
noncomputable def tM (r : RT) (n : Nat) (m : Nat) : nB :=
 Nat.rec (motive := fun _ => nB) (fun _ _ _ _ => none) (fun _ ih => aBw r n ih) m
noncomputable def bNa (r : RT) (n : Nat) : nB := tM r n n
noncomputable def aRd (r : RT) (n : Nat) (x0 x5 x6 : DV) (h0 : Hp) : aI :=
 bNa r n x0 x5 x6 h0
noncomputable def aNy (r : RT) (n : Nat) (x0 x5 x6 : DV) (h0 : Hp) : aI :=
 aRd r n x0 x5 x6 h0
noncomputable def uT (r : RT) (n : Nat) (x0 x5 : DV) (h0 : Hp) : aI :=
 aNy r n x0 x5 .l0 h0
noncomputable def aHe (r : RT) (n : Nat) (x0 : DV) (h0 : Hp) : aI :=
 bnd (bD [(.s []), (aF 0)] [(0, 1, x0)] h0) fun v1 h1 =>
 bnd (bX v1 h1) fun v2 h2 =>
  uT r n x0 v2 h2
noncomputable def aSf (r : RT) (n : Nat) (x0 : DV) (h0 : Hp) : aI :=
 bnd (dV x0 h0) fun v1 h1 =>
 bnd (aD .gtr v1 (aF 2000) h1) fun v2 h2 =>
 aT v2 (
 some (.t [.l0, (aF 0), (aF 12)], h2)) (
  aHe r n x0 h2)
noncomputable def s117 (r : RT) (n : Nat) (x0 : DV) (h0 : Hp) : aI :=
 aSf r n x0 h0
noncomputable abbrev c117 : Code := cf Tryz.f117
noncomputable abbrev aSh : Code := cR c117
noncomputable abbrev aHu : Code := cL aSh
noncomputable abbrev aEf : Code := cR aHu
noncomputable abbrev aFx : Code := cR aEf
noncomputable abbrev aAv : Code := cR aFx
noncomputable abbrev aGy : Code := cR aAv
noncomputable abbrev dEx : Code := cR aGy
noncomputable abbrev aGv : Code := cL aGy
noncomputable abbrev aCi : Code := cL aGv
noncomputable abbrev jQ : Code := cL aCi
noncomputable abbrev aUm : Code := cL aAv
noncomputable abbrev aXp : Code := cL aFx
noncomputable abbrev aFp : Code := cL aEf
noncomputable abbrev aWu : Code := cL aHu
noncomputable abbrev aTv : Code := cL c117
noncomputable abbrev r117 : K := aP CF Tryz.f117
noncomputable def D117 (r : RT) (n : Nat) (c : Code) (X : Nat → K) (k : K) : K := aM CF r 80 n c X r117 k
theorem cFm : D117 r n dEx x0 r117 = (K2 (eO r n) 0 6) :=
 (by kernel_rfl)
theorem bQc (kk7 : nB) (q0 : rP) : D117 r n jQ (xs x0 0 (K2 q0 0 6)) (K3 kk7 0 5 6) = fun (env : aW) (h : Hp) =>
 bnd (r 130 [(.s [9, 10, 13, 32])] h) fun v1 h1 =>
 bnd (dV (env 0) h1) fun v2 h2 =>
 bnd (r 129 [(env 5), v1, v2] h2) fun v3 h3 =>
 bnd (aO (env 5) h3) fun v4 h4 =>
 bnd (aC 1 v4 h4) fun v5 h5 =>
 bnd (aA v5 h5) fun v6 h6 =>
 bnd (dV (env 0) h6) fun v7 h7 =>
 bnd (aD .geq v6 v7 h7) fun v8 h8 =>
 aT v8 (
   q0 (env 0) (env 6) h8) (
 bnd (aO (env 5) h8) fun v9 h9 =>
 bnd (aC 1 v9 h9) fun v10 h10 =>
 bnd (aA v10 h10) fun v11 h11 =>
 bnd (fJ (env 0) v11 h11) fun v12 h12 =>
 bnd (aD .eql v12 (.i .u8 (Int.ofNat 34)) h12) fun v13 h13 =>
 aT v13 (
 bnd (aO (env 5) h13) fun v14 h14 =>
 bnd (aC 1 v14 h14) fun v15 h15 =>
 bnd (aA v15 h15) fun v16 h16 =>
 bnd (aD .add v16 (aF 1) h16) fun v17 h17 =>
 bnd (fF (env 0) (some v17) none h17) fun v18 h18 =>
 bnd (r 131 [v18, (.i .u8 (Int.ofNat 34))] h18) fun v19 h19 =>
 bnd (aD .lss v19 (aF 0) h19) fun v20 h20 =>
 aT v20 (
 bnd (aO (env 5) h20) fun v21 h21 =>
 bnd (aC 1 v21 h21) fun v22 h22 =>
 bnd (aA v22 h22) fun v23 h23 =>
 some (.t [.l0, v23, (aF 11)], h23)) (
 bnd (aO (env 5) h20) fun v24 h24 =>
 bnd (aC 1 v24 h24) fun v25 h25 =>
 bnd (aA v25 h25) fun v26 h26 =>
 bnd (aD .add v19 (aF 2) h26) fun v27 h27 =>
 bnd (aD .add v26 v27 h27) fun v28 h28 =>
 bnd (aO (env 5) h28) fun v29 h29 =>
 bnd (aC 1 v29 h29) fun v30 h30 =>
 bnd (aH 1 v30 v28 h30) fun _ h31 =>
     kk7 (env 0) (env 5) (env 6) h31)) (
 bnd (r 132 [(env 5)] h13) fun v32 h32 =>
 bnd (aB 0 v32 h32) fun v33 h33 =>
 bnd (aB 1 v32 h33) fun v34 h34 =>
 bnd (bR [(aF 0), (.s []), (aF 0), (aF 0)] h34) fun v35 h35 =>
 bnd (aH 4 v35 v33 h35) fun _ h36 =>
 bnd (aD .neq v34 (aF 0) h36) fun v37 h37 =>
 aT v37 (
 bnd (aC 3 v35 h37) fun v38 h38 =>
 bnd (aA v38 h38) fun v39 h39 =>
 some (.t [.l0, v39, v34], h39)) (
 bnd (aK 4 v35 h37) fun v40 h40 =>
 bnd (aL [(aF 0), (.s []), (aF 0), (aF 0)] 1 [(0, 4, v40)] h40) fun v41 h41 =>
 bnd (bB 4 40 (env 6) v41 h41) fun v42 h42 =>
     kk7 (env 0) (env 5) v42 h42))) := by kernel_rfl
theorem bFj (kk7 : nB) : (fun (env : aW) (h : Hp) =>
 bnd (r 130 [(.s [9, 10, 13, 32])] h) fun v1 h1 =>
 bnd (dV (env 0) h1) fun v2 h2 =>
 bnd (r 129 [(env 5), v1, v2] h2) fun v3 h3 =>
 bnd (aO (env 5) h3) fun v4 h4 =>
 bnd (aC 1 v4 h4) fun v5 h5 =>
 bnd (aA v5 h5) fun v6 h6 =>
 bnd (dV (env 0) h6) fun v7 h7 =>
 bnd (aD .geq v6 v7 h7) fun v8 h8 =>
 aT v8 (
   eO r n (env 0) (env 6) h8) (
 bnd (aO (env 5) h8) fun v9 h9 =>
 bnd (aC 1 v9 h9) fun v10 h10 =>
 bnd (aA v10 h10) fun v11 h11 =>
 bnd (fJ (env 0) v11 h11) fun v12 h12 =>
 bnd (aD .eql v12 (.i .u8 (Int.ofNat 34)) h12) fun v13 h13 =>
 aT v13 (
 bnd (aO (env 5) h13) fun v14 h14 =>
 bnd (aC 1 v14 h14) fun v15 h15 =>
 bnd (aA v15 h15) fun v16 h16 =>
 bnd (aD .add v16 (aF 1) h16) fun v17 h17 =>
 bnd (fF (env 0) (some v17) none h17) fun v18 h18 =>
 bnd (r 131 [v18, (.i .u8 (Int.ofNat 34))] h18) fun v19 h19 =>
 bnd (aD .lss v19 (aF 0) h19) fun v20 h20 =>
 aT v20 (
 bnd (aO (env 5) h20) fun v21 h21 =>
 bnd (aC 1 v21 h21) fun v22 h22 =>
 bnd (aA v22 h22) fun v23 h23 =>
 some (.t [.l0, v23, (aF 11)], h23)) (
 bnd (aO (env 5) h20) fun v24 h24 =>
 bnd (aC 1 v24 h24) fun v25 h25 =>
 bnd (aA v25 h25) fun v26 h26 =>
 bnd (aD .add v19 (aF 2) h26) fun v27 h27 =>
 bnd (aD .add v26 v27 h27) fun v28 h28 =>
 bnd (aO (env 5) h28) fun v29 h29 =>
 bnd (aC 1 v29 h29) fun v30 h30 =>
 bnd (aH 1 v30 v28 h30) fun _ h31 =>
     kk7 (env 0) (env 5) (env 6) h31)) (
 bnd (r 132 [(env 5)] h13) fun v32 h32 =>
 bnd (aB 0 v32 h32) fun v33 h33 =>
 bnd (aB 1 v32 h33) fun v34 h34 =>
 bnd (bR [(aF 0), (.s []), (aF 0), (aF 0)] h34) fun v35 h35 =>
 bnd (aH 4 v35 v33 h35) fun _ h36 =>
 bnd (aD .neq v34 (aF 0) h36) fun v37 h37 =>
 aT v37 (
 bnd (aC 3 v35 h37) fun v38 h38 =>
 bnd (aA v38 h38) fun v39 h39 =>
 some (.t [.l0, v39, v34], h39)) (
 bnd (aK 4 v35 h37) fun v40 h40 =>
 bnd (aL [(aF 0), (.s []), (aF 0), (aF 0)] 1 [(0, 4, v40)] h40) fun v41 h41 =>
 bnd (bB 4 40 (env 6) v41 h41) fun v42 h42 =>
     kk7 (env 0) (env 5) v42 h42)))) = (K3 (aBw r n kk7) 0 5 6) := by kernel_rfl
theorem bRe (kk7 : nB) : D117 r n jQ (xs x0 0 (K2 (eO r n) 0 6)) (K3 kk7 0 5 6) = (K3 (aBw r n kk7) 0 5 6) :=
 (bQc r n kk7 (eO r n)).trans (bFj r n kk7)
theorem bTk (m : Nat) : aR (fun kk => D117 r n jQ (xs x0 0 (K2 (eO r n) 0 6)) kk) m = (K3 (tM r n m) 0 5 6) := by
 induction m with
 | zero => exact (by kernel_rfl : aR (fun kk => D117 r n jQ (xs x0 0 (K2 (eO r n) 0 6)) kk) 0 = (K3 (tM r n 0) 0 5 6))
 | succ m ih =>
  refine (by kernel_rfl : aR (fun kk => D117 r n jQ (xs x0 0 (K2 (eO r n) 0 6)) kk) (m + 1) = D117 r n jQ (xs x0 0 (K2 (eO r n) 0 6)) (aR (fun kk => D117 r n jQ (xs x0 0 (K2 (eO r n) 0 6)) kk) m)).trans ?_
  rw [ih]
  exact (bRe r n (tM r n m)).trans (by kernel_rfl)
theorem cCv : D117 r n aCi (xs x0 0 (K2 (eO r n) 0 6)) (K2 (eO r n) 0 6) = (K3 (bNa r n) 0 5 6) :=
 (by kernel_rfl : D117 r n aCi (xs x0 0 (K2 (eO r n) 0 6)) (K2 (eO r n) 0 6) = aR (fun kk => D117 r n jQ (xs x0 0 (K2 (eO r n) 0 6)) kk) n).trans ((bTk r n n).trans (by kernel_rfl))
theorem bGp : D117 r n aGy x0 r117 = D117 r n aGv x0 (K2 (eO r n) 0 6) :=
 congrArg (fun k => D117 r n aGv x0 k) (cFm r n)
theorem cEv : D117 r n aGy x0 r117 = (K3 (aRd r n) 0 5 6) :=
 (bGp r n).trans
 ((by kernel_rfl : D117 r n aGv x0 (K2 (eO r n) 0 6) = D117 r n aCi (xs x0 0 (K2 (eO r n) 0 6)) (K2 (eO r n) 0 6)).trans
 ((cCv r n).trans (by kernel_rfl)))
theorem bZi : D117 r n aAv x0 r117 = D117 r n aUm x0 (K3 (aRd r n) 0 5 6) :=
 congrArg (fun k => D117 r n aUm x0 k) (cEv r n)
theorem cFo : D117 r n aAv x0 r117 = (K3 (aNy r n) 0 5 6) :=
 (bZi r n).trans
 ((by kernel_rfl))
theorem bNt : D117 r n aFx x0 r117 = D117 r n aXp x0 (K3 (aNy r n) 0 5 6) :=
 congrArg (fun k => D117 r n aXp x0 k) (cFo r n)
theorem cIr : D117 r n aFx x0 r117 = (K2 (uT r n) 0 5) :=
 (bNt r n).trans
 ((by kernel_rfl))
theorem bUp : D117 r n aEf x0 r117 = D117 r n aFp x0 (K2 (uT r n) 0 5) :=
 congrArg (fun k => D117 r n aFp x0 k) (cIr r n)
theorem bPd (q0 : rP) : D117 r n aFp x0 (K2 q0 0 5) = fun (env : aW) (h : Hp) =>
 bnd (bD [(.s []), (aF 0)] [(0, 1, (env 0))] h) fun v1 h1 =>
 bnd (bX v1 h1) fun v2 h2 =>
  q0 (env 0) v2 h2 := by kernel_rfl
theorem bEy : (fun (env : aW) (h : Hp) =>
 bnd (bD [(.s []), (aF 0)] [(0, 1, (env 0))] h) fun v1 h1 =>
 bnd (bX v1 h1) fun v2 h2 =>
  uT r n (env 0) v2 h2) = (K1 (aHe r n) 0) := by kernel_rfl
theorem cDf : D117 r n aEf x0 r117 = (K1 (aHe r n) 0) :=
 (bUp r n).trans
 ((bPd r n (uT r n)).trans (bEy r n))
theorem bLy : D117 r n aHu x0 r117 = D117 r n aWu x0 (K1 (aHe r n) 0) :=
 congrArg (fun k => D117 r n aWu x0 k) (cDf r n)
theorem cKp : D117 r n aSh x0 r117 = (K1 (aSf r n) 0) :=
 (by kernel_rfl : D117 r n aSh x0 r117 = D117 r n aHu x0 r117).trans
 ((bLy r n).trans
 ((by kernel_rfl)))
theorem cTm : D117 r n c117 x0 r117 = D117 r n aTv x0 (K1 (aSf r n) 0) :=
 congrArg (fun k => D117 r n aTv x0 k) (cKp r n)
theorem dJp : D117 r n c117 x0 r117 = (K1 (s117 r n) 0) :=
 (cTm r n).trans
 ((by kernel_rfl))
theorem cVl : aE CF r n 117 args h = s117 r n (aS args 0) h :=
 (by kernel_rfl : aE CF r n 117 args h = D117 r n c117 x0 r117 (aG args) h).trans ((congrFun (congrFun (dJp r n) (aG args)) h).trans (by kernel_rfl))
end Go.Dd

namespace Go.Dd
open Go.Proofs
variable (r : RT) (n : Nat) (args : List DV) (h : Hp)
noncomputable def s120 (r : RT) (n : Nat) (x0 x1 x2 : DV) (h0 : Hp) : aI :=
 bnd (bR [(aF 0), (.s []), (aF 0), (aF 0)] h0) fun v1 h1 =>
 bnd (r 133 [x0, x1, x2] h1) fun v2 h2 =>
 bnd (dR .not v2 h2) fun v3 h3 =>
 aT v3 (
 bnd (r 137 [x0, (aF 0)] h3) fun v4 h4 =>
 bnd (r 136 [x0, v4, (aF 13)] h4) fun v5 h5 =>
 bnd (bD [(aF 0), (.s []), (aF 0), (aF 0)] [] h5) fun v6 h6 =>
 bnd (aH 4 v1 v6 h6) fun _ h7 =>
 bnd (aK 4 v1 h7) fun v8 _ =>
 some (v8, h7)) (
 bnd (r 134 [x0] h3) fun v9 h9 =>
 bnd (aH 4 v1 v9 h9) fun _ h10 =>
 bnd (aK 4 v1 h10) fun v11 _ =>
 some (v11, h10))
noncomputable abbrev c120 : Code := cf Tryz.f120
noncomputable abbrev r120 : K := aP CF Tryz.f120
noncomputable def D120 (r : RT) (n : Nat) (c : Code) (X : Nat → K) (k : K) : K := aM CF r 19 n c X r120 k
theorem dMg : D120 r n c120 x0 r120 = (K3 (s120 r n) 0 1 2) :=
 (by kernel_rfl)
theorem cZw : aE CF r n 120 args h = s120 r n (aS args 0) (aS args 1) (aS args 2) h :=
 (by kernel_rfl : aE CF r n 120 args h = D120 r n c120 x0 r120 (aG args) h).trans ((congrFun (congrFun (dMg r n) (aG args)) h).trans (by kernel_rfl))
noncomputable def aYp (r : RT) (n : Nat) (kk6 : nB) (x0 x1 x4 : DV) (h0 : Hp) : aI :=
 bnd (gD x4 false (some (x0, h0)) h0) fun v1 h1 =>
 bnd (gD x4 false (r 133 [v1, (aF 2), (.s [])] h1) h1) fun v2 h2 =>
 bnd (aQ x4 (.b true) v2 h2) fun v3 h3 =>
 aT v3 (
 bnd (aO x1 h3) fun v4 h4 =>
 bnd (aC 1 v4 h4) fun v5 h5 =>
 bnd (aA v5 h5) fun v6 h6 =>
 bnd (r 120 [x0, (aF 2), (.s [])] h6) fun v7 h7 =>
 cnd (bJ (aA v5 h7) v6 && true) (
 bnd (fN 1 v7 h7) fun v8 h8 =>
 bnd (gR .add v6 v8 h8) fun v9 h9 =>
 bnd (aO x1 h9) fun v10 h10 =>
 bnd (aC 1 v10 h10) fun v11 h11 =>
 bnd (aH 1 v11 v9 h11) fun v12 h12 =>
 bnd (aO x1 (resv 1 h12)) fun v13 h13 =>
 bnd (aC 3 v13 h13) fun v14 h14 =>
 bnd (aA v14 h14) fun v15 h15 =>
 bnd (aO x1 h15) fun v16 h16 =>
 bnd (aC 3 v16 h16) fun v17 h17 =>
 bnd (aA v17 h17) fun v18 h18 =>
 bnd (r 138 [x0, (aF 1), v18] h18) fun v19 h19 =>
 cnd (bJ (aA v14 h19) v15 && true) (
 bnd (bL (bW 0 h12.next) [(.s [])] 1 [(0, 1, v19)] h19) fun v20 h20 =>
 bnd (bB 1 16 v15 v20 h20) fun v21 h21 =>
 bnd (aO x1 h21) fun v22 h22 =>
 bnd (aC 3 v22 h22) fun v23 h23 =>
 bnd (aH 1 v23 v21 h23) fun v24 h24 =>
      kk6 x0 x1 (.b false) h24))) (
 some (.t [], h3))
noncomputable def uG (r : RT) (n : Nat) (m : Nat) : nB :=
 Nat.rec (motive := fun _ => nB) (fun _ _ _ _ => none) (fun _ ih => aYp r n ih) m
noncomputable def bOl (r : RT) (n : Nat) : nB := uG r n n
noncomputable def aQw (r : RT) (n : Nat) (x0 x1 x4 : DV) (h0 : Hp) : aI :=
 bOl r n x0 x1 x4 h0
noncomputable def bNs (r : RT) (n : Nat) (x0 x1 : DV) (h0 : Hp) : aI :=
 aQw r n x0 x1 (.b true) h0
noncomputable def aNe (r : RT) (n : Nat) (x0 x1 x44 : DV) (h0 : Hp) : aI :=
 aT x44 (
 bnd (r 134 [x0] h0) fun v1 h1 =>
 bnd (fN 1 v1 h1) fun v2 h2 =>
 bnd (aO x1 h2) fun v3 h3 =>
 bnd (aC 1 v3 h3) fun v4 h4 =>
 bnd (aH 1 v4 v2 h4) fun _ h5 =>
 bnd (aO x1 (resv 1 h5)) fun v6 h6 =>
 bnd (aC 3 v6 h6) fun v7 h7 =>
 bnd (aA v7 h7) fun v8 h8 =>
 bnd (aO x1 h8) fun v9 h9 =>
 bnd (aC 3 v9 h9) fun v10 h10 =>
 bnd (aA v10 h10) fun v11 h11 =>
 bnd (r 138 [x0, (aF 1), v11] h11) fun v12 h12 =>
 cnd (bJ (aA v7 h12) v8 && true) (
 bnd (bL (bW 0 h5.next) [(.s [])] 1 [(0, 1, v12)] h12) fun v13 h13 =>
 bnd (bB 1 16 v8 v13 h13) fun v14 h14 =>
 bnd (aO x1 h14) fun v15 h15 =>
 bnd (aC 3 v15 h15) fun v16 h16 =>
 bnd (aH 1 v16 v14 h16) fun v17 h17 =>
 some (.t [], h17))) (
  bNs r n x0 x1 h0)
noncomputable def bXq (r : RT) (n : Nat) (x0 x1 : DV) (h0 : Hp) : aI :=
 bnd (r 133 [x0, (aF 3), (.s [])] h0) fun v1 h1 =>
  aNe r n x0 x1 v1 h1
noncomputable def aOl (r : RT) (n : Nat) (x0 x1 x35 : DV) (h0 : Hp) : aI :=
 aT x35 (
 bnd (r 134 [x0] h0) fun v1 h1 =>
 bnd (fN 1 v1 h1) fun v2 h2 =>
 bnd (aO x1 h2) fun v3 h3 =>
 bnd (aC 1 v3 h3) fun v4 h4 =>
 bnd (aH 1 v4 v2 h4) fun _ h5 =>
 some (.t [], h5)) (
  bXq r n x0 x1 h0)
noncomputable def s121 (r : RT) (n : Nat) (x0 x1 : DV) (h0 : Hp) : aI :=
 bnd (r 133 [x0, (aF 1), (.s [])] h0) fun v1 h1 =>
  aOl r n x0 x1 v1 h1
noncomputable abbrev c121 : Code := cf Tryz.f121
noncomputable abbrev aDa : Code := cL c121
noncomputable abbrev xQ : Code := cR aDa
noncomputable abbrev vY : Code := cR xQ
noncomputable abbrev wM : Code := cR vY
noncomputable abbrev vO : Code := cR wM
noncomputable abbrev aRg : Code := cR vO
noncomputable abbrev aEt : Code := cL aRg
noncomputable abbrev nX : Code := cL aEt
noncomputable abbrev bYq : Code := cL vO
noncomputable abbrev cHf : Code := cL wM
noncomputable abbrev aZx : Code := cL vY
noncomputable abbrev cJk : Code := cL xQ
noncomputable abbrev aVp : Code := cL aDa
noncomputable abbrev r121 : K := aP CF Tryz.f121
noncomputable def D121 (r : RT) (n : Nat) (c : Code) (X : Nat → K) (k : K) : K := aM CF r 68 n c X r121 k
theorem bVu (kk6 : nB) : D121 r n nX (xs (xs x0 0 r121) 1 r121) (K3 kk6 0 1 4) = (K3 (aYp r n kk6) 0 1 4) :=
 (by kernel_rfl)
theorem bXr (m : Nat) : aR (fun kk => D121 r n nX (xs (xs x0 0 r121) 1 r121) kk) m = (K3 (uG r n m) 0 1 4) := by
 induction m with
 | zero => exact (by kernel_rfl : aR (fun kk => D121 r n nX (xs (xs x0 0 r121) 1 r121) kk) 0 = (K3 (uG r n 0) 0 1 4))
 | succ m ih =>
  refine (by kernel_rfl : aR (fun kk => D121 r n nX (xs (xs x0 0 r121) 1 r121) kk) (m + 1) = D121 r n nX (xs (xs x0 0 r121) 1 r121) (aR (fun kk => D121 r n nX (xs (xs x0 0 r121) 1 r121) kk) m)).trans ?_
  rw [ih]
  exact (bVu r n (uG r n m)).trans (by kernel_rfl)
theorem cPg : D121 r n aEt (xs (xs x0 0 r121) 1 r121) r121 = (K3 (bOl r n) 0 1 4) :=
 (by kernel_rfl : D121 r n aEt (xs (xs x0 0 r121) 1 r121) r121 = aR (fun kk => D121 r n nX (xs (xs x0 0 r121) 1 r121) kk) n).trans ((bXr r n n).trans (by kernel_rfl))
theorem cMa : D121 r n aRg (xs x0 0 r121) r121 = (K3 (aQw r n) 0 1 4) :=
 (by kernel_rfl : D121 r n aRg (xs x0 0 r121) r121 = D121 r n aEt (xs (xs x0 0 r121) 1 r121) r121).trans
 ((cPg r n).trans (by kernel_rfl))
theorem bKk : D121 r n vO (xs x0 0 r121) r121 = D121 r n bYq (xs x0 0 r121) (K3 (aQw r n) 0 1 4) :=
 congrArg (fun k => D121 r n bYq (xs x0 0 r121) k) (cMa r n)
theorem cLr : D121 r n vO (xs x0 0 r121) r121 = (K2 (bNs r n) 0 1) :=
 (bKk r n).trans
 ((by kernel_rfl))
theorem cIa : D121 r n wM (xs x0 0 r121) r121 = (K3 (aNe r n) 0 1 44) :=
 (by kernel_rfl : D121 r n wM (xs x0 0 r121) r121 = (fun (env : aW) (h : Hp) => aT (opr env (cC wM)) (D121 r n cHf (xs x0 0 r121) r121 env h) (D121 r n vO (xs x0 0 r121) r121 env h))).trans (by rw [cLr r n]; kernel_rfl)
theorem bNe : D121 r n vY (xs x0 0 r121) r121 = D121 r n aZx (xs x0 0 r121) (K3 (aNe r n) 0 1 44) :=
 congrArg (fun k => D121 r n aZx (xs x0 0 r121) k) (cIa r n)
theorem cBz : D121 r n vY (xs x0 0 r121) r121 = (K2 (bXq r n) 0 1) :=
 (bNe r n).trans
 ((by kernel_rfl))
theorem cCl : D121 r n xQ (xs x0 0 r121) r121 = (K3 (aOl r n) 0 1 35) :=
 (by kernel_rfl : D121 r n xQ (xs x0 0 r121) r121 = (fun (env : aW) (h : Hp) => aT (opr env (cC xQ)) (D121 r n cJk (xs x0 0 r121) r121 env h) (D121 r n vY (xs x0 0 r121) r121 env h))).trans (by rw [cBz r n]; kernel_rfl)
theorem dFf : D121 r n aDa (xs x0 0 r121) r121 = D121 r n aVp (xs x0 0 r121) (K3 (aOl r n) 0 1 35) :=
 congrArg (fun k => D121 r n aVp (xs x0 0 r121) k) (cCl r n)
theorem dJf : D121 r n c121 x0 r121 = (K2 (s121 r n) 0 1) :=
 (by kernel_rfl : D121 r n c121 x0 r121 = D121 r n aDa (xs x0 0 r121) r121).trans
 ((dFf r n).trans
 ((by kernel_rfl)))
theorem cWx : aE CF r n 121 args h = s121 r n (aS args 0) (aS args 1) h :=
 (by kernel_rfl : aE CF r n 121 args h = D121 r n c121 x0 r121 (aG args) h).trans ((congrFun (congrFun (dJf r n) (aG args)) h).trans (by kernel_rfl))
noncomputable def s124 (r : RT) (n : Nat) (x0 : DV) (h0 : Hp) : aI :=
 bnd (bX x0 h0) fun v1 h1 =>
 bnd (aC 0 v1 h1) fun v2 h2 =>
 bnd (aA v2 h2) fun v3 h3 =>
 bnd (r 142 [v3] h3) fun v4 h4 =>
 bnd (aB 0 v4 h4) fun v5 h5 =>
 bnd (aB 1 v4 h5) fun v6 h6 =>
 bnd (aC 0 v1 h6) fun v7 h7 =>
 bnd (aA v7 h7) fun v8 h8 =>
 bnd (aD .geq v8 (aF 1) h8) fun v9 h9 =>
 bnd (gD v9 true (aC 0 v1 h9) h9) fun v10 h10 =>
 bnd (gD v9 true (aA v10 h10) h10) fun v11 h11 =>
 bnd (gD v9 true (aD .leq v11 (aF 20) h11) h11) fun v12 h12 =>
 bnd (aQ v9 v12 (.b false) h12) fun v13 h13 =>
 bnd (gD v13 true (aC 1 v1 h13) h13) fun v14 h14 =>
 bnd (gD v13 true (aA v14 h14) h14) fun v15 h15 =>
 bnd (gD v13 true (some (v5, h15)) h15) fun v16 h16 =>
 bnd (gD v13 true (r 143 [v15, v16] h16) h16) fun v17 h17 =>
 bnd (aQ v13 v17 (.b false) h17) fun v18 h18 =>
 bnd (gD v18 true (aC 2 v1 h18) h18) fun v19 h19 =>
 bnd (gD v18 true (aA v19 h19) h19) fun v20 h20 =>
 bnd (gD v18 true (some (v6, h20)) h20) fun v21 h21 =>
 bnd (gD v18 true (r 143 [v20, v21] h21) h21) fun v22 h22 =>
 bnd (aQ v18 v22 (.b false) h22) fun v23 h23 =>
 some (v23, h23)
noncomputable abbrev c124 : Code := cf Tryz.f124
noncomputable abbrev r124 : K := aP CF Tryz.f124
noncomputable def D124 (r : RT) (n : Nat) (c : Code) (X : Nat → K) (k : K) : K := aM CF r 31 n c X r124 k
theorem dNt : D124 r n c124 x0 r124 = (K1 (s124 r n) 0) :=
 (by kernel_rfl)
theorem cTg : aE CF r n 124 args h = s124 r n (aS args 0) h :=
 (by kernel_rfl : aE CF r n 124 args h = D124 r n c124 x0 r124 (aG args) h).trans ((congrFun (congrFun (dNt r n) (aG args)) h).trans (by kernel_rfl))
noncomputable def s125 (r : RT) (n : Nat) (x0 x1 : DV) (h0 : Hp) : aI :=
 bnd (bX x0 h0) fun v1 h1 =>
 bnd (aK 6 v1 h1) fun v2 h2 =>
 bnd (r 144 [v2, x1] h2) fun v3 h3 =>
 bnd (aB 0 v3 h3) fun v4 h4 =>
 bnd (aB 1 v3 h4) fun v5 h5 =>
 some (v5, h5)
noncomputable abbrev c125 : Code := cf Tryz.f125
noncomputable abbrev r125 : K := aP CF Tryz.f125
noncomputable def D125 (r : RT) (n : Nat) (c : Code) (X : Nat → K) (k : K) : K := aM CF r 14 n c X r125 k
theorem dGo : D125 r n c125 x0 r125 = (K2 (s125 r n) 0 1) :=
 (by kernel_rfl)
theorem cTd : aE CF r n 125 args h = s125 r n (aS args 0) (aS args 1) h :=
 (by kernel_rfl : aE CF r n 125 args h = D125 r n c125 x0 r125 (aG args) h).trans ((congrFun (congrFun (dGo r n) (aG args)) h).trans (by kernel_rfl))
noncomputable def eC (r : RT) (n : Nat) (x0 x6 : DV) (h0 : Hp) : aI :=
 bnd (r 46 [x0, x6] h0) fun v1 h1 =>
 bnd (aB 0 v1 h1) fun v2 h2 =>
 bnd (aB 1 v1 h2) fun v3 h3 =>
 some (.t [v2, v3], h3)
noncomputable def aIe (r : RT) (n : Nat) (kk6 : cF) (x0 x6 x38 x39 x40 : DV) (h0 : Hp) : aI :=
 bnd (aD .lss x40 x39 h0) fun v1 h1 =>
 aT v1 (
 bnd (aJ 4 x38 x40 h1) fun v2 h2 =>
 bnd (aK 4 v2 h2) fun v3 h3 =>
 bnd (bR [(aF 0), (.s []), (aF 0), .l0] h3) fun v4 h4 =>
 bnd (aH 4 v4 v3 h4) fun _ h5 =>
 bnd (aK 4 v4 h5) fun v6 h6 =>
 bnd (r 126 [x0, v6] h6) fun v7 h7 =>
 bnd (aB 0 v7 h7) fun v8 h8 =>
 bnd (aB 1 v7 h8) fun v9 h9 =>
 bnd (aD .neq v9 (aF 0) h9) fun v10 h10 =>
 aT v10 (
 some (.t [(aF 0), v9], h10)) (
 bnd (aL [(aF 0)] 1 [(0, 1, v8)] h10) fun v11 h11 =>
 bnd (bB 1 8 x6 v11 h11) fun v12 h12 =>
 bnd (aD .add x40 (aF 1) h12) fun v13 h13 =>
    kk6 x0 v12 x38 x39 v13 h13)) (
      eC r n x0 x6 h1)
noncomputable def uM (r : RT) (n : Nat) (m : Nat) : cF :=
 Nat.rec (motive := fun _ => cF) (fun _ _ _ _ _ _ => none) (fun _ ih => aIe r n ih) m
noncomputable def bIq (r : RT) (n : Nat) : cF := uM r n n
noncomputable def aQl (r : RT) (n : Nat) (x0 x6 x38 x39 x40 : DV) (h0 : Hp) : aI :=
 bIq r n x0 x6 x38 x39 x40 h0
noncomputable def aPd (r : RT) (n : Nat) (x0 x3 x6 : DV) (h0 : Hp) : aI :=
 bnd (aC 3 x3 h0) fun v1 h1 =>
 bnd (aA v1 h1) fun v2 h2 =>
 bnd (cJ v2 h2) fun v3 h3 =>
  aQl r n x0 x6 v2 v3 (aF 0) h3
noncomputable def aSm (r : RT) (n : Nat) (x0 x3 : DV) (h0 : Hp) : aI :=
 aPd r n x0 x3 .l0 h0
noncomputable def xX (r : RT) (n : Nat) (x0 x3 : DV) (h0 : Hp) : aI :=
 bnd (aC 0 x3 h0) fun v1 h1 =>
 bnd (aA v1 h1) fun v2 h2 =>
 bnd (aD .eql v2 (aF 1) h2) fun v3 h3 =>
 aT v3 (
 bnd (aC 2 x3 h3) fun v4 h4 =>
 bnd (aA v4 h4) fun v5 h5 =>
 bnd (r 42 [x0, v5] h5) fun v6 h6 =>
 bnd (aB 0 v6 h6) fun v7 h7 =>
 bnd (aB 1 v6 h7) fun v8 h8 =>
 some (.t [v7, v8], h8)) (
 bnd (aD .eql v2 (aF 2) h3) fun v9 h9 =>
 aT v9 (
 bnd (aC 1 x3 h9) fun v10 h10 =>
 bnd (aA v10 h10) fun v11 h11 =>
 bnd (r 43 [x0, v11] h11) fun v12 h12 =>
 bnd (aB 0 v12 h12) fun v13 h13 =>
 bnd (aB 1 v12 h13) fun v14 h14 =>
 some (.t [v13, v14], h14)) (
 bnd (aD .eql v2 (aF 3) h9) fun v15 h15 =>
 aT v15 (
 bnd (aC 1 x3 h15) fun v16 h16 =>
 bnd (aA v16 h16) fun v17 h17 =>
 bnd (r 44 [x0, v17] h17) fun v18 h18 =>
 bnd (aB 0 v18 h18) fun v19 h19 =>
 bnd (aB 1 v18 h19) fun v20 h20 =>
 some (.t [v19, v20], h20)) (
    aSm r n x0 x3 h15)))
noncomputable def s126 (r : RT) (n : Nat) (x0 x1 : DV) (h0 : Hp) : aI :=
 bnd (bX x1 h0) fun v1 h1 =>
  xX r n x0 v1 h1
noncomputable abbrev c126 : Code := cf Tryz.f126
noncomputable abbrev aJd : Code := cR c126
noncomputable abbrev aBv : Code := cR aJd
noncomputable abbrev aGe : Code := cR aBv
noncomputable abbrev dAw : Code := cR aGe
noncomputable abbrev xR : Code := cL aGe
noncomputable abbrev aNg : Code := cR xR
noncomputable abbrev aIh : Code := cL aNg
noncomputable abbrev lV : Code := cL aIh
noncomputable abbrev bLt : Code := cL xR
noncomputable abbrev aXq : Code := cL aBv
noncomputable abbrev aWx : Code := cL aJd
noncomputable abbrev aCw : Code := cL c126
noncomputable abbrev r126 : K := aP CF Tryz.f126
noncomputable def D126 (r : RT) (n : Nat) (c : Code) (X : Nat → K) (k : K) : K := aM CF r 63 n c X r126 k
theorem cCr : D126 r n dAw x0 r126 = (K2 (eC r n) 0 6) :=
 (by kernel_rfl)
theorem bMs (kk6 : cF) (q0 : rP) : D126 r n lV (xs x0 1 (K2 q0 0 6)) (K5 kk6 0 6 38 39 40) = fun (env : aW) (h : Hp) =>
 bnd (aD .lss (env 40) (env 39) h) fun v1 h1 =>
 aT v1 (
 bnd (aJ 4 (env 38) (env 40) h1) fun v2 h2 =>
 bnd (aK 4 v2 h2) fun v3 h3 =>
 bnd (bR [(aF 0), (.s []), (aF 0), .l0] h3) fun v4 h4 =>
 bnd (aH 4 v4 v3 h4) fun _ h5 =>
 bnd (aK 4 v4 h5) fun v6 h6 =>
 bnd (r 126 [(env 0), v6] h6) fun v7 h7 =>
 bnd (aB 0 v7 h7) fun v8 h8 =>
 bnd (aB 1 v7 h8) fun v9 h9 =>
 bnd (aD .neq v9 (aF 0) h9) fun v10 h10 =>
 aT v10 (
 some (.t [(aF 0), v9], h10)) (
 bnd (aL [(aF 0)] 1 [(0, 1, v8)] h10) fun v11 h11 =>
 bnd (bB 1 8 (env 6) v11 h11) fun v12 h12 =>
 bnd (aD .add (env 40) (aF 1) h12) fun v13 h13 =>
    kk6 (env 0) v12 (env 38) (env 39) v13 h13)) (
      q0 (env 0) (env 6) h1) := by kernel_rfl
theorem bCq (kk6 : cF) : (fun (env : aW) (h : Hp) =>
 bnd (aD .lss (env 40) (env 39) h) fun v1 h1 =>
 aT v1 (
 bnd (aJ 4 (env 38) (env 40) h1) fun v2 h2 =>
 bnd (aK 4 v2 h2) fun v3 h3 =>
 bnd (bR [(aF 0), (.s []), (aF 0), .l0] h3) fun v4 h4 =>
 bnd (aH 4 v4 v3 h4) fun _ h5 =>
 bnd (aK 4 v4 h5) fun v6 h6 =>
 bnd (r 126 [(env 0), v6] h6) fun v7 h7 =>
 bnd (aB 0 v7 h7) fun v8 h8 =>
 bnd (aB 1 v7 h8) fun v9 h9 =>
 bnd (aD .neq v9 (aF 0) h9) fun v10 h10 =>
 aT v10 (
 some (.t [(aF 0), v9], h10)) (
 bnd (aL [(aF 0)] 1 [(0, 1, v8)] h10) fun v11 h11 =>
 bnd (bB 1 8 (env 6) v11 h11) fun v12 h12 =>
 bnd (aD .add (env 40) (aF 1) h12) fun v13 h13 =>
    kk6 (env 0) v12 (env 38) (env 39) v13 h13)) (
      eC r n (env 0) (env 6) h1)) = (K5 (aIe r n kk6) 0 6 38 39 40) := by kernel_rfl
theorem bGm (kk6 : cF) : D126 r n lV (xs x0 1 (K2 (eC r n) 0 6)) (K5 kk6 0 6 38 39 40) = (K5 (aIe r n kk6) 0 6 38 39 40) :=
 (bMs r n kk6 (eC r n)).trans (bCq r n kk6)
theorem bIt (m : Nat) : aR (fun kk => D126 r n lV (xs x0 1 (K2 (eC r n) 0 6)) kk) m = (K5 (uM r n m) 0 6 38 39 40) := by
 induction m with
 | zero => exact (by kernel_rfl : aR (fun kk => D126 r n lV (xs x0 1 (K2 (eC r n) 0 6)) kk) 0 = (K5 (uM r n 0) 0 6 38 39 40))
 | succ m ih =>
  refine (by kernel_rfl : aR (fun kk => D126 r n lV (xs x0 1 (K2 (eC r n) 0 6)) kk) (m + 1) = D126 r n lV (xs x0 1 (K2 (eC r n) 0 6)) (aR (fun kk => D126 r n lV (xs x0 1 (K2 (eC r n) 0 6)) kk) m)).trans ?_
  rw [ih]
  exact (bGm r n (uM r n m)).trans (by kernel_rfl)
theorem cGl : D126 r n aIh (xs x0 1 (K2 (eC r n) 0 6)) (K2 (eC r n) 0 6) = (K5 (bIq r n) 0 6 38 39 40) :=
 (by kernel_rfl : D126 r n aIh (xs x0 1 (K2 (eC r n) 0 6)) (K2 (eC r n) 0 6) = aR (fun kk => D126 r n lV (xs x0 1 (K2 (eC r n) 0 6)) kk) n).trans ((bIt r n n).trans (by kernel_rfl))
theorem cPv : D126 r n aNg x0 (K2 (eC r n) 0 6) = (K5 (aQl r n) 0 6 38 39 40) :=
 (by kernel_rfl : D126 r n aNg x0 (K2 (eC r n) 0 6) = D126 r n aIh (xs x0 1 (K2 (eC r n) 0 6)) (K2 (eC r n) 0 6)).trans
 ((cGl r n).trans (by kernel_rfl))
theorem bLw : D126 r n aGe x0 r126 = D126 r n xR x0 (K2 (eC r n) 0 6) :=
 congrArg (fun k => D126 r n xR x0 k) (cCr r n)
theorem bZq : D126 r n xR x0 (K2 (eC r n) 0 6) = D126 r n bLt x0 (K5 (aQl r n) 0 6 38 39 40) :=
 congrArg (fun k => D126 r n bLt x0 k) (cPv r n)
theorem cIn : D126 r n aGe x0 r126 = (K3 (aPd r n) 0 3 6) :=
 (bLw r n).trans
 ((bZq r n).trans
 ((by kernel_rfl)))
theorem bUt : D126 r n aBv x0 r126 = D126 r n aXq x0 (K3 (aPd r n) 0 3 6) :=
 congrArg (fun k => D126 r n aXq x0 k) (cIn r n)
theorem cFk : D126 r n aBv x0 r126 = (K2 (aSm r n) 0 3) :=
 (bUt r n).trans
 ((by kernel_rfl))
theorem bXa : D126 r n aJd x0 r126 = D126 r n aWx x0 (K2 (aSm r n) 0 3) :=
 congrArg (fun k => D126 r n aWx x0 k) (cFk r n)
theorem cKl : D126 r n aJd x0 r126 = (K2 (xX r n) 0 3) :=
 (bXa r n).trans
 ((by kernel_rfl))
theorem dCx : D126 r n c126 x0 r126 = D126 r n aCw x0 (K2 (xX r n) 0 3) :=
 congrArg (fun k => D126 r n aCw x0 k) (cKl r n)
theorem cXf (q0 : rP) : D126 r n aCw x0 (K2 q0 0 3) = fun (env : aW) (h : Hp) =>
 bnd (bX (env 1) h) fun v1 h1 =>
  q0 (env 0) v1 h1 := by kernel_rfl
theorem cHh : (fun (env : aW) (h : Hp) =>
 bnd (bX (env 1) h) fun v1 h1 =>
  xX r n (env 0) v1 h1) = (K2 (s126 r n) 0 1) := by kernel_rfl
theorem dHa : D126 r n c126 x0 r126 = (K2 (s126 r n) 0 1) :=
 (dCx r n).trans
 ((cXf r n (xX r n)).trans (cHh r n))
theorem cTq : aE CF r n 126 args h = s126 r n (aS args 0) (aS args 1) h :=
 (by kernel_rfl : aE CF r n 126 args h = D126 r n c126 x0 r126 (aG args) h).trans ((congrFun (congrFun (dHa r n) (aG args)) h).trans (by kernel_rfl))
noncomputable def eE (r : RT) (n : Nat) (x4 : DV) (h0 : Hp) : aI :=
 some (.t [x4, (aF 0)], h0)
noncomputable def aJm (r : RT) (n : Nat) (kk6 : dJ) (x4 x10 x11 x12 : DV) (h0 : Hp) : aI :=
 bnd (aD .lss x12 x11 h0) fun v1 h1 =>
 aT v1 (
 bnd (aJ 3 x10 x12 h1) fun v2 h2 =>
 bnd (aK 3 v2 h2) fun v3 h3 =>
 bnd (bR [(aF 0), (aF 0), (aF 0)] h3) fun v4 h4 =>
 bnd (aH 3 v4 v3 h4) fun _ h5 =>
 bnd (aK 3 v4 h5) fun v6 h6 =>
 bnd (r 124 [v6] h6) fun v7 h7 =>
 bnd (dR .not v7 h7) fun v8 h8 =>
 aT v8 (
 some (.t [.l0, (aF 19)], h8)) (
 bnd (aC 0 v4 h8) fun v9 h9 =>
 bnd (aA v9 h9) fun v10 h10 =>
 bnd (cW .u8 v10 h10) fun v11 h11 =>
 bnd (aC 1 v4 h11) fun v12 h12 =>
 bnd (aA v12 h12) fun v13 h13 =>
 bnd (cW .u8 v13 h13) fun v14 h14 =>
 bnd (aC 2 v4 h14) fun v15 h15 =>
 bnd (aA v15 h15) fun v16 h16 =>
 bnd (cW .u8 v16 h16) fun v17 h17 =>
 bnd (aL [(.i .u8 (Int.ofNat 0)), (.i .u8 (Int.ofNat 0)), (.i .u8 (Int.ofNat 0))] 3 [(0, 1, v11), (1, 1, v14), (2, 1, v17)] h17) fun v18 h18 =>
 bnd (bB 1 1 x4 v18 h18) fun v19 h19 =>
 bnd (aD .add x12 (aF 1) h19) fun v20 h20 =>
    kk6 v19 x10 x11 v20 h20)) (
      eE r n x4 h1)
noncomputable def tA (r : RT) (n : Nat) (m : Nat) : dJ :=
 Nat.rec (motive := fun _ => dJ) (fun _ _ _ _ _ => none) (fun _ ih => aJm r n ih) m
noncomputable def bYe (r : RT) (n : Nat) : dJ := tA r n n
noncomputable def aSq (r : RT) (n : Nat) (x4 x10 x11 x12 : DV) (h0 : Hp) : aI :=
 bYe r n x4 x10 x11 x12 h0
noncomputable def aMw (r : RT) (n : Nat) (x0 x4 : DV) (h0 : Hp) : aI :=
 bnd (cJ x0 h0) fun v1 h1 =>
  aSq r n x4 x0 v1 (aF 0) h1
noncomputable def aRc (r : RT) (n : Nat) (x0 : DV) (h0 : Hp) : aI :=
 aMw r n x0 .l0 h0
noncomputable def aMy (r : RT) (n : Nat) (x0 : DV) (h0 : Hp) : aI :=
 bnd (cJ x0 h0) fun v1 h1 =>
 bnd (aD .gtr v1 (aF 400) h1) fun v2 h2 =>
 aT v2 (
 some (.t [.l0, (aF 19)], h2)) (
  aRc r n x0 h2)
noncomputable def s127 (r : RT) (n : Nat) (x0 : DV) (h0 : Hp) : aI :=
 aMy r n x0 h0
noncomputable abbrev c127 : Code := cf Tryz.f127
noncomputable abbrev aIj : Code := cR c127
noncomputable abbrev aDh : Code := cR aIj
noncomputable abbrev aFo : Code := cR aDh
noncomputable abbrev cSr : Code := cR aFo
noncomputable abbrev vL : Code := cL aFo
noncomputable abbrev aOx : Code := cR vL
noncomputable abbrev aIo : Code := cL aOx
noncomputable abbrev mC : Code := cL aIo
noncomputable abbrev bMj : Code := cL vL
noncomputable abbrev aZh : Code := cL aDh
noncomputable abbrev bBi : Code := cL aIj
noncomputable abbrev aWl : Code := cL c127
noncomputable abbrev r127 : K := aP CF Tryz.f127
noncomputable def D127 (r : RT) (n : Nat) (c : Code) (X : Nat → K) (k : K) : K := aM CF r 33 n c X r127 k
theorem cEc : D127 r n cSr x0 r127 = (K1 (eE r n) 4) :=
 (by kernel_rfl)
theorem bQt (kk6 : dJ) (q0 : TT1) : D127 r n mC (xs x0 0 (K1 q0 4)) (K4 kk6 4 10 11 12) = fun (env : aW) (h : Hp) =>
 bnd (aD .lss (env 12) (env 11) h) fun v1 h1 =>
 aT v1 (
 bnd (aJ 3 (env 10) (env 12) h1) fun v2 h2 =>
 bnd (aK 3 v2 h2) fun v3 h3 =>
 bnd (bR [(aF 0), (aF 0), (aF 0)] h3) fun v4 h4 =>
 bnd (aH 3 v4 v3 h4) fun _ h5 =>
 bnd (aK 3 v4 h5) fun v6 h6 =>
 bnd (r 124 [v6] h6) fun v7 h7 =>
 bnd (dR .not v7 h7) fun v8 h8 =>
 aT v8 (
 some (.t [.l0, (aF 19)], h8)) (
 bnd (aC 0 v4 h8) fun v9 h9 =>
 bnd (aA v9 h9) fun v10 h10 =>
 bnd (cW .u8 v10 h10) fun v11 h11 =>
 bnd (aC 1 v4 h11) fun v12 h12 =>
 bnd (aA v12 h12) fun v13 h13 =>
 bnd (cW .u8 v13 h13) fun v14 h14 =>
 bnd (aC 2 v4 h14) fun v15 h15 =>
 bnd (aA v15 h15) fun v16 h16 =>
 bnd (cW .u8 v16 h16) fun v17 h17 =>
 bnd (aL [(.i .u8 (Int.ofNat 0)), (.i .u8 (Int.ofNat 0)), (.i .u8 (Int.ofNat 0))] 3 [(0, 1, v11), (1, 1, v14), (2, 1, v17)] h17) fun v18 h18 =>
 bnd (bB 1 1 (env 4) v18 h18) fun v19 h19 =>
 bnd (aD .add (env 12) (aF 1) h19) fun v20 h20 =>
    kk6 v19 (env 10) (env 11) v20 h20)) (
      q0 (env 4) h1) := by kernel_rfl
theorem bDy (kk6 : dJ) : (fun (env : aW) (h : Hp) =>
 bnd (aD .lss (env 12) (env 11) h) fun v1 h1 =>
 aT v1 (
 bnd (aJ 3 (env 10) (env 12) h1) fun v2 h2 =>
 bnd (aK 3 v2 h2) fun v3 h3 =>
 bnd (bR [(aF 0), (aF 0), (aF 0)] h3) fun v4 h4 =>
 bnd (aH 3 v4 v3 h4) fun _ h5 =>
 bnd (aK 3 v4 h5) fun v6 h6 =>
 bnd (r 124 [v6] h6) fun v7 h7 =>
 bnd (dR .not v7 h7) fun v8 h8 =>
 aT v8 (
 some (.t [.l0, (aF 19)], h8)) (
 bnd (aC 0 v4 h8) fun v9 h9 =>
 bnd (aA v9 h9) fun v10 h10 =>
 bnd (cW .u8 v10 h10) fun v11 h11 =>
 bnd (aC 1 v4 h11) fun v12 h12 =>
 bnd (aA v12 h12) fun v13 h13 =>
 bnd (cW .u8 v13 h13) fun v14 h14 =>
 bnd (aC 2 v4 h14) fun v15 h15 =>
 bnd (aA v15 h15) fun v16 h16 =>
 bnd (cW .u8 v16 h16) fun v17 h17 =>
 bnd (aL [(.i .u8 (Int.ofNat 0)), (.i .u8 (Int.ofNat 0)), (.i .u8 (Int.ofNat 0))] 3 [(0, 1, v11), (1, 1, v14), (2, 1, v17)] h17) fun v18 h18 =>
 bnd (bB 1 1 (env 4) v18 h18) fun v19 h19 =>
 bnd (aD .add (env 12) (aF 1) h19) fun v20 h20 =>
    kk6 v19 (env 10) (env 11) v20 h20)) (
      eE r n (env 4) h1)) = (K4 (aJm r n kk6) 4 10 11 12) := by kernel_rfl
theorem bKy (kk6 : dJ) : D127 r n mC (xs x0 0 (K1 (eE r n) 4)) (K4 kk6 4 10 11 12) = (K4 (aJm r n kk6) 4 10 11 12) :=
 (bQt r n kk6 (eE r n)).trans (bDy r n kk6)
theorem bRg (m : Nat) : aR (fun kk => D127 r n mC (xs x0 0 (K1 (eE r n) 4)) kk) m = (K4 (tA r n m) 4 10 11 12) := by
 induction m with
 | zero => exact (by kernel_rfl : aR (fun kk => D127 r n mC (xs x0 0 (K1 (eE r n) 4)) kk) 0 = (K4 (tA r n 0) 4 10 11 12))
 | succ m ih =>
  refine (by kernel_rfl : aR (fun kk => D127 r n mC (xs x0 0 (K1 (eE r n) 4)) kk) (m + 1) = D127 r n mC (xs x0 0 (K1 (eE r n) 4)) (aR (fun kk => D127 r n mC (xs x0 0 (K1 (eE r n) 4)) kk) m)).trans ?_
  rw [ih]
  exact (bKy r n (tA r n m)).trans (by kernel_rfl)
theorem cHv : D127 r n aIo (xs x0 0 (K1 (eE r n) 4)) (K1 (eE r n) 4) = (K4 (bYe r n) 4 10 11 12) :=
 (by kernel_rfl : D127 r n aIo (xs x0 0 (K1 (eE r n) 4)) (K1 (eE r n) 4) = aR (fun kk => D127 r n mC (xs x0 0 (K1 (eE r n) 4)) kk) n).trans ((bRg r n n).trans (by kernel_rfl))
theorem cIg : D127 r n aOx x0 (K1 (eE r n) 4) = (K4 (aSq r n) 4 10 11 12) :=
 (by kernel_rfl : D127 r n aOx x0 (K1 (eE r n) 4) = D127 r n aIo (xs x0 0 (K1 (eE r n) 4)) (K1 (eE r n) 4)).trans
 ((cHv r n).trans (by kernel_rfl))
theorem bZj : D127 r n aFo x0 r127 = D127 r n vL x0 (K1 (eE r n) 4) :=
 congrArg (fun k => D127 r n vL x0 k) (cEc r n)
theorem bPr : D127 r n vL x0 (K1 (eE r n) 4) = D127 r n bMj x0 (K4 (aSq r n) 4 10 11 12) :=
 congrArg (fun k => D127 r n bMj x0 k) (cIg r n)
theorem cEh : D127 r n aFo x0 r127 = (K2 (aMw r n) 0 4) :=
 (bZj r n).trans
 ((bPr r n).trans
 ((by kernel_rfl)))
theorem bVj : D127 r n aDh x0 r127 = D127 r n aZh x0 (K2 (aMw r n) 0 4) :=
 congrArg (fun k => D127 r n aZh x0 k) (cEh r n)
theorem cBi : D127 r n aDh x0 r127 = (K1 (aRc r n) 0) :=
 (bVj r n).trans
 ((by kernel_rfl))
theorem bZw : D127 r n aIj x0 r127 = D127 r n bBi x0 (K1 (aRc r n) 0) :=
 congrArg (fun k => D127 r n bBi x0 k) (cBi r n)
theorem cDd : D127 r n aIj x0 r127 = (K1 (aMy r n) 0) :=
 (bZw r n).trans
 ((by kernel_rfl))
theorem cTr : D127 r n c127 x0 r127 = D127 r n aWl x0 (K1 (aMy r n) 0) :=
 congrArg (fun k => D127 r n aWl x0 k) (cDd r n)
theorem dHx : D127 r n c127 x0 r127 = (K1 (s127 r n) 0) :=
 (cTr r n).trans
 ((by kernel_rfl))
theorem dFe : aE CF r n 127 args h = s127 r n (aS args 0) h :=
 (by kernel_rfl : aE CF r n 127 args h = D127 r n c127 x0 r127 (aG args) h).trans ((congrFun (congrFun (dHx r n) (aG args)) h).trans (by kernel_rfl))
noncomputable def eT (r : RT) (n : Nat) (x0 x6 : DV) (h0 : Hp) : aI :=
 bnd (r 46 [x0, x6] h0) fun v1 h1 =>
 bnd (aB 0 v1 h1) fun v2 h2 =>
 bnd (aB 1 v1 h2) fun v3 h3 =>
 some (.t [v2, v3], h3)
noncomputable def aEs (r : RT) (n : Nat) (kk4 : nB) (x0 x1 x6 : DV) (h0 : Hp) : aI :=
 bnd (cJ x1 h0) fun v1 h1 =>
 bnd (aD .gtr v1 (aF 0) h1) fun v2 h2 =>
 aT v2 (
 bnd (cJ x1 h2) fun v3 h3 =>
 bnd (aNm v3 (aF 240) h3) fun v4 h4 =>
 bnd (r 30 [x0, (aF 10)] h4) fun v5 h5 =>
 bnd (cV 1 x1 none (some v4) h5) fun v6 h6 =>
 cnd (bJ (cV 1 x1 none (some v4) h4) v6 && true) (
 bnd (gM v6 h6) fun v7 h7 =>
 cnd (bJ (gM v6 h4) v7 && true) (
 bnd (r 83 [x0, v5, v7] h7) fun v8 h8 =>
 bnd (aB 0 v8 h8) fun v9 h9 =>
 bnd (aB 1 v8 h9) fun v10 h10 =>
 bnd (aD .neq v10 (aF 0) h10) fun v11 h11 =>
 aT v11 (
 some (.t [(aF 0), v10], h11)) (
 bnd (bL (bW 0 h11.next) [(aF 0)] 1 [(0, 1, v9)] (resv 1 h11)) fun v12 h12 =>
 bnd (bB 1 8 x6 v12 h12) fun v13 h13 =>
 bnd (cV 1 x1 (some v4) none h13) fun v14 h14 =>
 cnd (bJ (cV 1 x1 (some v4) none (resv 1 h11)) v14 && true) (
    kk4 x0 v14 v13 h14))))) (
      eT r n x0 x6 h2)
noncomputable def tU (r : RT) (n : Nat) (m : Nat) : nB :=
 Nat.rec (motive := fun _ => nB) (fun _ _ _ _ => none) (fun _ ih => aEs r n ih) m
noncomputable def bZp (r : RT) (n : Nat) : nB := tU r n n
noncomputable def aSa (r : RT) (n : Nat) (x0 x1 x6 : DV) (h0 : Hp) : aI :=
 bZp r n x0 x1 x6 h0
noncomputable def aNq (r : RT) (n : Nat) (x0 x1 : DV) (h0 : Hp) : aI :=
 aSa r n x0 x1 .l0 h0
noncomputable def s128 (r : RT) (n : Nat) (x0 x1 : DV) (h0 : Hp) : aI :=
 aNq r n x0 x1 h0
noncomputable abbrev c128 : Code := cf Tryz.f128
noncomputable abbrev aHl : Code := cR c128
noncomputable abbrev aCs : Code := cR aHl
noncomputable abbrev dEd : Code := cR aCs
noncomputable abbrev aFv : Code := cL aCs
noncomputable abbrev aEb : Code := cL aFv
noncomputable abbrev lY : Code := cL aEb
noncomputable abbrev cAk : Code := cL aHl
noncomputable abbrev bSk : Code := cL c128
noncomputable abbrev r128 : K := aP CF Tryz.f128
noncomputable def D128 (r : RT) (n : Nat) (c : Code) (X : Nat → K) (k : K) : K := aM CF r 42 n c X r128 k
theorem cJf : D128 r n dEd x0 r128 = (K2 (eT r n) 0 6) :=
 (by kernel_rfl)
theorem bQp (kk4 : nB) (q0 : rP) : D128 r n lY (xs x0 0 (K2 q0 0 6)) (K3 kk4 0 1 6) = fun (env : aW) (h : Hp) =>
 bnd (cJ (env 1) h) fun v1 h1 =>
 bnd (aD .gtr v1 (aF 0) h1) fun v2 h2 =>
 aT v2 (
 bnd (cJ (env 1) h2) fun v3 h3 =>
 bnd (aNm v3 (aF 240) h3) fun v4 h4 =>
 bnd (r 30 [(env 0), (aF 10)] h4) fun v5 h5 =>
 bnd (cV 1 (env 1) none (some v4) h5) fun v6 h6 =>
 cnd (bJ (cV 1 (env 1) none (some v4) h4) v6 && true) (
 bnd (gM v6 h6) fun v7 h7 =>
 cnd (bJ (gM v6 h4) v7 && true) (
 bnd (r 83 [(env 0), v5, v7] h7) fun v8 h8 =>
 bnd (aB 0 v8 h8) fun v9 h9 =>
 bnd (aB 1 v8 h9) fun v10 h10 =>
 bnd (aD .neq v10 (aF 0) h10) fun v11 h11 =>
 aT v11 (
 some (.t [(aF 0), v10], h11)) (
 bnd (bL (bW 0 h11.next) [(aF 0)] 1 [(0, 1, v9)] (resv 1 h11)) fun v12 h12 =>
 bnd (bB 1 8 (env 6) v12 h12) fun v13 h13 =>
 bnd (cV 1 (env 1) (some v4) none h13) fun v14 h14 =>
 cnd (bJ (cV 1 (env 1) (some v4) none (resv 1 h11)) v14 && true) (
    kk4 (env 0) v14 v13 h14))))) (
      q0 (env 0) (env 6) h2) := by kernel_rfl
theorem bEc (kk4 : nB) : (fun (env : aW) (h : Hp) =>
 bnd (cJ (env 1) h) fun v1 h1 =>
 bnd (aD .gtr v1 (aF 0) h1) fun v2 h2 =>
 aT v2 (
 bnd (cJ (env 1) h2) fun v3 h3 =>
 bnd (aNm v3 (aF 240) h3) fun v4 h4 =>
 bnd (r 30 [(env 0), (aF 10)] h4) fun v5 h5 =>
 bnd (cV 1 (env 1) none (some v4) h5) fun v6 h6 =>
 cnd (bJ (cV 1 (env 1) none (some v4) h4) v6 && true) (
 bnd (gM v6 h6) fun v7 h7 =>
 cnd (bJ (gM v6 h4) v7 && true) (
 bnd (r 83 [(env 0), v5, v7] h7) fun v8 h8 =>
 bnd (aB 0 v8 h8) fun v9 h9 =>
 bnd (aB 1 v8 h9) fun v10 h10 =>
 bnd (aD .neq v10 (aF 0) h10) fun v11 h11 =>
 aT v11 (
 some (.t [(aF 0), v10], h11)) (
 bnd (bL (bW 0 h11.next) [(aF 0)] 1 [(0, 1, v9)] (resv 1 h11)) fun v12 h12 =>
 bnd (bB 1 8 (env 6) v12 h12) fun v13 h13 =>
 bnd (cV 1 (env 1) (some v4) none h13) fun v14 h14 =>
 cnd (bJ (cV 1 (env 1) (some v4) none (resv 1 h11)) v14 && true) (
    kk4 (env 0) v14 v13 h14))))) (
      eT r n (env 0) (env 6) h2)) = (K3 (aEs r n kk4) 0 1 6) := by kernel_rfl
theorem bJm (kk4 : nB) : D128 r n lY (xs x0 0 (K2 (eT r n) 0 6)) (K3 kk4 0 1 6) = (K3 (aEs r n kk4) 0 1 6) :=
 (bQp r n kk4 (eT r n)).trans (bEc r n kk4)
theorem bPg (m : Nat) : aR (fun kk => D128 r n lY (xs x0 0 (K2 (eT r n) 0 6)) kk) m = (K3 (tU r n m) 0 1 6) := by
 induction m with
 | zero => exact (by kernel_rfl : aR (fun kk => D128 r n lY (xs x0 0 (K2 (eT r n) 0 6)) kk) 0 = (K3 (tU r n 0) 0 1 6))
 | succ m ih =>
  refine (by kernel_rfl : aR (fun kk => D128 r n lY (xs x0 0 (K2 (eT r n) 0 6)) kk) (m + 1) = D128 r n lY (xs x0 0 (K2 (eT r n) 0 6)) (aR (fun kk => D128 r n lY (xs x0 0 (K2 (eT r n) 0 6)) kk) m)).trans ?_
  rw [ih]
  exact (bJm r n (tU r n m)).trans (by kernel_rfl)
theorem cPd : D128 r n aEb (xs x0 0 (K2 (eT r n) 0 6)) (K2 (eT r n) 0 6) = (K3 (bZp r n) 0 1 6) :=
 (by kernel_rfl : D128 r n aEb (xs x0 0 (K2 (eT r n) 0 6)) (K2 (eT r n) 0 6) = aR (fun kk => D128 r n lY (xs x0 0 (K2 (eT r n) 0 6)) kk) n).trans ((bPg r n n).trans (by kernel_rfl))
theorem bZa : D128 r n aCs x0 r128 = D128 r n aFv x0 (K2 (eT r n) 0 6) :=
 congrArg (fun k => D128 r n aFv x0 k) (cJf r n)
theorem cFu : D128 r n aCs x0 r128 = (K3 (aSa r n) 0 1 6) :=
 (bZa r n).trans
 ((by kernel_rfl : D128 r n aFv x0 (K2 (eT r n) 0 6) = D128 r n aEb (xs x0 0 (K2 (eT r n) 0 6)) (K2 (eT r n) 0 6)).trans
 ((cPd r n).trans (by kernel_rfl)))
theorem bNi : D128 r n aHl x0 r128 = D128 r n cAk x0 (K3 (aSa r n) 0 1 6) :=
 congrArg (fun k => D128 r n cAk x0 k) (cFu r n)
theorem cIh : D128 r n aHl x0 r128 = (K2 (aNq r n) 0 1) :=
 (bNi r n).trans
 ((by kernel_rfl))
theorem dFg : D128 r n c128 x0 r128 = D128 r n bSk x0 (K2 (aNq r n) 0 1) :=
 congrArg (fun k => D128 r n bSk x0 k) (cIh r n)
theorem dNa : D128 r n c128 x0 r128 = (K2 (s128 r n) 0 1) :=
 (dFg r n).trans
 ((by kernel_rfl))
theorem cWe : aE CF r n 128 args h = s128 r n (aS args 0) (aS args 1) h :=
 (by kernel_rfl : aE CF r n 128 args h = D128 r n c128 x0 r128 (aG args) h).trans ((congrFun (congrFun (dNa r n) (aG args)) h).trans (by kernel_rfl))
noncomputable def fP (r : RT) (n : Nat) (x0 x7 : DV) (h0 : Hp) : aI :=
 bnd (aO x0 h0) fun v1 h1 =>
 bnd (aC 0 v1 h1) fun v2 h2 =>
 bnd (aA v2 h2) fun v3 h3 =>
 bnd (aO x0 h3) fun v4 h4 =>
 bnd (aC 1 v4 h4) fun v5 h5 =>
 bnd (aA v5 h5) fun v6 h6 =>
 bnd (fF v3 (some x7) (some v6) h6) fun v7 h7 =>
 some (v7, h7)
noncomputable def aTq (r : RT) (n : Nat) (kk4 : dJ) (x0 x1 x2 x7 : DV) (h0 : Hp) : aI :=
 bnd (aO x0 h0) fun v1 h1 =>
 bnd (aC 1 v1 h1) fun v2 h2 =>
 bnd (aA v2 h2) fun v3 h3 =>
 bnd (aO x0 h3) fun v4 h4 =>
 bnd (aC 0 v4 h4) fun v5 h5 =>
 bnd (aA v5 h5) fun v6 h6 =>
 bnd (dV v6 h6) fun v7 h7 =>
 bnd (aD .lss v3 v7 h7) fun v8 h8 =>
 bnd (gD v8 true (some (x0, h8)) h8) fun v9 h9 =>
 bnd (gD v8 true (aO v9 h9) h9) fun v10 h10 =>
 bnd (gD v8 true (aC 1 v10 h10) h10) fun v11 h11 =>
 bnd (gD v8 true (aA v11 h11) h11) fun v12 h12 =>
 bnd (gD v8 true (some (x7, h12)) h12) fun v13 h13 =>
 bnd (gD v8 true (aD .sub v12 v13 h13) h13) fun v14 h14 =>
 bnd (gD v8 true (some (x2, h14)) h14) fun v15 h15 =>
 bnd (gD v8 true (aD .lss v14 v15 h15) h15) fun v16 h16 =>
 bnd (aQ v8 v16 (.b false) h16) fun v17 h17 =>
 bnd (gD v17 true (some (x1, h17)) h17) fun v18 h18 =>
 bnd (gD v17 true (some (x0, h18)) h18) fun v19 h19 =>
 bnd (gD v17 true (aO v19 h19) h19) fun v20 h20 =>
 bnd (gD v17 true (aC 0 v20 h20) h20) fun v21 h21 =>
 bnd (gD v17 true (aA v21 h21) h21) fun v22 h22 =>
 bnd (gD v17 true (some (x0, h22)) h22) fun v23 h23 =>
 bnd (gD v17 true (aO v23 h23) h23) fun v24 h24 =>
 bnd (gD v17 true (aC 1 v24 h24) h24) fun v25 h25 =>
 bnd (gD v17 true (aA v25 h25) h25) fun v26 h26 =>
 bnd (gD v17 true (fJ v22 v26 h26) h26) fun v27 h27 =>
 bnd (gD v17 true (fO CF r v18 [v27] h27) h27) fun v28 h28 =>
 bnd (aQ v17 v28 (.b false) h28) fun v29 h29 =>
 aT v29 (
 bnd (aO x0 h29) fun v30 h30 =>
 bnd (aC 1 v30 h30) fun v31 h31 =>
 bnd (aA v31 h31) fun v32 h32 =>
 bnd (aD .add v32 (aF 1) h32) fun v33 h33 =>
 bnd (aO x0 h33) fun v34 h34 =>
 bnd (aC 1 v34 h34) fun v35 h35 =>
 bnd (aH 1 v35 v33 h35) fun _ h36 =>
      kk4 x0 x1 x2 x7 h36) (
      fP r n x0 x7 h29)
noncomputable def uB (r : RT) (n : Nat) (m : Nat) : dJ :=
 Nat.rec (motive := fun _ => dJ) (fun _ _ _ _ _ => none) (fun _ ih => aTq r n ih) m
noncomputable def bPe (r : RT) (n : Nat) : dJ := uB r n n
noncomputable def aQu (r : RT) (n : Nat) (x0 x1 x2 x7 : DV) (h0 : Hp) : aI :=
 bPe r n x0 x1 x2 x7 h0
noncomputable def aOo (r : RT) (n : Nat) (x0 x1 x2 : DV) (h0 : Hp) : aI :=
 bnd (aO x0 h0) fun v1 h1 =>
 bnd (aC 1 v1 h1) fun v2 h2 =>
 bnd (aA v2 h2) fun v3 h3 =>
  aQu r n x0 x1 x2 v3 h3
noncomputable def s129 (r : RT) (n : Nat) (x0 x1 x2 : DV) (h0 : Hp) : aI :=
 aOo r n x0 x1 x2 h0
noncomputable abbrev c129 : Code := cf Tryz.f129
noncomputable abbrev aEl : Code := cR c129
noncomputable abbrev aDe : Code := cR aEl
noncomputable abbrev cUb : Code := cR aDe
noncomputable abbrev aCp : Code := cL aDe
noncomputable abbrev aFg : Code := cL aCp
noncomputable abbrev oC : Code := cL aFg
noncomputable abbrev bTg : Code := cL aEl
noncomputable abbrev bMt : Code := cL c129
noncomputable abbrev r129 : K := aP CF Tryz.f129
noncomputable def D129 (r : RT) (n : Nat) (c : Code) (X : Nat → K) (k : K) : K := aM CF r 62 n c X r129 k
theorem cPl : D129 r n cUb x0 r129 = (K2 (fP r n) 0 7) :=
 (by kernel_rfl)
theorem cAa (kk4 : dJ) : D129 r n oC (xs x0 0 (K2 (fP r n) 0 7)) (K4 kk4 0 1 2 7) = (K4 (aTq r n kk4) 0 1 2 7) :=
 (by kernel_rfl)
theorem bOi (m : Nat) : aR (fun kk => D129 r n oC (xs x0 0 (K2 (fP r n) 0 7)) kk) m = (K4 (uB r n m) 0 1 2 7) := by
 induction m with
 | zero => exact (by kernel_rfl : aR (fun kk => D129 r n oC (xs x0 0 (K2 (fP r n) 0 7)) kk) 0 = (K4 (uB r n 0) 0 1 2 7))
 | succ m ih =>
  refine (by kernel_rfl : aR (fun kk => D129 r n oC (xs x0 0 (K2 (fP r n) 0 7)) kk) (m + 1) = D129 r n oC (xs x0 0 (K2 (fP r n) 0 7)) (aR (fun kk => D129 r n oC (xs x0 0 (K2 (fP r n) 0 7)) kk) m)).trans ?_
  rw [ih]
  exact (cAa r n (uB r n m)).trans (by kernel_rfl)
theorem cNo : D129 r n aFg (xs x0 0 (K2 (fP r n) 0 7)) (K2 (fP r n) 0 7) = (K4 (bPe r n) 0 1 2 7) :=
 (by kernel_rfl : D129 r n aFg (xs x0 0 (K2 (fP r n) 0 7)) (K2 (fP r n) 0 7) = aR (fun kk => D129 r n oC (xs x0 0 (K2 (fP r n) 0 7)) kk) n).trans ((bOi r n n).trans (by kernel_rfl))
theorem bQl : D129 r n aDe x0 r129 = D129 r n aCp x0 (K2 (fP r n) 0 7) :=
 congrArg (fun k => D129 r n aCp x0 k) (cPl r n)
theorem cDr : D129 r n aDe x0 r129 = (K4 (aQu r n) 0 1 2 7) :=
 (bQl r n).trans
 ((by kernel_rfl : D129 r n aCp x0 (K2 (fP r n) 0 7) = D129 r n aFg (xs x0 0 (K2 (fP r n) 0 7)) (K2 (fP r n) 0 7)).trans
 ((cNo r n).trans (by kernel_rfl)))
theorem bLs : D129 r n aEl x0 r129 = D129 r n bTg x0 (K4 (aQu r n) 0 1 2 7) :=
 congrArg (fun k => D129 r n bTg x0 k) (cDr r n)
theorem cHd : D129 r n aEl x0 r129 = (K3 (aOo r n) 0 1 2) :=
 (bLs r n).trans
 ((by kernel_rfl))
theorem cZy : D129 r n c129 x0 r129 = D129 r n bMt x0 (K3 (aOo r n) 0 1 2) :=
 congrArg (fun k => D129 r n bMt x0 k) (cHd r n)
theorem dNs : D129 r n c129 x0 r129 = (K3 (s129 r n) 0 1 2) :=
 (cZy r n).trans
 ((by kernel_rfl))
theorem dEn : aE CF r n 129 args h = s129 r n (aS args 0) (aS args 1) (aS args 2) h :=
 (by kernel_rfl : aE CF r n 129 args h = D129 r n c129 x0 r129 (aG args) h).trans ((congrFun (congrFun (dNs r n) (aG args)) h).trans (by kernel_rfl))
noncomputable def s130 (r : RT) (n : Nat) (x0 : DV) (h0 : Hp) : aI :=
 bnd (bX x0 h0) fun v1 h1 =>
 some ((.f 145 [] [v1]), h1)
noncomputable abbrev c130 : Code := cf Tryz.f130
noncomputable abbrev r130 : K := aP CF Tryz.f130
noncomputable def D130 (r : RT) (n : Nat) (c : Code) (X : Nat → K) (k : K) : K := aM CF r 4 n c X r130 k
theorem dMn : D130 r n c130 x0 r130 = (K1 (s130 r n) 0) :=
 (by kernel_rfl)
theorem dCl : aE CF r n 130 args h = s130 r n (aS args 0) h :=
 (by kernel_rfl : aE CF r n 130 args h = D130 r n c130 x0 r130 (aG args) h).trans ((congrFun (congrFun (dMn r n) (aG args)) h).trans (by kernel_rfl))
noncomputable def s131 (r : RT) (n : Nat) (x0 x1 : DV) (h0 : Hp) : aI :=
 bnd (r 146 [x0, x1] h0) fun v1 h1 =>
 some (v1, h1)
noncomputable abbrev c131 : Code := cf Tryz.f131
noncomputable abbrev r131 : K := aP CF Tryz.f131
noncomputable def D131 (r : RT) (n : Nat) (c : Code) (X : Nat → K) (k : K) : K := aM CF r 8 n c X r131 k
theorem dIi : D131 r n c131 x0 r131 = (K2 (s131 r n) 0 1) :=
 (by kernel_rfl)
theorem cUc : aE CF r n 131 args h = s131 r n (aS args 0) (aS args 1) h :=
 (by kernel_rfl : aE CF r n 131 args h = D131 r n c131 x0 r131 (aG args) h).trans ((congrFun (congrFun (dIi r n) (aG args)) h).trans (by kernel_rfl))
end Go.Dd

namespace Go.Dd
open Go.Proofs
variable (r : RT) (n : Nat) (args : List DV) (h : Hp)
noncomputable def hU (r : RT) (n : Nat) (x2 x4 x5 : DV) (h0 : Hp) : aI :=
 bnd (aK 4 x4 h0) fun v1 h1 =>
 bnd (aH 4 x2 v1 h1) fun _ h2 =>
 bnd (aK 4 x2 h2) fun v3 _ =>
 some (.t [v3, x5], h2)
noncomputable def aRt (r : RT) (n : Nat) (x0 x2 x4 x5 x6 : DV) (h0 : Hp) : aI :=
 bnd (r 148 [x6] h0) fun v1 h1 =>
 aT v1 (
 bnd (aC 0 x4 h1) fun v2 h2 =>
 bnd (aH 1 v2 (aF 1) h2) fun _ h3 =>
 bnd (r 149 [x0] h3) fun v4 h4 =>
 bnd (aB 0 v4 h4) fun v5 h5 =>
 bnd (aB 1 v4 h5) fun v6 h6 =>
 bnd (aC 1 x4 h6) fun v7 h7 =>
 bnd (aH 1 v7 v5 h7) fun _ h8 =>
 bnd (aD .eql v6 (aF 0) h8) fun v9 h9 =>
 bnd (gD v9 true (some (x0, h9)) h9) fun v10 h10 =>
 bnd (gD v9 true (r 150 [v10] h10) h10) fun v11 h11 =>
 bnd (aQ v9 v11 (.b false) h11) fun v12 h12 =>
 aT v12 (
 bnd (aC 1 x4 h12) fun v13 h13 =>
 bnd (aA v13 h13) fun v14 h14 =>
 bnd (gR .add v14 (.s [58]) h14) fun v15 h15 =>
 bnd (aC 0 x4 h15) fun v16 h16 =>
 bnd (aH 1 v16 (aF 2) h16) fun _ h17 =>
 bnd (aC 1 x4 h17) fun v18 h18 =>
 bnd (aH 1 v18 v15 h18) fun _ h19 =>
      hU r n x2 x4 v6 h19) (
      hU r n x2 x4 v6 h12)) (
 bnd (r 151 [x6] h1) fun v20 h20 =>
 aT v20 (
 bnd (aC 0 x4 h20) fun v21 h21 =>
 bnd (aH 1 v21 (aF 4) h21) fun _ h22 =>
 bnd (r 152 [x0] h22) fun v23 h23 =>
 bnd (aB 0 v23 h23) fun v24 h24 =>
 bnd (aB 1 v23 h24) fun v25 h25 =>
 bnd (aC 2 x4 h25) fun v26 h26 =>
 bnd (aH 1 v26 v24 h26) fun _ h27 =>
      hU r n x2 x4 v25 h27) (
 bnd (aD .eql x6 (.i .u8 (Int.ofNat 39)) h20) fun v28 h28 =>
 aT v28 (
 bnd (aO x0 h28) fun v29 h29 =>
 bnd (aC 1 v29 h29) fun v30 h30 =>
 bnd (aA v30 h30) fun v31 h31 =>
 bnd (aD .add v31 (aF 1) h31) fun v32 h32 =>
 bnd (aO x0 h32) fun v33 h33 =>
 bnd (aC 1 v33 h33) fun v34 h34 =>
 bnd (aH 1 v34 v32 h34) fun _ h35 =>
 bnd (aC 0 x4 h35) fun v36 h36 =>
 bnd (aH 1 v36 (aF 5) h36) fun _ h37 =>
 bnd (r 153 [x0] h37) fun v38 h38 =>
 bnd (aB 0 v38 h38) fun v39 h39 =>
 bnd (aB 1 v38 h39) fun v40 h40 =>
 bnd (aC 1 x4 h40) fun v41 h41 =>
 bnd (aH 1 v41 v39 h41) fun _ h42 =>
    hU r n x2 x4 v40 h42) (
 bnd (aD .eql x6 (.i .u8 (Int.ofNat 35)) h28) fun v43 h43 =>
 bnd (gD v43 true (some (x0, h43)) h43) fun v44 h44 =>
 bnd (gD v43 true (r 147 [v44, (aF 1)] h44) h44) fun v45 h45 =>
 bnd (gD v43 true (aD .eql v45 (.i .u8 (Int.ofNat 40)) h45) h45) fun v46 h46 =>
 bnd (aQ v43 v46 (.b false) h46) fun v47 h47 =>
 aT v47 (
 bnd (aO x0 h47) fun v48 h48 =>
 bnd (aC 1 v48 h48) fun v49 h49 =>
 bnd (aA v49 h49) fun v50 h50 =>
 bnd (aD .add v50 (aF 2) h50) fun v51 h51 =>
 bnd (aO x0 h51) fun v52 h52 =>
 bnd (aC 1 v52 h52) fun v53 h53 =>
 bnd (aH 1 v53 v51 h53) fun _ h54 =>
 bnd (aC 0 x4 h54) fun v55 h55 =>
 bnd (aH 1 v55 (aF 7) h55) fun _ h56 =>
     hU r n x2 x4 x5 h56) (
 bnd (aD .eql x6 (.i .u8 (Int.ofNat 35)) h47) fun v57 h57 =>
 aT v57 (
 bnd (aO x0 h57) fun v58 h58 =>
 bnd (aC 1 v58 h58) fun v59 h59 =>
 bnd (aA v59 h59) fun v60 h60 =>
 bnd (aD .add v60 (aF 1) h60) fun v61 h61 =>
 bnd (aO x0 h61) fun v62 h62 =>
 bnd (aC 1 v62 h62) fun v63 h63 =>
 bnd (aH 1 v63 v61 h63) fun _ h64 =>
 bnd (aC 0 x4 h64) fun v65 h65 =>
 bnd (aH 1 v65 (aF 6) h65) fun _ h66 =>
 bnd (r 154 [x0] h66) fun v67 h67 =>
 bnd (aB 0 v67 h67) fun v68 h68 =>
 bnd (aB 1 v67 h68) fun v69 h69 =>
 bnd (aC 1 x4 h69) fun v70 h70 =>
 bnd (aH 1 v70 v68 h70) fun _ h71 =>
      hU r n x2 x4 v69 h71) (
 bnd (aD .eql x6 (.i .u8 (Int.ofNat 58)) h57) fun v72 h72 =>
 bnd (gD v72 true (some (x0, h72)) h72) fun v73 h73 =>
 bnd (gD v72 true (r 147 [v73, (aF 1)] h73) h73) fun v74 h74 =>
 bnd (gD v72 true (aD .eql v74 (.i .u8 (Int.ofNat 61)) h74) h74) fun v75 h75 =>
 bnd (aQ v72 v75 (.b false) h75) fun v76 h76 =>
 aT v76 (
 bnd (aO x0 h76) fun v77 h77 =>
 bnd (aC 1 v77 h77) fun v78 h78 =>
 bnd (aA v78 h78) fun v79 h79 =>
 bnd (aD .add v79 (aF 2) h79) fun v80 h80 =>
 bnd (aO x0 h80) fun v81 h81 =>
 bnd (aC 1 v81 h81) fun v82 h82 =>
 bnd (aH 1 v82 v80 h82) fun _ h83 =>
 bnd (aC 0 x4 h83) fun v84 h84 =>
 bnd (aH 1 v84 (aF 9) h84) fun _ h85 =>
       hU r n x2 x4 x5 h85) (
 bnd (aD .eql x6 (.i .u8 (Int.ofNat 58)) h76) fun v86 h86 =>
 bnd (gD v86 true (some (x0, h86)) h86) fun v87 h87 =>
 bnd (gD v86 true (r 147 [v87, (aF 1)] h87) h87) fun v88 h88 =>
 bnd (gD v86 true (r 148 [v88] h88) h88) fun v89 h89 =>
 bnd (aQ v86 v89 (.b false) h89) fun v90 h90 =>
 aT v90 (
 bnd (aO x0 h90) fun v91 h91 =>
 bnd (aC 1 v91 h91) fun v92 h92 =>
 bnd (aA v92 h92) fun v93 h93 =>
 bnd (aD .add v93 (aF 1) h93) fun v94 h94 =>
 bnd (aO x0 h94) fun v95 h95 =>
 bnd (aC 1 v95 h95) fun v96 h96 =>
 bnd (aH 1 v96 v94 h96) fun _ h97 =>
 bnd (aC 0 x4 h97) fun v98 h98 =>
 bnd (aH 1 v98 (aF 8) h98) fun _ h99 =>
 bnd (r 149 [x0] h99) fun v100 h100 =>
 bnd (aB 0 v100 h100) fun v101 h101 =>
 bnd (aB 1 v100 h101) fun v102 h102 =>
 bnd (aC 1 x4 h102) fun v103 h103 =>
 bnd (aH 1 v103 v101 h103) fun _ h104 =>
        hU r n x2 x4 v102 h104) (
 bnd (r 130 [(.s [43, 45, 42, 47, 60, 62, 61, 126, 44, 64, 38, 37])] h90) fun v105 h105 =>
 bnd (fO CF r v105 [x6] h105) fun v106 h106 =>
 aT v106 (
 bnd (r 130 [(.s [43, 45, 42, 47, 60, 62, 61, 126, 44, 64, 38, 37])] h106) fun v107 h107 =>
 bnd (r 129 [x0, v107, (aF 2)] h107) fun v108 h108 =>
 bnd (aC 0 x4 h108) fun v109 h109 =>
 bnd (aH 1 v109 (aF 3) h109) fun _ h110 =>
 bnd (aC 1 x4 h110) fun v111 h111 =>
 bnd (aH 1 v111 v108 h111) fun _ h112 =>
         hU r n x2 x4 x5 h112) (
 bnd (r 130 [(.s [94, 46, 59, 40, 41, 91, 93, 124])] h106) fun v113 h113 =>
 bnd (fO CF r v113 [x6] h113) fun v114 h114 =>
 aT v114 (
 bnd (r 130 [(.s [94, 46, 59, 40, 41, 91, 93, 124])] h114) fun v115 h115 =>
 bnd (r 129 [x0, v115, (aF 1)] h115) fun v116 h116 =>
 bnd (aC 0 x4 h116) fun v117 h117 =>
 bnd (aH 1 v117 (aF 10) h117) fun _ h118 =>
 bnd (aC 1 x4 h118) fun v119 h119 =>
 bnd (aH 1 v119 v116 h119) fun _ h120 =>
          hU r n x2 x4 x5 h120) (
          hU r n x2 x4 (aF 10) h114)))))))))
noncomputable def aOg (r : RT) (n : Nat) (x0 x2 x4 x5 : DV) (h0 : Hp) : aI :=
 bnd (r 147 [x0, (aF 0)] h0) fun v1 h1 =>
  aRt r n x0 x2 x4 x5 v1 h1
noncomputable def zC (r : RT) (n : Nat) (x0 x2 x4 : DV) (h0 : Hp) : aI :=
 aOg r n x0 x2 x4 (aF 0) h0
noncomputable def qW (r : RT) (n : Nat) (x0 x2 : DV) (h0 : Hp) : aI :=
 bnd (aO x0 h0) fun v1 h1 =>
 bnd (aC 1 v1 h1) fun v2 h2 =>
 bnd (aA v2 h2) fun v3 h3 =>
 bnd (bD [(aF 0), (.s []), (aF 0), (aF 0)] [(3, 1, v3)] h3) fun v4 h4 =>
 bnd (bR [(aF 0), (.s []), (aF 0), (aF 0)] h4) fun v5 h5 =>
 bnd (aH 4 v5 v4 h5) fun _ h6 =>
  zC r n x0 x2 v5 h6
noncomputable def s132 (r : RT) (n : Nat) (x0 : DV) (h0 : Hp) : aI :=
 bnd (bR [(aF 0), (.s []), (aF 0), (aF 0)] h0) fun v1 h1 =>
  qW r n x0 v1 h1
noncomputable abbrev c132 : Code := cf Tryz.f132
noncomputable abbrev aFb : Code := cR c132
noncomputable abbrev aFi : Code := cR aFb
noncomputable abbrev aAy : Code := cR aFi
noncomputable abbrev aEq : Code := cR aAy
noncomputable abbrev cWs : Code := cR aEq
noncomputable abbrev bKr : Code := cL aEq
noncomputable abbrev cAj : Code := cL aAy
noncomputable abbrev bKc : Code := cL aFi
noncomputable abbrev aRe : Code := cL aFb
noncomputable abbrev aCq : Code := cL c132
noncomputable abbrev r132 : K := aP CF Tryz.f132
noncomputable def D132 (r : RT) (n : Nat) (c : Code) (X : Nat → K) (k : K) : K := aM CF r 153 n c X r132 k
theorem cBb : D132 r n cWs x0 r132 = (K3 (hU r n) 2 4 5) :=
 (by kernel_rfl)
theorem bJn : D132 r n aEq x0 r132 = D132 r n bKr x0 (K3 (hU r n) 2 4 5) :=
 congrArg (fun k => D132 r n bKr x0 k) (cBb r n)
theorem cLy : D132 r n aEq x0 r132 = (K5 (aRt r n) 0 2 4 5 6) :=
 (bJn r n).trans
 ((by kernel_rfl))
theorem bSe : D132 r n aAy x0 r132 = D132 r n cAj x0 (K5 (aRt r n) 0 2 4 5 6) :=
 congrArg (fun k => D132 r n cAj x0 k) (cLy r n)
theorem cLf : D132 r n aAy x0 r132 = (K4 (aOg r n) 0 2 4 5) :=
 (bSe r n).trans
 ((by kernel_rfl))
theorem bJb : D132 r n aFi x0 r132 = D132 r n bKc x0 (K4 (aOg r n) 0 2 4 5) :=
 congrArg (fun k => D132 r n bKc x0 k) (cLf r n)
theorem cMp : D132 r n aFi x0 r132 = (K3 (zC r n) 0 2 4) :=
 (bJb r n).trans
 ((by kernel_rfl))
theorem bIh : D132 r n aFb x0 r132 = D132 r n aRe x0 (K3 (zC r n) 0 2 4) :=
 congrArg (fun k => D132 r n aRe x0 k) (cMp r n)
theorem bRl (q0 : nB) : D132 r n aRe x0 (K3 q0 0 2 4) = fun (env : aW) (h : Hp) =>
 bnd (aO (env 0) h) fun v1 h1 =>
 bnd (aC 1 v1 h1) fun v2 h2 =>
 bnd (aA v2 h2) fun v3 h3 =>
 bnd (bD [(aF 0), (.s []), (aF 0), (aF 0)] [(3, 1, v3)] h3) fun v4 h4 =>
 bnd (bR [(aF 0), (.s []), (aF 0), (aF 0)] h4) fun v5 h5 =>
 bnd (aH 4 v5 v4 h5) fun _ h6 =>
  q0 (env 0) (env 2) v5 h6 := by kernel_rfl
theorem bEo : (fun (env : aW) (h : Hp) =>
 bnd (aO (env 0) h) fun v1 h1 =>
 bnd (aC 1 v1 h1) fun v2 h2 =>
 bnd (aA v2 h2) fun v3 h3 =>
 bnd (bD [(aF 0), (.s []), (aF 0), (aF 0)] [(3, 1, v3)] h3) fun v4 h4 =>
 bnd (bR [(aF 0), (.s []), (aF 0), (aF 0)] h4) fun v5 h5 =>
 bnd (aH 4 v5 v4 h5) fun _ h6 =>
  zC r n (env 0) (env 2) v5 h6) = (K2 (qW r n) 0 2) := by kernel_rfl
theorem cMw : D132 r n aFb x0 r132 = (K2 (qW r n) 0 2) :=
 (bIh r n).trans
 ((bRl r n (zC r n)).trans (bEo r n))
theorem dDm : D132 r n c132 x0 r132 = D132 r n aCq x0 (K2 (qW r n) 0 2) :=
 congrArg (fun k => D132 r n aCq x0 k) (cMw r n)
theorem dBc (q0 : rP) : D132 r n aCq x0 (K2 q0 0 2) = fun (env : aW) (h : Hp) =>
 bnd (bR [(aF 0), (.s []), (aF 0), (aF 0)] h) fun v1 h1 =>
  q0 (env 0) v1 h1 := by kernel_rfl
theorem cKj : (fun (env : aW) (h : Hp) =>
 bnd (bR [(aF 0), (.s []), (aF 0), (aF 0)] h) fun v1 h1 =>
  qW r n (env 0) v1 h1) = (K1 (s132 r n) 0) := by kernel_rfl
theorem dIb : D132 r n c132 x0 r132 = (K1 (s132 r n) 0) :=
 (dDm r n).trans
 ((dBc r n (qW r n)).trans (cKj r n))
theorem cTx : aE CF r n 132 args h = s132 r n (aS args 0) h :=
 (by kernel_rfl : aE CF r n 132 args h = D132 r n c132 x0 r132 (aG args) h).trans ((congrFun (congrFun (dIb r n) (aG args)) h).trans (by kernel_rfl))
noncomputable def s133 (r : RT) (n : Nat) (x0 x1 x2 : DV) (h0 : Hp) : aI :=
 bnd (r 137 [x0, (aF 0)] h0) fun v1 h1 =>
 bnd (bR [(aF 0), (.s []), (aF 0), (aF 0)] h1) fun v2 h2 =>
 bnd (aH 4 v2 v1 h2) fun _ h3 =>
 bnd (aO x0 h3) fun v4 h4 =>
 bnd (aC 3 v4 h4) fun v5 h5 =>
 bnd (aA v5 h5) fun v6 h6 =>
 bnd (aD .eql v6 (aF 0) h6) fun v7 h7 =>
 bnd (gD v7 true (aC 0 v2 h7) h7) fun v8 h8 =>
 bnd (gD v7 true (aA v8 h8) h8) fun v9 h9 =>
 bnd (gD v7 true (some (x1, h9)) h9) fun v10 h10 =>
 bnd (gD v7 true (aD .eql v9 v10 h10) h10) fun v11 h11 =>
 bnd (aQ v7 v11 (.b false) h11) fun v12 h12 =>
 bnd (gD v12 true (some (x2, h12)) h12) fun v13 h13 =>
 bnd (gD v12 true (gR .eql v13 (.s []) h13) h13) fun v14 h14 =>
 bnd (gD v12 true (some (v14, h14)) h14) fun v15 h15 =>
 bnd (gD v15 false (aC 1 v2 h15) h15) fun v16 h16 =>
 bnd (gD v15 false (aA v16 h16) h16) fun v17 h17 =>
 bnd (gD v15 false (some (x2, h17)) h17) fun v18 h18 =>
 bnd (gD v15 false (gR .eql v17 v18 h18) h18) fun v19 h19 =>
 bnd (gD v12 true (aQ v15 (.b true) v19 h19) h19) fun v20 h20 =>
 bnd (aQ v12 v20 (.b false) h20) fun v21 h21 =>
 some (v21, h21)
noncomputable abbrev c133 : Code := cf Tryz.f133
noncomputable abbrev r133 : K := aP CF Tryz.f133
noncomputable def D133 (r : RT) (n : Nat) (c : Code) (X : Nat → K) (k : K) : K := aM CF r 31 n c X r133 k
theorem dKj : D133 r n c133 x0 r133 = (K3 (s133 r n) 0 1 2) :=
 (by kernel_rfl)
theorem dBd : aE CF r n 133 args h = s133 r n (aS args 0) (aS args 1) (aS args 2) h :=
 (by kernel_rfl : aE CF r n 133 args h = D133 r n c133 x0 r133 (aG args) h).trans ((congrFun (congrFun (dKj r n) (aG args)) h).trans (by kernel_rfl))
noncomputable def aCt (r : RT) (n : Nat) (x2 x3 : DV) (h0 : Hp) : aI :=
 bnd (aK 4 x3 h0) fun v1 h1 =>
 bnd (aH 4 x2 v1 h1) fun _ h2 =>
 bnd (aK 4 x2 h2) fun v3 _ =>
 some (v3, h2)
noncomputable def yJ (r : RT) (n : Nat) (x0 x2 x3 : DV) (h0 : Hp) : aI :=
 bnd (aC 0 x3 h0) fun v1 h1 =>
 bnd (aA v1 h1) fun v2 h2 =>
 bnd (aD .neq v2 (aF 0) h2) fun v3 h3 =>
 aT v3 (
 bnd (aO x0 h3) fun v4 h4 =>
 bnd (aC 0 v4 h4) fun v5 h5 =>
 bnd (aA v5 h5) fun v6 h6 =>
 bnd (cV 4 v6 (some (aF 1)) none h6) fun v7 h7 =>
 bnd (aO x0 h7) fun v8 h8 =>
 bnd (aC 0 v8 h8) fun v9 h9 =>
 bnd (aH 1 v9 v7 h9) fun _ h10 =>
  aCt r n x2 x3 h10) (
  aCt r n x2 x3 h3)
noncomputable def rH (r : RT) (n : Nat) (x0 x2 : DV) (h0 : Hp) : aI :=
 bnd (r 137 [x0, (aF 0)] h0) fun v1 h1 =>
 bnd (bR [(aF 0), (.s []), (aF 0), (aF 0)] h1) fun v2 h2 =>
 bnd (aH 4 v2 v1 h2) fun _ h3 =>
  yJ r n x0 x2 v2 h3
noncomputable def s134 (r : RT) (n : Nat) (x0 : DV) (h0 : Hp) : aI :=
 bnd (bR [(aF 0), (.s []), (aF 0), (aF 0)] h0) fun v1 h1 =>
  rH r n x0 v1 h1
noncomputable abbrev c134 : Code := cf Tryz.f134
noncomputable abbrev aBk : Code := cR c134
noncomputable abbrev aDn : Code := cR aBk
noncomputable abbrev cUj : Code := cR aDn
noncomputable abbrev bTu : Code := cL aDn
noncomputable abbrev aPz : Code := cL aBk
noncomputable abbrev aNs : Code := cL c134
noncomputable abbrev r134 : K := aP CF Tryz.f134
noncomputable def D134 (r : RT) (n : Nat) (c : Code) (X : Nat → K) (k : K) : K := aM CF r 18 n c X r134 k
theorem cGt : D134 r n cUj x0 r134 = (K2 (aCt r n) 2 3) :=
 (by kernel_rfl)
theorem bSn : D134 r n aDn x0 r134 = D134 r n bTu x0 (K2 (aCt r n) 2 3) :=
 congrArg (fun k => D134 r n bTu x0 k) (cGt r n)
theorem cGp : D134 r n aDn x0 r134 = (K3 (yJ r n) 0 2 3) :=
 (bSn r n).trans
 ((by kernel_rfl))
theorem bMy : D134 r n aBk x0 r134 = D134 r n aPz x0 (K3 (yJ r n) 0 2 3) :=
 congrArg (fun k => D134 r n aPz x0 k) (cGp r n)
theorem bWr (q0 : nB) : D134 r n aPz x0 (K3 q0 0 2 3) = fun (env : aW) (h : Hp) =>
 bnd (r 137 [(env 0), (aF 0)] h) fun v1 h1 =>
 bnd (bR [(aF 0), (.s []), (aF 0), (aF 0)] h1) fun v2 h2 =>
 bnd (aH 4 v2 v1 h2) fun _ h3 =>
  q0 (env 0) (env 2) v2 h3 := by kernel_rfl
theorem bCi : (fun (env : aW) (h : Hp) =>
 bnd (r 137 [(env 0), (aF 0)] h) fun v1 h1 =>
 bnd (bR [(aF 0), (.s []), (aF 0), (aF 0)] h1) fun v2 h2 =>
 bnd (aH 4 v2 v1 h2) fun _ h3 =>
  yJ r n (env 0) (env 2) v2 h3) = (K2 (rH r n) 0 2) := by kernel_rfl
theorem cFn : D134 r n aBk x0 r134 = (K2 (rH r n) 0 2) :=
 (bMy r n).trans
 ((bWr r n (yJ r n)).trans (bCi r n))
theorem cYm : D134 r n c134 x0 r134 = D134 r n aNs x0 (K2 (rH r n) 0 2) :=
 congrArg (fun k => D134 r n aNs x0 k) (cFn r n)
theorem dDf (q0 : rP) : D134 r n aNs x0 (K2 q0 0 2) = fun (env : aW) (h : Hp) =>
 bnd (bR [(aF 0), (.s []), (aF 0), (aF 0)] h) fun v1 h1 =>
  q0 (env 0) v1 h1 := by kernel_rfl
theorem cNl : (fun (env : aW) (h : Hp) =>
 bnd (bR [(aF 0), (.s []), (aF 0), (aF 0)] h) fun v1 h1 =>
  rH r n (env 0) v1 h1) = (K1 (s134 r n) 0) := by kernel_rfl
theorem dIx : D134 r n c134 x0 r134 = (K1 (s134 r n) 0) :=
 (cYm r n).trans
 ((dDf r n (rH r n)).trans (cNl r n))
theorem cXv : aE CF r n 134 args h = s134 r n (aS args 0) h :=
 (by kernel_rfl : aE CF r n 134 args h = D134 r n c134 x0 r134 (aG args) h).trans ((congrFun (congrFun (dIx r n) (aG args)) h).trans (by kernel_rfl))
noncomputable def s135 (r : RT) (n : Nat) (x0 : DV) (h0 : Hp) : aI :=
 bnd (bR lR h0) fun v1 h1 =>
 bnd (r 133 [x0, (aF 1), (.s [])] h1) fun v2 h2 =>
 bnd (gD v2 true (some (x0, h2)) h2) fun v3 h3 =>
 bnd (gD v2 true (r 137 [v3, (aF 1)] h3) h3) fun v4 h4 =>
 bnd (gD v2 true (fN 0 v4 h4) h4) fun v5 h5 =>
 bnd (gD v2 true (aD .eql v5 (aF 9) h5) h5) fun v6 h6 =>
 bnd (aQ v2 v6 (.b false) h6) fun v7 h7 =>
 aT v7 (
 bnd (r 134 [x0] h7) fun v8 h8 =>
 bnd (fN 1 v8 h8) fun v9 h9 =>
 bnd (bD lR [(0, 1, (aF 6)), (1, 1, v9)] h9) fun v10 h10 =>
 bnd (bR lR h10) fun v11 h11 =>
 bnd (aH 6 v11 v10 h11) fun _ h12 =>
 bnd (r 134 [x0] h12) fun v13 h13 =>
 bnd (r 135 [x0] h13) fun v14 h14 =>
 bnd (aL lR 1 [(0, 6, v14)] h14) fun v15 h15 =>
 bnd (aC 5 v11 h15) fun v16 h16 =>
 bnd (aH 1 v16 v15 h16) fun _ h17 =>
 bnd (aK 6 v11 h17) fun v18 h18 =>
 bnd (aH 6 v1 v18 h18) fun _ h19 =>
 bnd (aK 6 v1 h19) fun v20 _ =>
 some (v20, h19)) (
 bnd (r 155 [x0] h7) fun v21 h21 =>
 bnd (aH 6 v1 v21 h21) fun _ h22 =>
 bnd (aK 6 v1 h22) fun v23 _ =>
 some (v23, h22))
noncomputable abbrev c135 : Code := cf Tryz.f135
noncomputable abbrev r135 : K := aP CF Tryz.f135
noncomputable def D135 (r : RT) (n : Nat) (c : Code) (X : Nat → K) (k : K) : K := aM CF r 25 n c X r135 k
theorem dIy : D135 r n c135 x0 r135 = (K1 (s135 r n) 0) :=
 (by kernel_rfl)
theorem cSt : aE CF r n 135 args h = s135 r n (aS args 0) h :=
 (by kernel_rfl : aE CF r n 135 args h = D135 r n c135 x0 r135 (aG args) h).trans ((congrFun (congrFun (dIy r n) (aG args)) h).trans (by kernel_rfl))
noncomputable def s137 (r : RT) (n : Nat) (x0 x1 : DV) (h0 : Hp) : aI :=
 bnd (bR [(aF 0), (.s []), (aF 0), (aF 0)] h0) fun v1 h1 =>
 bnd (aO x0 h1) fun v2 h2 =>
 bnd (aC 0 v2 h2) fun v3 h3 =>
 bnd (aA v3 h3) fun v4 h4 =>
 bnd (aO x0 h4) fun v5 h5 =>
 bnd (aC 0 v5 h5) fun v6 h6 =>
 bnd (aA v6 h6) fun v7 h7 =>
 bnd (cJ v7 h7) fun v8 h8 =>
 bnd (aD .sub v8 (aF 1) h8) fun v9 h9 =>
 bnd (aNm x1 v9 h9) fun v10 h10 =>
 bnd (aJ 4 v4 v10 h10) fun v11 h11 =>
 bnd (aK 4 v11 h11) fun v12 h12 =>
 bnd (aH 4 v1 v12 h12) fun v13 h13 =>
 bnd (aK 4 v1 h13) fun v14 _ =>
 some (v14, h13)
noncomputable abbrev c137 : Code := cf Tryz.f137
noncomputable abbrev r137 : K := aP CF Tryz.f137
noncomputable def D137 (r : RT) (n : Nat) (c : Code) (X : Nat → K) (k : K) : K := aM CF r 19 n c X r137 k
theorem dLh : D137 r n c137 x0 r137 = (K2 (s137 r n) 0 1) :=
 (by kernel_rfl)
theorem dCc : aE CF r n 137 args h = s137 r n (aS args 0) (aS args 1) h :=
 (by kernel_rfl : aE CF r n 137 args h = D137 r n c137 x0 r137 (aG args) h).trans ((congrFun (congrFun (dLh r n) (aG args)) h).trans (by kernel_rfl))
noncomputable def dF (r : RT) (n : Nat) (kk2 : cF) (x0 x2 x10 x11 x12 : DV) (h0 : Hp) : aI :=
 bnd (aD .add x12 (aF 1) h0) fun v1 h1 =>
  kk2 x0 x2 x10 x11 v1 h1
noncomputable def zG (r : RT) (n : Nat) (kk2 : cF) (x0 x2 x7 x10 x11 x12 : DV) (h0 : Hp) : aI :=
 bnd (aO x0 h0) fun v1 h1 =>
 bnd (aC 8 v1 h1) fun v2 h2 =>
 bnd (aA v2 h2) fun v3 h3 =>
 bnd (aD .neq v3 (aF 0) h3) fun v4 h4 =>
 aT v4 (
 some (.t [], h4)) (
 bnd (aO x0 (resv 1 h4)) fun v5 h5 =>
 bnd (aC 6 v5 h5) fun v6 h6 =>
 bnd (aA v6 h6) fun v7 h7 =>
 bnd (aO x0 h7) fun v8 h8 =>
 bnd (aC 0 v8 h8) fun v9 h9 =>
 bnd (aC 2 v9 h9) fun v10 h10 =>
 bnd (aA v10 h10) fun v11 h11 =>
 bnd (bD [(.s []), (.b false), (.b false), (aF 0)] [(0, 1, x7), (1, 1, (.b false)), (2, 1, x2), (3, 1, v11)] h11) fun v12 h12 =>
 bnd (bL (bW 0 h4.next) [(.s []), (.b false), (.b false), (aF 0)] 1 [(0, 4, v12)] h12) fun v13 h13 =>
 bnd (bB 4 32 v7 v13 h13) fun v14 h14 =>
 bnd (aO x0 h14) fun v15 h15 =>
 bnd (aC 6 v15 h15) fun v16 h16 =>
 bnd (aH 1 v16 v14 h16) fun v17 h17 =>
 bnd (aO x0 h17) fun v18 h18 =>
 bnd (aC 0 v18 h18) fun v19 h19 =>
 bnd (aC 2 v19 h19) fun v20 h20 =>
 bnd (aA v20 h20) fun v21 h21 =>
 bnd (aD .add v21 (aF 1) h21) fun v22 h22 =>
 bnd (aO x0 h22) fun v23 h23 =>
 bnd (aC 0 v23 h23) fun v24 h24 =>
 bnd (aC 2 v24 h24) fun v25 h25 =>
 bnd (aH 1 v25 v22 h25) fun _ h26 =>
  dF r n kk2 x0 x2 x10 x11 x12 h26)
noncomputable def nK (r : RT) (n : Nat) (kk2 : cF) (x0 x2 x7 x10 x11 x12 : DV) (h0 : Hp) : aI :=
 bnd (aO x0 h0) fun v1 h1 =>
 bnd (aC 0 v1 h1) fun v2 h2 =>
 bnd (aC 2 v2 h2) fun v3 h3 =>
 bnd (aA v3 h3) fun v4 h4 =>
 bnd (aD .eql v4 (aF 24) h4) fun v5 h5 =>
 aT v5 (
 bnd (r 158 [x0, x7, (aF 18)] h5) fun v6 h6 =>
  zG r n kk2 x0 x2 x7 x10 x11 x12 h6) (
  zG r n kk2 x0 x2 x7 x10 x11 x12 h5)
noncomputable def aIp (r : RT) (n : Nat) (kk2 : cF) (x0 x2 x7 x10 x11 x12 : DV) (h0 : Hp) : aI :=
 bnd (r 156 [x0, x7] h0) fun v1 h1 =>
 bnd (aB 0 v1 h1) fun v2 h2 =>
 bnd (aB 1 v1 h2) fun v3 h3 =>
 bnd (bR [(.s []), (.b false), (.b false), (aF 0)] h3) fun v4 h4 =>
 bnd (aH 4 v4 v2 h4) fun _ h5 =>
 bnd (gD v3 false (some (x7, h5)) h5) fun v6 h6 =>
 bnd (gD v3 false (r 157 [v6] h6) h6) fun v7 h7 =>
 bnd (aQ v3 (.b true) v7 h7) fun v8 h8 =>
 aT v8 (
 bnd (r 158 [x0, x7, (aF 16)] h8) fun v9 h9 =>
  nK r n kk2 x0 x2 x7 x10 x11 x12 h9) (
  nK r n kk2 x0 x2 x7 x10 x11 x12 h8)
noncomputable def aPq (r : RT) (n : Nat) (kk2 : cF) (x0 x2 x10 x11 x12 : DV) (h0 : Hp) : aI :=
 bnd (aJ 1 x10 x12 h0) fun v1 h1 =>
 bnd (aA v1 h1) fun v2 h2 =>
  aIp r n kk2 x0 x2 v2 x10 x11 x12 h2
noncomputable def aSp (r : RT) (n : Nat) (kk2 : cF) (x0 x2 x10 x11 x12 x13 : DV) (h0 : Hp) : aI :=
 aT x13 (
  aPq r n kk2 x0 x2 x10 x11 x12 h0) (
 some (.t [], h0))
noncomputable def aYf (r : RT) (n : Nat) (kk2 : cF) (x0 x2 x10 x11 x12 : DV) (h0 : Hp) : aI :=
 bnd (aD .lss x12 x11 h0) fun v1 h1 =>
  aSp r n kk2 x0 x2 x10 x11 x12 v1 h1
noncomputable def uA (r : RT) (n : Nat) (m : Nat) : cF :=
 Nat.rec (motive := fun _ => cF) (fun _ _ _ _ _ _ => none) (fun _ ih => aYf r n ih) m
noncomputable def bGz (r : RT) (n : Nat) : cF := uA r n n
noncomputable def aOq (r : RT) (n : Nat) (x0 x2 x10 x11 x12 : DV) (h0 : Hp) : aI :=
 bGz r n x0 x2 x10 x11 x12 h0
noncomputable def s139 (r : RT) (n : Nat) (x0 x1 x2 : DV) (h0 : Hp) : aI :=
 bnd (cJ x1 h0) fun v1 h1 =>
  aOq r n x0 x2 x1 v1 (aF 0) h1
noncomputable abbrev c139 : Code := cf Tryz.f139
noncomputable abbrev aOr : Code := cR c139
noncomputable abbrev aEx : Code := cL aOr
noncomputable abbrev kE : Code := cL aEx
noncomputable abbrev aJe : Code := cR kE
noncomputable abbrev aIz : Code := cR aJe
noncomputable abbrev dDp : Code := cR aIz
noncomputable abbrev aEi : Code := cL aIz
noncomputable abbrev aGx : Code := cL aEi
noncomputable abbrev aDf : Code := cR aGx
noncomputable abbrev sW : Code := cR aDf
noncomputable abbrev aYh : Code := cR sW
noncomputable abbrev bAy : Code := cL sW
noncomputable abbrev aCg : Code := cL aDf
noncomputable abbrev bAm : Code := cL aGx
noncomputable abbrev bAx : Code := cL aJe
noncomputable abbrev aWd : Code := cL kE
noncomputable abbrev aYz : Code := cL c139
noncomputable abbrev r139 : K := aP CF Tryz.f139
noncomputable def D139 (r : RT) (n : Nat) (c : Code) (X : Nat → K) (k : K) : K := aM CF r 71 n c X r139 k
theorem cOs (kk2 : cF) : D139 r n dDp (xs x0 0 r139) (K5 kk2 0 2 10 11 12) = (K5 (dF r n kk2) 0 2 10 11 12) :=
 (by kernel_rfl)
theorem bQe (kk2 : cF) (q0 : cF) : D139 r n aYh (xs (xs x0 0 r139) 1 (K5 q0 0 2 10 11 12)) (K5 q0 0 2 10 11 12) = fun (env : aW) (h : Hp) =>
 bnd (aO (env 0) h) fun v1 h1 =>
 bnd (aC 8 v1 h1) fun v2 h2 =>
 bnd (aA v2 h2) fun v3 h3 =>
 bnd (aD .neq v3 (aF 0) h3) fun v4 h4 =>
 aT v4 (
 some (.t [], h4)) (
 bnd (aO (env 0) (resv 1 h4)) fun v5 h5 =>
 bnd (aC 6 v5 h5) fun v6 h6 =>
 bnd (aA v6 h6) fun v7 h7 =>
 bnd (aO (env 0) h7) fun v8 h8 =>
 bnd (aC 0 v8 h8) fun v9 h9 =>
 bnd (aC 2 v9 h9) fun v10 h10 =>
 bnd (aA v10 h10) fun v11 h11 =>
 bnd (bD [(.s []), (.b false), (.b false), (aF 0)] [(0, 1, (env 7)), (1, 1, (.b false)), (2, 1, (env 2)), (3, 1, v11)] h11) fun v12 h12 =>
 bnd (bL (bW 0 h4.next) [(.s []), (.b false), (.b false), (aF 0)] 1 [(0, 4, v12)] h12) fun v13 h13 =>
 bnd (bB 4 32 v7 v13 h13) fun v14 h14 =>
 bnd (aO (env 0) h14) fun v15 h15 =>
 bnd (aC 6 v15 h15) fun v16 h16 =>
 bnd (aH 1 v16 v14 h16) fun v17 h17 =>
 bnd (aO (env 0) h17) fun v18 h18 =>
 bnd (aC 0 v18 h18) fun v19 h19 =>
 bnd (aC 2 v19 h19) fun v20 h20 =>
 bnd (aA v20 h20) fun v21 h21 =>
 bnd (aD .add v21 (aF 1) h21) fun v22 h22 =>
 bnd (aO (env 0) h22) fun v23 h23 =>
 bnd (aC 0 v23 h23) fun v24 h24 =>
 bnd (aC 2 v24 h24) fun v25 h25 =>
 bnd (aH 1 v25 v22 h25) fun _ h26 =>
      q0 (env 0) (env 2) (env 10) (env 11) (env 12) h26) := by kernel_rfl
theorem bCg (kk2 : cF) : (fun (env : aW) (h : Hp) =>
 bnd (aO (env 0) h) fun v1 h1 =>
 bnd (aC 8 v1 h1) fun v2 h2 =>
 bnd (aA v2 h2) fun v3 h3 =>
 bnd (aD .neq v3 (aF 0) h3) fun v4 h4 =>
 aT v4 (
 some (.t [], h4)) (
 bnd (aO (env 0) (resv 1 h4)) fun v5 h5 =>
 bnd (aC 6 v5 h5) fun v6 h6 =>
 bnd (aA v6 h6) fun v7 h7 =>
 bnd (aO (env 0) h7) fun v8 h8 =>
 bnd (aC 0 v8 h8) fun v9 h9 =>
 bnd (aC 2 v9 h9) fun v10 h10 =>
 bnd (aA v10 h10) fun v11 h11 =>
 bnd (bD [(.s []), (.b false), (.b false), (aF 0)] [(0, 1, (env 7)), (1, 1, (.b false)), (2, 1, (env 2)), (3, 1, v11)] h11) fun v12 h12 =>
 bnd (bL (bW 0 h4.next) [(.s []), (.b false), (.b false), (aF 0)] 1 [(0, 4, v12)] h12) fun v13 h13 =>
 bnd (bB 4 32 v7 v13 h13) fun v14 h14 =>
 bnd (aO (env 0) h14) fun v15 h15 =>
 bnd (aC 6 v15 h15) fun v16 h16 =>
 bnd (aH 1 v16 v14 h16) fun v17 h17 =>
 bnd (aO (env 0) h17) fun v18 h18 =>
 bnd (aC 0 v18 h18) fun v19 h19 =>
 bnd (aC 2 v19 h19) fun v20 h20 =>
 bnd (aA v20 h20) fun v21 h21 =>
 bnd (aD .add v21 (aF 1) h21) fun v22 h22 =>
 bnd (aO (env 0) h22) fun v23 h23 =>
 bnd (aC 0 v23 h23) fun v24 h24 =>
 bnd (aC 2 v24 h24) fun v25 h25 =>
 bnd (aH 1 v25 v22 h25) fun _ h26 =>
      dF r n kk2 (env 0) (env 2) (env 10) (env 11) (env 12) h26)) = (K6 (zG r n kk2) 0 2 7 10 11 12) := by kernel_rfl
theorem cBs (kk2 : cF) : D139 r n aYh (xs (xs x0 0 r139) 1 (K5 (dF r n kk2) 0 2 10 11 12)) (K5 (dF r n kk2) 0 2 10 11 12) = (K6 (zG r n kk2) 0 2 7 10 11 12) :=
 (bQe r n kk2 (dF r n kk2)).trans (bCg r n kk2)
theorem bYa (kk2 : cF) : D139 r n sW (xs (xs x0 0 r139) 1 (K5 (dF r n kk2) 0 2 10 11 12)) (K5 (dF r n kk2) 0 2 10 11 12) = D139 r n bAy (xs (xs x0 0 r139) 1 (K5 (dF r n kk2) 0 2 10 11 12)) (K6 (zG r n kk2) 0 2 7 10 11 12) :=
 congrArg (fun k => D139 r n bAy (xs (xs x0 0 r139) 1 (K5 (dF r n kk2) 0 2 10 11 12)) k) (cBs r n kk2)
theorem cLt (kk2 : cF) : D139 r n sW (xs (xs x0 0 r139) 1 (K5 (dF r n kk2) 0 2 10 11 12)) (K5 (dF r n kk2) 0 2 10 11 12) = (K6 (nK r n kk2) 0 2 7 10 11 12) :=
 (bYa r n kk2).trans
 ((by kernel_rfl))
theorem bNy (kk2 : cF) : D139 r n aDf (xs (xs x0 0 r139) 1 (K5 (dF r n kk2) 0 2 10 11 12)) (K5 (dF r n kk2) 0 2 10 11 12) = D139 r n aCg (xs (xs x0 0 r139) 1 (K5 (dF r n kk2) 0 2 10 11 12)) (K6 (nK r n kk2) 0 2 7 10 11 12) :=
 congrArg (fun k => D139 r n aCg (xs (xs x0 0 r139) 1 (K5 (dF r n kk2) 0 2 10 11 12)) k) (cLt r n kk2)
theorem bUr (kk2 : cF) (q0 : gW) (q1 : cF) : D139 r n aCg (xs (xs x0 0 r139) 1 (K5 q1 0 2 10 11 12)) (K6 q0 0 2 7 10 11 12) = fun (env : aW) (h : Hp) =>
 bnd (r 156 [(env 0), (env 7)] h) fun v1 h1 =>
 bnd (aB 0 v1 h1) fun v2 h2 =>
 bnd (aB 1 v1 h2) fun v3 h3 =>
 bnd (bR [(.s []), (.b false), (.b false), (aF 0)] h3) fun v4 h4 =>
 bnd (aH 4 v4 v2 h4) fun _ h5 =>
 bnd (gD v3 false (some ((env 7), h5)) h5) fun v6 h6 =>
 bnd (gD v3 false (r 157 [v6] h6) h6) fun v7 h7 =>
 bnd (aQ v3 (.b true) v7 h7) fun v8 h8 =>
 aT v8 (
 bnd (r 158 [(env 0), (env 7), (aF 16)] h8) fun v9 h9 =>
      q0 (env 0) (env 2) (env 7) (env 10) (env 11) (env 12) h9) (
      q0 (env 0) (env 2) (env 7) (env 10) (env 11) (env 12) h8) := by kernel_rfl
theorem bDq (kk2 : cF) : (fun (env : aW) (h : Hp) =>
 bnd (r 156 [(env 0), (env 7)] h) fun v1 h1 =>
 bnd (aB 0 v1 h1) fun v2 h2 =>
 bnd (aB 1 v1 h2) fun v3 h3 =>
 bnd (bR [(.s []), (.b false), (.b false), (aF 0)] h3) fun v4 h4 =>
 bnd (aH 4 v4 v2 h4) fun _ h5 =>
 bnd (gD v3 false (some ((env 7), h5)) h5) fun v6 h6 =>
 bnd (gD v3 false (r 157 [v6] h6) h6) fun v7 h7 =>
 bnd (aQ v3 (.b true) v7 h7) fun v8 h8 =>
 aT v8 (
 bnd (r 158 [(env 0), (env 7), (aF 16)] h8) fun v9 h9 =>
      nK r n kk2 (env 0) (env 2) (env 7) (env 10) (env 11) (env 12) h9) (
      nK r n kk2 (env 0) (env 2) (env 7) (env 10) (env 11) (env 12) h8)) = (K6 (aIp r n kk2) 0 2 7 10 11 12) := by kernel_rfl
theorem cGz (kk2 : cF) : D139 r n aDf (xs (xs x0 0 r139) 1 (K5 (dF r n kk2) 0 2 10 11 12)) (K5 (dF r n kk2) 0 2 10 11 12) = (K6 (aIp r n kk2) 0 2 7 10 11 12) :=
 (bNy r n kk2).trans
 ((bUr r n kk2 (nK r n kk2) (dF r n kk2)).trans (bDq r n kk2))
theorem bKu (kk2 : cF) : D139 r n aIz (xs x0 0 r139) (K5 kk2 0 2 10 11 12) = D139 r n aEi (xs x0 0 r139) (K5 (dF r n kk2) 0 2 10 11 12) :=
 congrArg (fun k => D139 r n aEi (xs x0 0 r139) k) (cOs r n kk2)
theorem bQq (kk2 : cF) : D139 r n aGx (xs (xs x0 0 r139) 1 (K5 (dF r n kk2) 0 2 10 11 12)) (K5 (dF r n kk2) 0 2 10 11 12) = D139 r n bAm (xs (xs x0 0 r139) 1 (K5 (dF r n kk2) 0 2 10 11 12)) (K6 (aIp r n kk2) 0 2 7 10 11 12) :=
 congrArg (fun k => D139 r n bAm (xs (xs x0 0 r139) 1 (K5 (dF r n kk2) 0 2 10 11 12)) k) (cGz r n kk2)
theorem cKt (kk2 : cF) : D139 r n aIz (xs x0 0 r139) (K5 kk2 0 2 10 11 12) = (K5 (aPq r n kk2) 0 2 10 11 12) :=
 (bKu r n kk2).trans
 ((by kernel_rfl : D139 r n aEi (xs x0 0 r139) (K5 (dF r n kk2) 0 2 10 11 12) = D139 r n aGx (xs (xs x0 0 r139) 1 (K5 (dF r n kk2) 0 2 10 11 12)) (K5 (dF r n kk2) 0 2 10 11 12)).trans
 ((bQq r n kk2).trans
 ((by kernel_rfl))))
theorem bNx (kk2 : cF) : D139 r n aJe (xs x0 0 r139) (K5 kk2 0 2 10 11 12) = D139 r n bAx (xs x0 0 r139) (K5 (aPq r n kk2) 0 2 10 11 12) :=
 congrArg (fun k => D139 r n bAx (xs x0 0 r139) k) (cKt r n kk2)
theorem cMh (kk2 : cF) : D139 r n aJe (xs x0 0 r139) (K5 kk2 0 2 10 11 12) = (K6 (aSp r n kk2) 0 2 10 11 12 13) :=
 (bNx r n kk2).trans
 ((by kernel_rfl))
theorem bNn (kk2 : cF) : D139 r n kE (xs x0 0 r139) (K5 kk2 0 2 10 11 12) = D139 r n aWd (xs x0 0 r139) (K6 (aSp r n kk2) 0 2 10 11 12 13) :=
 congrArg (fun k => D139 r n aWd (xs x0 0 r139) k) (cMh r n kk2)
theorem bGu (kk2 : cF) : D139 r n kE (xs x0 0 r139) (K5 kk2 0 2 10 11 12) = (K5 (aYf r n kk2) 0 2 10 11 12) :=
 (bNn r n kk2).trans
 ((by kernel_rfl))
theorem bSl (m : Nat) : aR (fun kk => D139 r n kE (xs x0 0 r139) kk) m = (K5 (uA r n m) 0 2 10 11 12) := by
 induction m with
 | zero => exact (by kernel_rfl : aR (fun kk => D139 r n kE (xs x0 0 r139) kk) 0 = (K5 (uA r n 0) 0 2 10 11 12))
 | succ m ih =>
  refine (by kernel_rfl : aR (fun kk => D139 r n kE (xs x0 0 r139) kk) (m + 1) = D139 r n kE (xs x0 0 r139) (aR (fun kk => D139 r n kE (xs x0 0 r139) kk) m)).trans ?_
  rw [ih]
  exact (bGu r n (uA r n m)).trans (by kernel_rfl)
theorem cJj : D139 r n aEx (xs x0 0 r139) r139 = (K5 (bGz r n) 0 2 10 11 12) :=
 (by kernel_rfl : D139 r n aEx (xs x0 0 r139) r139 = aR (fun kk => D139 r n kE (xs x0 0 r139) kk) n).trans ((bSl r n n).trans (by kernel_rfl))
theorem cCy : D139 r n aOr x0 r139 = (K5 (aOq r n) 0 2 10 11 12) :=
 (by kernel_rfl : D139 r n aOr x0 r139 = D139 r n aEx (xs x0 0 r139) r139).trans
 ((cJj r n).trans (by kernel_rfl))
theorem cUr : D139 r n c139 x0 r139 = D139 r n aYz x0 (K5 (aOq r n) 0 2 10 11 12) :=
 congrArg (fun k => D139 r n aYz x0 k) (cCy r n)
theorem dOh : D139 r n c139 x0 r139 = (K3 (s139 r n) 0 1 2) :=
 (cUr r n).trans
 ((by kernel_rfl))
theorem cSx : aE CF r n 139 args h = s139 r n (aS args 0) (aS args 1) (aS args 2) h :=
 (by kernel_rfl : aE CF r n 139 args h = D139 r n c139 x0 r139 (aG args) h).trans ((congrFun (congrFun (dOh r n) (aG args)) h).trans (by kernel_rfl))
noncomputable def rE (r : RT) (n : Nat) (x0 x3 x11 x14 : DV) (h0 : Hp) : aI :=
 aT x14 (
 bnd (aK 6 x3 h0) fun v1 h1 =>
 bnd (r 160 [x0, v1] h1) fun v2 h2 =>
 bnd (lL [x0, v2] h2) fun v3 h3 =>
 bnd (r 141 [x0, (aF 6), v3, (aF 0)] h3) fun v4 h4 =>
 some (.t [], h4)) (
 bnd (aD .eql x11 (aF 5) h0) fun v5 h5 =>
 aT v5 (
 bnd (aC 1 x3 h5) fun v6 h6 =>
 bnd (aA v6 h6) fun v7 h7 =>
 bnd (r 161 [x0, v7] h7) fun v8 h8 =>
 some (.t [], h8)) (
 bnd (aD .eql x11 (aF 6) h5) fun v9 h9 =>
 aT v9 (
 bnd (aK 6 x3 h9) fun v10 h10 =>
 bnd (r 162 [x0, v10] h10) fun v11 h11 =>
 some (.t [], h11)) (
 bnd (aD .eql x11 (aF 7) h9) fun v12 h12 =>
 aT v12 (
 bnd (aK 6 x3 h12) fun v13 h13 =>
 bnd (r 163 [x0, v13] h13) fun v14 h14 =>
 some (.t [], h14)) (
 bnd (aD .eql x11 (aF 8) h12) fun v15 h15 =>
 aT v15 (
 bnd (aK 6 x3 h15) fun v16 h16 =>
 bnd (r 164 [x0, v16] h16) fun v17 h17 =>
 some (.t [], h17)) (
 bnd (aD .eql x11 (aF 9) h15) fun v18 h18 =>
 aT v18 (
 bnd (aO x0 h18) fun v19 h19 =>
 bnd (aC 0 v19 h19) fun v20 h20 =>
 bnd (aC 2 v20 h20) fun v21 h21 =>
 bnd (aA v21 h21) fun v22 h22 =>
 bnd (aC 3 x3 h22) fun v23 h23 =>
 bnd (aA v23 h23) fun v24 h24 =>
 bnd (cJ v24 h24) fun v25 h25 =>
 bnd (r 141 [x0, (aF 18), v22, v25] h25) fun v26 h26 =>
 bnd (r 165 [x0, (aF 16)] h26) fun v27 h27 =>
 bnd (aK 6 x3 h27) fun v28 h28 =>
 bnd (r 166 [x0, v28] h28) fun v29 h29 =>
 bnd (r 141 [x0, (aF 19), (aF 0), (aF 0)] h29) fun v30 h30 =>
 bnd (fO CF r v27 [] h30) fun v31 h31 =>
 some (.t [], h31)) (
 bnd (aD .eql x11 (aF 10) h18) fun v32 h32 =>
 aT v32 (
 bnd (aK 6 x3 h32) fun v33 h33 =>
 bnd (r 167 [x0, v33] h33) fun v34 h34 =>
 aT v34 (
 bnd (aC 5 x3 h34) fun v35 h35 =>
 bnd (aA v35 h35) fun v36 h36 =>
 bnd (aJ 6 v36 (aF 0) h36) fun v37 h37 =>
 bnd (aK 6 v37 h37) fun v38 h38 =>
 bnd (r 140 [x0, v38] h38) fun v39 h39 =>
 bnd (r 141 [x0, (aF 20), (aF 0), (aF 0)] h39) fun v40 h40 =>
 some (.t [], h40)) (
 some (.t [], h34))) (
 bnd (r 158 [x0, (.s []), (aF 1)] h32) fun v41 h41 =>
 some (.t [], h41))))))))
noncomputable def aRy (r : RT) (n : Nat) (x0 x3 x11 : DV) (h0 : Hp) : aI :=
 bnd (aD .eql x11 (aF 1) h0) fun v1 h1 =>
 aT v1 (
  rE r n x0 x3 x11 v1 h1) (
 bnd (aD .eql x11 (aF 2) h1) fun v2 h2 =>
 aT v2 (
   rE r n x0 x3 x11 v2 h2) (
 bnd (aD .eql x11 (aF 3) h2) fun v3 h3 =>
 aT v3 (
    rE r n x0 x3 x11 v3 h3) (
 bnd (aD .eql x11 (aF 4) h3) fun v4 h4 =>
    rE r n x0 x3 x11 v4 h4)))
noncomputable def aSe (r : RT) (n : Nat) (x0 x3 : DV) (h0 : Hp) : aI :=
 bnd (aC 0 x3 h0) fun v1 h1 =>
 bnd (aA v1 h1) fun v2 h2 =>
  aRy r n x0 x3 v2 h2
noncomputable def yO (r : RT) (n : Nat) (x0 x3 : DV) (h0 : Hp) : aI :=
 bnd (aO x0 h0) fun v1 h1 =>
 bnd (aC 8 v1 h1) fun v2 h2 =>
 bnd (aA v2 h2) fun v3 h3 =>
 bnd (aD .neq v3 (aF 0) h3) fun v4 h4 =>
 aT v4 (
 some (.t [], h4)) (
  aSe r n x0 x3 h4)
noncomputable def s140 (r : RT) (n : Nat) (x0 x1 : DV) (h0 : Hp) : aI :=
 bnd (bX x1 h0) fun v1 h1 =>
  yO r n x0 v1 h1
noncomputable abbrev c140 : Code := cf Tryz.f140
noncomputable abbrev aEz : Code := cR c140
noncomputable abbrev aBn : Code := cR aEz
noncomputable abbrev aQd : Code := cR aBn
noncomputable abbrev aIl : Code := cL aQd
noncomputable abbrev cXy : Code := cR aIl
noncomputable abbrev bUs : Code := cL aIl
noncomputable abbrev bZk : Code := cL aBn
noncomputable abbrev bWq : Code := cL aEz
noncomputable abbrev aPv : Code := cL c140
noncomputable abbrev r140 : K := aP CF Tryz.f140
noncomputable def D140 (r : RT) (n : Nat) (c : Code) (X : Nat → K) (k : K) : K := aM CF r 81 n c X r140 k
theorem cMr : D140 r n cXy (xs x0 0 r140) r140 = (K4 (rE r n) 0 3 11 14) :=
 (by kernel_rfl)
theorem bQf : D140 r n aIl (xs x0 0 r140) r140 = D140 r n bUs (xs x0 0 r140) (K4 (rE r n) 0 3 11 14) :=
 congrArg (fun k => D140 r n bUs (xs x0 0 r140) k) (cMr r n)
theorem cNs : D140 r n aQd x0 r140 = (K3 (aRy r n) 0 3 11) :=
 (by kernel_rfl : D140 r n aQd x0 r140 = D140 r n aIl (xs x0 0 r140) r140).trans
 ((bQf r n).trans
 ((by kernel_rfl)))
theorem bSd : D140 r n aBn x0 r140 = D140 r n bZk x0 (K3 (aRy r n) 0 3 11) :=
 congrArg (fun k => D140 r n bZk x0 k) (cNs r n)
theorem cEb : D140 r n aBn x0 r140 = (K2 (aSe r n) 0 3) :=
 (bSd r n).trans
 ((by kernel_rfl))
theorem bXd : D140 r n aEz x0 r140 = D140 r n bWq x0 (K2 (aSe r n) 0 3) :=
 congrArg (fun k => D140 r n bWq x0 k) (cEb r n)
theorem cHx : D140 r n aEz x0 r140 = (K2 (yO r n) 0 3) :=
 (bXd r n).trans
 ((by kernel_rfl))
theorem cUp : D140 r n c140 x0 r140 = D140 r n aPv x0 (K2 (yO r n) 0 3) :=
 congrArg (fun k => D140 r n aPv x0 k) (cHx r n)
theorem cUt (q0 : rP) : D140 r n aPv x0 (K2 q0 0 3) = fun (env : aW) (h : Hp) =>
 bnd (bX (env 1) h) fun v1 h1 =>
  q0 (env 0) v1 h1 := by kernel_rfl
theorem cMz : (fun (env : aW) (h : Hp) =>
 bnd (bX (env 1) h) fun v1 h1 =>
  yO r n (env 0) v1 h1) = (K2 (s140 r n) 0 1) := by kernel_rfl
theorem dMy : D140 r n c140 x0 r140 = (K2 (s140 r n) 0 1) :=
 (cUp r n).trans
 ((cUt r n (yO r n)).trans (cMz r n))
theorem cSi : aE CF r n 140 args h = s140 r n (aS args 0) (aS args 1) h :=
 (by kernel_rfl : aE CF r n 140 args h = D140 r n c140 x0 r140 (aG args) h).trans ((congrFun (congrFun (dMy r n) (aG args)) h).trans (by kernel_rfl))
noncomputable def s141 (r : RT) (n : Nat) (x0 x1 x2 x3 : DV) (h0 : Hp) : aI :=
 bnd (aO x0 h0) fun v1 h1 =>
 bnd (aC 0 v1 h1) fun v2 h2 =>
 bnd (aC 5 v2 h2) fun v3 h3 =>
 bnd (aA v3 h3) fun v4 h4 =>
 bnd (bD [(aF 0), (aF 0), (aF 0)] [(0, 1, x1), (1, 1, x2), (2, 1, x3)] h4) fun v5 h5 =>
 bnd (aL [(aF 0), (aF 0), (aF 0)] 1 [(0, 3, v5)] h5) fun v6 h6 =>
 bnd (bB 3 24 v4 v6 h6) fun v7 h7 =>
 bnd (aO x0 h7) fun v8 h8 =>
 bnd (aC 0 v8 h8) fun v9 h9 =>
 bnd (aC 5 v9 h9) fun v10 h10 =>
 bnd (aH 1 v10 v7 h10) fun _ h11 =>
 some (.t [], h11)
noncomputable abbrev c141 : Code := cf Tryz.f141
noncomputable abbrev r141 : K := aP CF Tryz.f141
noncomputable def D141 (r : RT) (n : Nat) (c : Code) (X : Nat → K) (k : K) : K := aM CF r 23 n c X r141 k
theorem dIu : D141 r n c141 x0 r141 = (K4 (s141 r n) 0 1 2 3) :=
 (by kernel_rfl)
theorem dAi : aE CF r n 141 args h = s141 r n (aS args 0) (aS args 1) (aS args 2) (aS args 3) h :=
 (by kernel_rfl : aE CF r n 141 args h = D141 r n c141 x0 r141 (aG args) h).trans ((congrFun (congrFun (dIu r n) (aG args)) h).trans (by kernel_rfl))
noncomputable def cI (r : RT) (n : Nat) (x2 x3 : DV) (h0 : Hp) : aI :=
 some (.t [x2, x3], h0)
noncomputable def cT (r : RT) (n : Nat) (x3 : DV) (h0 : Hp) : aI :=
 cI r n (.b true) x3 h0
noncomputable def dN (r : RT) (n : Nat) (h0 : Hp) : aI :=
 cT r n (.b true) h0
noncomputable def nY (r : RT) (n : Nat) (x2 x3 : DV) (h0 : Hp) : aI :=
 cI r n x2 x3 h0
noncomputable def mO (r : RT) (n : Nat) (x2 x3 x11 : DV) (h0 : Hp) : aI :=
 aT x11 (
  cT r n x3 h0) (
  nY r n x2 x3 h0)
noncomputable def vE (r : RT) (n : Nat) (x2 x3 x4 : DV) (h0 : Hp) : aI :=
 bnd (aD .eql x4 (aF 6) h0) fun v1 h1 =>
 aT v1 (
  mO r n x2 x3 v1 h1) (
 bnd (aD .eql x4 (aF 7) h1) fun v2 h2 =>
 aT v2 (
   mO r n x2 x3 v2 h2) (
 bnd (aD .eql x4 (aF 8) h2) fun v3 h3 =>
 aT v3 (
    mO r n x2 x3 v3 h3) (
 bnd (aD .eql x4 (aF 9) h3) fun v4 h4 =>
 aT v4 (
     mO r n x2 x3 v4 h4) (
 bnd (aD .eql x4 (aF 10) h4) fun v5 h5 =>
 aT v5 (
      mO r n x2 x3 v5 h5) (
 bnd (aD .eql x4 (aF 11) h5) fun v6 h6 =>
      mO r n x2 x3 v6 h6)))))
noncomputable def oL (r : RT) (n : Nat) (x2 x3 x4 x5 : DV) (h0 : Hp) : aI :=
 aT x5 (
  dN r n h0) (
  vE r n x2 x3 x4 h0)
noncomputable def aPs (r : RT) (n : Nat) (x2 x3 x4 : DV) (h0 : Hp) : aI :=
 bnd (aD .eql x4 (aF 14) h0) fun v1 h1 =>
 aT v1 (
  oL r n x2 x3 x4 v1 h1) (
 bnd (aD .eql x4 (aF 15) h1) fun v2 h2 =>
 aT v2 (
   oL r n x2 x3 x4 v2 h2) (
 bnd (aD .eql x4 (aF 16) h2) fun v3 h3 =>
 aT v3 (
    oL r n x2 x3 x4 v3 h3) (
 bnd (aD .eql x4 (aF 17) h3) fun v4 h4 =>
 aT v4 (
     oL r n x2 x3 x4 v4 h4) (
 bnd (aD .eql x4 (aF 18) h4) fun v5 h5 =>
     oL r n x2 x3 x4 v5 h5))))
noncomputable def aSg (r : RT) (n : Nat) (x0 x2 x3 : DV) (h0 : Hp) : aI :=
 aPs r n x2 x3 x0 h0
noncomputable def s142 (r : RT) (n : Nat) (x0 : DV) (h0 : Hp) : aI :=
 aSg r n x0 (.b false) (.b false) h0
noncomputable abbrev c142 : Code := cf Tryz.f142
noncomputable abbrev aEg : Code := cR c142
noncomputable abbrev cTa : Code := cR aEg
noncomputable abbrev wE : Code := cL aEg
noncomputable abbrev aNj : Code := cR wE
noncomputable abbrev aBp : Code := cL aNj
noncomputable abbrev cWz : Code := cR aBp
noncomputable abbrev aBi : Code := cL aBp
noncomputable abbrev aGg : Code := cL aBi
noncomputable abbrev cYn : Code := cR aGg
noncomputable abbrev sR : Code := cL aGg
noncomputable abbrev tX : Code := cL sR
noncomputable abbrev cDq : Code := cR tX
noncomputable abbrev pA : Code := cL tX
noncomputable abbrev sN : Code := cR pA
noncomputable abbrev cAx : Code := cR sN
noncomputable abbrev aVn : Code := cL sN
noncomputable abbrev oP : Code := cL pA
noncomputable abbrev cPn : Code := cR oP
noncomputable abbrev aZg : Code := cL oP
noncomputable abbrev aXw : Code := cL wE
noncomputable abbrev bBc : Code := cL c142
noncomputable abbrev r142 : K := aP CF Tryz.f142
noncomputable def D142 (r : RT) (n : Nat) (c : Code) (X : Nat → K) (k : K) : K := aM CF r 20 n c X r142 k
theorem cPu : D142 r n cTa x0 r142 = (K2 (cI r n) 2 3) :=
 (by kernel_rfl)
theorem cGy : D142 r n cWz (xs x0 0 (K2 (cI r n) 2 3)) (K2 (cI r n) 2 3) = (K1 (cT r n) 3) :=
 (by kernel_rfl)
theorem cNp : D142 r n cYn (xs (xs x0 0 (K2 (cI r n) 2 3)) 2 (K1 (cT r n) 3)) (K1 (cT r n) 3) = (K0 (dN r n)) :=
 (by kernel_rfl)
theorem cDu : D142 r n cDq (xs (xs (xs x0 0 (K2 (cI r n) 2 3)) 2 (K1 (cT r n) 3)) 1 (K0 (dN r n))) (K0 (dN r n)) = (K2 (nY r n) 2 3) :=
 (by kernel_rfl)
theorem cIz : D142 r n cAx (xs (xs (xs x0 0 (K2 (cI r n) 2 3)) 2 (K1 (cT r n) 3)) 1 (K0 (dN r n))) (K2 (nY r n) 2 3) = (K3 (mO r n) 2 3 11) :=
 (by kernel_rfl)
theorem bPo : D142 r n sN (xs (xs (xs x0 0 (K2 (cI r n) 2 3)) 2 (K1 (cT r n) 3)) 1 (K0 (dN r n))) (K2 (nY r n) 2 3) = D142 r n aVn (xs (xs (xs x0 0 (K2 (cI r n) 2 3)) 2 (K1 (cT r n) 3)) 1 (K0 (dN r n))) (K3 (mO r n) 2 3 11) :=
 congrArg (fun k => D142 r n aVn (xs (xs (xs x0 0 (K2 (cI r n) 2 3)) 2 (K1 (cT r n) 3)) 1 (K0 (dN r n))) k) (cIz r n)
theorem cIb : D142 r n sN (xs (xs (xs x0 0 (K2 (cI r n) 2 3)) 2 (K1 (cT r n) 3)) 1 (K0 (dN r n))) (K2 (nY r n) 2 3) = (K3 (vE r n) 2 3 4) :=
 (bPo r n).trans
 ((by kernel_rfl))
theorem cEn : D142 r n cPn (xs (xs (xs x0 0 (K2 (cI r n) 2 3)) 2 (K1 (cT r n) 3)) 1 (K0 (dN r n))) (K3 (vE r n) 2 3 4) = (K4 (oL r n) 2 3 4 5) :=
 (by kernel_rfl)
theorem bLo : D142 r n aBp (xs x0 0 (K2 (cI r n) 2 3)) (K2 (cI r n) 2 3) = D142 r n aBi (xs x0 0 (K2 (cI r n) 2 3)) (K1 (cT r n) 3) :=
 congrArg (fun k => D142 r n aBi (xs x0 0 (K2 (cI r n) 2 3)) k) (cGy r n)
theorem bTc : D142 r n aGg (xs (xs x0 0 (K2 (cI r n) 2 3)) 2 (K1 (cT r n) 3)) (K1 (cT r n) 3) = D142 r n sR (xs (xs x0 0 (K2 (cI r n) 2 3)) 2 (K1 (cT r n) 3)) (K0 (dN r n)) :=
 congrArg (fun k => D142 r n sR (xs (xs x0 0 (K2 (cI r n) 2 3)) 2 (K1 (cT r n) 3)) k) (cNp r n)
theorem bOs : D142 r n tX (xs (xs (xs x0 0 (K2 (cI r n) 2 3)) 2 (K1 (cT r n) 3)) 1 (K0 (dN r n))) (K0 (dN r n)) = D142 r n pA (xs (xs (xs x0 0 (K2 (cI r n) 2 3)) 2 (K1 (cT r n) 3)) 1 (K0 (dN r n))) (K2 (nY r n) 2 3) :=
 congrArg (fun k => D142 r n pA (xs (xs (xs x0 0 (K2 (cI r n) 2 3)) 2 (K1 (cT r n) 3)) 1 (K0 (dN r n))) k) (cDu r n)
theorem bQy : D142 r n pA (xs (xs (xs x0 0 (K2 (cI r n) 2 3)) 2 (K1 (cT r n) 3)) 1 (K0 (dN r n))) (K2 (nY r n) 2 3) = D142 r n oP (xs (xs (xs x0 0 (K2 (cI r n) 2 3)) 2 (K1 (cT r n) 3)) 1 (K0 (dN r n))) (K3 (vE r n) 2 3 4) :=
 congrArg (fun k => D142 r n oP (xs (xs (xs x0 0 (K2 (cI r n) 2 3)) 2 (K1 (cT r n) 3)) 1 (K0 (dN r n))) k) (cIb r n)
theorem bNc : D142 r n oP (xs (xs (xs x0 0 (K2 (cI r n) 2 3)) 2 (K1 (cT r n) 3)) 1 (K0 (dN r n))) (K3 (vE r n) 2 3 4) = D142 r n aZg (xs (xs (xs x0 0 (K2 (cI r n) 2 3)) 2 (K1 (cT r n) 3)) 1 (K0 (dN r n))) (K4 (oL r n) 2 3 4 5) :=
 congrArg (fun k => D142 r n aZg (xs (xs (xs x0 0 (K2 (cI r n) 2 3)) 2 (K1 (cT r n) 3)) 1 (K0 (dN r n))) k) (cEn r n)
theorem cPb : D142 r n aNj x0 (K2 (cI r n) 2 3) = (K3 (aPs r n) 2 3 4) :=
 (by kernel_rfl : D142 r n aNj x0 (K2 (cI r n) 2 3) = D142 r n aBp (xs x0 0 (K2 (cI r n) 2 3)) (K2 (cI r n) 2 3)).trans
 ((bLo r n).trans
 ((by kernel_rfl : D142 r n aBi (xs x0 0 (K2 (cI r n) 2 3)) (K1 (cT r n) 3) = D142 r n aGg (xs (xs x0 0 (K2 (cI r n) 2 3)) 2 (K1 (cT r n) 3)) (K1 (cT r n) 3)).trans
 ((bTc r n).trans
 ((by kernel_rfl : D142 r n sR (xs (xs x0 0 (K2 (cI r n) 2 3)) 2 (K1 (cT r n) 3)) (K0 (dN r n)) = D142 r n tX (xs (xs (xs x0 0 (K2 (cI r n) 2 3)) 2 (K1 (cT r n) 3)) 1 (K0 (dN r n))) (K0 (dN r n))).trans
 ((bOs r n).trans
 ((bQy r n).trans
 ((bNc r n).trans
 ((by kernel_rfl)))))))))
theorem bYk : D142 r n aEg x0 r142 = D142 r n wE x0 (K2 (cI r n) 2 3) :=
 congrArg (fun k => D142 r n wE x0 k) (cPu r n)
theorem bOz : D142 r n wE x0 (K2 (cI r n) 2 3) = D142 r n aXw x0 (K3 (aPs r n) 2 3 4) :=
 congrArg (fun k => D142 r n aXw x0 k) (cPb r n)
theorem cFa : D142 r n aEg x0 r142 = (K3 (aSg r n) 0 2 3) :=
 (bYk r n).trans
 ((bOz r n).trans
 ((by kernel_rfl)))
theorem cTl : D142 r n c142 x0 r142 = D142 r n bBc x0 (K3 (aSg r n) 0 2 3) :=
 congrArg (fun k => D142 r n bBc x0 k) (cFa r n)
theorem dIz : D142 r n c142 x0 r142 = (K1 (s142 r n) 0) :=
 (cTl r n).trans
 ((by kernel_rfl))
theorem cTv : aE CF r n 142 args h = s142 r n (aS args 0) h :=
 (by kernel_rfl : aE CF r n 142 args h = D142 r n c142 x0 r142 (aG args) h).trans ((congrFun (congrFun (dIz r n) (aG args)) h).trans (by kernel_rfl))
noncomputable def s143 (r : RT) (n : Nat) (x0 x1 : DV) (h0 : Hp) : aI :=
 bnd (aD .eql x0 (aF 0) h0) fun v1 h1 =>
 bnd (gD v1 false (some (x1, h1)) h1) fun v2 h2 =>
 bnd (gD v1 false (some (v2, h2)) h2) fun v3 h3 =>
 bnd (gD v3 true (some (x0, h3)) h3) fun v4 h4 =>
 bnd (gD v3 true (aD .gtr v4 (aF 0) h4) h4) fun v5 h5 =>
 bnd (gD v1 false (aQ v3 v5 (.b false) h5) h5) fun v6 h6 =>
 bnd (gD v1 false (some (v6, h6)) h6) fun v7 h7 =>
 bnd (gD v7 true (some (x0, h7)) h7) fun v8 h8 =>
 bnd (gD v7 true (aD .leq v8 (aF 255) h8) h8) fun v9 h9 =>
 bnd (gD v1 false (aQ v7 v9 (.b false) h9) h9) fun v10 h10 =>
 bnd (aQ v1 (.b true) v10 h10) fun v11 h11 =>
 some (v11, h11)
noncomputable abbrev c143 : Code := cf Tryz.f143
noncomputable abbrev r143 : K := aP CF Tryz.f143
noncomputable def D143 (r : RT) (n : Nat) (c : Code) (X : Nat → K) (k : K) : K := aM CF r 18 n c X r143 k
theorem dKt : D143 r n c143 x0 r143 = (K2 (s143 r n) 0 1) :=
 (by kernel_rfl)
theorem cYa : aE CF r n 143 args h = s143 r n (aS args 0) (aS args 1) h :=
 (by kernel_rfl : aE CF r n 143 args h = D143 r n c143 x0 r143 (aG args) h).trans ((congrFun (congrFun (dKt r n) (aG args)) h).trans (by kernel_rfl))
noncomputable def eI (r : RT) (n : Nat) (x2 : DV) (h0 : Hp) : aI :=
 bnd (aC 5 x2 h0) fun v1 h1 =>
 bnd (aA v1 h1) fun v2 h2 =>
 bnd (r 173 [v2] h2) fun v3 h3 =>
 bnd (aC 5 x2 h3) fun v4 h4 =>
 bnd (aA v4 h4) fun v5 h5 =>
 bnd (r 174 [v5, v3] h5) fun v6 h6 =>
 bnd (dR .not v6 h6) fun v7 h7 =>
 aT v7 (
 some (.t [.l0, (aF 19)], h7)) (
 bnd (aC 5 x2 h7) fun v8 h8 =>
 bnd (aA v8 h8) fun v9 h9 =>
 bnd (r 175 [v9, v3] h9) fun v10 h10 =>
 bnd (aB 0 v10 h10) fun v11 h11 =>
 bnd (aB 1 v10 h11) fun v12 h12 =>
 bnd (dR .not v12 h12) fun v13 h13 =>
 aT v13 (
 some (.t [.l0, (aF 19)], h13)) (
 some (.t [v11, (aF 0)], h13)))
noncomputable def aBz (r : RT) (n : Nat) (kk7 : cF) (x1 x2 x60 x61 x62 : DV) (h0 : Hp) : aI :=
 bnd (aD .lss x62 x61 h0) fun v1 h1 =>
 aT v1 (
 bnd (aJ 3 x60 x62 h1) fun v2 h2 =>
 bnd (aK 3 v2 h2) fun v3 h3 =>
 bnd (bR [(aF 0), (aF 0), (aF 0)] h3) fun v4 h4 =>
 bnd (aH 3 v4 v3 h4) fun _ h5 =>
 bnd (aK 3 v4 h5) fun v6 h6 =>
 bnd (r 124 [v6] h6) fun v7 h7 =>
 bnd (dR .not v7 h7) fun v8 h8 =>
 bnd (gD v8 false (aK 6 x2 h8) h8) fun v9 h9 =>
 bnd (gD v8 false (aK 3 v4 h9) h9) fun v10 h10 =>
 bnd (gD v8 false (some (x1, h10)) h10) fun v11 h11 =>
 bnd (gD v8 false (r 172 [v9, v10, v11] h11) h11) fun v12 h12 =>
 bnd (gD v8 false (dR .not v12 h12) h12) fun v13 h13 =>
 bnd (aQ v8 (.b true) v13 h13) fun v14 h14 =>
 aT v14 (
 some (.t [.l0, (aF 19)], h14)) (
 bnd (aD .add x62 (aF 1) h14) fun v15 h15 =>
    kk7 x1 x2 x60 x61 v15 h15)) (
      eI r n x2 h1)
noncomputable def tJ (r : RT) (n : Nat) (m : Nat) : cF :=
 Nat.rec (motive := fun _ => cF) (fun _ _ _ _ _ _ => none) (fun _ ih => aBz r n ih) m
noncomputable def bPq (r : RT) (n : Nat) : cF := tJ r n n
noncomputable def aSb (r : RT) (n : Nat) (x1 x2 x60 x61 x62 : DV) (h0 : Hp) : aI :=
 bPq r n x1 x2 x60 x61 x62 h0
noncomputable def aSw (r : RT) (n : Nat) (x1 x2 : DV) (h0 : Hp) : aI :=
 bnd (aC 5 x2 h0) fun v1 h1 =>
 bnd (aA v1 h1) fun v2 h2 =>
 bnd (cJ v2 h2) fun v3 h3 =>
  aSb r n x1 x2 v2 v3 (aF 0) h3
noncomputable def aQc (r : RT) (n : Nat) (x1 x2 x6 x7 : DV) (h0 : Hp) : aI :=
 bnd (dR .not x6 h0) fun v1 h1 =>
 bnd (gD v1 false (some (x7, h1)) h1) fun v2 h2 =>
 bnd (aQ v1 (.b true) v2 h2) fun v3 h3 =>
 bnd (gD v3 false (aC 4 x2 h3) h3) fun v4 h4 =>
 bnd (gD v3 false (aA v4 h4) h4) fun v5 h5 =>
 bnd (gD v3 false (cJ v5 h5) h5) fun v6 h6 =>
 bnd (gD v3 false (aD .gtr v6 (aF 60) h6) h6) fun v7 h7 =>
 bnd (aQ v3 (.b true) v7 h7) fun v8 h8 =>
 bnd (gD v8 false (aC 5 x2 h8) h8) fun v9 h9 =>
 bnd (gD v8 false (aA v9 h9) h9) fun v10 h10 =>
 bnd (gD v8 false (cJ v10 h10) h10) fun v11 h11 =>
 bnd (gD v8 false (r 168 [v11, (aF 1), (aF 400)] h11) h11) fun v12 h12 =>
 bnd (gD v8 false (dR .not v12 h12) h12) fun v13 h13 =>
 bnd (aQ v8 (.b true) v13 h13) fun v14 h14 =>
 aT v14 (
 some (.t [.l0, (aF 19)], h14)) (
  aSw r n x1 x2 h14)
noncomputable def aQq (r : RT) (n : Nat) (x1 x2 x6 : DV) (h0 : Hp) : aI :=
 bnd (aC 4 x2 h0) fun v1 h1 =>
 bnd (aA v1 h1) fun v2 h2 =>
 bnd (r 169 [v2, (.f 170 [] [])] h2) fun v3 h3 =>
  aQc r n x1 x2 x6 v3 h3
noncomputable def xE (r : RT) (n : Nat) (x1 x2 : DV) (h0 : Hp) : aI :=
 bnd (r 168 [x1, (aF 0), (aF 8)] h0) fun v1 h1 =>
 bnd (gD v1 true (aC 0 x2 h1) h1) fun v2 h2 =>
 bnd (gD v1 true (aA v2 h2) h2) fun v3 h3 =>
 bnd (gD v1 true (dV v3 h3) h3) fun v4 h4 =>
 bnd (gD v1 true (r 168 [v4, (aF 1), (aF 60)] h4) h4) fun v5 h5 =>
 bnd (aQ v1 v5 (.b false) h5) fun v6 h6 =>
 bnd (gD v6 true (aC 1 x2 h6) h6) fun v7 h7 =>
 bnd (gD v6 true (aA v7 h7) h7) fun v8 h8 =>
 bnd (gD v6 true (r 168 [v8, (aF 0), (aF 4)] h8) h8) fun v9 h9 =>
 bnd (aQ v6 v9 (.b false) h9) fun v10 h10 =>
 bnd (gD v10 true (aC 2 x2 h10) h10) fun v11 h11 =>
 bnd (gD v10 true (aA v11 h11) h11) fun v12 h12 =>
 bnd (gD v10 true (aC 1 x2 h12) h12) fun v13 h13 =>
 bnd (gD v10 true (aA v13 h13) h13) fun v14 h14 =>
 bnd (gD v10 true (r 168 [v12, v14, (aF 24)] h14) h14) fun v15 h15 =>
 bnd (aQ v10 v15 (.b false) h15) fun v16 h16 =>
 bnd (gD v16 true (aC 3 x2 h16) h16) fun v17 h17 =>
 bnd (gD v16 true (aA v17 h17) h17) fun v18 h18 =>
 bnd (gD v16 true (r 168 [v18, (aF 0), (aF 255)] h18) h18) fun v19 h19 =>
 bnd (aQ v16 v19 (.b false) h19) fun v20 h20 =>
  aQq r n x1 x2 v20 h20
noncomputable def s144 (r : RT) (n : Nat) (x0 x1 : DV) (h0 : Hp) : aI :=
 bnd (bX x0 h0) fun v1 h1 =>
  xE r n x1 v1 h1
noncomputable abbrev c144 : Code := cf Tryz.f144
noncomputable abbrev aBl : Code := cR c144
noncomputable abbrev aFa : Code := cR aBl
noncomputable abbrev aFs : Code := cR aFa
noncomputable abbrev aBs : Code := cR aFs
noncomputable abbrev cZd : Code := cR aBs
noncomputable abbrev wW : Code := cL aBs
noncomputable abbrev aPm : Code := cR wW
noncomputable abbrev aHo : Code := cL aPm
noncomputable abbrev mA : Code := cL aHo
noncomputable abbrev aYl : Code := cL wW
noncomputable abbrev aWa : Code := cL aFs
noncomputable abbrev aVu : Code := cL aFa
noncomputable abbrev aXx : Code := cL aBl
noncomputable abbrev aBh : Code := cL c144
noncomputable abbrev r144 : K := aP CF Tryz.f144
noncomputable def D144 (r : RT) (n : Nat) (c : Code) (X : Nat → K) (k : K) : K := aM CF r 95 n c X r144 k
theorem cHq : D144 r n cZd x0 r144 = (K1 (eI r n) 2) :=
 (by kernel_rfl)
theorem cAh (kk7 : cF) (q0 : TT1) : D144 r n mA (xs x0 0 (K1 q0 2)) (K5 kk7 1 2 60 61 62) = fun (env : aW) (h : Hp) =>
 bnd (aD .lss (env 62) (env 61) h) fun v1 h1 =>
 aT v1 (
 bnd (aJ 3 (env 60) (env 62) h1) fun v2 h2 =>
 bnd (aK 3 v2 h2) fun v3 h3 =>
 bnd (bR [(aF 0), (aF 0), (aF 0)] h3) fun v4 h4 =>
 bnd (aH 3 v4 v3 h4) fun _ h5 =>
 bnd (aK 3 v4 h5) fun v6 h6 =>
 bnd (r 124 [v6] h6) fun v7 h7 =>
 bnd (dR .not v7 h7) fun v8 h8 =>
 bnd (gD v8 false (aK 6 (env 2) h8) h8) fun v9 h9 =>
 bnd (gD v8 false (aK 3 v4 h9) h9) fun v10 h10 =>
 bnd (gD v8 false (some ((env 1), h10)) h10) fun v11 h11 =>
 bnd (gD v8 false (r 172 [v9, v10, v11] h11) h11) fun v12 h12 =>
 bnd (gD v8 false (dR .not v12 h12) h12) fun v13 h13 =>
 bnd (aQ v8 (.b true) v13 h13) fun v14 h14 =>
 aT v14 (
 some (.t [.l0, (aF 19)], h14)) (
 bnd (aD .add (env 62) (aF 1) h14) fun v15 h15 =>
    kk7 (env 1) (env 2) (env 60) (env 61) v15 h15)) (
      q0 (env 2) h1) := by kernel_rfl
theorem bCe (kk7 : cF) : (fun (env : aW) (h : Hp) =>
 bnd (aD .lss (env 62) (env 61) h) fun v1 h1 =>
 aT v1 (
 bnd (aJ 3 (env 60) (env 62) h1) fun v2 h2 =>
 bnd (aK 3 v2 h2) fun v3 h3 =>
 bnd (bR [(aF 0), (aF 0), (aF 0)] h3) fun v4 h4 =>
 bnd (aH 3 v4 v3 h4) fun _ h5 =>
 bnd (aK 3 v4 h5) fun v6 h6 =>
 bnd (r 124 [v6] h6) fun v7 h7 =>
 bnd (dR .not v7 h7) fun v8 h8 =>
 bnd (gD v8 false (aK 6 (env 2) h8) h8) fun v9 h9 =>
 bnd (gD v8 false (aK 3 v4 h9) h9) fun v10 h10 =>
 bnd (gD v8 false (some ((env 1), h10)) h10) fun v11 h11 =>
 bnd (gD v8 false (r 172 [v9, v10, v11] h11) h11) fun v12 h12 =>
 bnd (gD v8 false (dR .not v12 h12) h12) fun v13 h13 =>
 bnd (aQ v8 (.b true) v13 h13) fun v14 h14 =>
 aT v14 (
 some (.t [.l0, (aF 19)], h14)) (
 bnd (aD .add (env 62) (aF 1) h14) fun v15 h15 =>
    kk7 (env 1) (env 2) (env 60) (env 61) v15 h15)) (
      eI r n (env 2) h1)) = (K5 (aBz r n kk7) 1 2 60 61 62) := by kernel_rfl
theorem bXx (kk7 : cF) : D144 r n mA (xs x0 0 (K1 (eI r n) 2)) (K5 kk7 1 2 60 61 62) = (K5 (aBz r n kk7) 1 2 60 61 62) :=
 (cAh r n kk7 (eI r n)).trans (bCe r n kk7)
theorem bJd (m : Nat) : aR (fun kk => D144 r n mA (xs x0 0 (K1 (eI r n) 2)) kk) m = (K5 (tJ r n m) 1 2 60 61 62) := by
 induction m with
 | zero => exact (by kernel_rfl : aR (fun kk => D144 r n mA (xs x0 0 (K1 (eI r n) 2)) kk) 0 = (K5 (tJ r n 0) 1 2 60 61 62))
 | succ m ih =>
  refine (by kernel_rfl : aR (fun kk => D144 r n mA (xs x0 0 (K1 (eI r n) 2)) kk) (m + 1) = D144 r n mA (xs x0 0 (K1 (eI r n) 2)) (aR (fun kk => D144 r n mA (xs x0 0 (K1 (eI r n) 2)) kk) m)).trans ?_
  rw [ih]
  exact (bXx r n (tJ r n m)).trans (by kernel_rfl)
theorem cPc : D144 r n aHo (xs x0 0 (K1 (eI r n) 2)) (K1 (eI r n) 2) = (K5 (bPq r n) 1 2 60 61 62) :=
 (by kernel_rfl : D144 r n aHo (xs x0 0 (K1 (eI r n) 2)) (K1 (eI r n) 2) = aR (fun kk => D144 r n mA (xs x0 0 (K1 (eI r n) 2)) kk) n).trans ((bJd r n n).trans (by kernel_rfl))
theorem cHm : D144 r n aPm x0 (K1 (eI r n) 2) = (K5 (aSb r n) 1 2 60 61 62) :=
 (by kernel_rfl : D144 r n aPm x0 (K1 (eI r n) 2) = D144 r n aHo (xs x0 0 (K1 (eI r n) 2)) (K1 (eI r n) 2)).trans
 ((cPc r n).trans (by kernel_rfl))
theorem bMm : D144 r n aBs x0 r144 = D144 r n wW x0 (K1 (eI r n) 2) :=
 congrArg (fun k => D144 r n wW x0 k) (cHq r n)
theorem bVo : D144 r n wW x0 (K1 (eI r n) 2) = D144 r n aYl x0 (K5 (aSb r n) 1 2 60 61 62) :=
 congrArg (fun k => D144 r n aYl x0 k) (cHm r n)
theorem cNr : D144 r n aBs x0 r144 = (K2 (aSw r n) 1 2) :=
 (bMm r n).trans
 ((bVo r n).trans
 ((by kernel_rfl)))
theorem bMq : D144 r n aFs x0 r144 = D144 r n aWa x0 (K2 (aSw r n) 1 2) :=
 congrArg (fun k => D144 r n aWa x0 k) (cNr r n)
theorem cPp : D144 r n aFs x0 r144 = (K4 (aQc r n) 1 2 6 7) :=
 (bMq r n).trans
 ((by kernel_rfl))
theorem bGj : D144 r n aFa x0 r144 = D144 r n aVu x0 (K4 (aQc r n) 1 2 6 7) :=
 congrArg (fun k => D144 r n aVu x0 k) (cPp r n)
theorem cGq : D144 r n aFa x0 r144 = (K3 (aQq r n) 1 2 6) :=
 (bGj r n).trans
 ((by kernel_rfl))
theorem bMv : D144 r n aBl x0 r144 = D144 r n aXx x0 (K3 (aQq r n) 1 2 6) :=
 congrArg (fun k => D144 r n aXx x0 k) (cGq r n)
theorem cDe : D144 r n aBl x0 r144 = (K2 (xE r n) 1 2) :=
 (bMv r n).trans
 ((by kernel_rfl))
theorem cZg : D144 r n c144 x0 r144 = D144 r n aBh x0 (K2 (xE r n) 1 2) :=
 congrArg (fun k => D144 r n aBh x0 k) (cDe r n)
theorem dCm (q0 : rP) : D144 r n aBh x0 (K2 q0 1 2) = fun (env : aW) (h : Hp) =>
 bnd (bX (env 0) h) fun v1 h1 =>
  q0 (env 1) v1 h1 := by kernel_rfl
theorem cCk : (fun (env : aW) (h : Hp) =>
 bnd (bX (env 0) h) fun v1 h1 =>
  xE r n (env 1) v1 h1) = (K2 (s144 r n) 0 1) := by kernel_rfl
theorem dOa : D144 r n c144 x0 r144 = (K2 (s144 r n) 0 1) :=
 (cZg r n).trans
 ((dCm r n (xE r n)).trans (cCk r n))
theorem dAb : aE CF r n 144 args h = s144 r n (aS args 0) (aS args 1) h :=
 (by kernel_rfl : aE CF r n 144 args h = D144 r n c144 x0 r144 (aG args) h).trans ((congrFun (congrFun (dOa r n) (aG args)) h).trans (by kernel_rfl))
noncomputable def s145 (r : RT) (n : Nat) (x0 x1 : DV) (h0 : Hp) : aI :=
 bnd (aA x1 h0) fun v1 h1 =>
 bnd (r 131 [v1, x0] h1) fun v2 h2 =>
 bnd (aD .geq v2 (aF 0) h2) fun v3 h3 =>
 some (v3, h3)
noncomputable abbrev c145 : Code := cf Tryz.f145
noncomputable abbrev r145 : K := aP CF Tryz.f145
noncomputable def D145 (r : RT) (n : Nat) (c : Code) (X : Nat → K) (k : K) : K := aM CF r 8 n c X r145 k
theorem dNc : D145 r n c145 x0 r145 = (K2 (s145 r n) 0 1) :=
 (by kernel_rfl)
theorem dCt : aE CF r n 145 args h = s145 r n (aS args 0) (aS args 1) h :=
 (by kernel_rfl : aE CF r n 145 args h = D145 r n c145 x0 r145 (aG args) h).trans ((congrFun (congrFun (dNc r n) (aG args)) h).trans (by kernel_rfl))
noncomputable def s146 (r : RT) (n : Nat) (x0 x1 : DV) (h0 : Hp) : aI :=
 bnd (lS [x0, x1] h0) fun v1 h1 =>
 some (v1, h1)
noncomputable abbrev c146 : Code := cf Tryz.f146
noncomputable abbrev r146 : K := aP CF Tryz.f146
noncomputable def D146 (r : RT) (n : Nat) (c : Code) (X : Nat → K) (k : K) : K := aM CF r 8 n c X r146 k
theorem dGh : D146 r n c146 x0 r146 = (K2 (s146 r n) 0 1) :=
 (by kernel_rfl)
theorem cTy : aE CF r n 146 args h = s146 r n (aS args 0) (aS args 1) h :=
 (by kernel_rfl : aE CF r n 146 args h = D146 r n c146 x0 r146 (aG args) h).trans ((congrFun (congrFun (dGh r n) (aG args)) h).trans (by kernel_rfl))
noncomputable def s147 (r : RT) (n : Nat) (x0 x1 : DV) (h0 : Hp) : aI :=
 bnd (aO x0 h0) fun v1 h1 =>
 bnd (aC 1 v1 h1) fun v2 h2 =>
 bnd (aA v2 h2) fun v3 h3 =>
 bnd (aD .add v3 x1 h3) fun v4 h4 =>
 bnd (aO x0 h4) fun v5 h5 =>
 bnd (aC 0 v5 h5) fun v6 h6 =>
 bnd (aA v6 h6) fun v7 h7 =>
 bnd (dV v7 h7) fun v8 h8 =>
 bnd (aD .geq v4 v8 h8) fun v9 h9 =>
 aT v9 (
 some ((.i .u8 (Int.ofNat 0)), h9)) (
 bnd (aO x0 h9) fun v10 h10 =>
 bnd (aC 0 v10 h10) fun v11 h11 =>
 bnd (aA v11 h11) fun v12 h12 =>
 bnd (aO x0 h12) fun v13 h13 =>
 bnd (aC 1 v13 h13) fun v14 h14 =>
 bnd (aA v14 h14) fun v15 h15 =>
 bnd (aD .add v15 x1 h15) fun v16 h16 =>
 bnd (fJ v12 v16 h16) fun v17 h17 =>
 some (v17, h17))
noncomputable abbrev c147 : Code := cf Tryz.f147
noncomputable abbrev r147 : K := aP CF Tryz.f147
noncomputable def D147 (r : RT) (n : Nat) (c : Code) (X : Nat → K) (k : K) : K := aM CF r 28 n c X r147 k
theorem dHp : D147 r n c147 x0 r147 = (K2 (s147 r n) 0 1) :=
 (by kernel_rfl)
theorem dAo : aE CF r n 147 args h = s147 r n (aS args 0) (aS args 1) h :=
 (by kernel_rfl : aE CF r n 147 args h = D147 r n c147 x0 r147 (aG args) h).trans ((congrFun (congrFun (dHp r n) (aG args)) h).trans (by kernel_rfl))
noncomputable def s148 (r : RT) (n : Nat) (x0 : DV) (h0 : Hp) : aI :=
 bnd (aD .geq x0 (.i .u8 (Int.ofNat 97)) h0) fun v1 h1 =>
 bnd (gD v1 true (some (x0, h1)) h1) fun v2 h2 =>
 bnd (gD v1 true (aD .leq v2 (.i .u8 (Int.ofNat 122)) h2) h2) fun v3 h3 =>
 bnd (aQ v1 v3 (.b false) h3) fun v4 h4 =>
 bnd (gD v4 false (some (x0, h4)) h4) fun v5 h5 =>
 bnd (gD v4 false (aD .geq v5 (.i .u8 (Int.ofNat 65)) h5) h5) fun v6 h6 =>
 bnd (gD v4 false (some (v6, h6)) h6) fun v7 h7 =>
 bnd (gD v7 true (some (x0, h7)) h7) fun v8 h8 =>
 bnd (gD v7 true (aD .leq v8 (.i .u8 (Int.ofNat 90)) h8) h8) fun v9 h9 =>
 bnd (gD v4 false (aQ v7 v9 (.b false) h9) h9) fun v10 h10 =>
 bnd (aQ v4 (.b true) v10 h10) fun v11 h11 =>
 some (v11, h11)
noncomputable abbrev c148 : Code := cf Tryz.f148
noncomputable abbrev r148 : K := aP CF Tryz.f148
noncomputable def D148 (r : RT) (n : Nat) (c : Code) (X : Nat → K) (k : K) : K := aM CF r 17 n c X r148 k
theorem dJk : D148 r n c148 x0 r148 = (K1 (s148 r n) 0) :=
 (by kernel_rfl)
theorem dEg : aE CF r n 148 args h = s148 r n (aS args 0) h :=
 (by kernel_rfl : aE CF r n 148 args h = D148 r n c148 x0 r148 (aG args) h).trans ((congrFun (congrFun (dJk r n) (aG args)) h).trans (by kernel_rfl))
noncomputable def s149 (r : RT) (n : Nat) (x0 : DV) (h0 : Hp) : aI :=
 bnd (aO x0 h0) fun v1 h1 =>
 bnd (aC 0 v1 h1) fun v2 h2 =>
 bnd (aA v2 h2) fun v3 h3 =>
 bnd (dV v3 h3) fun v4 h4 =>
 bnd (r 129 [x0, (.f 177 [] []), v4] h4) fun v5 h5 =>
 bnd (dV v5 h5) fun v6 h6 =>
 bnd (aD .gtr v6 (aF 24) h6) fun v7 h7 =>
 aT v7 (
 some (.t [(.s []), (aF 12)], h7)) (
 some (.t [v5, (aF 0)], h7))
noncomputable abbrev c149 : Code := cf Tryz.f149
noncomputable abbrev r149 : K := aP CF Tryz.f149
noncomputable def D149 (r : RT) (n : Nat) (c : Code) (X : Nat → K) (k : K) : K := aM CF r 16 n c X r149 k
theorem dFl : D149 r n c149 x0 r149 = (K1 (s149 r n) 0) :=
 (by kernel_rfl)
theorem dCo : aE CF r n 149 args h = s149 r n (aS args 0) h :=
 (by kernel_rfl : aE CF r n 149 args h = D149 r n c149 x0 r149 (aG args) h).trans ((congrFun (congrFun (dFl r n) (aG args)) h).trans (by kernel_rfl))
noncomputable def s150 (r : RT) (n : Nat) (x0 : DV) (h0 : Hp) : aI :=
 bnd (r 147 [x0, (aF 0)] h0) fun v1 h1 =>
 bnd (aD .neq v1 (.i .u8 (Int.ofNat 58)) h1) fun v2 h2 =>
 bnd (gD v2 false (some (x0, h2)) h2) fun v3 h3 =>
 bnd (gD v2 false (r 147 [v3, (aF 1)] h3) h3) fun v4 h4 =>
 bnd (gD v2 false (aD .eql v4 (.i .u8 (Int.ofNat 61)) h4) h4) fun v5 h5 =>
 bnd (aQ v2 (.b true) v5 h5) fun v6 h6 =>
 aT v6 (
 some ((.b false), h6)) (
 bnd (aO x0 h6) fun v7 h7 =>
 bnd (aC 1 v7 h7) fun v8 h8 =>
 bnd (aA v8 h8) fun v9 h9 =>
 bnd (aD .add v9 (aF 1) h9) fun v10 h10 =>
 bnd (aO x0 h10) fun v11 h11 =>
 bnd (aC 1 v11 h11) fun v12 h12 =>
 bnd (aH 1 v12 v10 h12) fun _ h13 =>
 some ((.b true), h13))
noncomputable abbrev c150 : Code := cf Tryz.f150
noncomputable abbrev r150 : K := aP CF Tryz.f150
noncomputable def D150 (r : RT) (n : Nat) (c : Code) (X : Nat → K) (k : K) : K := aM CF r 18 n c X r150 k
theorem dKq : D150 r n c150 x0 r150 = (K1 (s150 r n) 0) :=
 (by kernel_rfl)
theorem dAl : aE CF r n 150 args h = s150 r n (aS args 0) h :=
 (by kernel_rfl : aE CF r n 150 args h = D150 r n c150 x0 r150 (aG args) h).trans ((congrFun (congrFun (dKq r n) (aG args)) h).trans (by kernel_rfl))
noncomputable def s151 (r : RT) (n : Nat) (x0 : DV) (h0 : Hp) : aI :=
 bnd (aD .geq x0 (.i .u8 (Int.ofNat 48)) h0) fun v1 h1 =>
 bnd (gD v1 true (some (x0, h1)) h1) fun v2 h2 =>
 bnd (gD v1 true (aD .leq v2 (.i .u8 (Int.ofNat 57)) h2) h2) fun v3 h3 =>
 bnd (aQ v1 v3 (.b false) h3) fun v4 h4 =>
 some (v4, h4)
noncomputable abbrev c151 : Code := cf Tryz.f151
noncomputable abbrev r151 : K := aP CF Tryz.f151
noncomputable def D151 (r : RT) (n : Nat) (c : Code) (X : Nat → K) (k : K) : K := aM CF r 9 n c X r151 k
theorem dHg : D151 r n c151 x0 r151 = (K1 (s151 r n) 0) :=
 (by kernel_rfl)
theorem cSo : aE CF r n 151 args h = s151 r n (aS args 0) h :=
 (by kernel_rfl : aE CF r n 151 args h = D151 r n c151 x0 r151 (aG args) h).trans ((congrFun (congrFun (dHg r n) (aG args)) h).trans (by kernel_rfl))
noncomputable def eQ (r : RT) (n : Nat) (x4 : DV) (h0 : Hp) : aI :=
 some (.t [x4, (aF 0)], h0)
noncomputable def aYr (r : RT) (n : Nat) (kk5 : rP) (x4 x14 : DV) (h0 : Hp) : aI :=
 bnd (vJ x14 h0) fun v1 h1 =>
 bnd (aB 0 v1 h1) fun v2 h2 =>
 aT v2 (
 bnd (aB 2 v1 h2) fun v3 h3 =>
 bnd (aD .gtr x4 (aF 115292150460684697) h3) fun v4 h4 =>
 aT v4 (
 some (.t [(aF 0), (aF 2)], h4)) (
 bnd (aD .mul x4 (aF 10) h4) fun v5 h5 =>
 bnd (aD .sub v3 (.i .i32 (Int.ofNat 48)) h5) fun v6 h6 =>
 bnd (cW .i64 v6 h6) fun v7 h7 =>
 bnd (aD .add v5 v7 h7) fun v8 h8 =>
 bnd (aD .gtr v8 (aF 1152921504606846976) h8) fun v9 h9 =>
 aT v9 (
 some (.t [(aF 0), (aF 2)], h9)) (
     kk5 v8 x14 h9))) (
   eQ r n x4 h2)
noncomputable def tI (r : RT) (n : Nat) (m : Nat) : rP :=
 Nat.rec (motive := fun _ => rP) (fun _ _ _ => none) (fun _ ih => aYr r n ih) m
noncomputable def bUo (r : RT) (n : Nat) : rP := tI r n n
noncomputable def aPr (r : RT) (n : Nat) (x4 x14 : DV) (h0 : Hp) : aI :=
 bUo r n x4 x14 h0
noncomputable def aPg (r : RT) (n : Nat) (x0 x4 : DV) (h0 : Hp) : aI :=
 bnd (aO x0 h0) fun v1 h1 =>
 bnd (aC 0 v1 h1) fun v2 h2 =>
 bnd (aA v2 h2) fun v3 h3 =>
 bnd (dV v3 h3) fun v4 h4 =>
 bnd (r 129 [x0, (.f 151 [] []), v4] h4) fun v5 h5 =>
 bnd (oI v5 h5) fun v6 h6 =>
  aPr r n x4 v6 h6
noncomputable def aNc (r : RT) (n : Nat) (x0 : DV) (h0 : Hp) : aI :=
 aPg r n x0 (aF 0) h0
noncomputable def s152 (r : RT) (n : Nat) (x0 : DV) (h0 : Hp) : aI :=
 aNc r n x0 h0
noncomputable abbrev c152 : Code := cf Tryz.f152
noncomputable abbrev aJa : Code := cR c152
noncomputable abbrev aDt : Code := cR aJa
noncomputable abbrev cWt : Code := cR aDt
noncomputable abbrev vT : Code := cL aDt
noncomputable abbrev aOs : Code := cR vT
noncomputable abbrev aCz : Code := cL aOs
noncomputable abbrev nW : Code := cL aCz
noncomputable abbrev bVl : Code := cL vT
noncomputable abbrev bQr : Code := cL aJa
noncomputable abbrev aXb : Code := cL c152
noncomputable abbrev r152 : K := aP CF Tryz.f152
noncomputable def D152 (r : RT) (n : Nat) (c : Code) (X : Nat → K) (k : K) : K := aM CF r 29 n c X r152 k
theorem cFi : D152 r n cWt x0 r152 = (K1 (eQ r n) 4) :=
 (by kernel_rfl)
theorem bZc (kk5 : rP) : D152 r n nW (xs x0 0 (K1 (eQ r n) 4)) (K2 kk5 4 14) = (K2 (aYr r n kk5) 4 14) :=
 (by kernel_rfl)
theorem bSo (m : Nat) : aR (fun kk => D152 r n nW (xs x0 0 (K1 (eQ r n) 4)) kk) m = (K2 (tI r n m) 4 14) := by
 induction m with
 | zero => exact (by kernel_rfl : aR (fun kk => D152 r n nW (xs x0 0 (K1 (eQ r n) 4)) kk) 0 = (K2 (tI r n 0) 4 14))
 | succ m ih =>
  refine (by kernel_rfl : aR (fun kk => D152 r n nW (xs x0 0 (K1 (eQ r n) 4)) kk) (m + 1) = D152 r n nW (xs x0 0 (K1 (eQ r n) 4)) (aR (fun kk => D152 r n nW (xs x0 0 (K1 (eQ r n) 4)) kk) m)).trans ?_
  rw [ih]
  exact (bZc r n (tI r n m)).trans (by kernel_rfl)
theorem cHu : D152 r n aCz (xs x0 0 (K1 (eQ r n) 4)) (K1 (eQ r n) 4) = (K2 (bUo r n) 4 14) :=
 (by kernel_rfl : D152 r n aCz (xs x0 0 (K1 (eQ r n) 4)) (K1 (eQ r n) 4) = aR (fun kk => D152 r n nW (xs x0 0 (K1 (eQ r n) 4)) kk) n).trans ((bSo r n n).trans (by kernel_rfl))
theorem cAy : D152 r n aOs x0 (K1 (eQ r n) 4) = (K2 (aPr r n) 4 14) :=
 (by kernel_rfl : D152 r n aOs x0 (K1 (eQ r n) 4) = D152 r n aCz (xs x0 0 (K1 (eQ r n) 4)) (K1 (eQ r n) 4)).trans
 ((cHu r n).trans (by kernel_rfl))
theorem cAg : D152 r n aDt x0 r152 = D152 r n vT x0 (K1 (eQ r n) 4) :=
 congrArg (fun k => D152 r n vT x0 k) (cFi r n)
theorem bIm : D152 r n vT x0 (K1 (eQ r n) 4) = D152 r n bVl x0 (K2 (aPr r n) 4 14) :=
 congrArg (fun k => D152 r n bVl x0 k) (cAy r n)
theorem cJn : D152 r n aDt x0 r152 = (K2 (aPg r n) 0 4) :=
 (cAg r n).trans
 ((bIm r n).trans
 ((by kernel_rfl)))
theorem bZb : D152 r n aJa x0 r152 = D152 r n bQr x0 (K2 (aPg r n) 0 4) :=
 congrArg (fun k => D152 r n bQr x0 k) (cJn r n)
theorem cPx : D152 r n aJa x0 r152 = (K1 (aNc r n) 0) :=
 (bZb r n).trans
 ((by kernel_rfl))
theorem dFi : D152 r n c152 x0 r152 = D152 r n aXb x0 (K1 (aNc r n) 0) :=
 congrArg (fun k => D152 r n aXb x0 k) (cPx r n)
theorem dJm : D152 r n c152 x0 r152 = (K1 (s152 r n) 0) :=
 (dFi r n).trans
 ((by kernel_rfl))
theorem dEi : aE CF r n 152 args h = s152 r n (aS args 0) h :=
 (by kernel_rfl : aE CF r n 152 args h = D152 r n c152 x0 r152 (aG args) h).trans ((congrFun (congrFun (dJm r n) (aG args)) h).trans (by kernel_rfl))
end Go.Dd

namespace Go.Dd
open Go.Proofs
variable (r : RT) (n : Nat) (args : List DV) (h : Hp)
noncomputable def s156 (r : RT) (n : Nat) (x0 x1 : DV) (h0 : Hp) : aI :=
 bnd (bX x1 h0) fun v1 h1 =>
 bnd (bR [(.s []), (.b false), (.b false), (aF 0)] h1) fun v2 h2 =>
 bnd (aO x0 h2) fun v3 h3 =>
 bnd (aC 6 v3 h3) fun v4 h4 =>
 bnd (aA v4 h4) fun v5 h5 =>
 bnd (r 185 [v5, (.f 186 [] [v1])] h5) fun v6 h6 =>
 bnd (aD .lss v6 (aF 0) h6) fun v7 h7 =>
 aT v7 (
 bnd (bD [(.s []), (.b false), (.b false), (aF 0)] [] h7) fun v8 h8 =>
 bnd (aH 4 v2 v8 h8) fun _ h9 =>
 bnd (aK 4 v2 h9) fun v10 _ =>
 some (.t [v10, (.b false)], h9)) (
 bnd (aO x0 h7) fun v11 h11 =>
 bnd (aC 6 v11 h11) fun v12 h12 =>
 bnd (aA v12 h12) fun v13 h13 =>
 bnd (aJ 4 v13 v6 h13) fun v14 h14 =>
 bnd (aK 4 v14 h14) fun v15 h15 =>
 bnd (aH 4 v2 v15 h15) fun _ h16 =>
 bnd (aK 4 v2 h16) fun v17 _ =>
 some (.t [v17, (.b true)], h16))
noncomputable abbrev c156 : Code := cf Tryz.f156
noncomputable abbrev r156 : K := aP CF Tryz.f156
noncomputable def D156 (r : RT) (n : Nat) (c : Code) (X : Nat → K) (k : K) : K := aM CF r 23 n c X r156 k
theorem dIs : D156 r n c156 x0 r156 = (K2 (s156 r n) 0 1) :=
 (by kernel_rfl)
theorem dDw : aE CF r n 156 args h = s156 r n (aS args 0) (aS args 1) h :=
 (by kernel_rfl : aE CF r n 156 args h = D156 r n c156 x0 r156 (aG args) h).trans ((congrFun (congrFun (dIs r n) (aG args)) h).trans (by kernel_rfl))
noncomputable def gV (r : RT) (n : Nat) (h0 : Hp) : aI :=
 some ((.b false), h0)
noncomputable def mE (r : RT) (n : Nat) (x4 : DV) (h0 : Hp) : aI :=
 aT x4 (
 some ((.b true), h0)) (
  gV r n h0)
noncomputable def aMz (r : RT) (n : Nat) (x3 : DV) (h0 : Hp) : aI :=
 bnd (gR .eql x3 (.s [115, 101, 108, 102]) h0) fun v1 h1 =>
 aT v1 (
  mE r n v1 h1) (
 bnd (gR .eql x3 (.s [115, 117, 112, 101, 114]) h1) fun v2 h2 =>
 aT v2 (
   mE r n v2 h2) (
 bnd (gR .eql x3 (.s [110, 105, 108]) h2) fun v3 h3 =>
 aT v3 (
    mE r n v3 h3) (
 bnd (gR .eql x3 (.s [116, 114, 117, 101]) h3) fun v4 h4 =>
 aT v4 (
     mE r n v4 h4) (
 bnd (gR .eql x3 (.s [102, 97, 108, 115, 101]) h4) fun v5 h5 =>
 aT v5 (
      mE r n v5 h5) (
 bnd (gR .eql x3 (.s [116, 104, 105, 115, 67, 111, 110, 116, 101, 120, 116]) h5) fun v6 h6 =>
      mE r n v6 h6)))))
noncomputable def aOz (r : RT) (n : Nat) (x0 : DV) (h0 : Hp) : aI :=
 aMz r n x0 h0
noncomputable def s157 (r : RT) (n : Nat) (x0 : DV) (h0 : Hp) : aI :=
 aOz r n x0 h0
noncomputable abbrev c157 : Code := cf Tryz.f157
noncomputable abbrev aFh : Code := cR c157
noncomputable abbrev cWq : Code := cR aFh
noncomputable abbrev vC : Code := cL aFh
noncomputable abbrev aOe : Code := cR vC
noncomputable abbrev aIu : Code := cL aOe
noncomputable abbrev cWf : Code := cR aIu
noncomputable abbrev bXi : Code := cL aIu
noncomputable abbrev bYr : Code := cL vC
noncomputable abbrev bMr : Code := cL c157
noncomputable abbrev r157 : K := aP CF Tryz.f157
noncomputable def D157 (r : RT) (n : Nat) (c : Code) (X : Nat → K) (k : K) : K := aM CF r 11 n c X r157 k
theorem cLc : D157 r n cWq x0 r157 = (K0 (gV r n)) :=
 (by kernel_rfl)
theorem cIi : D157 r n cWf (xs x0 0 (K0 (gV r n))) (K0 (gV r n)) = (K1 (mE r n) 4) :=
 (by kernel_rfl)
theorem cAb : D157 r n aIu (xs x0 0 (K0 (gV r n))) (K0 (gV r n)) = D157 r n bXi (xs x0 0 (K0 (gV r n))) (K1 (mE r n) 4) :=
 congrArg (fun k => D157 r n bXi (xs x0 0 (K0 (gV r n))) k) (cIi r n)
theorem cKy : D157 r n aOe x0 (K0 (gV r n)) = (K1 (aMz r n) 3) :=
 (by kernel_rfl : D157 r n aOe x0 (K0 (gV r n)) = D157 r n aIu (xs x0 0 (K0 (gV r n))) (K0 (gV r n))).trans
 ((cAb r n).trans
 ((by kernel_rfl)))
theorem bRo : D157 r n aFh x0 r157 = D157 r n vC x0 (K0 (gV r n)) :=
 congrArg (fun k => D157 r n vC x0 k) (cLc r n)
theorem bKo : D157 r n vC x0 (K0 (gV r n)) = D157 r n bYr x0 (K1 (aMz r n) 3) :=
 congrArg (fun k => D157 r n bYr x0 k) (cKy r n)
theorem cBn : D157 r n aFh x0 r157 = (K1 (aOz r n) 0) :=
 (bRo r n).trans
 ((bKo r n).trans
 ((by kernel_rfl)))
theorem dCq : D157 r n c157 x0 r157 = D157 r n bMr x0 (K1 (aOz r n) 0) :=
 congrArg (fun k => D157 r n bMr x0 k) (cBn r n)
theorem dMa : D157 r n c157 x0 r157 = (K1 (s157 r n) 0) :=
 (dCq r n).trans
 ((by kernel_rfl))
theorem dDg : aE CF r n 157 args h = s157 r n (aS args 0) h :=
 (by kernel_rfl : aE CF r n 157 args h = D157 r n c157 x0 r157 (aG args) h).trans ((congrFun (congrFun (dMa r n) (aG args)) h).trans (by kernel_rfl))
noncomputable def aIc (r : RT) (n : Nat) (x0 x1 : DV) (h0 : Hp) : aI :=
 bnd (r 156 [x0, x1] h0) fun v1 h1 =>
 bnd (aB 0 v1 h1) fun v2 h2 =>
 bnd (aB 1 v1 h2) fun v3 h3 =>
 bnd (bR [(.s []), (.b false), (.b false), (aF 0)] h3) fun v4 h4 =>
 bnd (aH 4 v4 v2 h4) fun _ h5 =>
 bnd (gD v3 true (aC 1 v4 h5) h5) fun v6 h6 =>
 bnd (gD v3 true (aA v6 h6) h6) fun v7 h7 =>
 bnd (aQ v3 v7 (.b false) h7) fun v8 h8 =>
 aT v8 (
 bnd (aC 3 v4 h8) fun v9 h9 =>
 bnd (aA v9 h9) fun v10 h10 =>
 bnd (r 141 [x0, (aF 8), v10, (aF 0)] h10) fun v11 h11 =>
 some (.t [], h11)) (
 aT v3 (
 bnd (aC 3 v4 h8) fun v12 h12 =>
 bnd (aA v12 h12) fun v13 h13 =>
 bnd (r 141 [x0, (aF 7), v13, (aF 0)] h13) fun v14 h14 =>
 some (.t [], h14)) (
 bnd (r 190 [x1] h8) fun v15 h15 =>
 aT v15 (
 bnd (r 191 [x0, x1] h15) fun v16 h16 =>
 bnd (r 141 [x0, (aF 9), v16, (aF 0)] h16) fun v17 h17 =>
 some (.t [], h17)) (
 bnd (r 158 [x0, x1, (aF 15)] h15) fun v18 h18 =>
 some (.t [], h18))))
noncomputable def s161 (r : RT) (n : Nat) (x0 x1 : DV) (h0 : Hp) : aI :=
 bnd (gR .eql x1 (.s [115, 101, 108, 102]) h0) fun v1 h1 =>
 aT v1 (
 bnd (r 141 [x0, (aF 1), (aF 0), (aF 0)] h1) fun v2 h2 =>
 some (.t [], h2)) (
 bnd (gR .eql x1 (.s [110, 105, 108]) h1) fun v3 h3 =>
 aT v3 (
 bnd (r 141 [x0, (aF 2), (aF 0), (aF 0)] h3) fun v4 h4 =>
 some (.t [], h4)) (
 bnd (gR .eql x1 (.s [116, 114, 117, 101]) h3) fun v5 h5 =>
 aT v5 (
 bnd (r 141 [x0, (aF 3), (aF 0), (aF 0)] h5) fun v6 h6 =>
 some (.t [], h6)) (
 bnd (gR .eql x1 (.s [102, 97, 108, 115, 101]) h5) fun v7 h7 =>
 aT v7 (
 bnd (r 141 [x0, (aF 4), (aF 0), (aF 0)] h7) fun v8 h8 =>
 some (.t [], h8)) (
 bnd (gR .eql x1 (.s [116, 104, 105, 115, 67, 111, 110, 116, 101, 120, 116]) h7) fun v9 h9 =>
 aT v9 (
 bnd (r 141 [x0, (aF 5), (aF 0), (aF 0)] h9) fun v10 h10 =>
 some (.t [], h10)) (
 bnd (gR .eql x1 (.s [115, 117, 112, 101, 114]) h9) fun v11 h11 =>
 aT v11 (
 bnd (r 158 [x0, x1, (aF 15)] h11) fun v12 h12 =>
       aIc r n x0 x1 h12) (
       aIc r n x0 x1 h11))))))
noncomputable abbrev c161 : Code := cf Tryz.f161
noncomputable abbrev dDj : Code := cR c161
noncomputable abbrev bXo : Code := cL c161
noncomputable abbrev r161 : K := aP CF Tryz.f161
noncomputable def D161 (r : RT) (n : Nat) (c : Code) (X : Nat → K) (k : K) : K := aM CF r 65 n c X r161 k
theorem cHz : D161 r n dDj x0 r161 = (K2 (aIc r n) 0 1) :=
 (by kernel_rfl)
theorem cXz : D161 r n c161 x0 r161 = D161 r n bXo x0 (K2 (aIc r n) 0 1) :=
 congrArg (fun k => D161 r n bXo x0 k) (cHz r n)
theorem dHh : D161 r n c161 x0 r161 = (K2 (s161 r n) 0 1) :=
 (cXz r n).trans
 ((by kernel_rfl))
theorem cTb : aE CF r n 161 args h = s161 r n (aS args 0) (aS args 1) h :=
 (by kernel_rfl : aE CF r n 161 args h = D161 r n c161 x0 r161 (aG args) h).trans ((congrFun (congrFun (dHh r n) (aG args)) h).trans (by kernel_rfl))
noncomputable def s163 (r : RT) (n : Nat) (x0 x1 : DV) (h0 : Hp) : aI :=
 bnd (bX x1 h0) fun v1 h1 =>
 bnd (aC 5 v1 h1) fun v2 h2 =>
 bnd (aA v2 h2) fun v3 h3 =>
 bnd (cJ v3 h3) fun v4 h4 =>
 bnd (aD .eql v4 (aF 0) h4) fun v5 h5 =>
 aT v5 (
 bnd (r 158 [x0, (.s []), (aF 1)] h5) fun v6 h6 =>
 some (.t [], h6)) (
 bnd (aK 6 v1 h5) fun v7 h7 =>
 bnd (r 192 [x0, v7] h7) fun v8 h8 =>
 bnd (gD v8 false (some (x0, h8)) h8) fun v9 h9 =>
 bnd (gD v8 false (aK 6 v1 h9) h9) fun v10 h10 =>
 bnd (gD v8 false (r 193 [v9, v10] h10) h10) fun v11 h11 =>
 bnd (aQ v8 (.b true) v11 h11) fun v12 h12 =>
 aT v12 (
 some (.t [], h12)) (
 bnd (aC 5 v1 h12) fun v13 h13 =>
 bnd (aA v13 h13) fun v14 h14 =>
 bnd (aJ 6 v14 (aF 0) h14) fun v15 h15 =>
 bnd (aK 6 v15 h15) fun v16 h16 =>
 bnd (r 195 [x0, v16] h16) fun v17 h17 =>
 bnd (aC 1 v1 h17) fun v18 h18 =>
 bnd (aA v18 h18) fun v19 h19 =>
 cnd (bJ (aA v18 h12) v19 && true) (
 bnd (aC 5 v1 h19) fun v20 h20 =>
 bnd (aA v20 h20) fun v21 h21 =>
 cnd (bJ (aA v20 h12) v21 && true) (
 bnd (cV 6 v21 (some (aF 1)) none h21) fun v22 h22 =>
 cnd (bJ (cV 6 v21 (some (aF 1)) none h12) v22 && true) (
 bnd (r 194 [x0, v17, v19, v22] h22) fun v23 h23 =>
 some (.t [], h23))))))
noncomputable abbrev c163 : Code := cf Tryz.f163
noncomputable abbrev r163 : K := aP CF Tryz.f163
noncomputable def D163 (r : RT) (n : Nat) (c : Code) (X : Nat → K) (k : K) : K := aM CF r 31 n c X r163 k
theorem dHv : D163 r n c163 x0 r163 = (K2 (s163 r n) 0 1) :=
 (by kernel_rfl)
theorem cUx : aE CF r n 163 args h = s163 r n (aS args 0) (aS args 1) h :=
 (by kernel_rfl : aE CF r n 163 args h = D163 r n c163 x0 r163 (aG args) h).trans ((congrFun (congrFun (dHv r n) (aG args)) h).trans (by kernel_rfl))
noncomputable def s168 (r : RT) (n : Nat) (x0 x1 x2 : DV) (h0 : Hp) : aI :=
 bnd (aD .geq x0 x1 h0) fun v1 h1 =>
 bnd (gD v1 true (some (x0, h1)) h1) fun v2 h2 =>
 bnd (gD v1 true (some (x2, h2)) h2) fun v3 h3 =>
 bnd (gD v1 true (aD .leq v2 v3 h3) h3) fun v4 h4 =>
 bnd (aQ v1 v4 (.b false) h4) fun v5 h5 =>
 some (v5, h5)
noncomputable abbrev c168 : Code := cf Tryz.f168
noncomputable abbrev r168 : K := aP CF Tryz.f168
noncomputable def D168 (r : RT) (n : Nat) (c : Code) (X : Nat → K) (k : K) : K := aM CF r 15 n c X r168 k
theorem dLr : D168 r n c168 x0 r168 = (K3 (s168 r n) 0 1 2) :=
 (by kernel_rfl)
theorem cYl : aE CF r n 168 args h = s168 r n (aS args 0) (aS args 1) (aS args 2) h :=
 (by kernel_rfl : aE CF r n 168 args h = D168 r n c168 x0 r168 (aG args) h).trans ((congrFun (congrFun (dLr r n) (aG args)) h).trans (by kernel_rfl))
noncomputable def s169 (r : RT) (n : Nat) (x0 x1 : DV) (h0 : Hp) : aI :=
 bnd (r 187 [x0, x1] h0) fun v1 h1 =>
 bnd (aD .geq v1 (aF 0) h1) fun v2 h2 =>
 some (v2, h2)
noncomputable abbrev c169 : Code := cf Tryz.f169
noncomputable abbrev r169 : K := aP CF Tryz.f169
noncomputable def D169 (r : RT) (n : Nat) (c : Code) (X : Nat → K) (k : K) : K := aM CF r 9 n c X r169 k
theorem dMp : D169 r n c169 x0 r169 = (K2 (s169 r n) 0 1) :=
 (by kernel_rfl)
theorem cTt : aE CF r n 169 args h = s169 r n (aS args 0) (aS args 1) h :=
 (by kernel_rfl : aE CF r n 169 args h = D169 r n c169 x0 r169 (aG args) h).trans ((congrFun (congrFun (dMp r n) (aG args)) h).trans (by kernel_rfl))
noncomputable def s170 (r : RT) (n : Nat) (x0 : DV) (h0 : Hp) : aI :=
 bnd (bX x0 h0) fun v1 h1 =>
 bnd (aK 4 v1 h1) fun v2 h2 =>
 bnd (r 171 [v2, (aF 20)] h2) fun v3 h3 =>
 bnd (dR .not v3 h3) fun v4 h4 =>
 some (v4, h4)
noncomputable abbrev c170 : Code := cf Tryz.f170
noncomputable abbrev r170 : K := aP CF Tryz.f170
noncomputable def D170 (r : RT) (n : Nat) (c : Code) (X : Nat → K) (k : K) : K := aM CF r 6 n c X r170 k
theorem dGk : D170 r n c170 x0 r170 = (K1 (s170 r n) 0) :=
 (by kernel_rfl)
theorem dAy : aE CF r n 170 args h = s170 r n (aS args 0) h :=
 (by kernel_rfl : aE CF r n 170 args h = D170 r n c170 x0 r170 (aG args) h).trans ((congrFun (congrFun (dGk r n) (aG args)) h).trans (by kernel_rfl))
noncomputable def s171 (r : RT) (n : Nat) (x0 x1 : DV) (h0 : Hp) : aI :=
 bnd (bX x0 h0) fun v1 h1 =>
 bnd (bX x1 h1) fun v2 h2 =>
 bnd (aC 0 v1 h2) fun v3 h3 =>
 bnd (aA v3 h3) fun v4 h4 =>
 bnd (aD .eql v4 (aF 1) h4) fun v5 h5 =>
 aT v5 (
 bnd (aC 1 v1 h5) fun v6 h6 =>
 bnd (aA v6 h6) fun v7 h7 =>
 bnd (gR .eql v7 (.s []) h7) fun v8 h8 =>
 bnd (gD v8 true (aC 3 v1 h8) h8) fun v9 h9 =>
 bnd (gD v8 true (aA v9 h9) h9) fun v10 h10 =>
 bnd (gD v8 true (cJ v10 h10) h10) fun v11 h11 =>
 bnd (gD v8 true (aD .eql v11 (aF 0) h11) h11) fun v12 h12 =>
 bnd (aQ v8 v12 (.b false) h12) fun v13 h13 =>
 bnd (gD v13 true (aC 2 v1 h13) h13) fun v14 h14 =>
 bnd (gD v13 true (aA v14 h14) h14) fun v15 h15 =>
 bnd (gD v13 true (r 168 [v15, (.i .i64 (Int.negSucc 1152921504606846975)), (aF 1152921504606846976)] h15) h15) fun v16 h16 =>
 bnd (aQ v13 v16 (.b false) h16) fun v17 h17 =>
 some (v17, h17)) (
 bnd (aD .eql v4 (aF 2) h5) fun v18 h18 =>
 aT v18 (
 bnd (aC 2 v1 h18) fun v19 h19 =>
 bnd (aA v19 h19) fun v20 h20 =>
 bnd (aD .eql v20 (aF 0) h20) fun v21 h21 =>
 bnd (gD v21 true (aC 3 v1 h21) h21) fun v22 h22 =>
 bnd (gD v21 true (aA v22 h22) h22) fun v23 h23 =>
 bnd (gD v21 true (cJ v23 h23) h23) fun v24 h24 =>
 bnd (gD v21 true (aD .eql v24 (aF 0) h24) h24) fun v25 h25 =>
 bnd (aQ v21 v25 (.b false) h25) fun v26 h26 =>
 bnd (gD v26 true (aC 1 v1 h26) h26) fun v27 h27 =>
 bnd (gD v26 true (aA v27 h27) h27) fun v28 h28 =>
 bnd (gD v26 true (dV v28 h28) h28) fun v29 h29 =>
 bnd (gD v26 true (aD .leq v29 (aF 250) h29) h29) fun v30 h30 =>
 bnd (aQ v26 v30 (.b false) h30) fun v31 h31 =>
 some (v31, h31)) (
 bnd (aD .eql v4 (aF 3) h18) fun v32 h32 =>
 aT v32 (
 bnd (aC 2 v1 h32) fun v33 h33 =>
 bnd (aA v33 h33) fun v34 h34 =>
 bnd (aD .eql v34 (aF 0) h34) fun v35 h35 =>
 bnd (gD v35 true (aC 3 v1 h35) h35) fun v36 h36 =>
 bnd (gD v35 true (aA v36 h36) h36) fun v37 h37 =>
 bnd (gD v35 true (cJ v37 h37) h37) fun v38 h38 =>
 bnd (gD v35 true (aD .eql v38 (aF 0) h38) h38) fun v39 h39 =>
 bnd (aQ v35 v39 (.b false) h39) fun v40 h40 =>
 bnd (gD v40 true (aC 1 v1 h40) h40) fun v41 h41 =>
 bnd (gD v40 true (aA v41 h41) h41) fun v42 h42 =>
 bnd (gD v40 true (dV v42 h42) h42) fun v43 h43 =>
 bnd (gD v40 true (r 168 [v43, (aF 1), (aF 60)] h43) h43) fun v44 h44 =>
 bnd (aQ v40 v44 (.b false) h44) fun v45 h45 =>
 some (v45, h45)) (
 bnd (aD .eql v4 (aF 4) h32) fun v46 h46 =>
 aT v46 (
 bnd (aC 3 v1 h46) fun v47 h47 =>
 bnd (aA v47 h47) fun v48 h48 =>
 bnd (r 169 [v48, (.f 199 [] [v2])] h48) fun v49 h49 =>
 bnd (aC 2 v1 h49) fun v50 h50 =>
 bnd (aA v50 h50) fun v51 h51 =>
 bnd (aD .eql v51 (aF 0) h51) fun v52 h52 =>
 bnd (gD v52 true (aC 1 v1 h52) h52) fun v53 h53 =>
 bnd (gD v52 true (aA v53 h53) h53) fun v54 h54 =>
 bnd (gD v52 true (gR .eql v54 (.s []) h54) h54) fun v55 h55 =>
 bnd (aQ v52 v55 (.b false) h55) fun v56 h56 =>
 bnd (gD v56 true (aA v2 h56) h56) fun v57 h57 =>
 bnd (gD v56 true (aD .gtr v57 (aF 0) h57) h57) fun v58 h58 =>
 bnd (aQ v56 v58 (.b false) h58) fun v59 h59 =>
 bnd (gD v59 true (aC 3 v1 h59) h59) fun v60 h60 =>
 bnd (gD v59 true (aA v60 h60) h60) fun v61 h61 =>
 bnd (gD v59 true (cJ v61 h61) h61) fun v62 h62 =>
 bnd (gD v59 true (aD .leq v62 (aF 250) h62) h62) fun v63 h63 =>
 bnd (aQ v59 v63 (.b false) h63) fun v64 h64 =>
 bnd (gD v64 true (some (v49, h64)) h64) fun v65 h65 =>
 bnd (gD v64 true (dR .not v65 h65) h65) fun v66 h66 =>
 bnd (aQ v64 v66 (.b false) h66) fun v67 h67 =>
 some (v67, h67)) (
 some ((.b false), h46)))))
noncomputable abbrev c171 : Code := cf Tryz.f171
noncomputable abbrev r171 : K := aP CF Tryz.f171
noncomputable def D171 (r : RT) (n : Nat) (c : Code) (X : Nat → K) (k : K) : K := aM CF r 86 n c X r171 k
theorem dNj : D171 r n c171 x0 r171 = (K2 (s171 r n) 0 1) :=
 (by kernel_rfl)
theorem cXe : aE CF r n 171 args h = s171 r n (aS args 0) (aS args 1) h :=
 (by kernel_rfl : aE CF r n 171 args h = D171 r n c171 x0 r171 (aG args) h).trans ((congrFun (congrFun (dNj r n) (aG args)) h).trans (by kernel_rfl))
end Go.Dd

