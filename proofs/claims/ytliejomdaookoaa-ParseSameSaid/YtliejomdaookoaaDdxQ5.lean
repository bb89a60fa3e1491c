/- Dd, part Q5 (printed by gen.py): functions of the seat's program as Lean functions, linked to Dd. -/
import Derived.Test.YtliejomdaookoaaDdxQh
set_option linter.unusedVariables false
set_option maxRecDepth 100000
namespace Go.Dd
open Go.Proofs

noncomputable def s74a5 (rec : FuncId → List DV → Hp → Res) (n : Nat) (x2 x3 : DV) (h0 : Hp) : Res :=
  bnd (pLoadA 6 x3 h0) fun v1 h1 =>
  bnd (pStore 6 x2 v1 h1) fun _ h2 =>
  bnd (pLoadA 6 x2 h2) fun v3 _ =>
  some (v3, h2)

noncomputable def s74a4 (rec : FuncId → List DV → Hp → Res) (n : Nat) (x0 x2 x3 : DV) (h0 : Hp) : Res :=
  bnd (pNil x0 h0) fun v7 h7 =>
  bnd (pField 3 v7 h7) fun v8 h8 =>
  bnd (pLoad1 v8 h8) fun v9 h9 =>
  bnd (pInt .eql v9 (.i .i64 (Int.ofNat 0)) h9) fun v10 h10 =>
  ifD v10 (
    bnd (rec 42 [x0] h10) fun v11 h11 =>
    bnd (pNil x0 h11) fun v12 h12 =>
    bnd (pField 2 v12 h12) fun v13 h13 =>
    bnd (pLoad1 v13 h13) fun v14 h14 =>
    bnd (pInt .sub v14 (.i .i64 (Int.ofNat 1)) h14) fun v15 h15 =>
    bnd (pNil x0 h15) fun v16 h16 =>
    bnd (pField 2 v16 h16) fun v17 h17 =>
    bnd (pStore 1 v17 v15 h17) fun _ h18 =>
    s74a5 rec n x2 x3 h18) (
    s74a5 rec n x2 x3 h10)

noncomputable def s74a9 (rec : FuncId → List DV → Hp → Res) (n : Nat) (kk6 : DV → DV → DV → DV → Hp → Res) (x0 x2 x3 x4 x5 : DV) (h0 : Hp) : Res :=
  bnd (pField 5 x3 h0) fun v31 h31 =>
  bnd (pLoad1 v31 h31) fun v32 h32 =>
  bnd (pLoadA 6 x5 h32) fun v33 h33 =>
  bnd (pBuildSlice [(.i .i64 (Int.ofNat 0)), (.s []), (.i .i64 (Int.ofNat 0)), .l0, .l0, .l0] 1 [(0, 6, v33)] h33) fun v34 h34 =>
  bnd (pAppend 6 104 v32 v34 h34) fun v35 h35 =>
  bnd (pField 5 x3 h35) fun v36 h36 =>
  bnd (pStore 1 v36 v35 h36) fun _ h37 =>
  kk6 x0 x2 x3 x4 h37

noncomputable def s74a8 (rec : FuncId → List DV → Hp → Res) (n : Nat) (kk6 : DV → DV → DV → DV → Hp → Res) (x0 x2 x3 x4 x5 x6 : DV) (h0 : Hp) : Res :=
  bnd (pUn .not x6 h0) fun v59 h59 =>
  ifD v59 (
    bnd (rec 41 [x0, (.i .i64 (Int.ofNat 7)), (.s [])] h59) fun v60 h60 =>
    bnd (gD v60 false (some (x0, h60)) h60) fun v61 h61 =>
    bnd (gD v60 false (rec 41 [v61, (.i .i64 (Int.ofNat 10)), (.s [40])] h61) h61) fun v62 h62 =>
    bnd (pPick v60 (.b true) v62 h62) fun v63 h63 =>
    ifD v63 (
      bnd (rec 74 [x0] h63) fun v64 h64 =>
      bnd (pStore 6 x5 v64 h64) fun _ h65 =>
      s74a9 rec n kk6 x0 x2 x3 x4 x5 h65) (
      bnd (rec 46 [x0, (.i .i64 (Int.ofNat 0))] h63) fun v66 h66 =>
      bnd (rec 44 [x0, v66, (.i .i64 (Int.ofNat 13))] h66) fun v67 h67 =>
      s74a9 rec n kk6 x0 x2 x3 x4 x5 h67)) (
    s74a9 rec n kk6 x0 x2 x3 x4 x5 h59)

noncomputable def s74a7 (rec : FuncId → List DV → Hp → Res) (n : Nat) (kk6 : DV → DV → DV → DV → Hp → Res) (x0 x2 x3 x4 : DV) (h0 : Hp) : Res :=
  bnd (rec 73 [x0] h0) fun v77 h77 =>
  bnd (pExtract 0 v77 h77) fun v78 h78 =>
  bnd (pExtract 1 v77 h78) fun v79 h79 =>
  bnd (pNew [(.i .i64 (Int.ofNat 0)), (.s []), (.i .i64 (Int.ofNat 0)), .l0, .l0, .l0] h79) fun v80 h80 =>
  bnd (pStore 6 v80 v78 h80) fun _ h81 =>
  s74a8 rec n kk6 x0 x2 x3 x4 v80 v79 h81

noncomputable def s74a6b (rec : FuncId → List DV → Hp → Res) (n : Nat) (kk6 : DV → DV → DV → DV → Hp → Res) (x0 x2 x3 x4 : DV) (h0 : Hp) : Res :=
    bnd (gD x4 true (some (x0, h0)) h0) fun v97 h97 =>
    bnd (gD x4 true (pNil v97 h97) h97) fun v98 h98 =>
    bnd (gD x4 true (pField 3 v98 h98) h98) fun v99 h99 =>
    bnd (gD x4 true (pLoad1 v99 h99) h99) fun v100 h100 =>
    bnd (gD x4 true (pInt .eql v100 (.i .i64 (Int.ofNat 0)) h100) h100) fun v101 h101 =>
    bnd (pPick x4 v101 (.b false) h101) fun v102 h102 =>
    bnd (gD v102 true (some (x0, h102)) h102) fun v103 h103 =>
    bnd (gD v102 true (rec 41 [v103, (.i .i64 (Int.ofNat 10)), (.s [41])] h103) h103) fun v104 h104 =>
    bnd (gD v102 true (pUn .not v104 h104) h104) fun v105 h105 =>
    bnd (pPick v102 v105 (.b false) h105) fun v106 h106 =>
    ifD v106 (
      s74a7 rec n kk6 x0 x2 x3 x4 h106) (
      s74a4 rec n x0 x2 x3 h106)

noncomputable def s74a6l (rec : FuncId → List DV → Hp → Res) (n : Nat) (m : Nat) : DV → DV → DV → DV → Hp → Res :=
  Nat.rec (motive := fun _ => DV → DV → DV → DV → Hp → Res) (fun _ _ _ _ _ => none) (fun _ ih => s74a6b rec n ih) m

noncomputable def s74a6 (rec : FuncId → List DV → Hp → Res) (n : Nat) : DV → DV → DV → DV → Hp → Res := s74a6l rec n n

noncomputable def s74a3 (rec : FuncId → List DV → Hp → Res) (n : Nat) (x0 x2 x3 x4 : DV) (h0 : Hp) : Res :=
  s74a6 rec n x0 x2 x3 x4 h0

noncomputable def s74a2 (rec : FuncId → List DV → Hp → Res) (n : Nat) (x0 x2 x3 : DV) (h0 : Hp) : Res :=
  bnd (rec 75 [x0] h0) fun v117 h117 =>
  s74a3 rec n x0 x2 x3 v117 h117

noncomputable def s74a1 (rec : FuncId → List DV → Hp → Res) (n : Nat) (x0 x2 : DV) (h0 : Hp) : Res :=
  bnd (pBuild [(.i .i64 (Int.ofNat 0)), (.s []), (.i .i64 (Int.ofNat 0)), .l0, .l0, .l0] [(0, 1, (.i .i64 (Int.ofNat 4)))] h0) fun v119 h119 =>
  bnd (pNew [(.i .i64 (Int.ofNat 0)), (.s []), (.i .i64 (Int.ofNat 0)), .l0, .l0, .l0] h119) fun v120 h120 =>
  bnd (pStore 6 v120 v119 h120) fun _ h121 =>
  s74a2 rec n x0 x2 v120 h121

/-- vivariumref07.P).literals -/
noncomputable def s74 (rec : FuncId → List DV → Hp → Res) (n : Nat) (x0 : DV) (h0 : Hp) : Res :=
  bnd (pNew [(.i .i64 (Int.ofNat 0)), (.s []), (.i .i64 (Int.ofNat 0)), .l0, .l0, .l0] h0) fun v131 h131 =>
  s74a1 rec n x0 v131 h131

noncomputable def D74 (rec : FuncId → List DV → Hp → Res) (n : Nat) (c : Code) (X : Nat → K) (k : K) : K := codeD CF rec 63 n c X (retK CF Try.f74) k

theorem s74a5e (rec : FuncId → List DV → Hp → Res) (n : Nat) : D74 rec n (cR (cR (cR (cR (cR (cf Try.f74)))))) x0 (retK CF Try.f74) = (fun (env : Env) (h : Hp) => s74a5 rec n (env 2) (env 3) h) :=
  (by kernel_rfl)

theorem s74a4p1 (rec : FuncId → List DV → Hp → Res) (n : Nat) : D74 rec n (cR (cR (cR (cR (cf Try.f74))))) x0 (retK CF Try.f74) = D74 rec n (cL (cR (cR (cR (cR (cf Try.f74)))))) x0 (fun (env : Env) (h : Hp) => s74a5 rec n (env 2) (env 3) h) :=
  congrArg (fun k => D74 rec n (cL (cR (cR (cR (cR (cf Try.f74)))))) x0 k) (s74a5e rec n)

theorem s74a4e (rec : FuncId → List DV → Hp → Res) (n : Nat) : D74 rec n (cR (cR (cR (cR (cf Try.f74))))) x0 (retK CF Try.f74) = (fun (env : Env) (h : Hp) => s74a4 rec n (env 0) (env 2) (env 3) h) :=
  (s74a4p1 rec n).trans
  ((by kernel_rfl))

theorem s74a9q2 (rec : FuncId → List DV → Hp → Res) (n : Nat) (kk6 : DV → DV → DV → DV → Hp → Res) (q0 : DV → DV → DV → Hp → Res) : D74 rec n (cR (cR (cL (cR (cL (cL (cL (cR (cR (cR (cf Try.f74))))))))))) (xs (xs x0 0 (fun (env : Env) (h : Hp) => q0 (env 0) (env 2) (env 3) h)) 1 (fun (env : Env) (h : Hp) => kk6 (env 0) (env 2) (env 3) (env 4) h)) (fun (env : Env) (h : Hp) => kk6 (env 0) (env 2) (env 3) (env 4) h) = fun (env : Env) (h : Hp) =>
    bnd (pField 5 (env 3) h) fun v45 h45 =>
    bnd (pLoad1 v45 h45) fun v46 h46 =>
    bnd (pLoadA 6 (env 5) h46) fun v47 h47 =>
    bnd (pBuildSlice [(.i .i64 (Int.ofNat 0)), (.s []), (.i .i64 (Int.ofNat 0)), .l0, .l0, .l0] 1 [(0, 6, v47)] h47) fun v48 h48 =>
    bnd (pAppend 6 104 v46 v48 h48) fun v49 h49 =>
    bnd (pField 5 (env 3) h49) fun v50 h50 =>
    bnd (pStore 1 v50 v49 h50) fun _ h51 =>
    kk6 (env 0) (env 2) (env 3) (env 4) h51 := by kernel_rfl

theorem s74a9q2u (rec : FuncId → List DV → Hp → Res) (n : Nat) (kk6 : DV → DV → DV → DV → Hp → Res) : (fun (env : Env) (h : Hp) =>
    bnd (pField 5 (env 3) h) fun v52 h52 =>
    bnd (pLoad1 v52 h52) fun v53 h53 =>
    bnd (pLoadA 6 (env 5) h53) fun v54 h54 =>
    bnd (pBuildSlice [(.i .i64 (Int.ofNat 0)), (.s []), (.i .i64 (Int.ofNat 0)), .l0, .l0, .l0] 1 [(0, 6, v54)] h54) fun v55 h55 =>
    bnd (pAppend 6 104 v53 v55 h55) fun v56 h56 =>
    bnd (pField 5 (env 3) h56) fun v57 h57 =>
    bnd (pStore 1 v57 v56 h57) fun _ h58 =>
    kk6 (env 0) (env 2) (env 3) (env 4) h58) = (fun (env : Env) (h : Hp) => s74a9 rec n kk6 (env 0) (env 2) (env 3) (env 4) (env 5) h) := by kernel_rfl

theorem s74a9e (rec : FuncId → List DV → Hp → Res) (n : Nat) (kk6 : DV → DV → DV → DV → Hp → Res) : D74 rec n (cR (cR (cL (cR (cL (cL (cL (cR (cR (cR (cf Try.f74))))))))))) (xs (xs x0 0 (fun (env : Env) (h : Hp) => s74a4 rec n (env 0) (env 2) (env 3) h)) 1 (fun (env : Env) (h : Hp) => kk6 (env 0) (env 2) (env 3) (env 4) h)) (fun (env : Env) (h : Hp) => kk6 (env 0) (env 2) (env 3) (env 4) h) = (fun (env : Env) (h : Hp) => s74a9 rec n kk6 (env 0) (env 2) (env 3) (env 4) (env 5) h) :=
  (s74a9q2 rec n kk6 (s74a4 rec n)).trans (s74a9q2u rec n kk6)

theorem s74a8p3 (rec : FuncId → List DV → Hp → Res) (n : Nat) (kk6 : DV → DV → DV → DV → Hp → Res) : D74 rec n (cR (cL (cR (cL (cL (cL (cR (cR (cR (cf Try.f74)))))))))) (xs (xs x0 0 (fun (env : Env) (h : Hp) => s74a4 rec n (env 0) (env 2) (env 3) h)) 1 (fun (env : Env) (h : Hp) => kk6 (env 0) (env 2) (env 3) (env 4) h)) (fun (env : Env) (h : Hp) => kk6 (env 0) (env 2) (env 3) (env 4) h) = D74 rec n (cL (cR (cL (cR (cL (cL (cL (cR (cR (cR (cf Try.f74))))))))))) (xs (xs x0 0 (fun (env : Env) (h : Hp) => s74a4 rec n (env 0) (env 2) (env 3) h)) 1 (fun (env : Env) (h : Hp) => kk6 (env 0) (env 2) (env 3) (env 4) h)) (fun (env : Env) (h : Hp) => s74a9 rec n kk6 (env 0) (env 2) (env 3) (env 4) (env 5) h) :=
  congrArg (fun k => D74 rec n (cL (cR (cL (cR (cL (cL (cL (cR (cR (cR (cf Try.f74))))))))))) (xs (xs x0 0 (fun (env : Env) (h : Hp) => s74a4 rec n (env 0) (env 2) (env 3) h)) 1 (fun (env : Env) (h : Hp) => kk6 (env 0) (env 2) (env 3) (env 4) h)) k) (s74a9e rec n kk6)

theorem s74a8e (rec : FuncId → List DV → Hp → Res) (n : Nat) (kk6 : DV → DV → DV → DV → Hp → Res) : D74 rec n (cR (cL (cR (cL (cL (cL (cR (cR (cR (cf Try.f74)))))))))) (xs (xs x0 0 (fun (env : Env) (h : Hp) => s74a4 rec n (env 0) (env 2) (env 3) h)) 1 (fun (env : Env) (h : Hp) => kk6 (env 0) (env 2) (env 3) (env 4) h)) (fun (env : Env) (h : Hp) => kk6 (env 0) (env 2) (env 3) (env 4) h) = (fun (env : Env) (h : Hp) => s74a8 rec n kk6 (env 0) (env 2) (env 3) (env 4) (env 5) (env 6) h) :=
  (s74a8p3 rec n kk6).trans
  ((by kernel_rfl))

theorem s74a7p4 (rec : FuncId → List DV → Hp → Res) (n : Nat) (kk6 : DV → DV → DV → DV → Hp → Res) : D74 rec n (cL (cR (cL (cL (cL (cR (cR (cR (cf Try.f74))))))))) (xs (xs x0 0 (fun (env : Env) (h : Hp) => s74a4 rec n (env 0) (env 2) (env 3) h)) 1 (fun (env : Env) (h : Hp) => kk6 (env 0) (env 2) (env 3) (env 4) h)) (fun (env : Env) (h : Hp) => kk6 (env 0) (env 2) (env 3) (env 4) h) = D74 rec n (cL (cL (cR (cL (cL (cL (cR (cR (cR (cf Try.f74)))))))))) (xs (xs x0 0 (fun (env : Env) (h : Hp) => s74a4 rec n (env 0) (env 2) (env 3) h)) 1 (fun (env : Env) (h : Hp) => kk6 (env 0) (env 2) (env 3) (env 4) h)) (fun (env : Env) (h : Hp) => s74a8 rec n kk6 (env 0) (env 2) (env 3) (env 4) (env 5) (env 6) h) :=
  congrArg (fun k => D74 rec n (cL (cL (cR (cL (cL (cL (cR (cR (cR (cf Try.f74)))))))))) (xs (xs x0 0 (fun (env : Env) (h : Hp) => s74a4 rec n (env 0) (env 2) (env 3) h)) 1 (fun (env : Env) (h : Hp) => kk6 (env 0) (env 2) (env 3) (env 4) h)) k) (s74a8e rec n kk6)

theorem s74a7q5 (rec : FuncId → List DV → Hp → Res) (n : Nat) (kk6 : DV → DV → DV → DV → Hp → Res) (q0 : DV → DV → DV → DV → DV → DV → Hp → Res) (q1 : DV → DV → DV → Hp → Res) : D74 rec n (cL (cL (cR (cL (cL (cL (cR (cR (cR (cf Try.f74)))))))))) (xs (xs x0 0 (fun (env : Env) (h : Hp) => q1 (env 0) (env 2) (env 3) h)) 1 (fun (env : Env) (h : Hp) => kk6 (env 0) (env 2) (env 3) (env 4) h)) (fun (env : Env) (h : Hp) => q0 (env 0) (env 2) (env 3) (env 4) (env 5) (env 6) h) = fun (env : Env) (h : Hp) =>
    bnd (rec 73 [(env 0)] h) fun v87 h87 =>
    bnd (pExtract 0 v87 h87) fun v88 h88 =>
    bnd (pExtract 1 v87 h88) fun v89 h89 =>
    bnd (pNew [(.i .i64 (Int.ofNat 0)), (.s []), (.i .i64 (Int.ofNat 0)), .l0, .l0, .l0] h89) fun v90 h90 =>
    bnd (pStore 6 v90 v88 h90) fun _ h91 =>
    q0 (env 0) (env 2) (env 3) (env 4) v90 v89 h91 := by kernel_rfl

theorem s74a7q5u (rec : FuncId → List DV → Hp → Res) (n : Nat) (kk6 : DV → DV → DV → DV → Hp → Res) : (fun (env : Env) (h : Hp) =>
    bnd (rec 73 [(env 0)] h) fun v92 h92 =>
    bnd (pExtract 0 v92 h92) fun v93 h93 =>
    bnd (pExtract 1 v92 h93) fun v94 h94 =>
    bnd (pNew [(.i .i64 (Int.ofNat 0)), (.s []), (.i .i64 (Int.ofNat 0)), .l0, .l0, .l0] h94) fun v95 h95 =>
    bnd (pStore 6 v95 v93 h95) fun _ h96 =>
    s74a8 rec n kk6 (env 0) (env 2) (env 3) (env 4) v95 v94 h96) = (fun (env : Env) (h : Hp) => s74a7 rec n kk6 (env 0) (env 2) (env 3) (env 4) h) := by kernel_rfl

theorem s74a7e (rec : FuncId → List DV → Hp → Res) (n : Nat) (kk6 : DV → DV → DV → DV → Hp → Res) : D74 rec n (cR (cL (cL (cL (cR (cR (cR (cf Try.f74)))))))) (xs x0 0 (fun (env : Env) (h : Hp) => s74a4 rec n (env 0) (env 2) (env 3) h)) (fun (env : Env) (h : Hp) => kk6 (env 0) (env 2) (env 3) (env 4) h) = (fun (env : Env) (h : Hp) => s74a7 rec n kk6 (env 0) (env 2) (env 3) (env 4) h) :=
  (by kernel_rfl : D74 rec n (cR (cL (cL (cL (cR (cR (cR (cf Try.f74)))))))) (xs x0 0 (fun (env : Env) (h : Hp) => s74a4 rec n (env 0) (env 2) (env 3) h)) (fun (env : Env) (h : Hp) => kk6 (env 0) (env 2) (env 3) (env 4) h) = D74 rec n (cL (cR (cL (cL (cL (cR (cR (cR (cf Try.f74))))))))) (xs (xs x0 0 (fun (env : Env) (h : Hp) => s74a4 rec n (env 0) (env 2) (env 3) h)) 1 (fun (env : Env) (h : Hp) => kk6 (env 0) (env 2) (env 3) (env 4) h)) (fun (env : Env) (h : Hp) => kk6 (env 0) (env 2) (env 3) (env 4) h)).trans
  ((s74a7p4 rec n kk6).trans
  ((s74a7q5 rec n kk6 (s74a8 rec n kk6) (s74a4 rec n)).trans (s74a7q5u rec n kk6)))

theorem s74a6p6 (rec : FuncId → List DV → Hp → Res) (n : Nat) (kk6 : DV → DV → DV → DV → Hp → Res) : D74 rec n (cL (cL (cL (cR (cR (cR (cf Try.f74))))))) (xs x0 0 (fun (env : Env) (h : Hp) => s74a4 rec n (env 0) (env 2) (env 3) h)) (fun (env : Env) (h : Hp) => kk6 (env 0) (env 2) (env 3) (env 4) h) = D74 rec n (cL (cL (cL (cL (cR (cR (cR (cf Try.f74)))))))) (xs x0 0 (fun (env : Env) (h : Hp) => s74a4 rec n (env 0) (env 2) (env 3) h)) (fun (env : Env) (h : Hp) => s74a7 rec n kk6 (env 0) (env 2) (env 3) (env 4) h) :=
  congrArg (fun k => D74 rec n (cL (cL (cL (cL (cR (cR (cR (cf Try.f74)))))))) (xs x0 0 (fun (env : Env) (h : Hp) => s74a4 rec n (env 0) (env 2) (env 3) h)) k) (s74a7e rec n kk6)

theorem s74a6be (rec : FuncId → List DV → Hp → Res) (n : Nat) (kk6 : DV → DV → DV → DV → Hp → Res) : D74 rec n (cL (cL (cL (cR (cR (cR (cf Try.f74))))))) (xs x0 0 (fun (env : Env) (h : Hp) => s74a4 rec n (env 0) (env 2) (env 3) h)) (fun (env : Env) (h : Hp) => kk6 (env 0) (env 2) (env 3) (env 4) h) = (fun (env : Env) (h : Hp) => s74a6b rec n kk6 (env 0) (env 2) (env 3) (env 4) h) :=
  (s74a6p6 rec n kk6).trans
  ((by kernel_rfl))

theorem s74a6le (rec : FuncId → List DV → Hp → Res) (n : Nat) (m : Nat) : loopN (fun kk => D74 rec n (cL (cL (cL (cR (cR (cR (cf Try.f74))))))) (xs x0 0 (fun (env : Env) (h : Hp) => s74a4 rec n (env 0) (env 2) (env 3) h)) kk) m = (fun (env : Env) (h : Hp) => s74a6l rec n m (env 0) (env 2) (env 3) (env 4) h) := by
  induction m with
  | zero => exact (by kernel_rfl : loopN (fun kk => D74 rec n (cL (cL (cL (cR (cR (cR (cf Try.f74))))))) (xs x0 0 (fun (env : Env) (h : Hp) => s74a4 rec n (env 0) (env 2) (env 3) h)) kk) 0 = (fun (env : Env) (h : Hp) => s74a6l rec n 0 (env 0) (env 2) (env 3) (env 4) h))
  | succ m ih =>
    refine (by kernel_rfl : loopN (fun kk => D74 rec n (cL (cL (cL (cR (cR (cR (cf Try.f74))))))) (xs x0 0 (fun (env : Env) (h : Hp) => s74a4 rec n (env 0) (env 2) (env 3) h)) kk) (m + 1) = D74 rec n (cL (cL (cL (cR (cR (cR (cf Try.f74))))))) (xs x0 0 (fun (env : Env) (h : Hp) => s74a4 rec n (env 0) (env 2) (env 3) h)) (loopN (fun kk => D74 rec n (cL (cL (cL (cR (cR (cR (cf Try.f74))))))) (xs x0 0 (fun (env : Env) (h : Hp) => s74a4 rec n (env 0) (env 2) (env 3) h)) kk) m)).trans ?_
    rw [ih]
    exact (s74a6be rec n (s74a6l rec n m)).trans (by kernel_rfl)

theorem s74a6e (rec : FuncId → List DV → Hp → Res) (n : Nat) : D74 rec n (cL (cL (cR (cR (cR (cf Try.f74)))))) (xs x0 0 (fun (env : Env) (h : Hp) => s74a4 rec n (env 0) (env 2) (env 3) h)) (fun (env : Env) (h : Hp) => s74a4 rec n (env 0) (env 2) (env 3) h) = (fun (env : Env) (h : Hp) => s74a6 rec n (env 0) (env 2) (env 3) (env 4) h) :=
  (by kernel_rfl : D74 rec n (cL (cL (cR (cR (cR (cf Try.f74)))))) (xs x0 0 (fun (env : Env) (h : Hp) => s74a4 rec n (env 0) (env 2) (env 3) h)) (fun (env : Env) (h : Hp) => s74a4 rec n (env 0) (env 2) (env 3) h) = loopN (fun kk => D74 rec n (cL (cL (cL (cR (cR (cR (cf Try.f74))))))) (xs x0 0 (fun (env : Env) (h : Hp) => s74a4 rec n (env 0) (env 2) (env 3) h)) kk) n).trans ((s74a6le rec n n).trans (by kernel_rfl))

theorem s74a3p7 (rec : FuncId → List DV → Hp → Res) (n : Nat) : D74 rec n (cR (cR (cR (cf Try.f74)))) x0 (retK CF Try.f74) = D74 rec n (cL (cR (cR (cR (cf Try.f74))))) x0 (fun (env : Env) (h : Hp) => s74a4 rec n (env 0) (env 2) (env 3) h) :=
  congrArg (fun k => D74 rec n (cL (cR (cR (cR (cf Try.f74))))) x0 k) (s74a4e rec n)

theorem s74a3e (rec : FuncId → List DV → Hp → Res) (n : Nat) : D74 rec n (cR (cR (cR (cf Try.f74)))) x0 (retK CF Try.f74) = (fun (env : Env) (h : Hp) => s74a3 rec n (env 0) (env 2) (env 3) (env 4) h) :=
  (s74a3p7 rec n).trans
  ((by kernel_rfl : D74 rec n (cL (cR (cR (cR (cf Try.f74))))) x0 (fun (env : Env) (h : Hp) => s74a4 rec n (env 0) (env 2) (env 3) h) = D74 rec n (cL (cL (cR (cR (cR (cf Try.f74)))))) (xs x0 0 (fun (env : Env) (h : Hp) => s74a4 rec n (env 0) (env 2) (env 3) h)) (fun (env : Env) (h : Hp) => s74a4 rec n (env 0) (env 2) (env 3) h)).trans
  ((s74a6e rec n).trans (by kernel_rfl)))

theorem s74a2p8 (rec : FuncId → List DV → Hp → Res) (n : Nat) : D74 rec n (cR (cR (cf Try.f74))) x0 (retK CF Try.f74) = D74 rec n (cL (cR (cR (cf Try.f74)))) x0 (fun (env : Env) (h : Hp) => s74a3 rec n (env 0) (env 2) (env 3) (env 4) h) :=
  congrArg (fun k => D74 rec n (cL (cR (cR (cf Try.f74)))) x0 k) (s74a3e rec n)

theorem s74a2e (rec : FuncId → List DV → Hp → Res) (n : Nat) : D74 rec n (cR (cR (cf Try.f74))) x0 (retK CF Try.f74) = (fun (env : Env) (h : Hp) => s74a2 rec n (env 0) (env 2) (env 3) h) :=
  (s74a2p8 rec n).trans
  ((by kernel_rfl))

theorem s74a1p9 (rec : FuncId → List DV → Hp → Res) (n : Nat) : D74 rec n (cR (cf Try.f74)) x0 (retK CF Try.f74) = D74 rec n (cL (cR (cf Try.f74))) x0 (fun (env : Env) (h : Hp) => s74a2 rec n (env 0) (env 2) (env 3) h) :=
  congrArg (fun k => D74 rec n (cL (cR (cf Try.f74))) x0 k) (s74a2e rec n)

theorem s74a1q10 (rec : FuncId → List DV → Hp → Res) (n : Nat) (q0 : DV → DV → DV → Hp → Res) : D74 rec n (cL (cR (cf Try.f74))) x0 (fun (env : Env) (h : Hp) => q0 (env 0) (env 2) (env 3) h) = fun (env : Env) (h : Hp) =>
    bnd (pBuild [(.i .i64 (Int.ofNat 0)), (.s []), (.i .i64 (Int.ofNat 0)), .l0, .l0, .l0] [(0, 1, (.i .i64 (Int.ofNat 4)))] h) fun v125 h125 =>
    bnd (pNew [(.i .i64 (Int.ofNat 0)), (.s []), (.i .i64 (Int.ofNat 0)), .l0, .l0, .l0] h125) fun v126 h126 =>
    bnd (pStore 6 v126 v125 h126) fun _ h127 =>
    q0 (env 0) (env 2) v126 h127 := by kernel_rfl

theorem s74a1q10u (rec : FuncId → List DV → Hp → Res) (n : Nat) : (fun (env : Env) (h : Hp) =>
    bnd (pBuild [(.i .i64 (Int.ofNat 0)), (.s []), (.i .i64 (Int.ofNat 0)), .l0, .l0, .l0] [(0, 1, (.i .i64 (Int.ofNat 4)))] h) fun v128 h128 =>
    bnd (pNew [(.i .i64 (Int.ofNat 0)), (.s []), (.i .i64 (Int.ofNat 0)), .l0, .l0, .l0] h128) fun v129 h129 =>
    bnd (pStore 6 v129 v128 h129) fun _ h130 =>
    s74a2 rec n (env 0) (env 2) v129 h130) = (fun (env : Env) (h : Hp) => s74a1 rec n (env 0) (env 2) h) := by kernel_rfl

theorem s74a1e (rec : FuncId → List DV → Hp → Res) (n : Nat) : D74 rec n (cR (cf Try.f74)) x0 (retK CF Try.f74) = (fun (env : Env) (h : Hp) => s74a1 rec n (env 0) (env 2) h) :=
  (s74a1p9 rec n).trans
  ((s74a1q10 rec n (s74a2 rec n)).trans (s74a1q10u rec n))

theorem s74p11 (rec : FuncId → List DV → Hp → Res) (n : Nat) : D74 rec n (cf Try.f74) x0 (retK CF Try.f74) = D74 rec n (cL (cf Try.f74)) x0 (fun (env : Env) (h : Hp) => s74a1 rec n (env 0) (env 2) h) :=
  congrArg (fun k => D74 rec n (cL (cf Try.f74)) x0 k) (s74a1e rec n)

theorem s74q12 (rec : FuncId → List DV → Hp → Res) (n : Nat) (q0 : DV → DV → Hp → Res) : D74 rec n (cL (cf Try.f74)) x0 (fun (env : Env) (h : Hp) => q0 (env 0) (env 2) h) = fun (env : Env) (h : Hp) =>
    bnd (pNew [(.i .i64 (Int.ofNat 0)), (.s []), (.i .i64 (Int.ofNat 0)), .l0, .l0, .l0] h) fun v133 h133 =>
    q0 (env 0) v133 h133 := by kernel_rfl

theorem s74q12u (rec : FuncId → List DV → Hp → Res) (n : Nat) : (fun (env : Env) (h : Hp) =>
    bnd (pNew [(.i .i64 (Int.ofNat 0)), (.s []), (.i .i64 (Int.ofNat 0)), .l0, .l0, .l0] h) fun v134 h134 =>
    s74a1 rec n (env 0) v134 h134) = (fun (env : Env) (h : Hp) => s74 rec n (env 0) h) := by kernel_rfl

theorem s74m (rec : FuncId → List DV → Hp → Res) (n : Nat) : D74 rec n (cf Try.f74) x0 (retK CF Try.f74) = (fun (env : Env) (h : Hp) => s74 rec n (env 0) h) :=
  (s74p11 rec n).trans
  ((s74q12 rec n (s74a1 rec n)).trans (s74q12u rec n))

theorem s74ok (rec : FuncId → List DV → Hp → Res) (n : Nat) (args : List DV) (h : Hp) : bodyD CF rec n 74 args h = s74 rec n (args.getD 0 undefD) h :=
  (by kernel_rfl : bodyD CF rec n 74 args h = D74 rec n (cf Try.f74) x0 (retK CF Try.f74) (argsE args) h).trans ((congrFun (congrFun (s74m rec n) (argsE args)) h).trans (by kernel_rfl))

/-- vivariumref07.P).open -/
noncomputable def s75 (rec : FuncId → List DV → Hp → Res) (n : Nat) (x0 : DV) (h0 : Hp) : Res :=
  bnd (rec 42 [x0] h0) fun v1 h1 =>
  bnd (pNew [(.i .i64 (Int.ofNat 0)), (.s []), (.i .i64 (Int.ofNat 0)), (.i .i64 (Int.ofNat 0))] h1) fun v2 h2 =>
  bnd (pStore 4 v2 v1 h2) fun _ h3 =>
  bnd (pNil x0 h3) fun v4 h4 =>
  bnd (pField 2 v4 h4) fun v5 h5 =>
  bnd (pLoad1 v5 h5) fun v6 h6 =>
  bnd (pInt .eql v6 (.i .i64 (Int.ofNat 20)) h6) fun v7 h7 =>
  ifD v7 (
    bnd (pLoadA 4 v2 h7) fun v8 h8 =>
    bnd (rec 44 [x0, v8, (.i .i64 (Int.ofNat 14))] h8) fun v9 h9 =>
    some ((.b false), h9)) (
    bnd (pNil x0 h7) fun v10 h10 =>
    bnd (pField 2 v10 h10) fun v11 h11 =>
    bnd (pLoad1 v11 h11) fun v12 h12 =>
    bnd (pInt .add v12 (.i .i64 (Int.ofNat 1)) h12) fun v13 h13 =>
    bnd (pNil x0 h13) fun v14 h14 =>
    bnd (pField 2 v14 h14) fun v15 h15 =>
    bnd (pStore 1 v15 v13 h15) fun _ h16 =>
    some ((.b true), h16))

noncomputable def D75 (rec : FuncId → List DV → Hp → Res) (n : Nat) (c : Code) (X : Nat → K) (k : K) : K := codeD CF rec 21 n c X (retK CF Try.f75) k

theorem s75m (rec : FuncId → List DV → Hp → Res) (n : Nat) : D75 rec n (cf Try.f75) x0 (retK CF Try.f75) = (fun (env : Env) (h : Hp) => s75 rec n (env 0) h) :=
  (by kernel_rfl)

theorem s75ok (rec : FuncId → List DV → Hp → Res) (n : Nat) (args : List DV) (h : Hp) : bodyD CF rec n 75 args h = s75 rec n (args.getD 0 undefD) h :=
  (by kernel_rfl : bodyD CF rec n 75 args h = D75 rec n (cf Try.f75) x0 (retK CF Try.f75) (argsE args) h).trans ((congrFun (congrFun (s75m rec n) (argsE args)) h).trans (by kernel_rfl))

noncomputable def s76a6 (rec : FuncId → List DV → Hp → Res) (n : Nat) (x0 x2 x3 : DV) (h0 : Hp) : Res :=
  bnd (rec 26 [x0] h0) fun v1 h1 =>
  bnd (pField 4 x3 h1) fun v2 h2 =>
  bnd (pStore 1 v2 v1 h2) fun _ h3 =>
  bnd (rec 27 [x0] h3) fun v4 h4 =>
  bnd (pField 5 x3 h4) fun v5 h5 =>
  bnd (pStore 1 v5 v4 h5) fun _ h6 =>
  bnd (rec 28 [x0, (.i .i64 (Int.ofNat 10)), (.s [93])] h6) fun v7 h7 =>
  bnd (pNil x0 h7) fun v8 h8 =>
  bnd (pField 2 v8 h8) fun v9 h9 =>
  bnd (pLoad1 v9 h9) fun v10 h10 =>
  bnd (pInt .sub v10 (.i .i64 (Int.ofNat 1)) h10) fun v11 h11 =>
  bnd (pNil x0 h11) fun v12 h12 =>
  bnd (pField 2 v12 h12) fun v13 h13 =>
  bnd (pStore 1 v13 v11 h13) fun _ h14 =>
  bnd (pLoadA 6 x3 h14) fun v15 h15 =>
  bnd (pStore 6 x2 v15 h15) fun _ h16 =>
  bnd (pLoadA 6 x2 h16) fun v17 _ =>
  some (v17, h16)

noncomputable def s76a5 (rec : FuncId → List DV → Hp → Res) (n : Nat) (x0 x2 x3 : DV) (h0 : Hp) : Res :=
  bnd (pField 3 x3 h0) fun v35 h35 =>
  bnd (pLoad1 v35 h35) fun v36 h36 =>
  bnd (pLen v36 h36) fun v37 h37 =>
  bnd (pInt .gtr v37 (.i .i64 (Int.ofNat 0)) h37) fun v38 h38 =>
  bnd (gD v38 true (some (x0, h38)) h38) fun v39 h39 =>
  bnd (gD v38 true (rec 41 [v39, (.i .i64 (Int.ofNat 10)), (.s [93])] h39) h39) fun v40 h40 =>
  bnd (gD v38 true (pUn .not v40 h40) h40) fun v41 h41 =>
  bnd (pPick v38 v41 (.b false) h41) fun v42 h42 =>
  ifD v42 (
    bnd (rec 28 [x0, (.i .i64 (Int.ofNat 10)), (.s [124])] h42) fun v43 h43 =>
    s76a6 rec n x0 x2 x3 h43) (
    s76a6 rec n x0 x2 x3 h42)

noncomputable def s76a7b (rec : FuncId → List DV → Hp → Res) (n : Nat) (kk7 : DV → DV → DV → Hp → Res) (x0 x2 x3 : DV) (h0 : Hp) : Res :=
    bnd (rec 41 [x0, (.i .i64 (Int.ofNat 8)), (.s [])] h0) fun v53 h53 =>
    ifD v53 (
      bnd (pField 3 x3 h53) fun v54 h54 =>
      bnd (pLoad1 v54 h54) fun v55 h55 =>
      bnd (rec 43 [x0, (.i .i64 (Int.ofNat 8)), v55] h55) fun v56 h56 =>
      bnd (pField 3 x3 h56) fun v57 h57 =>
      bnd (pStore 1 v57 v56 h57) fun _ h58 =>
      kk7 x0 x2 x3 h58) (
      s76a5 rec n x0 x2 x3 h53)

noncomputable def s76a7l (rec : FuncId → List DV → Hp → Res) (n : Nat) (m : Nat) : DV → DV → DV → Hp → Res :=
  Nat.rec (motive := fun _ => DV → DV → DV → Hp → Res) (fun _ _ _ _ => none) (fun _ ih => s76a7b rec n ih) m

noncomputable def s76a7 (rec : FuncId → List DV → Hp → Res) (n : Nat) : DV → DV → DV → Hp → Res := s76a7l rec n n

noncomputable def s76a4 (rec : FuncId → List DV → Hp → Res) (n : Nat) (x0 x2 x3 : DV) (h0 : Hp) : Res :=
  s76a7 rec n x0 x2 x3 h0

noncomputable def s76a3 (rec : FuncId → List DV → Hp → Res) (n : Nat) (x0 x2 x3 x4 : DV) (h0 : Hp) : Res :=
  bnd (pUn .not x4 h0) fun v65 h65 =>
  ifD v65 (
    bnd (pLoadA 6 x3 h65) fun v66 h66 =>
    bnd (pStore 6 x2 v66 h66) fun _ h67 =>
    bnd (pLoadA 6 x2 h67) fun v68 _ =>
    some (v68, h67)) (
    s76a4 rec n x0 x2 x3 h65)

noncomputable def s76a2 (rec : FuncId → List DV → Hp → Res) (n : Nat) (x0 x2 x3 : DV) (h0 : Hp) : Res :=
  bnd (rec 75 [x0] h0) fun v73 h73 =>
  s76a3 rec n x0 x2 x3 v73 h73

noncomputable def s76a1 (rec : FuncId → List DV → Hp → Res) (n : Nat) (x0 x2 : DV) (h0 : Hp) : Res :=
  bnd (pBuild [(.i .i64 (Int.ofNat 0)), (.s []), (.i .i64 (Int.ofNat 0)), .l0, .l0, .l0] [(0, 1, (.i .i64 (Int.ofNat 9)))] h0) fun v75 h75 =>
  bnd (pNew [(.i .i64 (Int.ofNat 0)), (.s []), (.i .i64 (Int.ofNat 0)), .l0, .l0, .l0] h75) fun v76 h76 =>
  bnd (pStore 6 v76 v75 h76) fun _ h77 =>
  s76a2 rec n x0 x2 v76 h77

/-- vivariumref07.P).block -/
noncomputable def s76 (rec : FuncId → List DV → Hp → Res) (n : Nat) (x0 : DV) (h0 : Hp) : Res :=
  bnd (pNew [(.i .i64 (Int.ofNat 0)), (.s []), (.i .i64 (Int.ofNat 0)), .l0, .l0, .l0] h0) fun v87 h87 =>
  s76a1 rec n x0 v87 h87

noncomputable def D76 (rec : FuncId → List DV → Hp → Res) (n : Nat) (c : Code) (X : Nat → K) (k : K) : K := codeD CF rec 45 n c X (retK CF Try.f76) k

theorem s76a6e (rec : FuncId → List DV → Hp → Res) (n : Nat) : D76 rec n (cR (cR (cR (cR (cR (cR (cf Try.f76))))))) x0 (retK CF Try.f76) = (fun (env : Env) (h : Hp) => s76a6 rec n (env 0) (env 2) (env 3) h) :=
  (by kernel_rfl)

theorem s76a5p1 (rec : FuncId → List DV → Hp → Res) (n : Nat) : D76 rec n (cR (cR (cR (cR (cR (cf Try.f76)))))) x0 (retK CF Try.f76) = D76 rec n (cL (cR (cR (cR (cR (cR (cf Try.f76))))))) x0 (fun (env : Env) (h : Hp) => s76a6 rec n (env 0) (env 2) (env 3) h) :=
  congrArg (fun k => D76 rec n (cL (cR (cR (cR (cR (cR (cf Try.f76))))))) x0 k) (s76a6e rec n)

theorem s76a5e (rec : FuncId → List DV → Hp → Res) (n : Nat) : D76 rec n (cR (cR (cR (cR (cR (cf Try.f76)))))) x0 (retK CF Try.f76) = (fun (env : Env) (h : Hp) => s76a5 rec n (env 0) (env 2) (env 3) h) :=
  (s76a5p1 rec n).trans
  ((by kernel_rfl))

theorem s76a7be (rec : FuncId → List DV → Hp → Res) (n : Nat) (kk7 : DV → DV → DV → Hp → Res) : D76 rec n (cL (cL (cL (cR (cR (cR (cR (cf Try.f76)))))))) (xs x0 0 (fun (env : Env) (h : Hp) => s76a5 rec n (env 0) (env 2) (env 3) h)) (fun (env : Env) (h : Hp) => kk7 (env 0) (env 2) (env 3) h) = (fun (env : Env) (h : Hp) => s76a7b rec n kk7 (env 0) (env 2) (env 3) h) :=
  (by kernel_rfl)

theorem s76a7le (rec : FuncId → List DV → Hp → Res) (n : Nat) (m : Nat) : loopN (fun kk => D76 rec n (cL (cL (cL (cR (cR (cR (cR (cf Try.f76)))))))) (xs x0 0 (fun (env : Env) (h : Hp) => s76a5 rec n (env 0) (env 2) (env 3) h)) kk) m = (fun (env : Env) (h : Hp) => s76a7l rec n m (env 0) (env 2) (env 3) h) := by
  induction m with
  | zero => exact (by kernel_rfl : loopN (fun kk => D76 rec n (cL (cL (cL (cR (cR (cR (cR (cf Try.f76)))))))) (xs x0 0 (fun (env : Env) (h : Hp) => s76a5 rec n (env 0) (env 2) (env 3) h)) kk) 0 = (fun (env : Env) (h : Hp) => s76a7l rec n 0 (env 0) (env 2) (env 3) h))
  | succ m ih =>
    refine (by kernel_rfl : loopN (fun kk => D76 rec n (cL (cL (cL (cR (cR (cR (cR (cf Try.f76)))))))) (xs x0 0 (fun (env : Env) (h : Hp) => s76a5 rec n (env 0) (env 2) (env 3) h)) kk) (m + 1) = D76 rec n (cL (cL (cL (cR (cR (cR (cR (cf Try.f76)))))))) (xs x0 0 (fun (env : Env) (h : Hp) => s76a5 rec n (env 0) (env 2) (env 3) h)) (loopN (fun kk => D76 rec n (cL (cL (cL (cR (cR (cR (cR (cf Try.f76)))))))) (xs x0 0 (fun (env : Env) (h : Hp) => s76a5 rec n (env 0) (env 2) (env 3) h)) kk) m)).trans ?_
    rw [ih]
    exact (s76a7be rec n (s76a7l rec n m)).trans (by kernel_rfl)

theorem s76a7e (rec : FuncId → List DV → Hp → Res) (n : Nat) : D76 rec n (cL (cL (cR (cR (cR (cR (cf Try.f76))))))) (xs x0 0 (fun (env : Env) (h : Hp) => s76a5 rec n (env 0) (env 2) (env 3) h)) (fun (env : Env) (h : Hp) => s76a5 rec n (env 0) (env 2) (env 3) h) = (fun (env : Env) (h : Hp) => s76a7 rec n (env 0) (env 2) (env 3) h) :=
  (by kernel_rfl : D76 rec n (cL (cL (cR (cR (cR (cR (cf Try.f76))))))) (xs x0 0 (fun (env : Env) (h : Hp) => s76a5 rec n (env 0) (env 2) (env 3) h)) (fun (env : Env) (h : Hp) => s76a5 rec n (env 0) (env 2) (env 3) h) = loopN (fun kk => D76 rec n (cL (cL (cL (cR (cR (cR (cR (cf Try.f76)))))))) (xs x0 0 (fun (env : Env) (h : Hp) => s76a5 rec n (env 0) (env 2) (env 3) h)) kk) n).trans ((s76a7le rec n n).trans (by kernel_rfl))

theorem s76a4p2 (rec : FuncId → List DV → Hp → Res) (n : Nat) : D76 rec n (cR (cR (cR (cR (cf Try.f76))))) x0 (retK CF Try.f76) = D76 rec n (cL (cR (cR (cR (cR (cf Try.f76)))))) x0 (fun (env : Env) (h : Hp) => s76a5 rec n (env 0) (env 2) (env 3) h) :=
  congrArg (fun k => D76 rec n (cL (cR (cR (cR (cR (cf Try.f76)))))) x0 k) (s76a5e rec n)

theorem s76a4e (rec : FuncId → List DV → Hp → Res) (n : Nat) : D76 rec n (cR (cR (cR (cR (cf Try.f76))))) x0 (retK CF Try.f76) = (fun (env : Env) (h : Hp) => s76a4 rec n (env 0) (env 2) (env 3) h) :=
  (s76a4p2 rec n).trans
  ((by kernel_rfl : D76 rec n (cL (cR (cR (cR (cR (cf Try.f76)))))) x0 (fun (env : Env) (h : Hp) => s76a5 rec n (env 0) (env 2) (env 3) h) = D76 rec n (cL (cL (cR (cR (cR (cR (cf Try.f76))))))) (xs x0 0 (fun (env : Env) (h : Hp) => s76a5 rec n (env 0) (env 2) (env 3) h)) (fun (env : Env) (h : Hp) => s76a5 rec n (env 0) (env 2) (env 3) h)).trans
  ((s76a7e rec n).trans (by kernel_rfl)))

theorem s76a3p3 (rec : FuncId → List DV → Hp → Res) (n : Nat) : D76 rec n (cR (cR (cR (cf Try.f76)))) x0 (retK CF Try.f76) = D76 rec n (cL (cR (cR (cR (cf Try.f76))))) x0 (fun (env : Env) (h : Hp) => s76a4 rec n (env 0) (env 2) (env 3) h) :=
  congrArg (fun k => D76 rec n (cL (cR (cR (cR (cf Try.f76))))) x0 k) (s76a4e rec n)

theorem s76a3e (rec : FuncId → List DV → Hp → Res) (n : Nat) : D76 rec n (cR (cR (cR (cf Try.f76)))) x0 (retK CF Try.f76) = (fun (env : Env) (h : Hp) => s76a3 rec n (env 0) (env 2) (env 3) (env 4) h) :=
  (s76a3p3 rec n).trans
  ((by kernel_rfl))

theorem s76a2p4 (rec : FuncId → List DV → Hp → Res) (n : Nat) : D76 rec n (cR (cR (cf Try.f76))) x0 (retK CF Try.f76) = D76 rec n (cL (cR (cR (cf Try.f76)))) x0 (fun (env : Env) (h : Hp) => s76a3 rec n (env 0) (env 2) (env 3) (env 4) h) :=
  congrArg (fun k => D76 rec n (cL (cR (cR (cf Try.f76)))) x0 k) (s76a3e rec n)

theorem s76a2e (rec : FuncId → List DV → Hp → Res) (n : Nat) : D76 rec n (cR (cR (cf Try.f76))) x0 (retK CF Try.f76) = (fun (env : Env) (h : Hp) => s76a2 rec n (env 0) (env 2) (env 3) h) :=
  (s76a2p4 rec n).trans
  ((by kernel_rfl))

theorem s76a1p5 (rec : FuncId → List DV → Hp → Res) (n : Nat) : D76 rec n (cR (cf Try.f76)) x0 (retK CF Try.f76) = D76 rec n (cL (cR (cf Try.f76))) x0 (fun (env : Env) (h : Hp) => s76a2 rec n (env 0) (env 2) (env 3) h) :=
  congrArg (fun k => D76 rec n (cL (cR (cf Try.f76))) x0 k) (s76a2e rec n)

theorem s76a1q6 (rec : FuncId → List DV → Hp → Res) (n : Nat) (q0 : DV → DV → DV → Hp → Res) : D76 rec n (cL (cR (cf Try.f76))) x0 (fun (env : Env) (h : Hp) => q0 (env 0) (env 2) (env 3) h) = fun (env : Env) (h : Hp) =>
    bnd (pBuild [(.i .i64 (Int.ofNat 0)), (.s []), (.i .i64 (Int.ofNat 0)), .l0, .l0, .l0] [(0, 1, (.i .i64 (Int.ofNat 9)))] h) fun v81 h81 =>
    bnd (pNew [(.i .i64 (Int.ofNat 0)), (.s []), (.i .i64 (Int.ofNat 0)), .l0, .l0, .l0] h81) fun v82 h82 =>
    bnd (pStore 6 v82 v81 h82) fun _ h83 =>
    q0 (env 0) (env 2) v82 h83 := by kernel_rfl

theorem s76a1q6u (rec : FuncId → List DV → Hp → Res) (n : Nat) : (fun (env : Env) (h : Hp) =>
    bnd (pBuild [(.i .i64 (Int.ofNat 0)), (.s []), (.i .i64 (Int.ofNat 0)), .l0, .l0, .l0] [(0, 1, (.i .i64 (Int.ofNat 9)))] h) fun v84 h84 =>
    bnd (pNew [(.i .i64 (Int.ofNat 0)), (.s []), (.i .i64 (Int.ofNat 0)), .l0, .l0, .l0] h84) fun v85 h85 =>
    bnd (pStore 6 v85 v84 h85) fun _ h86 =>
    s76a2 rec n (env 0) (env 2) v85 h86) = (fun (env : Env) (h : Hp) => s76a1 rec n (env 0) (env 2) h) := by kernel_rfl

theorem s76a1e (rec : FuncId → List DV → Hp → Res) (n : Nat) : D76 rec n (cR (cf Try.f76)) x0 (retK CF Try.f76) = (fun (env : Env) (h : Hp) => s76a1 rec n (env 0) (env 2) h) :=
  (s76a1p5 rec n).trans
  ((s76a1q6 rec n (s76a2 rec n)).trans (s76a1q6u rec n))

theorem s76p7 (rec : FuncId → List DV → Hp → Res) (n : Nat) : D76 rec n (cf Try.f76) x0 (retK CF Try.f76) = D76 rec n (cL (cf Try.f76)) x0 (fun (env : Env) (h : Hp) => s76a1 rec n (env 0) (env 2) h) :=
  congrArg (fun k => D76 rec n (cL (cf Try.f76)) x0 k) (s76a1e rec n)

theorem s76q8 (rec : FuncId → List DV → Hp → Res) (n : Nat) (q0 : DV → DV → Hp → Res) : D76 rec n (cL (cf Try.f76)) x0 (fun (env : Env) (h : Hp) => q0 (env 0) (env 2) h) = fun (env : Env) (h : Hp) =>
    bnd (pNew [(.i .i64 (Int.ofNat 0)), (.s []), (.i .i64 (Int.ofNat 0)), .l0, .l0, .l0] h) fun v89 h89 =>
    q0 (env 0) v89 h89 := by kernel_rfl

theorem s76q8u (rec : FuncId → List DV → Hp → Res) (n : Nat) : (fun (env : Env) (h : Hp) =>
    bnd (pNew [(.i .i64 (Int.ofNat 0)), (.s []), (.i .i64 (Int.ofNat 0)), .l0, .l0, .l0] h) fun v90 h90 =>
    s76a1 rec n (env 0) v90 h90) = (fun (env : Env) (h : Hp) => s76 rec n (env 0) h) := by kernel_rfl

theorem s76m (rec : FuncId → List DV → Hp → Res) (n : Nat) : D76 rec n (cf Try.f76) x0 (retK CF Try.f76) = (fun (env : Env) (h : Hp) => s76 rec n (env 0) h) :=
  (s76p7 rec n).trans
  ((s76q8 rec n (s76a1 rec n)).trans (s76q8u rec n))

theorem s76ok (rec : FuncId → List DV → Hp → Res) (n : Nat) (args : List DV) (h : Hp) : bodyD CF rec n 76 args h = s76 rec n (args.getD 0 undefD) h :=
  (by kernel_rfl : bodyD CF rec n 76 args h = D76 rec n (cf Try.f76) x0 (retK CF Try.f76) (argsE args) h).trans ((congrFun (congrFun (s76m rec n) (argsE args)) h).trans (by kernel_rfl))

/-- lex.reader).name$1 -/
noncomputable def s78 (rec : FuncId → List DV → Hp → Res) (n : Nat) (x0 : DV) (h0 : Hp) : Res :=
  bnd (rec 65 [x0] h0) fun v1 h1 =>
  bnd (gD v1 false (some (x0, h1)) h1) fun v2 h2 =>
  bnd (gD v1 false (rec 68 [v2] h2) h2) fun v3 h3 =>
  bnd (pPick v1 (.b true) v3 h3) fun v4 h4 =>
  some (v4, h4)

noncomputable def D78 (rec : FuncId → List DV → Hp → Res) (n : Nat) (c : Code) (X : Nat → K) (k : K) : K := codeD CF rec 9 n c X (retK CF Try.f78) k

theorem s78m (rec : FuncId → List DV → Hp → Res) (n : Nat) : D78 rec n (cf Try.f78) x0 (retK CF Try.f78) = (fun (env : Env) (h : Hp) => s78 rec n (env 0) h) :=
  (by kernel_rfl)

theorem s78ok (rec : FuncId → List DV → Hp → Res) (n : Nat) (args : List DV) (h : Hp) : bodyD CF rec n 78 args h = s78 rec n (args.getD 0 undefD) h :=
  (by kernel_rfl : bodyD CF rec n 78 args h = D78 rec n (cf Try.f78) x0 (retK CF Try.f78) (argsE args) h).trans ((congrFun (congrFun (s78m rec n) (argsE args)) h).trans (by kernel_rfl))

/-- lex.reader).text$1 -/
noncomputable def s79 (rec : FuncId → List DV → Hp → Res) (n : Nat) (x0 : DV) (h0 : Hp) : Res :=
  bnd (pInt .neq x0 (.i .u8 (Int.ofNat 39)) h0) fun v1 h1 =>
  some (v1, h1)

noncomputable def D79 (rec : FuncId → List DV → Hp → Res) (n : Nat) (c : Code) (X : Nat → K) (k : K) : K := codeD CF rec 5 n c X (retK CF Try.f79) k

theorem s79m (rec : FuncId → List DV → Hp → Res) (n : Nat) : D79 rec n (cf Try.f79) x0 (retK CF Try.f79) = (fun (env : Env) (h : Hp) => s79 rec n (env 0) h) :=
  (by kernel_rfl)

theorem s79ok (rec : FuncId → List DV → Hp → Res) (n : Nat) (args : List DV) (h : Hp) : bodyD CF rec n 79 args h = s79 rec n (args.getD 0 undefD) h :=
  (by kernel_rfl : bodyD CF rec n 79 args h = D79 rec n (cf Try.f79) x0 (retK CF Try.f79) (argsE args) h).trans ((congrFun (congrFun (s79m rec n) (argsE args)) h).trans (by kernel_rfl))

noncomputable def s80a4 (rec : FuncId → List DV → Hp → Res) (n : Nat) (x4 x5 : DV) (h0 : Hp) : Res :=
  bnd (pLoadA 6 x5 h0) fun v1 h1 =>
  bnd (pStore 6 x4 v1 h1) fun _ h2 =>
  bnd (pLoadA 6 x4 h2) fun v3 _ =>
  some (v3, h2)

noncomputable def s80a5b (rec : FuncId → List DV → Hp → Res) (n : Nat) (kk5 : DV → DV → DV → Hp → Res) (x0 x4 x5 : DV) (h0 : Hp) : Res :=
    bnd (rec 51 [x0, (.i .i64 (Int.ofNat 2)), (.s [])] h0) fun v7 h7 =>
    ifD v7 (
      bnd (pField 1 x5 h7) fun v8 h8 =>
      bnd (pLoad1 v8 h8) fun v9 h9 =>
      bnd (rec 52 [x0] h9) fun v10 h10 =>
      cnd (sameR (pLoad1 v8 h10) v9 && true) (
      bnd (pPart1 1 v10 h10) fun v11 h11 =>
      bnd (pStr .add v9 v11 h11) fun v12 h12 =>
      bnd (pField 1 x5 h12) fun v13 h13 =>
      bnd (pStore 1 v13 v12 h13) fun v14 h14 =>
      bnd (pField 5 x5 (resv 1 h14)) fun v15 h15 =>
      bnd (pLoad1 v15 h15) fun v16 h16 =>
      bnd (rec 83 [x0] h16) fun v17 h17 =>
      cnd (sameR (pLoad1 v15 h17) v16 && true) (
      bnd (rec 82 [x0, v17] h17) fun v18 h18 =>
      cnd (sameR (pLoad1 v15 h18) v16 && true) (
      bnd (rec 81 [x0, v18] h18) fun v19 h19 =>
      cnd (sameR (pLoad1 v15 h19) v16 && true) (
      bnd (pBuildSliceAt (nthPos 0 h14.next) [(.i .i64 (Int.ofNat 0)), (.s []), (.i .i64 (Int.ofNat 0)), .l0, .l0, .l0] 1 [(0, 6, v19)] h19) fun v20 h20 =>
      bnd (pAppend 6 104 v16 v20 h20) fun v21 h21 =>
      bnd (pField 5 x5 h21) fun v22 h22 =>
      bnd (pStore 1 v22 v21 h22) fun v23 h23 =>
      kk5 x0 x4 x5 h23))))) (
      s80a4 rec n x4 x5 h7)

noncomputable def s80a5l (rec : FuncId → List DV → Hp → Res) (n : Nat) (m : Nat) : DV → DV → DV → Hp → Res :=
  Nat.rec (motive := fun _ => DV → DV → DV → Hp → Res) (fun _ _ _ _ => none) (fun _ ih => s80a5b rec n ih) m

noncomputable def s80a5 (rec : FuncId → List DV → Hp → Res) (n : Nat) : DV → DV → DV → Hp → Res := s80a5l rec n n

noncomputable def s80a3 (rec : FuncId → List DV → Hp → Res) (n : Nat) (x0 x4 x5 : DV) (h0 : Hp) : Res :=
  s80a5 rec n x0 x4 x5 h0

noncomputable def s80a2 (rec : FuncId → List DV → Hp → Res) (n : Nat) (x0 x3 x4 : DV) (h0 : Hp) : Res :=
  bnd (pLoadA 6 x3 h0) fun v75 h75 =>
  bnd (pBuildSlice [(.i .i64 (Int.ofNat 0)), (.s []), (.i .i64 (Int.ofNat 0)), .l0, .l0, .l0] 1 [(0, 6, v75)] h75) fun v76 h76 =>
  bnd (rec 86 [(.s []), v76] h76) fun v77 h77 =>
  bnd (pNew [(.i .i64 (Int.ofNat 0)), (.s []), (.i .i64 (Int.ofNat 0)), .l0, .l0, .l0] h77) fun v78 h78 =>
  bnd (pStore 6 v78 v77 h78) fun _ h79 =>
  s80a3 rec n x0 x4 v78 h79

noncomputable def s80a1 (rec : FuncId → List DV → Hp → Res) (n : Nat) (x0 x3 x4 : DV) (h0 : Hp) : Res :=
  bnd (rec 51 [x0, (.i .i64 (Int.ofNat 2)), (.s [])] h0) fun v95 h95 =>
  bnd (pUn .not v95 h95) fun v96 h96 =>
  ifD v96 (
    bnd (pLoadA 6 x3 h96) fun v97 h97 =>
    bnd (pStore 6 x4 v97 h97) fun _ h98 =>
    bnd (pLoadA 6 x4 h98) fun v99 _ =>
    some (v99, h98)) (
    s80a2 rec n x0 x3 x4 h96)

/-- parse.parser).keywords -/
noncomputable def s80 (rec : FuncId → List DV → Hp → Res) (n : Nat) (x0 x1 : DV) (h0 : Hp) : Res :=
  bnd (pBox x1 h0) fun v105 h105 =>
  bnd (pNew [(.i .i64 (Int.ofNat 0)), (.s []), (.i .i64 (Int.ofNat 0)), .l0, .l0, .l0] h105) fun v106 h106 =>
  s80a1 rec n x0 v105 v106 h106

noncomputable def D80 (rec : FuncId → List DV → Hp → Res) (n : Nat) (c : Code) (X : Nat → K) (k : K) : K := codeD CF rec 34 n c X (retK CF Try.f80) k

theorem s80a4e (rec : FuncId → List DV → Hp → Res) (n : Nat) : D80 rec n (cR (cR (cR (cR (cf Try.f80))))) x0 (retK CF Try.f80) = (fun (env : Env) (h : Hp) => s80a4 rec n (env 4) (env 5) h) :=
  (by kernel_rfl)

theorem s80a5q1 (rec : FuncId → List DV → Hp → Res) (n : Nat) (kk5 : DV → DV → DV → Hp → Res) (q0 : DV → DV → Hp → Res) : D80 rec n (cL (cL (cL (cR (cR (cR (cf Try.f80))))))) (xs x0 0 (fun (env : Env) (h : Hp) => q0 (env 4) (env 5) h)) (fun (env : Env) (h : Hp) => kk5 (env 0) (env 4) (env 5) h) = fun (env : Env) (h : Hp) =>
    bnd (rec 51 [(env 0), (.i .i64 (Int.ofNat 2)), (.s [])] h) fun v41 h41 =>
    ifD v41 (
      bnd (pField 1 (env 5) h41) fun v42 h42 =>
      bnd (pLoad1 v42 h42) fun v43 h43 =>
      bnd (rec 52 [(env 0)] h43) fun v44 h44 =>
      cnd (sameR (pLoad1 v42 h44) v43 && true) (
      bnd (pPart1 1 v44 h44) fun v45 h45 =>
      bnd (pStr .add v43 v45 h45) fun v46 h46 =>
      bnd (pField 1 (env 5) h46) fun v47 h47 =>
      bnd (pStore 1 v47 v46 h47) fun v48 h48 =>
      bnd (pField 5 (env 5) (resv 1 h48)) fun v49 h49 =>
      bnd (pLoad1 v49 h49) fun v50 h50 =>
      bnd (rec 83 [(env 0)] h50) fun v51 h51 =>
      cnd (sameR (pLoad1 v49 h51) v50 && true) (
      bnd (rec 82 [(env 0), v51] h51) fun v52 h52 =>
      cnd (sameR (pLoad1 v49 h52) v50 && true) (
      bnd (rec 81 [(env 0), v52] h52) fun v53 h53 =>
      cnd (sameR (pLoad1 v49 h53) v50 && true) (
      bnd (pBuildSliceAt (nthPos 0 h48.next) [(.i .i64 (Int.ofNat 0)), (.s []), (.i .i64 (Int.ofNat 0)), .l0, .l0, .l0] 1 [(0, 6, v53)] h53) fun v54 h54 =>
      bnd (pAppend 6 104 v50 v54 h54) fun v55 h55 =>
      bnd (pField 5 (env 5) h55) fun v56 h56 =>
      bnd (pStore 1 v56 v55 h56) fun v57 h57 =>
      kk5 (env 0) (env 4) (env 5) h57))))) (
      q0 (env 4) (env 5) h41) := by kernel_rfl

theorem s80a5q1u (rec : FuncId → List DV → Hp → Res) (n : Nat) (kk5 : DV → DV → DV → Hp → Res) : (fun (env : Env) (h : Hp) =>
    bnd (rec 51 [(env 0), (.i .i64 (Int.ofNat 2)), (.s [])] h) fun v58 h58 =>
    ifD v58 (
      bnd (pField 1 (env 5) h58) fun v59 h59 =>
      bnd (pLoad1 v59 h59) fun v60 h60 =>
      bnd (rec 52 [(env 0)] h60) fun v61 h61 =>
      cnd (sameR (pLoad1 v59 h61) v60 && true) (
      bnd (pPart1 1 v61 h61) fun v62 h62 =>
      bnd (pStr .add v60 v62 h62) fun v63 h63 =>
      bnd (pField 1 (env 5) h63) fun v64 h64 =>
      bnd (pStore 1 v64 v63 h64) fun v65 h65 =>
      bnd (pField 5 (env 5) (resv 1 h65)) fun v66 h66 =>
      bnd (pLoad1 v66 h66) fun v67 h67 =>
      bnd (rec 83 [(env 0)] h67) fun v68 h68 =>
      cnd (sameR (pLoad1 v66 h68) v67 && true) (
      bnd (rec 82 [(env 0), v68] h68) fun v69 h69 =>
      cnd (sameR (pLoad1 v66 h69) v67 && true) (
      bnd (rec 81 [(env 0), v69] h69) fun v70 h70 =>
      cnd (sameR (pLoad1 v66 h70) v67 && true) (
      bnd (pBuildSliceAt (nthPos 0 h65.next) [(.i .i64 (Int.ofNat 0)), (.s []), (.i .i64 (Int.ofNat 0)), .l0, .l0, .l0] 1 [(0, 6, v70)] h70) fun v71 h71 =>
      bnd (pAppend 6 104 v67 v71 h71) fun v72 h72 =>
      bnd (pField 5 (env 5) h72) fun v73 h73 =>
      bnd (pStore 1 v73 v72 h73) fun v74 h74 =>
      kk5 (env 0) (env 4) (env 5) h74))))) (
      s80a4 rec n (env 4) (env 5) h58)) = (fun (env : Env) (h : Hp) => s80a5b rec n kk5 (env 0) (env 4) (env 5) h) := by kernel_rfl

theorem s80a5be (rec : FuncId → List DV → Hp → Res) (n : Nat) (kk5 : DV → DV → DV → Hp → Res) : D80 rec n (cL (cL (cL (cR (cR (cR (cf Try.f80))))))) (xs x0 0 (fun (env : Env) (h : Hp) => s80a4 rec n (env 4) (env 5) h)) (fun (env : Env) (h : Hp) => kk5 (env 0) (env 4) (env 5) h) = (fun (env : Env) (h : Hp) => s80a5b rec n kk5 (env 0) (env 4) (env 5) h) :=
  (s80a5q1 rec n kk5 (s80a4 rec n)).trans (s80a5q1u rec n kk5)

theorem s80a5le (rec : FuncId → List DV → Hp → Res) (n : Nat) (m : Nat) : loopN (fun kk => D80 rec n (cL (cL (cL (cR (cR (cR (cf Try.f80))))))) (xs x0 0 (fun (env : Env) (h : Hp) => s80a4 rec n (env 4) (env 5) h)) kk) m = (fun (env : Env) (h : Hp) => s80a5l rec n m (env 0) (env 4) (env 5) h) := by
  induction m with
  | zero => exact (by kernel_rfl : loopN (fun kk => D80 rec n (cL (cL (cL (cR (cR (cR (cf Try.f80))))))) (xs x0 0 (fun (env : Env) (h : Hp) => s80a4 rec n (env 4) (env 5) h)) kk) 0 = (fun (env : Env) (h : Hp) => s80a5l rec n 0 (env 0) (env 4) (env 5) h))
  | succ m ih =>
    refine (by kernel_rfl : loopN (fun kk => D80 rec n (cL (cL (cL (cR (cR (cR (cf Try.f80))))))) (xs x0 0 (fun (env : Env) (h : Hp) => s80a4 rec n (env 4) (env 5) h)) kk) (m + 1) = D80 rec n (cL (cL (cL (cR (cR (cR (cf Try.f80))))))) (xs x0 0 (fun (env : Env) (h : Hp) => s80a4 rec n (env 4) (env 5) h)) (loopN (fun kk => D80 rec n (cL (cL (cL (cR (cR (cR (cf Try.f80))))))) (xs x0 0 (fun (env : Env) (h : Hp) => s80a4 rec n (env 4) (env 5) h)) kk) m)).trans ?_
    rw [ih]
    exact (s80a5be rec n (s80a5l rec n m)).trans (by kernel_rfl)

theorem s80a5e (rec : FuncId → List DV → Hp → Res) (n : Nat) : D80 rec n (cL (cL (cR (cR (cR (cf Try.f80)))))) (xs x0 0 (fun (env : Env) (h : Hp) => s80a4 rec n (env 4) (env 5) h)) (fun (env : Env) (h : Hp) => s80a4 rec n (env 4) (env 5) h) = (fun (env : Env) (h : Hp) => s80a5 rec n (env 0) (env 4) (env 5) h) :=
  (by kernel_rfl : D80 rec n (cL (cL (cR (cR (cR (cf Try.f80)))))) (xs x0 0 (fun (env : Env) (h : Hp) => s80a4 rec n (env 4) (env 5) h)) (fun (env : Env) (h : Hp) => s80a4 rec n (env 4) (env 5) h) = loopN (fun kk => D80 rec n (cL (cL (cL (cR (cR (cR (cf Try.f80))))))) (xs x0 0 (fun (env : Env) (h : Hp) => s80a4 rec n (env 4) (env 5) h)) kk) n).trans ((s80a5le rec n n).trans (by kernel_rfl))

theorem s80a3p2 (rec : FuncId → List DV → Hp → Res) (n : Nat) : D80 rec n (cR (cR (cR (cf Try.f80)))) x0 (retK CF Try.f80) = D80 rec n (cL (cR (cR (cR (cf Try.f80))))) x0 (fun (env : Env) (h : Hp) => s80a4 rec n (env 4) (env 5) h) :=
  congrArg (fun k => D80 rec n (cL (cR (cR (cR (cf Try.f80))))) x0 k) (s80a4e rec n)

theorem s80a3e (rec : FuncId → List DV → Hp → Res) (n : Nat) : D80 rec n (cR (cR (cR (cf Try.f80)))) x0 (retK CF Try.f80) = (fun (env : Env) (h : Hp) => s80a3 rec n (env 0) (env 4) (env 5) h) :=
  (s80a3p2 rec n).trans
  ((by kernel_rfl : D80 rec n (cL (cR (cR (cR (cf Try.f80))))) x0 (fun (env : Env) (h : Hp) => s80a4 rec n (env 4) (env 5) h) = D80 rec n (cL (cL (cR (cR (cR (cf Try.f80)))))) (xs x0 0 (fun (env : Env) (h : Hp) => s80a4 rec n (env 4) (env 5) h)) (fun (env : Env) (h : Hp) => s80a4 rec n (env 4) (env 5) h)).trans
  ((s80a5e rec n).trans (by kernel_rfl)))

theorem s80a2p3 (rec : FuncId → List DV → Hp → Res) (n : Nat) : D80 rec n (cR (cR (cf Try.f80))) x0 (retK CF Try.f80) = D80 rec n (cL (cR (cR (cf Try.f80)))) x0 (fun (env : Env) (h : Hp) => s80a3 rec n (env 0) (env 4) (env 5) h) :=
  congrArg (fun k => D80 rec n (cL (cR (cR (cf Try.f80)))) x0 k) (s80a3e rec n)

theorem s80a2q4 (rec : FuncId → List DV → Hp → Res) (n : Nat) (q0 : DV → DV → DV → Hp → Res) : D80 rec n (cL (cR (cR (cf Try.f80)))) x0 (fun (env : Env) (h : Hp) => q0 (env 0) (env 4) (env 5) h) = fun (env : Env) (h : Hp) =>
    bnd (pLoadA 6 (env 3) h) fun v85 h85 =>
    bnd (pBuildSlice [(.i .i64 (Int.ofNat 0)), (.s []), (.i .i64 (Int.ofNat 0)), .l0, .l0, .l0] 1 [(0, 6, v85)] h85) fun v86 h86 =>
    bnd (rec 86 [(.s []), v86] h86) fun v87 h87 =>
    bnd (pNew [(.i .i64 (Int.ofNat 0)), (.s []), (.i .i64 (Int.ofNat 0)), .l0, .l0, .l0] h87) fun v88 h88 =>
    bnd (pStore 6 v88 v87 h88) fun _ h89 =>
    q0 (env 0) (env 4) v88 h89 := by kernel_rfl

theorem s80a2q4u (rec : FuncId → List DV → Hp → Res) (n : Nat) : (fun (env : Env) (h : Hp) =>
    bnd (pLoadA 6 (env 3) h) fun v90 h90 =>
    bnd (pBuildSlice [(.i .i64 (Int.ofNat 0)), (.s []), (.i .i64 (Int.ofNat 0)), .l0, .l0, .l0] 1 [(0, 6, v90)] h90) fun v91 h91 =>
    bnd (rec 86 [(.s []), v91] h91) fun v92 h92 =>
    bnd (pNew [(.i .i64 (Int.ofNat 0)), (.s []), (.i .i64 (Int.ofNat 0)), .l0, .l0, .l0] h92) fun v93 h93 =>
    bnd (pStore 6 v93 v92 h93) fun _ h94 =>
    s80a3 rec n (env 0) (env 4) v93 h94) = (fun (env : Env) (h : Hp) => s80a2 rec n (env 0) (env 3) (env 4) h) := by kernel_rfl

theorem s80a2e (rec : FuncId → List DV → Hp → Res) (n : Nat) : D80 rec n (cR (cR (cf Try.f80))) x0 (retK CF Try.f80) = (fun (env : Env) (h : Hp) => s80a2 rec n (env 0) (env 3) (env 4) h) :=
  (s80a2p3 rec n).trans
  ((s80a2q4 rec n (s80a3 rec n)).trans (s80a2q4u rec n))

theorem s80a1p5 (rec : FuncId → List DV → Hp → Res) (n : Nat) : D80 rec n (cR (cf Try.f80)) x0 (retK CF Try.f80) = D80 rec n (cL (cR (cf Try.f80))) x0 (fun (env : Env) (h : Hp) => s80a2 rec n (env 0) (env 3) (env 4) h) :=
  congrArg (fun k => D80 rec n (cL (cR (cf Try.f80))) x0 k) (s80a2e rec n)

theorem s80a1e (rec : FuncId → List DV → Hp → Res) (n : Nat) : D80 rec n (cR (cf Try.f80)) x0 (retK CF Try.f80) = (fun (env : Env) (h : Hp) => s80a1 rec n (env 0) (env 3) (env 4) h) :=
  (s80a1p5 rec n).trans
  ((by kernel_rfl))

theorem s80p6 (rec : FuncId → List DV → Hp → Res) (n : Nat) : D80 rec n (cf Try.f80) x0 (retK CF Try.f80) = D80 rec n (cL (cf Try.f80)) x0 (fun (env : Env) (h : Hp) => s80a1 rec n (env 0) (env 3) (env 4) h) :=
  congrArg (fun k => D80 rec n (cL (cf Try.f80)) x0 k) (s80a1e rec n)

theorem s80q7 (rec : FuncId → List DV → Hp → Res) (n : Nat) (q0 : DV → DV → DV → Hp → Res) : D80 rec n (cL (cf Try.f80)) x0 (fun (env : Env) (h : Hp) => q0 (env 0) (env 3) (env 4) h) = fun (env : Env) (h : Hp) =>
    bnd (pBox (env 1) h) fun v109 h109 =>
    bnd (pNew [(.i .i64 (Int.ofNat 0)), (.s []), (.i .i64 (Int.ofNat 0)), .l0, .l0, .l0] h109) fun v110 h110 =>
    q0 (env 0) v109 v110 h110 := by kernel_rfl

theorem s80q7u (rec : FuncId → List DV → Hp → Res) (n : Nat) : (fun (env : Env) (h : Hp) =>
    bnd (pBox (env 1) h) fun v111 h111 =>
    bnd (pNew [(.i .i64 (Int.ofNat 0)), (.s []), (.i .i64 (Int.ofNat 0)), .l0, .l0, .l0] h111) fun v112 h112 =>
    s80a1 rec n (env 0) v111 v112 h112) = (fun (env : Env) (h : Hp) => s80 rec n (env 0) (env 1) h) := by kernel_rfl

theorem s80m (rec : FuncId → List DV → Hp → Res) (n : Nat) : D80 rec n (cf Try.f80) x0 (retK CF Try.f80) = (fun (env : Env) (h : Hp) => s80 rec n (env 0) (env 1) h) :=
  (s80p6 rec n).trans
  ((s80q7 rec n (s80a1 rec n)).trans (s80q7u rec n))

theorem s80ok (rec : FuncId → List DV → Hp → Res) (n : Nat) (args : List DV) (h : Hp) : bodyD CF rec n 80 args h = s80 rec n (args.getD 0 undefD) (args.getD 1 undefD) h :=
  (by kernel_rfl : bodyD CF rec n 80 args h = D80 rec n (cf Try.f80) x0 (retK CF Try.f80) (argsE args) h).trans ((congrFun (congrFun (s80m rec n) (argsE args)) h).trans (by kernel_rfl))

noncomputable def s81a2 (rec : FuncId → List DV → Hp → Res) (n : Nat) (x3 x4 : DV) (h0 : Hp) : Res :=
  bnd (pLoadA 6 x3 h0) fun v1 h1 =>
  bnd (pStore 6 x4 v1 h1) fun _ h2 =>
  bnd (pLoadA 6 x4 h2) fun v3 _ =>
  some (v3, h2)

noncomputable def s81a3b (rec : FuncId → List DV → Hp → Res) (n : Nat) (kk3 : DV → DV → DV → Hp → Res) (x0 x3 x4 : DV) (h0 : Hp) : Res :=
    bnd (rec 51 [x0, (.i .i64 (Int.ofNat 3)), (.s [])] h0) fun v7 h7 =>
    ifD v7 (
      bnd (rec 52 [x0] h7) fun v8 h8 =>
      bnd (pNew [(.i .i64 (Int.ofNat 0)), (.s []), (.i .i64 (Int.ofNat 0)), (.i .i64 (Int.ofNat 0))] h8) fun v9 h9 =>
      bnd (pStore 4 v9 v8 h9) fun _ h10 =>
      bnd (pField 1 v9 (resv 1 h10)) fun v11 h11 =>
      bnd (pLoad1 v11 h11) fun v12 h12 =>
      bnd (pLoadA 6 x3 h12) fun v13 h13 =>
      bnd (rec 83 [x0] h13) fun v14 h14 =>
      cnd (sameR (pLoadA 6 x3 h14) v13 && (sameR (pLoad1 v11 h14) v12 && true)) (
      bnd (rec 82 [x0, v14] h14) fun v15 h15 =>
      cnd (sameR (pLoadA 6 x3 h15) v13 && (sameR (pLoad1 v11 h15) v12 && true)) (
      bnd (pBuildSliceAt (nthPos 0 h10.next) [(.i .i64 (Int.ofNat 0)), (.s []), (.i .i64 (Int.ofNat 0)), .l0, .l0, .l0, (.i .i64 (Int.ofNat 0)), (.s []), (.i .i64 (Int.ofNat 0)), .l0, .l0, .l0] 2 [(0, 6, v13), (6, 6, v15)] h15) fun v16 h16 =>
      bnd (rec 86 [v12, v16] h16) fun v17 h17 =>
      bnd (pStore 6 x3 v17 h17) fun v18 h18 =>
      kk3 x0 x3 x4 h18))) (
      s81a2 rec n x3 x4 h7)

noncomputable def s81a3l (rec : FuncId → List DV → Hp → Res) (n : Nat) (m : Nat) : DV → DV → DV → Hp → Res :=
  Nat.rec (motive := fun _ => DV → DV → DV → Hp → Res) (fun _ _ _ _ => none) (fun _ ih => s81a3b rec n ih) m

noncomputable def s81a3 (rec : FuncId → List DV → Hp → Res) (n : Nat) : DV → DV → DV → Hp → Res := s81a3l rec n n

noncomputable def s81a1 (rec : FuncId → List DV → Hp → Res) (n : Nat) (x0 x3 x4 : DV) (h0 : Hp) : Res :=
  s81a3 rec n x0 x3 x4 h0

/-- parse.parser).binary -/
noncomputable def s81 (rec : FuncId → List DV → Hp → Res) (n : Nat) (x0 x1 : DV) (h0 : Hp) : Res :=
  bnd (pBox x1 h0) fun v55 h55 =>
  bnd (pNew [(.i .i64 (Int.ofNat 0)), (.s []), (.i .i64 (Int.ofNat 0)), .l0, .l0, .l0] h55) fun v56 h56 =>
  s81a1 rec n x0 v55 v56 h56

noncomputable def D81 (rec : FuncId → List DV → Hp → Res) (n : Nat) (c : Code) (X : Nat → K) (k : K) : K := codeD CF rec 20 n c X (retK CF Try.f81) k

theorem s81a2e (rec : FuncId → List DV → Hp → Res) (n : Nat) : D81 rec n (cR (cR (cf Try.f81))) x0 (retK CF Try.f81) = (fun (env : Env) (h : Hp) => s81a2 rec n (env 3) (env 4) h) :=
  (by kernel_rfl)

theorem s81a3q1 (rec : FuncId → List DV → Hp → Res) (n : Nat) (kk3 : DV → DV → DV → Hp → Res) (q0 : DV → DV → Hp → Res) : D81 rec n (cL (cL (cL (cR (cf Try.f81))))) (xs x0 0 (fun (env : Env) (h : Hp) => q0 (env 3) (env 4) h)) (fun (env : Env) (h : Hp) => kk3 (env 0) (env 3) (env 4) h) = fun (env : Env) (h : Hp) =>
    bnd (rec 51 [(env 0), (.i .i64 (Int.ofNat 3)), (.s [])] h) fun v31 h31 =>
    ifD v31 (
      bnd (rec 52 [(env 0)] h31) fun v32 h32 =>
      bnd (pNew [(.i .i64 (Int.ofNat 0)), (.s []), (.i .i64 (Int.ofNat 0)), (.i .i64 (Int.ofNat 0))] h32) fun v33 h33 =>
      bnd (pStore 4 v33 v32 h33) fun _ h34 =>
      bnd (pField 1 v33 (resv 1 h34)) fun v35 h35 =>
      bnd (pLoad1 v35 h35) fun v36 h36 =>
      bnd (pLoadA 6 (env 3) h36) fun v37 h37 =>
      bnd (rec 83 [(env 0)] h37) fun v38 h38 =>
      cnd (sameR (pLoadA 6 (env 3) h38) v37 && (sameR (pLoad1 v35 h38) v36 && true)) (
      bnd (rec 82 [(env 0), v38] h38) fun v39 h39 =>
      cnd (sameR (pLoadA 6 (env 3) h39) v37 && (sameR (pLoad1 v35 h39) v36 && true)) (
      bnd (pBuildSliceAt (nthPos 0 h34.next) [(.i .i64 (Int.ofNat 0)), (.s []), (.i .i64 (Int.ofNat 0)), .l0, .l0, .l0, (.i .i64 (Int.ofNat 0)), (.s []), (.i .i64 (Int.ofNat 0)), .l0, .l0, .l0] 2 [(0, 6, v37), (6, 6, v39)] h39) fun v40 h40 =>
      bnd (rec 86 [v36, v40] h40) fun v41 h41 =>
      bnd (pStore 6 (env 3) v41 h41) fun v42 h42 =>
      kk3 (env 0) (env 3) (env 4) h42))) (
      q0 (env 3) (env 4) h31) := by kernel_rfl

theorem s81a3q1u (rec : FuncId → List DV → Hp → Res) (n : Nat) (kk3 : DV → DV → DV → Hp → Res) : (fun (env : Env) (h : Hp) =>
    bnd (rec 51 [(env 0), (.i .i64 (Int.ofNat 3)), (.s [])] h) fun v43 h43 =>
    ifD v43 (
      bnd (rec 52 [(env 0)] h43) fun v44 h44 =>
      bnd (pNew [(.i .i64 (Int.ofNat 0)), (.s []), (.i .i64 (Int.ofNat 0)), (.i .i64 (Int.ofNat 0))] h44) fun v45 h45 =>
      bnd (pStore 4 v45 v44 h45) fun _ h46 =>
      bnd (pField 1 v45 (resv 1 h46)) fun v47 h47 =>
      bnd (pLoad1 v47 h47) fun v48 h48 =>
      bnd (pLoadA 6 (env 3) h48) fun v49 h49 =>
      bnd (rec 83 [(env 0)] h49) fun v50 h50 =>
      cnd (sameR (pLoadA 6 (env 3) h50) v49 && (sameR (pLoad1 v47 h50) v48 && true)) (
      bnd (rec 82 [(env 0), v50] h50) fun v51 h51 =>
      cnd (sameR (pLoadA 6 (env 3) h51) v49 && (sameR (pLoad1 v47 h51) v48 && true)) (
      bnd (pBuildSliceAt (nthPos 0 h46.next) [(.i .i64 (Int.ofNat 0)), (.s []), (.i .i64 (Int.ofNat 0)), .l0, .l0, .l0, (.i .i64 (Int.ofNat 0)), (.s []), (.i .i64 (Int.ofNat 0)), .l0, .l0, .l0] 2 [(0, 6, v49), (6, 6, v51)] h51) fun v52 h52 =>
      bnd (rec 86 [v48, v52] h52) fun v53 h53 =>
      bnd (pStore 6 (env 3) v53 h53) fun v54 h54 =>
      kk3 (env 0) (env 3) (env 4) h54))) (
      s81a2 rec n (env 3) (env 4) h43)) = (fun (env : Env) (h : Hp) => s81a3b rec n kk3 (env 0) (env 3) (env 4) h) := by kernel_rfl

theorem s81a3be (rec : FuncId → List DV → Hp → Res) (n : Nat) (kk3 : DV → DV → DV → Hp → Res) : D81 rec n (cL (cL (cL (cR (cf Try.f81))))) (xs x0 0 (fun (env : Env) (h : Hp) => s81a2 rec n (env 3) (env 4) h)) (fun (env : Env) (h : Hp) => kk3 (env 0) (env 3) (env 4) h) = (fun (env : Env) (h : Hp) => s81a3b rec n kk3 (env 0) (env 3) (env 4) h) :=
  (s81a3q1 rec n kk3 (s81a2 rec n)).trans (s81a3q1u rec n kk3)

theorem s81a3le (rec : FuncId → List DV → Hp → Res) (n : Nat) (m : Nat) : loopN (fun kk => D81 rec n (cL (cL (cL (cR (cf Try.f81))))) (xs x0 0 (fun (env : Env) (h : Hp) => s81a2 rec n (env 3) (env 4) h)) kk) m = (fun (env : Env) (h : Hp) => s81a3l rec n m (env 0) (env 3) (env 4) h) := by
  induction m with
  | zero => exact (by kernel_rfl : loopN (fun kk => D81 rec n (cL (cL (cL (cR (cf Try.f81))))) (xs x0 0 (fun (env : Env) (h : Hp) => s81a2 rec n (env 3) (env 4) h)) kk) 0 = (fun (env : Env) (h : Hp) => s81a3l rec n 0 (env 0) (env 3) (env 4) h))
  | succ m ih =>
    refine (by kernel_rfl : loopN (fun kk => D81 rec n (cL (cL (cL (cR (cf Try.f81))))) (xs x0 0 (fun (env : Env) (h : Hp) => s81a2 rec n (env 3) (env 4) h)) kk) (m + 1) = D81 rec n (cL (cL (cL (cR (cf Try.f81))))) (xs x0 0 (fun (env : Env) (h : Hp) => s81a2 rec n (env 3) (env 4) h)) (loopN (fun kk => D81 rec n (cL (cL (cL (cR (cf Try.f81))))) (xs x0 0 (fun (env : Env) (h : Hp) => s81a2 rec n (env 3) (env 4) h)) kk) m)).trans ?_
    rw [ih]
    exact (s81a3be rec n (s81a3l rec n m)).trans (by kernel_rfl)

theorem s81a3e (rec : FuncId → List DV → Hp → Res) (n : Nat) : D81 rec n (cL (cL (cR (cf Try.f81)))) (xs x0 0 (fun (env : Env) (h : Hp) => s81a2 rec n (env 3) (env 4) h)) (fun (env : Env) (h : Hp) => s81a2 rec n (env 3) (env 4) h) = (fun (env : Env) (h : Hp) => s81a3 rec n (env 0) (env 3) (env 4) h) :=
  (by kernel_rfl : D81 rec n (cL (cL (cR (cf Try.f81)))) (xs x0 0 (fun (env : Env) (h : Hp) => s81a2 rec n (env 3) (env 4) h)) (fun (env : Env) (h : Hp) => s81a2 rec n (env 3) (env 4) h) = loopN (fun kk => D81 rec n (cL (cL (cL (cR (cf Try.f81))))) (xs x0 0 (fun (env : Env) (h : Hp) => s81a2 rec n (env 3) (env 4) h)) kk) n).trans ((s81a3le rec n n).trans (by kernel_rfl))

theorem s81a1p2 (rec : FuncId → List DV → Hp → Res) (n : Nat) : D81 rec n (cR (cf Try.f81)) x0 (retK CF Try.f81) = D81 rec n (cL (cR (cf Try.f81))) x0 (fun (env : Env) (h : Hp) => s81a2 rec n (env 3) (env 4) h) :=
  congrArg (fun k => D81 rec n (cL (cR (cf Try.f81))) x0 k) (s81a2e rec n)

theorem s81a1e (rec : FuncId → List DV → Hp → Res) (n : Nat) : D81 rec n (cR (cf Try.f81)) x0 (retK CF Try.f81) = (fun (env : Env) (h : Hp) => s81a1 rec n (env 0) (env 3) (env 4) h) :=
  (s81a1p2 rec n).trans
  ((by kernel_rfl : D81 rec n (cL (cR (cf Try.f81))) x0 (fun (env : Env) (h : Hp) => s81a2 rec n (env 3) (env 4) h) = D81 rec n (cL (cL (cR (cf Try.f81)))) (xs x0 0 (fun (env : Env) (h : Hp) => s81a2 rec n (env 3) (env 4) h)) (fun (env : Env) (h : Hp) => s81a2 rec n (env 3) (env 4) h)).trans
  ((s81a3e rec n).trans (by kernel_rfl)))

theorem s81p3 (rec : FuncId → List DV → Hp → Res) (n : Nat) : D81 rec n (cf Try.f81) x0 (retK CF Try.f81) = D81 rec n (cL (cf Try.f81)) x0 (fun (env : Env) (h : Hp) => s81a1 rec n (env 0) (env 3) (env 4) h) :=
  congrArg (fun k => D81 rec n (cL (cf Try.f81)) x0 k) (s81a1e rec n)

theorem s81q4 (rec : FuncId → List DV → Hp → Res) (n : Nat) (q0 : DV → DV → DV → Hp → Res) : D81 rec n (cL (cf Try.f81)) x0 (fun (env : Env) (h : Hp) => q0 (env 0) (env 3) (env 4) h) = fun (env : Env) (h : Hp) =>
    bnd (pBox (env 1) h) fun v59 h59 =>
    bnd (pNew [(.i .i64 (Int.ofNat 0)), (.s []), (.i .i64 (Int.ofNat 0)), .l0, .l0, .l0] h59) fun v60 h60 =>
    q0 (env 0) v59 v60 h60 := by kernel_rfl

theorem s81q4u (rec : FuncId → List DV → Hp → Res) (n : Nat) : (fun (env : Env) (h : Hp) =>
    bnd (pBox (env 1) h) fun v61 h61 =>
    bnd (pNew [(.i .i64 (Int.ofNat 0)), (.s []), (.i .i64 (Int.ofNat 0)), .l0, .l0, .l0] h61) fun v62 h62 =>
    s81a1 rec n (env 0) v61 v62 h62) = (fun (env : Env) (h : Hp) => s81 rec n (env 0) (env 1) h) := by kernel_rfl

theorem s81m (rec : FuncId → List DV → Hp → Res) (n : Nat) : D81 rec n (cf Try.f81) x0 (retK CF Try.f81) = (fun (env : Env) (h : Hp) => s81 rec n (env 0) (env 1) h) :=
  (s81p3 rec n).trans
  ((s81q4 rec n (s81a1 rec n)).trans (s81q4u rec n))

theorem s81ok (rec : FuncId → List DV → Hp → Res) (n : Nat) (args : List DV) (h : Hp) : bodyD CF rec n 81 args h = s81 rec n (args.getD 0 undefD) (args.getD 1 undefD) h :=
  (by kernel_rfl : bodyD CF rec n 81 args h = D81 rec n (cf Try.f81) x0 (retK CF Try.f81) (argsE args) h).trans ((congrFun (congrFun (s81m rec n) (argsE args)) h).trans (by kernel_rfl))

noncomputable def s82a2 (rec : FuncId → List DV → Hp → Res) (n : Nat) (x3 x4 : DV) (h0 : Hp) : Res :=
  bnd (pLoadA 6 x3 h0) fun v1 h1 =>
  bnd (pStore 6 x4 v1 h1) fun _ h2 =>
  bnd (pLoadA 6 x4 h2) fun v3 _ =>
  some (v3, h2)

noncomputable def s82a3b (rec : FuncId → List DV → Hp → Res) (n : Nat) (kk3 : DV → DV → DV → Hp → Res) (x0 x3 x4 : DV) (h0 : Hp) : Res :=
    bnd (rec 51 [x0, (.i .i64 (Int.ofNat 1)), (.s [])] h0) fun v7 h7 =>
    ifD v7 (
      bnd (rec 52 [x0] (resv 1 h7)) fun v8 h8 =>
      bnd (pPart1 1 v8 h8) fun v9 h9 =>
      bnd (pLoadA 6 x3 h9) fun v10 h10 =>
      cnd (sameR (pLoadA 6 x3 (resv 1 h7)) v10 && true) (
      bnd (pBuildSliceAt (nthPos 0 h7.next) [(.i .i64 (Int.ofNat 0)), (.s []), (.i .i64 (Int.ofNat 0)), .l0, .l0, .l0] 1 [(0, 6, v10)] h10) fun v11 h11 =>
      bnd (rec 86 [v9, v11] h11) fun v12 h12 =>
      bnd (pStore 6 x3 v12 h12) fun v13 h13 =>
      kk3 x0 x3 x4 h13)) (
      s82a2 rec n x3 x4 h7)

noncomputable def s82a3l (rec : FuncId → List DV → Hp → Res) (n : Nat) (m : Nat) : DV → DV → DV → Hp → Res :=
  Nat.rec (motive := fun _ => DV → DV → DV → Hp → Res) (fun _ _ _ _ => none) (fun _ ih => s82a3b rec n ih) m

noncomputable def s82a3 (rec : FuncId → List DV → Hp → Res) (n : Nat) : DV → DV → DV → Hp → Res := s82a3l rec n n

noncomputable def s82a1 (rec : FuncId → List DV → Hp → Res) (n : Nat) (x0 x3 x4 : DV) (h0 : Hp) : Res :=
  s82a3 rec n x0 x3 x4 h0

/-- parse.parser).unary -/
noncomputable def s82 (rec : FuncId → List DV → Hp → Res) (n : Nat) (x0 x1 : DV) (h0 : Hp) : Res :=
  bnd (pBox x1 h0) fun v35 h35 =>
  bnd (pNew [(.i .i64 (Int.ofNat 0)), (.s []), (.i .i64 (Int.ofNat 0)), .l0, .l0, .l0] h35) fun v36 h36 =>
  s82a1 rec n x0 v35 v36 h36

noncomputable def D82 (rec : FuncId → List DV → Hp → Res) (n : Nat) (c : Code) (X : Nat → K) (k : K) : K := codeD CF rec 14 n c X (retK CF Try.f82) k

theorem s82a2e (rec : FuncId → List DV → Hp → Res) (n : Nat) : D82 rec n (cR (cR (cf Try.f82))) x0 (retK CF Try.f82) = (fun (env : Env) (h : Hp) => s82a2 rec n (env 3) (env 4) h) :=
  (by kernel_rfl)

theorem s82a3q1 (rec : FuncId → List DV → Hp → Res) (n : Nat) (kk3 : DV → DV → DV → Hp → Res) (q0 : DV → DV → Hp → Res) : D82 rec n (cL (cL (cL (cR (cf Try.f82))))) (xs x0 0 (fun (env : Env) (h : Hp) => q0 (env 3) (env 4) h)) (fun (env : Env) (h : Hp) => kk3 (env 0) (env 3) (env 4) h) = fun (env : Env) (h : Hp) =>
    bnd (rec 51 [(env 0), (.i .i64 (Int.ofNat 1)), (.s [])] h) fun v21 h21 =>
    ifD v21 (
      bnd (rec 52 [(env 0)] (resv 1 h21)) fun v22 h22 =>
      bnd (pPart1 1 v22 h22) fun v23 h23 =>
      bnd (pLoadA 6 (env 3) h23) fun v24 h24 =>
      cnd (sameR (pLoadA 6 (env 3) (resv 1 h21)) v24 && true) (
      bnd (pBuildSliceAt (nthPos 0 h21.next) [(.i .i64 (Int.ofNat 0)), (.s []), (.i .i64 (Int.ofNat 0)), .l0, .l0, .l0] 1 [(0, 6, v24)] h24) fun v25 h25 =>
      bnd (rec 86 [v23, v25] h25) fun v26 h26 =>
      bnd (pStore 6 (env 3) v26 h26) fun v27 h27 =>
      kk3 (env 0) (env 3) (env 4) h27)) (
      q0 (env 3) (env 4) h21) := by kernel_rfl

theorem s82a3q1u (rec : FuncId → List DV → Hp → Res) (n : Nat) (kk3 : DV → DV → DV → Hp → Res) : (fun (env : Env) (h : Hp) =>
    bnd (rec 51 [(env 0), (.i .i64 (Int.ofNat 1)), (.s [])] h) fun v28 h28 =>
    ifD v28 (
      bnd (rec 52 [(env 0)] (resv 1 h28)) fun v29 h29 =>
      bnd (pPart1 1 v29 h29) fun v30 h30 =>
      bnd (pLoadA 6 (env 3) h30) fun v31 h31 =>
      cnd (sameR (pLoadA 6 (env 3) (resv 1 h28)) v31 && true) (
      bnd (pBuildSliceAt (nthPos 0 h28.next) [(.i .i64 (Int.ofNat 0)), (.s []), (.i .i64 (Int.ofNat 0)), .l0, .l0, .l0] 1 [(0, 6, v31)] h31) fun v32 h32 =>
      bnd (rec 86 [v30, v32] h32) fun v33 h33 =>
      bnd (pStore 6 (env 3) v33 h33) fun v34 h34 =>
      kk3 (env 0) (env 3) (env 4) h34)) (
      s82a2 rec n (env 3) (env 4) h28)) = (fun (env : Env) (h : Hp) => s82a3b rec n kk3 (env 0) (env 3) (env 4) h) := by kernel_rfl

theorem s82a3be (rec : FuncId → List DV → Hp → Res) (n : Nat) (kk3 : DV → DV → DV → Hp → Res) : D82 rec n (cL (cL (cL (cR (cf Try.f82))))) (xs x0 0 (fun (env : Env) (h : Hp) => s82a2 rec n (env 3) (env 4) h)) (fun (env : Env) (h : Hp) => kk3 (env 0) (env 3) (env 4) h) = (fun (env : Env) (h : Hp) => s82a3b rec n kk3 (env 0) (env 3) (env 4) h) :=
  (s82a3q1 rec n kk3 (s82a2 rec n)).trans (s82a3q1u rec n kk3)

theorem s82a3le (rec : FuncId → List DV → Hp → Res) (n : Nat) (m : Nat) : loopN (fun kk => D82 rec n (cL (cL (cL (cR (cf Try.f82))))) (xs x0 0 (fun (env : Env) (h : Hp) => s82a2 rec n (env 3) (env 4) h)) kk) m = (fun (env : Env) (h : Hp) => s82a3l rec n m (env 0) (env 3) (env 4) h) := by
  induction m with
  | zero => exact (by kernel_rfl : loopN (fun kk => D82 rec n (cL (cL (cL (cR (cf Try.f82))))) (xs x0 0 (fun (env : Env) (h : Hp) => s82a2 rec n (env 3) (env 4) h)) kk) 0 = (fun (env : Env) (h : Hp) => s82a3l rec n 0 (env 0) (env 3) (env 4) h))
  | succ m ih =>
    refine (by kernel_rfl : loopN (fun kk => D82 rec n (cL (cL (cL (cR (cf Try.f82))))) (xs x0 0 (fun (env : Env) (h : Hp) => s82a2 rec n (env 3) (env 4) h)) kk) (m + 1) = D82 rec n (cL (cL (cL (cR (cf Try.f82))))) (xs x0 0 (fun (env : Env) (h : Hp) => s82a2 rec n (env 3) (env 4) h)) (loopN (fun kk => D82 rec n (cL (cL (cL (cR (cf Try.f82))))) (xs x0 0 (fun (env : Env) (h : Hp) => s82a2 rec n (env 3) (env 4) h)) kk) m)).trans ?_
    rw [ih]
    exact (s82a3be rec n (s82a3l rec n m)).trans (by kernel_rfl)

theorem s82a3e (rec : FuncId → List DV → Hp → Res) (n : Nat) : D82 rec n (cL (cL (cR (cf Try.f82)))) (xs x0 0 (fun (env : Env) (h : Hp) => s82a2 rec n (env 3) (env 4) h)) (fun (env : Env) (h : Hp) => s82a2 rec n (env 3) (env 4) h) = (fun (env : Env) (h : Hp) => s82a3 rec n (env 0) (env 3) (env 4) h) :=
  (by kernel_rfl : D82 rec n (cL (cL (cR (cf Try.f82)))) (xs x0 0 (fun (env : Env) (h : Hp) => s82a2 rec n (env 3) (env 4) h)) (fun (env : Env) (h : Hp) => s82a2 rec n (env 3) (env 4) h) = loopN (fun kk => D82 rec n (cL (cL (cL (cR (cf Try.f82))))) (xs x0 0 (fun (env : Env) (h : Hp) => s82a2 rec n (env 3) (env 4) h)) kk) n).trans ((s82a3le rec n n).trans (by kernel_rfl))

theorem s82a1p2 (rec : FuncId → List DV → Hp → Res) (n : Nat) : D82 rec n (cR (cf Try.f82)) x0 (retK CF Try.f82) = D82 rec n (cL (cR (cf Try.f82))) x0 (fun (env : Env) (h : Hp) => s82a2 rec n (env 3) (env 4) h) :=
  congrArg (fun k => D82 rec n (cL (cR (cf Try.f82))) x0 k) (s82a2e rec n)

theorem s82a1e (rec : FuncId → List DV → Hp → Res) (n : Nat) : D82 rec n (cR (cf Try.f82)) x0 (retK CF Try.f82) = (fun (env : Env) (h : Hp) => s82a1 rec n (env 0) (env 3) (env 4) h) :=
  (s82a1p2 rec n).trans
  ((by kernel_rfl : D82 rec n (cL (cR (cf Try.f82))) x0 (fun (env : Env) (h : Hp) => s82a2 rec n (env 3) (env 4) h) = D82 rec n (cL (cL (cR (cf Try.f82)))) (xs x0 0 (fun (env : Env) (h : Hp) => s82a2 rec n (env 3) (env 4) h)) (fun (env : Env) (h : Hp) => s82a2 rec n (env 3) (env 4) h)).trans
  ((s82a3e rec n).trans (by kernel_rfl)))

theorem s82p3 (rec : FuncId → List DV → Hp → Res) (n : Nat) : D82 rec n (cf Try.f82) x0 (retK CF Try.f82) = D82 rec n (cL (cf Try.f82)) x0 (fun (env : Env) (h : Hp) => s82a1 rec n (env 0) (env 3) (env 4) h) :=
  congrArg (fun k => D82 rec n (cL (cf Try.f82)) x0 k) (s82a1e rec n)

theorem s82q4 (rec : FuncId → List DV → Hp → Res) (n : Nat) (q0 : DV → DV → DV → Hp → Res) : D82 rec n (cL (cf Try.f82)) x0 (fun (env : Env) (h : Hp) => q0 (env 0) (env 3) (env 4) h) = fun (env : Env) (h : Hp) =>
    bnd (pBox (env 1) h) fun v39 h39 =>
    bnd (pNew [(.i .i64 (Int.ofNat 0)), (.s []), (.i .i64 (Int.ofNat 0)), .l0, .l0, .l0] h39) fun v40 h40 =>
    q0 (env 0) v39 v40 h40 := by kernel_rfl

theorem s82q4u (rec : FuncId → List DV → Hp → Res) (n : Nat) : (fun (env : Env) (h : Hp) =>
    bnd (pBox (env 1) h) fun v41 h41 =>
    bnd (pNew [(.i .i64 (Int.ofNat 0)), (.s []), (.i .i64 (Int.ofNat 0)), .l0, .l0, .l0] h41) fun v42 h42 =>
    s82a1 rec n (env 0) v41 v42 h42) = (fun (env : Env) (h : Hp) => s82 rec n (env 0) (env 1) h) := by kernel_rfl

theorem s82m (rec : FuncId → List DV → Hp → Res) (n : Nat) : D82 rec n (cf Try.f82) x0 (retK CF Try.f82) = (fun (env : Env) (h : Hp) => s82 rec n (env 0) (env 1) h) :=
  (s82p3 rec n).trans
  ((s82q4 rec n (s82a1 rec n)).trans (s82q4u rec n))

theorem s82ok (rec : FuncId → List DV → Hp → Res) (n : Nat) (args : List DV) (h : Hp) : bodyD CF rec n 82 args h = s82 rec n (args.getD 0 undefD) (args.getD 1 undefD) h :=
  (by kernel_rfl : bodyD CF rec n 82 args h = D82 rec n (cf Try.f82) x0 (retK CF Try.f82) (argsE args) h).trans ((congrFun (congrFun (s82m rec n) (argsE args)) h).trans (by kernel_rfl))

noncomputable def s83a3 (rec : FuncId → List DV → Hp → Res) (n : Nat) (x2 : DV) (h0 : Hp) : Res :=
  bnd (pBuild [(.i .i64 (Int.ofNat 0)), (.s []), (.i .i64 (Int.ofNat 0)), .l0, .l0, .l0] [] h0) fun v1 h1 =>
  bnd (pStore 6 x2 v1 h1) fun _ h2 =>
  bnd (pLoadA 6 x2 h2) fun v3 _ =>
  some (v3, h2)

noncomputable def s83a2 (rec : FuncId → List DV → Hp → Res) (n : Nat) (x0 x2 : DV) (h0 : Hp) : Res :=
  bnd (rec 55 [x0, (.i .i64 (Int.ofNat 0))] h0) fun v7 h7 =>
  bnd (pNew [(.i .i64 (Int.ofNat 0)), (.s []), (.i .i64 (Int.ofNat 0)), (.i .i64 (Int.ofNat 0))] h7) fun v8 h8 =>
  bnd (pStore 4 v8 v7 h8) fun _ h9 =>
  bnd (pNil x0 h9) fun v10 h10 =>
  bnd (pField 3 v10 h10) fun v11 h11 =>
  bnd (pLoad1 v11 h11) fun v12 h12 =>
  bnd (pInt .neq v12 (.i .i64 (Int.ofNat 0)) h12) fun v13 h13 =>
  ifD v13 (
    s83a3 rec n x2 h13) (
    bnd (pField 0 v8 h13) fun v14 h14 =>
    bnd (pLoad1 v14 h14) fun v15 h15 =>
    bnd (pInt .eql v15 (.i .i64 (Int.ofNat 1)) h15) fun v16 h16 =>
    ifD v16 (
      bnd (rec 52 [x0] h16) fun v17 h17 =>
      bnd (pPart1 1 v17 h17) fun v18 h18 =>
      bnd (pBuild [(.i .i64 (Int.ofNat 0)), (.s []), (.i .i64 (Int.ofNat 0)), .l0, .l0, .l0] [(0, 1, (.i .i64 (Int.ofNat 5))), (1, 1, v18)] h18) fun v19 h19 =>
      bnd (pStore 6 x2 v19 h19) fun _ h20 =>
      bnd (pLoadA 6 x2 h20) fun v21 _ =>
      some (v21, h20)) (
      bnd (pField 0 v8 h16) fun v22 h22 =>
      bnd (pLoad1 v22 h22) fun v23 h23 =>
      bnd (pInt .eql v23 (.i .i64 (Int.ofNat 7)) h23) fun v24 h24 =>
      ifD v24 (
        bnd (rec 88 [x0, (.f 89 [x0] [])] h24) fun v25 h25 =>
        bnd (pStore 6 x2 v25 h25) fun _ h26 =>
        bnd (pLoadA 6 x2 h26) fun v27 _ =>
        some (v27, h26)) (
        bnd (rec 51 [x0, (.i .i64 (Int.ofNat 10)), (.s [40])] h24) fun v28 h28 =>
        ifD v28 (
          bnd (rec 88 [x0, (.f 90 [x0] [])] h28) fun v29 h29 =>
          bnd (pStore 6 x2 v29 h29) fun _ h30 =>
          bnd (pLoadA 6 x2 h30) fun v31 _ =>
          some (v31, h30)) (
          bnd (rec 51 [x0, (.i .i64 (Int.ofNat 10)), (.s [91])] h28) fun v32 h32 =>
          ifD v32 (
            bnd (rec 88 [x0, (.f 91 [x0] [])] h32) fun v33 h33 =>
            bnd (pStore 6 x2 v33 h33) fun _ h34 =>
            bnd (pLoadA 6 x2 h34) fun v35 _ =>
            some (v35, h34)) (
            bnd (pLoadA 4 v8 h32) fun v36 h36 =>
            bnd (rec 54 [x0, v36, (.i .i64 (Int.ofNat 13))] h36) fun v37 h37 =>
            s83a3 rec n x2 h37)))))

noncomputable def s83a1 (rec : FuncId → List DV → Hp → Res) (n : Nat) (x0 x2 : DV) (h0 : Hp) : Res :=
  bnd (rec 87 [x0] h0) fun v131 h131 =>
  bnd (pExtract 0 v131 h131) fun v132 h132 =>
  bnd (pExtract 1 v131 h132) fun v133 h133 =>
  bnd (pNew [(.i .i64 (Int.ofNat 0)), (.s []), (.i .i64 (Int.ofNat 0)), .l0, .l0, .l0] h133) fun v134 h134 =>
  bnd (pStore 6 v134 v132 h134) fun _ h135 =>
  ifD v133 (
    bnd (pLoadA 6 v134 h135) fun v136 h136 =>
    bnd (pStore 6 x2 v136 h136) fun _ h137 =>
    bnd (pLoadA 6 x2 h137) fun v138 _ =>
    some (v138, h137)) (
    s83a2 rec n x0 x2 h135)

/-- parse.parser).primary -/
noncomputable def s83 (rec : FuncId → List DV → Hp → Res) (n : Nat) (x0 : DV) (h0 : Hp) : Res :=
  bnd (pNew [(.i .i64 (Int.ofNat 0)), (.s []), (.i .i64 (Int.ofNat 0)), .l0, .l0, .l0] h0) fun v163 h163 =>
  s83a1 rec n x0 v163 h163

noncomputable def D83 (rec : FuncId → List DV → Hp → Res) (n : Nat) (c : Code) (X : Nat → K) (k : K) : K := codeD CF rec 55 n c X (retK CF Try.f83) k

theorem s83a3e (rec : FuncId → List DV → Hp → Res) (n : Nat) : D83 rec n (cR (cR (cR (cf Try.f83)))) x0 (retK CF Try.f83) = (fun (env : Env) (h : Hp) => s83a3 rec n (env 2) h) :=
  (by kernel_rfl)

theorem s83a2p1 (rec : FuncId → List DV → Hp → Res) (n : Nat) : D83 rec n (cR (cR (cf Try.f83))) x0 (retK CF Try.f83) = D83 rec n (cL (cR (cR (cf Try.f83)))) x0 (fun (env : Env) (h : Hp) => s83a3 rec n (env 2) h) :=
  congrArg (fun k => D83 rec n (cL (cR (cR (cf Try.f83)))) x0 k) (s83a3e rec n)

theorem s83a2q2 (rec : FuncId → List DV → Hp → Res) (n : Nat) (q0 : DV → Hp → Res) : D83 rec n (cL (cR (cR (cf Try.f83)))) x0 (fun (env : Env) (h : Hp) => q0 (env 2) h) = fun (env : Env) (h : Hp) =>
    bnd (rec 55 [(env 0), (.i .i64 (Int.ofNat 0))] h) fun v69 h69 =>
    bnd (pNew [(.i .i64 (Int.ofNat 0)), (.s []), (.i .i64 (Int.ofNat 0)), (.i .i64 (Int.ofNat 0))] h69) fun v70 h70 =>
    bnd (pStore 4 v70 v69 h70) fun _ h71 =>
    bnd (pNil (env 0) h71) fun v72 h72 =>
    bnd (pField 3 v72 h72) fun v73 h73 =>
    bnd (pLoad1 v73 h73) fun v74 h74 =>
    bnd (pInt .neq v74 (.i .i64 (Int.ofNat 0)) h74) fun v75 h75 =>
    ifD v75 (
      q0 (env 2) h75) (
      bnd (pField 0 v70 h75) fun v76 h76 =>
      bnd (pLoad1 v76 h76) fun v77 h77 =>
      bnd (pInt .eql v77 (.i .i64 (Int.ofNat 1)) h77) fun v78 h78 =>
      ifD v78 (
        bnd (rec 52 [(env 0)] h78) fun v79 h79 =>
        bnd (pPart1 1 v79 h79) fun v80 h80 =>
        bnd (pBuild [(.i .i64 (Int.ofNat 0)), (.s []), (.i .i64 (Int.ofNat 0)), .l0, .l0, .l0] [(0, 1, (.i .i64 (Int.ofNat 5))), (1, 1, v80)] h80) fun v81 h81 =>
        bnd (pStore 6 (env 2) v81 h81) fun _ h82 =>
        bnd (pLoadA 6 (env 2) h82) fun v83 _ =>
        some (v83, h82)) (
        bnd (pField 0 v70 h78) fun v84 h84 =>
        bnd (pLoad1 v84 h84) fun v85 h85 =>
        bnd (pInt .eql v85 (.i .i64 (Int.ofNat 7)) h85) fun v86 h86 =>
        ifD v86 (
          bnd (rec 88 [(env 0), (.f 89 [(env 0)] [])] h86) fun v87 h87 =>
          bnd (pStore 6 (env 2) v87 h87) fun _ h88 =>
          bnd (pLoadA 6 (env 2) h88) fun v89 _ =>
          some (v89, h88)) (
          bnd (rec 51 [(env 0), (.i .i64 (Int.ofNat 10)), (.s [40])] h86) fun v90 h90 =>
          ifD v90 (
            bnd (rec 88 [(env 0), (.f 90 [(env 0)] [])] h90) fun v91 h91 =>
            bnd (pStore 6 (env 2) v91 h91) fun _ h92 =>
            bnd (pLoadA 6 (env 2) h92) fun v93 _ =>
            some (v93, h92)) (
            bnd (rec 51 [(env 0), (.i .i64 (Int.ofNat 10)), (.s [91])] h90) fun v94 h94 =>
            ifD v94 (
              bnd (rec 88 [(env 0), (.f 91 [(env 0)] [])] h94) fun v95 h95 =>
              bnd (pStore 6 (env 2) v95 h95) fun _ h96 =>
              bnd (pLoadA 6 (env 2) h96) fun v97 _ =>
              some (v97, h96)) (
              bnd (pLoadA 4 v70 h94) fun v98 h98 =>
              bnd (rec 54 [(env 0), v98, (.i .i64 (Int.ofNat 13))] h98) fun v99 h99 =>
              q0 (env 2) h99))))) := by kernel_rfl

theorem s83a2q2u (rec : FuncId → List DV → Hp → Res) (n : Nat) : (fun (env : Env) (h : Hp) =>
    bnd (rec 55 [(env 0), (.i .i64 (Int.ofNat 0))] h) fun v100 h100 =>
    bnd (pNew [(.i .i64 (Int.ofNat 0)), (.s []), (.i .i64 (Int.ofNat 0)), (.i .i64 (Int.ofNat 0))] h100) fun v101 h101 =>
    bnd (pStore 4 v101 v100 h101) fun _ h102 =>
    bnd (pNil (env 0) h102) fun v103 h103 =>
    bnd (pField 3 v103 h103) fun v104 h104 =>
    bnd (pLoad1 v104 h104) fun v105 h105 =>
    bnd (pInt .neq v105 (.i .i64 (Int.ofNat 0)) h105) fun v106 h106 =>
    ifD v106 (
      s83a3 rec n (env 2) h106) (
      bnd (pField 0 v101 h106) fun v107 h107 =>
      bnd (pLoad1 v107 h107) fun v108 h108 =>
      bnd (pInt .eql v108 (.i .i64 (Int.ofNat 1)) h108) fun v109 h109 =>
      ifD v109 (
        bnd (rec 52 [(env 0)] h109) fun v110 h110 =>
        bnd (pPart1 1 v110 h110) fun v111 h111 =>
        bnd (pBuild [(.i .i64 (Int.ofNat 0)), (.s []), (.i .i64 (Int.ofNat 0)), .l0, .l0, .l0] [(0, 1, (.i .i64 (Int.ofNat 5))), (1, 1, v111)] h111) fun v112 h112 =>
        bnd (pStore 6 (env 2) v112 h112) fun _ h113 =>
        bnd (pLoadA 6 (env 2) h113) fun v114 _ =>
        some (v114, h113)) (
        bnd (pField 0 v101 h109) fun v115 h115 =>
        bnd (pLoad1 v115 h115) fun v116 h116 =>
        bnd (pInt .eql v116 (.i .i64 (Int.ofNat 7)) h116) fun v117 h117 =>
        ifD v117 (
          bnd (rec 88 [(env 0), (.f 89 [(env 0)] [])] h117) fun v118 h118 =>
          bnd (pStore 6 (env 2) v118 h118) fun _ h119 =>
          bnd (pLoadA 6 (env 2) h119) fun v120 _ =>
          some (v120, h119)) (
          bnd (rec 51 [(env 0), (.i .i64 (Int.ofNat 10)), (.s [40])] h117) fun v121 h121 =>
          ifD v121 (
            bnd (rec 88 [(env 0), (.f 90 [(env 0)] [])] h121) fun v122 h122 =>
            bnd (pStore 6 (env 2) v122 h122) fun _ h123 =>
            bnd (pLoadA 6 (env 2) h123) fun v124 _ =>
            some (v124, h123)) (
            bnd (rec 51 [(env 0), (.i .i64 (Int.ofNat 10)), (.s [91])] h121) fun v125 h125 =>
            ifD v125 (
              bnd (rec 88 [(env 0), (.f 91 [(env 0)] [])] h125) fun v126 h126 =>
              bnd (pStore 6 (env 2) v126 h126) fun _ h127 =>
              bnd (pLoadA 6 (env 2) h127) fun v128 _ =>
              some (v128, h127)) (
              bnd (pLoadA 4 v101 h125) fun v129 h129 =>
              bnd (rec 54 [(env 0), v129, (.i .i64 (Int.ofNat 13))] h129) fun v130 h130 =>
              s83a3 rec n (env 2) h130)))))) = (fun (env : Env) (h : Hp) => s83a2 rec n (env 0) (env 2) h) := by kernel_rfl

theorem s83a2e (rec : FuncId → List DV → Hp → Res) (n : Nat) : D83 rec n (cR (cR (cf Try.f83))) x0 (retK CF Try.f83) = (fun (env : Env) (h : Hp) => s83a2 rec n (env 0) (env 2) h) :=
  (s83a2p1 rec n).trans
  ((s83a2q2 rec n (s83a3 rec n)).trans (s83a2q2u rec n))

theorem s83a1p3 (rec : FuncId → List DV → Hp → Res) (n : Nat) : D83 rec n (cR (cf Try.f83)) x0 (retK CF Try.f83) = D83 rec n (cL (cR (cf Try.f83))) x0 (fun (env : Env) (h : Hp) => s83a2 rec n (env 0) (env 2) h) :=
  congrArg (fun k => D83 rec n (cL (cR (cf Try.f83))) x0 k) (s83a2e rec n)

theorem s83a1q4 (rec : FuncId → List DV → Hp → Res) (n : Nat) (q0 : DV → DV → Hp → Res) : D83 rec n (cL (cR (cf Try.f83))) x0 (fun (env : Env) (h : Hp) => q0 (env 0) (env 2) h) = fun (env : Env) (h : Hp) =>
    bnd (rec 87 [(env 0)] h) fun v147 h147 =>
    bnd (pExtract 0 v147 h147) fun v148 h148 =>
    bnd (pExtract 1 v147 h148) fun v149 h149 =>
    bnd (pNew [(.i .i64 (Int.ofNat 0)), (.s []), (.i .i64 (Int.ofNat 0)), .l0, .l0, .l0] h149) fun v150 h150 =>
    bnd (pStore 6 v150 v148 h150) fun _ h151 =>
    ifD v149 (
      bnd (pLoadA 6 v150 h151) fun v152 h152 =>
      bnd (pStore 6 (env 2) v152 h152) fun _ h153 =>
      bnd (pLoadA 6 (env 2) h153) fun v154 _ =>
      some (v154, h153)) (
      q0 (env 0) (env 2) h151) := by kernel_rfl

theorem s83a1q4u (rec : FuncId → List DV → Hp → Res) (n : Nat) : (fun (env : Env) (h : Hp) =>
    bnd (rec 87 [(env 0)] h) fun v155 h155 =>
    bnd (pExtract 0 v155 h155) fun v156 h156 =>
    bnd (pExtract 1 v155 h156) fun v157 h157 =>
    bnd (pNew [(.i .i64 (Int.ofNat 0)), (.s []), (.i .i64 (Int.ofNat 0)), .l0, .l0, .l0] h157) fun v158 h158 =>
    bnd (pStore 6 v158 v156 h158) fun _ h159 =>
    ifD v157 (
      bnd (pLoadA 6 v158 h159) fun v160 h160 =>
      bnd (pStore 6 (env 2) v160 h160) fun _ h161 =>
      bnd (pLoadA 6 (env 2) h161) fun v162 _ =>
      some (v162, h161)) (
      s83a2 rec n (env 0) (env 2) h159)) = (fun (env : Env) (h : Hp) => s83a1 rec n (env 0) (env 2) h) := by kernel_rfl

theorem s83a1e (rec : FuncId → List DV → Hp → Res) (n : Nat) : D83 rec n (cR (cf Try.f83)) x0 (retK CF Try.f83) = (fun (env : Env) (h : Hp) => s83a1 rec n (env 0) (env 2) h) :=
  (s83a1p3 rec n).trans
  ((s83a1q4 rec n (s83a2 rec n)).trans (s83a1q4u rec n))

theorem s83p5 (rec : FuncId → List DV → Hp → Res) (n : Nat) : D83 rec n (cf Try.f83) x0 (retK CF Try.f83) = D83 rec n (cL (cf Try.f83)) x0 (fun (env : Env) (h : Hp) => s83a1 rec n (env 0) (env 2) h) :=
  congrArg (fun k => D83 rec n (cL (cf Try.f83)) x0 k) (s83a1e rec n)

theorem s83q6 (rec : FuncId → List DV → Hp → Res) (n : Nat) (q0 : DV → DV → Hp → Res) : D83 rec n (cL (cf Try.f83)) x0 (fun (env : Env) (h : Hp) => q0 (env 0) (env 2) h) = fun (env : Env) (h : Hp) =>
    bnd (pNew [(.i .i64 (Int.ofNat 0)), (.s []), (.i .i64 (Int.ofNat 0)), .l0, .l0, .l0] h) fun v165 h165 =>
    q0 (env 0) v165 h165 := by kernel_rfl

theorem s83q6u (rec : FuncId → List DV → Hp → Res) (n : Nat) : (fun (env : Env) (h : Hp) =>
    bnd (pNew [(.i .i64 (Int.ofNat 0)), (.s []), (.i .i64 (Int.ofNat 0)), .l0, .l0, .l0] h) fun v166 h166 =>
    s83a1 rec n (env 0) v166 h166) = (fun (env : Env) (h : Hp) => s83 rec n (env 0) h) := by kernel_rfl

theorem s83m (rec : FuncId → List DV → Hp → Res) (n : Nat) : D83 rec n (cf Try.f83) x0 (retK CF Try.f83) = (fun (env : Env) (h : Hp) => s83 rec n (env 0) h) :=
  (s83p5 rec n).trans
  ((s83q6 rec n (s83a1 rec n)).trans (s83q6u rec n))

theorem s83ok (rec : FuncId → List DV → Hp → Res) (n : Nat) (args : List DV) (h : Hp) : bodyD CF rec n 83 args h = s83 rec n (args.getD 0 undefD) h :=
  (by kernel_rfl : bodyD CF rec n 83 args h = D83 rec n (cf Try.f83) x0 (retK CF Try.f83) (argsE args) h).trans ((congrFun (congrFun (s83m rec n) (argsE args)) h).trans (by kernel_rfl))

/-- parse.message -/
noncomputable def s84 (rec : FuncId → List DV → Hp → Res) (n : Nat) (x0 : DV) (h0 : Hp) : Res :=
  bnd (pBox x0 h0) fun v1 h1 =>
  bnd (pNew [(.i .i64 (Int.ofNat 0)), (.s []), (.i .i64 (Int.ofNat 0)), .l0, .l0, .l0] h1) fun v2 h2 =>
  bnd (pField 5 v1 h2) fun v3 h3 =>
  bnd (pLoad1 v3 h3) fun v4 h4 =>
  bnd (pLen v4 h4) fun v5 h5 =>
  bnd (pInt .eql v5 (.i .i64 (Int.ofNat 0)) h5) fun v6 h6 =>
  ifD v6 (
    bnd (pLoadA 6 v1 h6) fun v7 h7 =>
    bnd (pStore 6 v2 v7 h7) fun _ h8 =>
    bnd (pLoadA 6 v2 h8) fun v9 _ =>
    some (v9, h8)) (
    bnd (pField 1 v1 h6) fun v10 h10 =>
    bnd (pLoad1 v10 h10) fun v11 h11 =>
    bnd (pField 5 v1 h11) fun v12 h12 =>
    bnd (pLoad1 v12 h12) fun v13 h13 =>
    bnd (pSlice 6 v13 (some (.i .i64 (Int.ofNat 1))) none h13) fun v14 h14 =>
    cnd (sameR (pLoad1 v10 h14) v11 && true) (
    bnd (rec 92 [v14] h14) fun v15 h15 =>
    cnd (sameR (pLoad1 v10 h15) v11 && true) (
    bnd (pBuild [(.i .i64 (Int.ofNat 0)), (.s []), (.i .i64 (Int.ofNat 0)), .l0, .l0, .l0] [(0, 1, (.i .i64 (Int.ofNat 7))), (1, 1, v11), (5, 1, v15)] h15) fun v16 h16 =>
    bnd (pStore 6 v2 v16 h16) fun v17 h17 =>
    bnd (pLoadA 6 v2 h17) fun v18 _ =>
    some (v18, h17))))

noncomputable def D84 (rec : FuncId → List DV → Hp → Res) (n : Nat) (c : Code) (X : Nat → K) (k : K) : K := codeD CF rec 15 n c X (retK CF Try.f84) k

theorem s84m (rec : FuncId → List DV → Hp → Res) (n : Nat) : D84 rec n (cf Try.f84) x0 (retK CF Try.f84) = (fun (env : Env) (h : Hp) => s84 rec n (env 0) h) :=
  (by kernel_rfl)

theorem s84ok (rec : FuncId → List DV → Hp → Res) (n : Nat) (args : List DV) (h : Hp) : bodyD CF rec n 84 args h = s84 rec n (args.getD 0 undefD) h :=
  (by kernel_rfl : bodyD CF rec n 84 args h = D84 rec n (cf Try.f84) x0 (retK CF Try.f84) (argsE args) h).trans ((congrFun (congrFun (s84m rec n) (argsE args)) h).trans (by kernel_rfl))

/-- parse.parser).message -/
noncomputable def s85 (rec : FuncId → List DV → Hp → Res) (n : Nat) (x0 : DV) (h0 : Hp) : Res :=
  bnd (pNew [(.i .i64 (Int.ofNat 0)), (.s []), (.i .i64 (Int.ofNat 0)), .l0, .l0, .l0] h0) fun v1 h1 =>
  bnd (pNew [(.i .i64 (Int.ofNat 0)), (.s []), (.i .i64 (Int.ofNat 0)), .l0, .l0, .l0] h1) fun v2 h2 =>
  bnd (rec 55 [x0, (.i .i64 (Int.ofNat 0))] h2) fun v3 h3 =>
  bnd (pNew [(.i .i64 (Int.ofNat 0)), (.s []), (.i .i64 (Int.ofNat 0)), (.i .i64 (Int.ofNat 0))] h3) fun v4 h4 =>
  bnd (pStore 4 v4 v3 h4) fun _ h5 =>
  bnd (pField 0 v4 h5) fun v6 h6 =>
  bnd (pLoad1 v6 h6) fun v7 h7 =>
  bnd (pInt .eql v7 (.i .i64 (Int.ofNat 1)) h7) fun v8 h8 =>
  ifD v8 (
    bnd (rec 52 [x0] h8) fun v9 h9 =>
    bnd (pField 1 v4 h9) fun v10 h10 =>
    bnd (pLoad1 v10 h10) fun v11 h11 =>
    bnd (pLoadA 6 v2 h11) fun v12 h12 =>
    bnd (pBuildSlice [(.i .i64 (Int.ofNat 0)), (.s []), (.i .i64 (Int.ofNat 0)), .l0, .l0, .l0] 1 [(0, 6, v12)] h12) fun v13 h13 =>
    bnd (rec 86 [v11, v13] h13) fun v14 h14 =>
    bnd (pStore 6 v1 v14 h14) fun _ h15 =>
    bnd (pLoadA 6 v1 h15) fun v16 _ =>
    some (v16, h15)) (
    bnd (pInt .eql v7 (.i .i64 (Int.ofNat 3)) h8) fun v17 h17 =>
    ifD v17 (
      bnd (rec 52 [x0] h17) fun v18 h18 =>
      bnd (pField 1 v4 (resv 1 h18)) fun v19 h19 =>
      bnd (pLoad1 v19 h19) fun v20 h20 =>
      bnd (pLoadA 6 v2 h20) fun v21 h21 =>
      bnd (rec 83 [x0] h21) fun v22 h22 =>
      cnd (sameR (pLoadA 6 v2 h22) v21 && (sameR (pLoad1 v19 h22) v20 && true)) (
      bnd (rec 82 [x0, v22] h22) fun v23 h23 =>
      cnd (sameR (pLoadA 6 v2 h23) v21 && (sameR (pLoad1 v19 h23) v20 && true)) (
      bnd (pBuildSliceAt (nthPos 0 h18.next) [(.i .i64 (Int.ofNat 0)), (.s []), (.i .i64 (Int.ofNat 0)), .l0, .l0, .l0, (.i .i64 (Int.ofNat 0)), (.s []), (.i .i64 (Int.ofNat 0)), .l0, .l0, .l0] 2 [(0, 6, v21), (6, 6, v23)] h23) fun v24 h24 =>
      bnd (rec 86 [v20, v24] h24) fun v25 h25 =>
      bnd (pStore 6 v1 v25 h25) fun v26 h26 =>
      bnd (pLoadA 6 v1 h26) fun v27 _ =>
      some (v27, h26)))) (
      bnd (pInt .eql v7 (.i .i64 (Int.ofNat 2)) h17) fun v28 h28 =>
      ifD v28 (
        bnd (pLoadA 6 v2 h28) fun v29 h29 =>
        bnd (rec 80 [x0, v29] h29) fun v30 h30 =>
        bnd (pStore 6 v1 v30 h30) fun _ h31 =>
        bnd (pLoadA 6 v1 h31) fun v32 _ =>
        some (v32, h31)) (
        bnd (pLoadA 4 v4 h28) fun v33 h33 =>
        bnd (rec 54 [x0, v33, (.i .i64 (Int.ofNat 13))] h33) fun v34 h34 =>
        bnd (pLoadA 6 v2 h34) fun v35 h35 =>
        bnd (pStore 6 v1 v35 h35) fun _ h36 =>
        bnd (pLoadA 6 v1 h36) fun v37 _ =>
        some (v37, h36))))

noncomputable def D85 (rec : FuncId → List DV → Hp → Res) (n : Nat) (c : Code) (X : Nat → K) (k : K) : K := codeD CF rec 40 n c X (retK CF Try.f85) k

theorem s85m (rec : FuncId → List DV → Hp → Res) (n : Nat) : D85 rec n (cf Try.f85) x0 (retK CF Try.f85) = (fun (env : Env) (h : Hp) => s85 rec n (env 0) h) :=
  (by kernel_rfl)

theorem s85ok (rec : FuncId → List DV → Hp → Res) (n : Nat) (args : List DV) (h : Hp) : bodyD CF rec n 85 args h = s85 rec n (args.getD 0 undefD) h :=
  (by kernel_rfl : bodyD CF rec n 85 args h = D85 rec n (cf Try.f85) x0 (retK CF Try.f85) (argsE args) h).trans ((congrFun (congrFun (s85m rec n) (argsE args)) h).trans (by kernel_rfl))

/-- parse.send -/
noncomputable def s86 (rec : FuncId → List DV → Hp → Res) (n : Nat) (x0 x1 : DV) (h0 : Hp) : Res :=
  bnd (pNew [(.i .i64 (Int.ofNat 0)), (.s []), (.i .i64 (Int.ofNat 0)), .l0, .l0, .l0] h0) fun v1 h1 =>
  bnd (pBuild [(.i .i64 (Int.ofNat 0)), (.s []), (.i .i64 (Int.ofNat 0)), .l0, .l0, .l0] [(0, 1, (.i .i64 (Int.ofNat 7))), (1, 1, x0), (5, 1, x1)] h1) fun v2 h2 =>
  bnd (pStore 6 v1 v2 h2) fun _ h3 =>
  bnd (pLoadA 6 v1 h3) fun v4 _ =>
  some (v4, h3)

noncomputable def D86 (rec : FuncId → List DV → Hp → Res) (n : Nat) (c : Code) (X : Nat → K) (k : K) : K := codeD CF rec 8 n c X (retK CF Try.f86) k

theorem s86m (rec : FuncId → List DV → Hp → Res) (n : Nat) : D86 rec n (cf Try.f86) x0 (retK CF Try.f86) = (fun (env : Env) (h : Hp) => s86 rec n (env 0) (env 1) h) :=
  (by kernel_rfl)

theorem s86ok (rec : FuncId → List DV → Hp → Res) (n : Nat) (args : List DV) (h : Hp) : bodyD CF rec n 86 args h = s86 rec n (args.getD 0 undefD) (args.getD 1 undefD) h :=
  (by kernel_rfl : bodyD CF rec n 86 args h = D86 rec n (cf Try.f86) x0 (retK CF Try.f86) (argsE args) h).trans ((congrFun (congrFun (s86m rec n) (argsE args)) h).trans (by kernel_rfl))

noncomputable def s87a4 (rec : FuncId → List DV → Hp → Res) (n : Nat) (x0 x2 x5 : DV) (h0 : Hp) : Res :=
  bnd (rec 52 [x0] h0) fun v1 h1 =>
  bnd (pLoadA 6 x5 h1) fun v2 h2 =>
  bnd (pStore 6 x2 v2 h2) fun _ h3 =>
  bnd (pLoadA 6 x2 h3) fun v4 _ =>
  some (.t [v4, (.b true)], h3)

noncomputable def s87a3 (rec : FuncId → List DV → Hp → Res) (n : Nat) (x0 x2 x4 x5 : DV) (h0 : Hp) : Res :=
  bnd (pNil x0 h0) fun v9 h9 =>
  bnd (pField 3 v9 h9) fun v10 h10 =>
  bnd (pLoad1 v10 h10) fun v11 h11 =>
  bnd (pInt .neq v11 (.i .i64 (Int.ofNat 0)) h11) fun v12 h12 =>
  ifD v12 (
    bnd (pLoadA 6 x5 h12) fun v13 h13 =>
    bnd (pStore 6 x2 v13 h13) fun _ h14 =>
    bnd (pLoadA 6 x2 h14) fun v15 _ =>
    some (.t [v15, (.b false)], h14)) (
    bnd (rec 93 [x0] h12) fun v16 h16 =>
    ifD v16 (
      bnd (rec 52 [x0] h16) fun v17 h17 =>
      bnd (rec 52 [x0] h17) fun v18 h18 =>
      bnd (pPart1 2 v18 h18) fun v19 h19 =>
      bnd (pUn .neg v19 h19) fun v20 h20 =>
      bnd (pBuild [(.i .i64 (Int.ofNat 0)), (.s []), (.i .i64 (Int.ofNat 0)), .l0, .l0, .l0] [(0, 1, (.i .i64 (Int.ofNat 1))), (2, 1, v20)] h20) fun v21 h21 =>
      bnd (pStore 6 x2 v21 h21) fun _ h22 =>
      bnd (pLoadA 6 x2 h22) fun v23 _ =>
      some (.t [v23, (.b true)], h22)) (
      bnd (pField 0 x4 h16) fun v24 h24 =>
      bnd (pLoad1 v24 h24) fun v25 h25 =>
      bnd (pInt .eql v25 (.i .i64 (Int.ofNat 4)) h25) fun v26 h26 =>
      ifD v26 (
        bnd (pField 0 x5 h26) fun v27 h27 =>
        bnd (pStore 1 v27 (.i .i64 (Int.ofNat 1)) h27) fun _ h28 =>
        s87a4 rec n x0 x2 x5 h28) (
        bnd (pField 0 x4 h26) fun v29 h29 =>
        bnd (pLoad1 v29 h29) fun v30 h30 =>
        bnd (pInt .eql v30 (.i .i64 (Int.ofNat 5)) h30) fun v31 h31 =>
        ifD v31 (
          bnd (pField 0 x5 h31) fun v32 h32 =>
          bnd (pStore 1 v32 (.i .i64 (Int.ofNat 2)) h32) fun _ h33 =>
          s87a4 rec n x0 x2 x5 h33) (
          bnd (pField 0 x4 h31) fun v34 h34 =>
          bnd (pLoad1 v34 h34) fun v35 h35 =>
          bnd (pInt .eql v35 (.i .i64 (Int.ofNat 6)) h35) fun v36 h36 =>
          ifD v36 (
            bnd (pField 0 x5 h36) fun v37 h37 =>
            bnd (pStore 1 v37 (.i .i64 (Int.ofNat 3)) h37) fun _ h38 =>
            s87a4 rec n x0 x2 x5 h38) (
            bnd (pLoadA 6 x5 h36) fun v39 h39 =>
            bnd (pStore 6 x2 v39 h39) fun _ h40 =>
            bnd (pLoadA 6 x2 h40) fun v41 _ =>
            some (.t [v41, (.b false)], h40))))))

noncomputable def s87a2 (rec : FuncId → List DV → Hp → Res) (n : Nat) (x0 x2 x4 : DV) (h0 : Hp) : Res :=
  bnd (pField 1 x4 h0) fun v141 h141 =>
  bnd (pLoad1 v141 h141) fun v142 h142 =>
  bnd (pField 2 x4 h142) fun v143 h143 =>
  bnd (pLoad1 v143 h143) fun v144 h144 =>
  bnd (pBuild [(.i .i64 (Int.ofNat 0)), (.s []), (.i .i64 (Int.ofNat 0)), .l0, .l0, .l0] [(1, 1, v142), (2, 1, v144)] h144) fun v145 h145 =>
  bnd (pNew [(.i .i64 (Int.ofNat 0)), (.s []), (.i .i64 (Int.ofNat 0)), .l0, .l0, .l0] h145) fun v146 h146 =>
  bnd (pStore 6 v146 v145 h146) fun _ h147 =>
  s87a3 rec n x0 x2 x4 v146 h147

noncomputable def s87a1 (rec : FuncId → List DV → Hp → Res) (n : Nat) (x0 x2 : DV) (h0 : Hp) : Res :=
  bnd (rec 55 [x0, (.i .i64 (Int.ofNat 0))] h0) fun v169 h169 =>
  bnd (pNew [(.i .i64 (Int.ofNat 0)), (.s []), (.i .i64 (Int.ofNat 0)), (.i .i64 (Int.ofNat 0))] h169) fun v170 h170 =>
  bnd (pStore 4 v170 v169 h170) fun _ h171 =>
  s87a2 rec n x0 x2 v170 h171

/-- parse.parser).plain -/
noncomputable def s87 (rec : FuncId → List DV → Hp → Res) (n : Nat) (x0 : DV) (h0 : Hp) : Res :=
  bnd (pNew [(.i .i64 (Int.ofNat 0)), (.s []), (.i .i64 (Int.ofNat 0)), .l0, .l0, .l0] h0) fun v181 h181 =>
  s87a1 rec n x0 v181 h181

noncomputable def D87 (rec : FuncId → List DV → Hp → Res) (n : Nat) (c : Code) (X : Nat → K) (k : K) : K := codeD CF rec 49 n c X (retK CF Try.f87) k

theorem s87a4e (rec : FuncId → List DV → Hp → Res) (n : Nat) : D87 rec n (cR (cR (cR (cR (cf Try.f87))))) x0 (retK CF Try.f87) = (fun (env : Env) (h : Hp) => s87a4 rec n (env 0) (env 2) (env 5) h) :=
  (by kernel_rfl)

theorem s87a3p1 (rec : FuncId → List DV → Hp → Res) (n : Nat) : D87 rec n (cR (cR (cR (cf Try.f87)))) x0 (retK CF Try.f87) = D87 rec n (cL (cR (cR (cR (cf Try.f87))))) x0 (fun (env : Env) (h : Hp) => s87a4 rec n (env 0) (env 2) (env 5) h) :=
  congrArg (fun k => D87 rec n (cL (cR (cR (cR (cf Try.f87))))) x0 k) (s87a4e rec n)

theorem s87a3q2 (rec : FuncId → List DV → Hp → Res) (n : Nat) (q0 : DV → DV → DV → Hp → Res) : D87 rec n (cL (cR (cR (cR (cf Try.f87))))) x0 (fun (env : Env) (h : Hp) => q0 (env 0) (env 2) (env 5) h) = fun (env : Env) (h : Hp) =>
    bnd (pNil (env 0) h) fun v75 h75 =>
    bnd (pField 3 v75 h75) fun v76 h76 =>
    bnd (pLoad1 v76 h76) fun v77 h77 =>
    bnd (pInt .neq v77 (.i .i64 (Int.ofNat 0)) h77) fun v78 h78 =>
    ifD v78 (
      bnd (pLoadA 6 (env 5) h78) fun v79 h79 =>
      bnd (pStore 6 (env 2) v79 h79) fun _ h80 =>
      bnd (pLoadA 6 (env 2) h80) fun v81 _ =>
      some (.t [v81, (.b false)], h80)) (
      bnd (rec 93 [(env 0)] h78) fun v82 h82 =>
      ifD v82 (
        bnd (rec 52 [(env 0)] h82) fun v83 h83 =>
        bnd (rec 52 [(env 0)] h83) fun v84 h84 =>
        bnd (pPart1 2 v84 h84) fun v85 h85 =>
        bnd (pUn .neg v85 h85) fun v86 h86 =>
        bnd (pBuild [(.i .i64 (Int.ofNat 0)), (.s []), (.i .i64 (Int.ofNat 0)), .l0, .l0, .l0] [(0, 1, (.i .i64 (Int.ofNat 1))), (2, 1, v86)] h86) fun v87 h87 =>
        bnd (pStore 6 (env 2) v87 h87) fun _ h88 =>
        bnd (pLoadA 6 (env 2) h88) fun v89 _ =>
        some (.t [v89, (.b true)], h88)) (
        bnd (pField 0 (env 4) h82) fun v90 h90 =>
        bnd (pLoad1 v90 h90) fun v91 h91 =>
        bnd (pInt .eql v91 (.i .i64 (Int.ofNat 4)) h91) fun v92 h92 =>
        ifD v92 (
          bnd (pField 0 (env 5) h92) fun v93 h93 =>
          bnd (pStore 1 v93 (.i .i64 (Int.ofNat 1)) h93) fun _ h94 =>
          q0 (env 0) (env 2) (env 5) h94) (
          bnd (pField 0 (env 4) h92) fun v95 h95 =>
          bnd (pLoad1 v95 h95) fun v96 h96 =>
          bnd (pInt .eql v96 (.i .i64 (Int.ofNat 5)) h96) fun v97 h97 =>
          ifD v97 (
            bnd (pField 0 (env 5) h97) fun v98 h98 =>
            bnd (pStore 1 v98 (.i .i64 (Int.ofNat 2)) h98) fun _ h99 =>
            q0 (env 0) (env 2) (env 5) h99) (
            bnd (pField 0 (env 4) h97) fun v100 h100 =>
            bnd (pLoad1 v100 h100) fun v101 h101 =>
            bnd (pInt .eql v101 (.i .i64 (Int.ofNat 6)) h101) fun v102 h102 =>
            ifD v102 (
              bnd (pField 0 (env 5) h102) fun v103 h103 =>
              bnd (pStore 1 v103 (.i .i64 (Int.ofNat 3)) h103) fun _ h104 =>
              q0 (env 0) (env 2) (env 5) h104) (
              bnd (pLoadA 6 (env 5) h102) fun v105 h105 =>
              bnd (pStore 6 (env 2) v105 h105) fun _ h106 =>
              bnd (pLoadA 6 (env 2) h106) fun v107 _ =>
              some (.t [v107, (.b false)], h106)))))) := by kernel_rfl

theorem s87a3q2u (rec : FuncId → List DV → Hp → Res) (n : Nat) : (fun (env : Env) (h : Hp) =>
    bnd (pNil (env 0) h) fun v108 h108 =>
    bnd (pField 3 v108 h108) fun v109 h109 =>
    bnd (pLoad1 v109 h109) fun v110 h110 =>
    bnd (pInt .neq v110 (.i .i64 (Int.ofNat 0)) h110) fun v111 h111 =>
    ifD v111 (
      bnd (pLoadA 6 (env 5) h111) fun v112 h112 =>
      bnd (pStore 6 (env 2) v112 h112) fun _ h113 =>
      bnd (pLoadA 6 (env 2) h113) fun v114 _ =>
      some (.t [v114, (.b false)], h113)) (
      bnd (rec 93 [(env 0)] h111) fun v115 h115 =>
      ifD v115 (
        bnd (rec 52 [(env 0)] h115) fun v116 h116 =>
        bnd (rec 52 [(env 0)] h116) fun v117 h117 =>
        bnd (pPart1 2 v117 h117) fun v118 h118 =>
        bnd (pUn .neg v118 h118) fun v119 h119 =>
        bnd (pBuild [(.i .i64 (Int.ofNat 0)), (.s []), (.i .i64 (Int.ofNat 0)), .l0, .l0, .l0] [(0, 1, (.i .i64 (Int.ofNat 1))), (2, 1, v119)] h119) fun v120 h120 =>
        bnd (pStore 6 (env 2) v120 h120) fun _ h121 =>
        bnd (pLoadA 6 (env 2) h121) fun v122 _ =>
        some (.t [v122, (.b true)], h121)) (
        bnd (pField 0 (env 4) h115) fun v123 h123 =>
        bnd (pLoad1 v123 h123) fun v124 h124 =>
        bnd (pInt .eql v124 (.i .i64 (Int.ofNat 4)) h124) fun v125 h125 =>
        ifD v125 (
          bnd (pField 0 (env 5) h125) fun v126 h126 =>
          bnd (pStore 1 v126 (.i .i64 (Int.ofNat 1)) h126) fun _ h127 =>
          s87a4 rec n (env 0) (env 2) (env 5) h127) (
          bnd (pField 0 (env 4) h125) fun v128 h128 =>
          bnd (pLoad1 v128 h128) fun v129 h129 =>
          bnd (pInt .eql v129 (.i .i64 (Int.ofNat 5)) h129) fun v130 h130 =>
          ifD v130 (
            bnd (pField 0 (env 5) h130) fun v131 h131 =>
            bnd (pStore 1 v131 (.i .i64 (Int.ofNat 2)) h131) fun _ h132 =>
            s87a4 rec n (env 0) (env 2) (env 5) h132) (
            bnd (pField 0 (env 4) h130) fun v133 h133 =>
            bnd (pLoad1 v133 h133) fun v134 h134 =>
            bnd (pInt .eql v134 (.i .i64 (Int.ofNat 6)) h134) fun v135 h135 =>
            ifD v135 (
              bnd (pField 0 (env 5) h135) fun v136 h136 =>
              bnd (pStore 1 v136 (.i .i64 (Int.ofNat 3)) h136) fun _ h137 =>
              s87a4 rec n (env 0) (env 2) (env 5) h137) (
              bnd (pLoadA 6 (env 5) h135) fun v138 h138 =>
              bnd (pStore 6 (env 2) v138 h138) fun _ h139 =>
              bnd (pLoadA 6 (env 2) h139) fun v140 _ =>
              some (.t [v140, (.b false)], h139))))))) = (fun (env : Env) (h : Hp) => s87a3 rec n (env 0) (env 2) (env 4) (env 5) h) := by kernel_rfl

theorem s87a3e (rec : FuncId → List DV → Hp → Res) (n : Nat) : D87 rec n (cR (cR (cR (cf Try.f87)))) x0 (retK CF Try.f87) = (fun (env : Env) (h : Hp) => s87a3 rec n (env 0) (env 2) (env 4) (env 5) h) :=
  (s87a3p1 rec n).trans
  ((s87a3q2 rec n (s87a4 rec n)).trans (s87a3q2u rec n))

theorem s87a2p3 (rec : FuncId → List DV → Hp → Res) (n : Nat) : D87 rec n (cR (cR (cf Try.f87))) x0 (retK CF Try.f87) = D87 rec n (cL (cR (cR (cf Try.f87)))) x0 (fun (env : Env) (h : Hp) => s87a3 rec n (env 0) (env 2) (env 4) (env 5) h) :=
  congrArg (fun k => D87 rec n (cL (cR (cR (cf Try.f87)))) x0 k) (s87a3e rec n)

theorem s87a2q4 (rec : FuncId → List DV → Hp → Res) (n : Nat) (q0 : DV → DV → DV → DV → Hp → Res) : D87 rec n (cL (cR (cR (cf Try.f87)))) x0 (fun (env : Env) (h : Hp) => q0 (env 0) (env 2) (env 4) (env 5) h) = fun (env : Env) (h : Hp) =>
    bnd (pField 1 (env 4) h) fun v155 h155 =>
    bnd (pLoad1 v155 h155) fun v156 h156 =>
    bnd (pField 2 (env 4) h156) fun v157 h157 =>
    bnd (pLoad1 v157 h157) fun v158 h158 =>
    bnd (pBuild [(.i .i64 (Int.ofNat 0)), (.s []), (.i .i64 (Int.ofNat 0)), .l0, .l0, .l0] [(1, 1, v156), (2, 1, v158)] h158) fun v159 h159 =>
    bnd (pNew [(.i .i64 (Int.ofNat 0)), (.s []), (.i .i64 (Int.ofNat 0)), .l0, .l0, .l0] h159) fun v160 h160 =>
    bnd (pStore 6 v160 v159 h160) fun _ h161 =>
    q0 (env 0) (env 2) (env 4) v160 h161 := by kernel_rfl

theorem s87a2q4u (rec : FuncId → List DV → Hp → Res) (n : Nat) : (fun (env : Env) (h : Hp) =>
    bnd (pField 1 (env 4) h) fun v162 h162 =>
    bnd (pLoad1 v162 h162) fun v163 h163 =>
    bnd (pField 2 (env 4) h163) fun v164 h164 =>
    bnd (pLoad1 v164 h164) fun v165 h165 =>
    bnd (pBuild [(.i .i64 (Int.ofNat 0)), (.s []), (.i .i64 (Int.ofNat 0)), .l0, .l0, .l0] [(1, 1, v163), (2, 1, v165)] h165) fun v166 h166 =>
    bnd (pNew [(.i .i64 (Int.ofNat 0)), (.s []), (.i .i64 (Int.ofNat 0)), .l0, .l0, .l0] h166) fun v167 h167 =>
    bnd (pStore 6 v167 v166 h167) fun _ h168 =>
    s87a3 rec n (env 0) (env 2) (env 4) v167 h168) = (fun (env : Env) (h : Hp) => s87a2 rec n (env 0) (env 2) (env 4) h) := by kernel_rfl

theorem s87a2e (rec : FuncId → List DV → Hp → Res) (n : Nat) : D87 rec n (cR (cR (cf Try.f87))) x0 (retK CF Try.f87) = (fun (env : Env) (h : Hp) => s87a2 rec n (env 0) (env 2) (env 4) h) :=
  (s87a2p3 rec n).trans
  ((s87a2q4 rec n (s87a3 rec n)).trans (s87a2q4u rec n))

theorem s87a1p5 (rec : FuncId → List DV → Hp → Res) (n : Nat) : D87 rec n (cR (cf Try.f87)) x0 (retK CF Try.f87) = D87 rec n (cL (cR (cf Try.f87))) x0 (fun (env : Env) (h : Hp) => s87a2 rec n (env 0) (env 2) (env 4) h) :=
  congrArg (fun k => D87 rec n (cL (cR (cf Try.f87))) x0 k) (s87a2e rec n)

theorem s87a1q6 (rec : FuncId → List DV → Hp → Res) (n : Nat) (q0 : DV → DV → DV → Hp → Res) : D87 rec n (cL (cR (cf Try.f87))) x0 (fun (env : Env) (h : Hp) => q0 (env 0) (env 2) (env 4) h) = fun (env : Env) (h : Hp) =>
    bnd (rec 55 [(env 0), (.i .i64 (Int.ofNat 0))] h) fun v175 h175 =>
    bnd (pNew [(.i .i64 (Int.ofNat 0)), (.s []), (.i .i64 (Int.ofNat 0)), (.i .i64 (Int.ofNat 0))] h175) fun v176 h176 =>
    bnd (pStore 4 v176 v175 h176) fun _ h177 =>
    q0 (env 0) (env 2) v176 h177 := by kernel_rfl

theorem s87a1q6u (rec : FuncId → List DV → Hp → Res) (n : Nat) : (fun (env : Env) (h : Hp) =>
    bnd (rec 55 [(env 0), (.i .i64 (Int.ofNat 0))] h) fun v178 h178 =>
    bnd (pNew [(.i .i64 (Int.ofNat 0)), (.s []), (.i .i64 (Int.ofNat 0)), (.i .i64 (Int.ofNat 0))] h178) fun v179 h179 =>
    bnd (pStore 4 v179 v178 h179) fun _ h180 =>
    s87a2 rec n (env 0) (env 2) v179 h180) = (fun (env : Env) (h : Hp) => s87a1 rec n (env 0) (env 2) h) := by kernel_rfl

theorem s87a1e (rec : FuncId → List DV → Hp → Res) (n : Nat) : D87 rec n (cR (cf Try.f87)) x0 (retK CF Try.f87) = (fun (env : Env) (h : Hp) => s87a1 rec n (env 0) (env 2) h) :=
  (s87a1p5 rec n).trans
  ((s87a1q6 rec n (s87a2 rec n)).trans (s87a1q6u rec n))

theorem s87p7 (rec : FuncId → List DV → Hp → Res) (n : Nat) : D87 rec n (cf Try.f87) x0 (retK CF Try.f87) = D87 rec n (cL (cf Try.f87)) x0 (fun (env : Env) (h : Hp) => s87a1 rec n (env 0) (env 2) h) :=
  congrArg (fun k => D87 rec n (cL (cf Try.f87)) x0 k) (s87a1e rec n)

theorem s87q8 (rec : FuncId → List DV → Hp → Res) (n : Nat) (q0 : DV → DV → Hp → Res) : D87 rec n (cL (cf Try.f87)) x0 (fun (env : Env) (h : Hp) => q0 (env 0) (env 2) h) = fun (env : Env) (h : Hp) =>
    bnd (pNew [(.i .i64 (Int.ofNat 0)), (.s []), (.i .i64 (Int.ofNat 0)), .l0, .l0, .l0] h) fun v183 h183 =>
    q0 (env 0) v183 h183 := by kernel_rfl

theorem s87q8u (rec : FuncId → List DV → Hp → Res) (n : Nat) : (fun (env : Env) (h : Hp) =>
    bnd (pNew [(.i .i64 (Int.ofNat 0)), (.s []), (.i .i64 (Int.ofNat 0)), .l0, .l0, .l0] h) fun v184 h184 =>
    s87a1 rec n (env 0) v184 h184) = (fun (env : Env) (h : Hp) => s87 rec n (env 0) h) := by kernel_rfl

theorem s87m (rec : FuncId → List DV → Hp → Res) (n : Nat) : D87 rec n (cf Try.f87) x0 (retK CF Try.f87) = (fun (env : Env) (h : Hp) => s87 rec n (env 0) h) :=
  (s87p7 rec n).trans
  ((s87q8 rec n (s87a1 rec n)).trans (s87q8u rec n))

theorem s87ok (rec : FuncId → List DV → Hp → Res) (n : Nat) (args : List DV) (h : Hp) : bodyD CF rec n 87 args h = s87 rec n (args.getD 0 undefD) h :=
  (by kernel_rfl : bodyD CF rec n 87 args h = D87 rec n (cf Try.f87) x0 (retK CF Try.f87) (argsE args) h).trans ((congrFun (congrFun (s87m rec n) (argsE args)) h).trans (by kernel_rfl))

/-- parse.parser).within -/
noncomputable def s88 (rec : FuncId → List DV → Hp → Res) (n : Nat) (x0 x1 : DV) (h0 : Hp) : Res :=
  bnd (pNew [(.i .i64 (Int.ofNat 0)), (.s []), (.i .i64 (Int.ofNat 0)), .l0, .l0, .l0] h0) fun v1 h1 =>
  bnd (rec 52 [x0] h1) fun v2 h2 =>
  bnd (pNew [(.i .i64 (Int.ofNat 0)), (.s []), (.i .i64 (Int.ofNat 0)), (.i .i64 (Int.ofNat 0))] h2) fun v3 h3 =>
  bnd (pStore 4 v3 v2 h3) fun _ h4 =>
  bnd (pNil x0 h4) fun v5 h5 =>
  bnd (pField 1 v5 h5) fun v6 h6 =>
  bnd (pLoad1 v6 h6) fun v7 h7 =>
  bnd (pInt .eql v7 (.i .i64 (Int.ofNat 20)) h7) fun v8 h8 =>
  ifD v8 (
    bnd (pLoadA 4 v3 h8) fun v9 h9 =>
    bnd (rec 54 [x0, v9, (.i .i64 (Int.ofNat 14))] h9) fun v10 h10 =>
    bnd (pBuild [(.i .i64 (Int.ofNat 0)), (.s []), (.i .i64 (Int.ofNat 0)), .l0, .l0, .l0] [] h10) fun v11 h11 =>
    bnd (pStore 6 v1 v11 h11) fun _ h12 =>
    bnd (pLoadA 6 v1 h12) fun v13 _ =>
    some (v13, h12)) (
    bnd (pNil x0 h8) fun v14 h14 =>
    bnd (pField 1 v14 h14) fun v15 h15 =>
    bnd (pLoad1 v15 h15) fun v16 h16 =>
    bnd (pInt .add v16 (.i .i64 (Int.ofNat 1)) h16) fun v17 h17 =>
    bnd (pNil x0 h17) fun v18 h18 =>
    bnd (pField 1 v18 h18) fun v19 h19 =>
    bnd (pStore 1 v19 v17 h19) fun _ h20 =>
    bnd (pCall CF rec x1 [] h20) fun v21 h21 =>
    bnd (pNew [(.i .i64 (Int.ofNat 0)), (.s []), (.i .i64 (Int.ofNat 0)), .l0, .l0, .l0] h21) fun v22 h22 =>
    bnd (pStore 6 v22 v21 h22) fun _ h23 =>
    bnd (pNil x0 h23) fun v24 h24 =>
    bnd (pField 1 v24 h24) fun v25 h25 =>
    bnd (pLoad1 v25 h25) fun v26 h26 =>
    bnd (pInt .sub v26 (.i .i64 (Int.ofNat 1)) h26) fun v27 h27 =>
    bnd (pNil x0 h27) fun v28 h28 =>
    bnd (pField 1 v28 h28) fun v29 h29 =>
    bnd (pStore 1 v29 v27 h29) fun _ h30 =>
    bnd (pLoadA 6 v22 h30) fun v31 h31 =>
    bnd (pStore 6 v1 v31 h31) fun _ h32 =>
    bnd (pLoadA 6 v1 h32) fun v33 _ =>
    some (v33, h32))

noncomputable def D88 (rec : FuncId → List DV → Hp → Res) (n : Nat) (c : Code) (X : Nat → K) (k : K) : K := codeD CF rec 35 n c X (retK CF Try.f88) k

theorem s88m (rec : FuncId → List DV → Hp → Res) (n : Nat) : D88 rec n (cf Try.f88) x0 (retK CF Try.f88) = (fun (env : Env) (h : Hp) => s88 rec n (env 0) (env 1) h) :=
  (by kernel_rfl)

theorem s88ok (rec : FuncId → List DV → Hp → Res) (n : Nat) (args : List DV) (h : Hp) : bodyD CF rec n 88 args h = s88 rec n (args.getD 0 undefD) (args.getD 1 undefD) h :=
  (by kernel_rfl : bodyD CF rec n 88 args h = D88 rec n (cf Try.f88) x0 (retK CF Try.f88) (argsE args) h).trans ((congrFun (congrFun (s88m rec n) (argsE args)) h).trans (by kernel_rfl))

end Go.Dd
