/- Dd, part Q6 (printed by gen.py): functions of the seat's program as Lean functions, linked to Dd. -/
import Derived.Test.YtliejomdaookoaaDdxQh
set_option linter.unusedVariables false
set_option maxRecDepth 100000
namespace Go.Dd
open Go.Proofs

noncomputable def s89a3 (rec : FuncId → List DV → Hp → Res) (n : Nat) (x0 x2 x3 : DV) (h0 : Hp) : Res :=
  bnd (rec 52 [x0] h0) fun v1 h1 =>
  bnd (pLoadA 6 x3 h1) fun v2 h2 =>
  bnd (pStore 6 x2 v2 h2) fun _ h3 =>
  bnd (pLoadA 6 x2 h3) fun v4 _ =>
  some (v4, h3)

noncomputable def s89a7 (rec : FuncId → List DV → Hp → Res) (n : Nat) (kk4 : DV → DV → DV → Hp → Res) (x0 x2 x3 x4 : DV) (h0 : Hp) : Res :=
  bnd (pField 5 x3 h0) fun v9 h9 =>
  bnd (pLoad1 v9 h9) fun v10 h10 =>
  bnd (pLoadA 6 x4 h10) fun v11 h11 =>
  bnd (pBuildSlice [(.i .i64 (Int.ofNat 0)), (.s []), (.i .i64 (Int.ofNat 0)), .l0, .l0, .l0] 1 [(0, 6, v11)] h11) fun v12 h12 =>
  bnd (pAppend 6 104 v10 v12 h12) fun v13 h13 =>
  bnd (pField 5 x3 h13) fun v14 h14 =>
  bnd (pStore 1 v14 v13 h14) fun _ h15 =>
  kk4 x0 x2 x3 h15

noncomputable def s89a6 (rec : FuncId → List DV → Hp → Res) (n : Nat) (kk4 : DV → DV → DV → Hp → Res) (x0 x2 x3 x4 x5 : DV) (h0 : Hp) : Res :=
  ifD x5 (
    s89a7 rec n kk4 x0 x2 x3 x4 h0) (
    bnd (rec 51 [x0, (.i .i64 (Int.ofNat 7)), (.s [])] h0) fun v37 h37 =>
    bnd (gD v37 false (some (x0, h37)) h37) fun v38 h38 =>
    bnd (gD v37 false (rec 51 [v38, (.i .i64 (Int.ofNat 10)), (.s [40])] h38) h38) fun v39 h39 =>
    bnd (pPick v37 (.b true) v39 h39) fun v40 h40 =>
    ifD v40 (
      bnd (rec 88 [x0, (.f 89 [x0] [])] h40) fun v41 h41 =>
      bnd (pStore 6 x4 v41 h41) fun _ h42 =>
      s89a7 rec n kk4 x0 x2 x3 x4 h42) (
      bnd (rec 55 [x0, (.i .i64 (Int.ofNat 0))] h40) fun v43 h43 =>
      bnd (rec 54 [x0, v43, (.i .i64 (Int.ofNat 13))] h43) fun v44 h44 =>
      s89a7 rec n kk4 x0 x2 x3 x4 h44))

noncomputable def s89a5 (rec : FuncId → List DV → Hp → Res) (n : Nat) (kk4 : DV → DV → DV → Hp → Res) (x0 x2 x3 : DV) (h0 : Hp) : Res :=
  bnd (rec 87 [x0] h0) fun v53 h53 =>
  bnd (pExtract 0 v53 h53) fun v54 h54 =>
  bnd (pExtract 1 v53 h54) fun v55 h55 =>
  bnd (pNew [(.i .i64 (Int.ofNat 0)), (.s []), (.i .i64 (Int.ofNat 0)), .l0, .l0, .l0] h55) fun v56 h56 =>
  bnd (pStore 6 v56 v54 h56) fun _ h57 =>
  s89a6 rec n kk4 x0 x2 x3 v56 v55 h57

noncomputable def s89a4b (rec : FuncId → List DV → Hp → Res) (n : Nat) (kk4 : DV → DV → DV → Hp → Res) (x0 x2 x3 : DV) (h0 : Hp) : Res :=
    bnd (pNil x0 h0) fun v73 h73 =>
    bnd (pField 3 v73 h73) fun v74 h74 =>
    bnd (pLoad1 v74 h74) fun v75 h75 =>
    bnd (pInt .eql v75 (.i .i64 (Int.ofNat 0)) h75) fun v76 h76 =>
    bnd (gD v76 true (some (x0, h76)) h76) fun v77 h77 =>
    bnd (gD v76 true (rec 51 [v77, (.i .i64 (Int.ofNat 10)), (.s [41])] h77) h77) fun v78 h78 =>
    bnd (gD v76 true (pUn .not v78 h78) h78) fun v79 h79 =>
    bnd (pPick v76 v79 (.b false) h79) fun v80 h80 =>
    ifD v80 (
      s89a5 rec n kk4 x0 x2 x3 h80) (
      s89a3 rec n x0 x2 x3 h80)

noncomputable def s89a4l (rec : FuncId → List DV → Hp → Res) (n : Nat) (m : Nat) : DV → DV → DV → Hp → Res :=
  Nat.rec (motive := fun _ => DV → DV → DV → Hp → Res) (fun _ _ _ _ => none) (fun _ ih => s89a4b rec n ih) m

noncomputable def s89a4 (rec : FuncId → List DV → Hp → Res) (n : Nat) : DV → DV → DV → Hp → Res := s89a4l rec n n

noncomputable def s89a2 (rec : FuncId → List DV → Hp → Res) (n : Nat) (x0 x2 x3 : DV) (h0 : Hp) : Res :=
  s89a4 rec n x0 x2 x3 h0

noncomputable def s89a1 (rec : FuncId → List DV → Hp → Res) (n : Nat) (x0 x2 : DV) (h0 : Hp) : Res :=
  bnd (pBuild [(.i .i64 (Int.ofNat 0)), (.s []), (.i .i64 (Int.ofNat 0)), .l0, .l0, .l0] [(0, 1, (.i .i64 (Int.ofNat 4)))] h0) fun v89 h89 =>
  bnd (pNew [(.i .i64 (Int.ofNat 0)), (.s []), (.i .i64 (Int.ofNat 0)), .l0, .l0, .l0] h89) fun v90 h90 =>
  bnd (pStore 6 v90 v89 h90) fun _ h91 =>
  s89a2 rec n x0 x2 v90 h91

/-- parse.parser).literals -/
noncomputable def s89 (rec : FuncId → List DV → Hp → Res) (n : Nat) (x0 : DV) (h0 : Hp) : Res :=
  bnd (pNew [(.i .i64 (Int.ofNat 0)), (.s []), (.i .i64 (Int.ofNat 0)), .l0, .l0, .l0] h0) fun v101 h101 =>
  s89a1 rec n x0 v101 h101

noncomputable def D89 (rec : FuncId → List DV → Hp → Res) (n : Nat) (c : Code) (X : Nat → K) (k : K) : K := codeD CF rec 48 n c X (retK CF Try.f89) k

theorem s89a3e (rec : FuncId → List DV → Hp → Res) (n : Nat) : D89 rec n (cR (cR (cR (cf Try.f89)))) x0 (retK CF Try.f89) = (fun (env : Env) (h : Hp) => s89a3 rec n (env 0) (env 2) (env 3) h) :=
  (by kernel_rfl)

theorem s89a7q1 (rec : FuncId → List DV → Hp → Res) (n : Nat) (kk4 : DV → DV → DV → Hp → Res) (q0 : DV → DV → DV → Hp → Res) : D89 rec n (cR (cR (cL (cR (cL (cL (cL (cR (cR (cf Try.f89)))))))))) (xs (xs x0 0 (fun (env : Env) (h : Hp) => q0 (env 0) (env 2) (env 3) h)) 1 (fun (env : Env) (h : Hp) => kk4 (env 0) (env 2) (env 3) h)) (fun (env : Env) (h : Hp) => kk4 (env 0) (env 2) (env 3) h) = fun (env : Env) (h : Hp) =>
    bnd (pField 5 (env 3) h) fun v23 h23 =>
    bnd (pLoad1 v23 h23) fun v24 h24 =>
    bnd (pLoadA 6 (env 4) h24) fun v25 h25 =>
    bnd (pBuildSlice [(.i .i64 (Int.ofNat 0)), (.s []), (.i .i64 (Int.ofNat 0)), .l0, .l0, .l0] 1 [(0, 6, v25)] h25) fun v26 h26 =>
    bnd (pAppend 6 104 v24 v26 h26) fun v27 h27 =>
    bnd (pField 5 (env 3) h27) fun v28 h28 =>
    bnd (pStore 1 v28 v27 h28) fun _ h29 =>
    kk4 (env 0) (env 2) (env 3) h29 := by kernel_rfl

theorem s89a7q1u (rec : FuncId → List DV → Hp → Res) (n : Nat) (kk4 : DV → DV → DV → Hp → Res) : (fun (env : Env) (h : Hp) =>
    bnd (pField 5 (env 3) h) fun v30 h30 =>
    bnd (pLoad1 v30 h30) fun v31 h31 =>
    bnd (pLoadA 6 (env 4) h31) fun v32 h32 =>
    bnd (pBuildSlice [(.i .i64 (Int.ofNat 0)), (.s []), (.i .i64 (Int.ofNat 0)), .l0, .l0, .l0] 1 [(0, 6, v32)] h32) fun v33 h33 =>
    bnd (pAppend 6 104 v31 v33 h33) fun v34 h34 =>
    bnd (pField 5 (env 3) h34) fun v35 h35 =>
    bnd (pStore 1 v35 v34 h35) fun _ h36 =>
    kk4 (env 0) (env 2) (env 3) h36) = (fun (env : Env) (h : Hp) => s89a7 rec n kk4 (env 0) (env 2) (env 3) (env 4) h) := by kernel_rfl

theorem s89a7e (rec : FuncId → List DV → Hp → Res) (n : Nat) (kk4 : DV → DV → DV → Hp → Res) : D89 rec n (cR (cR (cL (cR (cL (cL (cL (cR (cR (cf Try.f89)))))))))) (xs (xs x0 0 (fun (env : Env) (h : Hp) => s89a3 rec n (env 0) (env 2) (env 3) h)) 1 (fun (env : Env) (h : Hp) => kk4 (env 0) (env 2) (env 3) h)) (fun (env : Env) (h : Hp) => kk4 (env 0) (env 2) (env 3) h) = (fun (env : Env) (h : Hp) => s89a7 rec n kk4 (env 0) (env 2) (env 3) (env 4) h) :=
  (s89a7q1 rec n kk4 (s89a3 rec n)).trans (s89a7q1u rec n kk4)

theorem s89a6p2 (rec : FuncId → List DV → Hp → Res) (n : Nat) (kk4 : DV → DV → DV → Hp → Res) : D89 rec n (cR (cL (cR (cL (cL (cL (cR (cR (cf Try.f89))))))))) (xs (xs x0 0 (fun (env : Env) (h : Hp) => s89a3 rec n (env 0) (env 2) (env 3) h)) 1 (fun (env : Env) (h : Hp) => kk4 (env 0) (env 2) (env 3) h)) (fun (env : Env) (h : Hp) => kk4 (env 0) (env 2) (env 3) h) = D89 rec n (cL (cR (cL (cR (cL (cL (cL (cR (cR (cf Try.f89)))))))))) (xs (xs x0 0 (fun (env : Env) (h : Hp) => s89a3 rec n (env 0) (env 2) (env 3) h)) 1 (fun (env : Env) (h : Hp) => kk4 (env 0) (env 2) (env 3) h)) (fun (env : Env) (h : Hp) => s89a7 rec n kk4 (env 0) (env 2) (env 3) (env 4) h) :=
  congrArg (fun k => D89 rec n (cL (cR (cL (cR (cL (cL (cL (cR (cR (cf Try.f89)))))))))) (xs (xs x0 0 (fun (env : Env) (h : Hp) => s89a3 rec n (env 0) (env 2) (env 3) h)) 1 (fun (env : Env) (h : Hp) => kk4 (env 0) (env 2) (env 3) h)) k) (s89a7e rec n kk4)

theorem s89a6e (rec : FuncId → List DV → Hp → Res) (n : Nat) (kk4 : DV → DV → DV → Hp → Res) : D89 rec n (cR (cL (cR (cL (cL (cL (cR (cR (cf Try.f89))))))))) (xs (xs x0 0 (fun (env : Env) (h : Hp) => s89a3 rec n (env 0) (env 2) (env 3) h)) 1 (fun (env : Env) (h : Hp) => kk4 (env 0) (env 2) (env 3) h)) (fun (env : Env) (h : Hp) => kk4 (env 0) (env 2) (env 3) h) = (fun (env : Env) (h : Hp) => s89a6 rec n kk4 (env 0) (env 2) (env 3) (env 4) (env 5) h) :=
  (s89a6p2 rec n kk4).trans
  ((by kernel_rfl))

theorem s89a5p3 (rec : FuncId → List DV → Hp → Res) (n : Nat) (kk4 : DV → DV → DV → Hp → Res) : D89 rec n (cL (cR (cL (cL (cL (cR (cR (cf Try.f89)))))))) (xs (xs x0 0 (fun (env : Env) (h : Hp) => s89a3 rec n (env 0) (env 2) (env 3) h)) 1 (fun (env : Env) (h : Hp) => kk4 (env 0) (env 2) (env 3) h)) (fun (env : Env) (h : Hp) => kk4 (env 0) (env 2) (env 3) h) = D89 rec n (cL (cL (cR (cL (cL (cL (cR (cR (cf Try.f89))))))))) (xs (xs x0 0 (fun (env : Env) (h : Hp) => s89a3 rec n (env 0) (env 2) (env 3) h)) 1 (fun (env : Env) (h : Hp) => kk4 (env 0) (env 2) (env 3) h)) (fun (env : Env) (h : Hp) => s89a6 rec n kk4 (env 0) (env 2) (env 3) (env 4) (env 5) h) :=
  congrArg (fun k => D89 rec n (cL (cL (cR (cL (cL (cL (cR (cR (cf Try.f89))))))))) (xs (xs x0 0 (fun (env : Env) (h : Hp) => s89a3 rec n (env 0) (env 2) (env 3) h)) 1 (fun (env : Env) (h : Hp) => kk4 (env 0) (env 2) (env 3) h)) k) (s89a6e rec n kk4)

theorem s89a5q4 (rec : FuncId → List DV → Hp → Res) (n : Nat) (kk4 : DV → DV → DV → Hp → Res) (q0 : DV → DV → DV → DV → DV → Hp → Res) (q1 : DV → DV → DV → Hp → Res) : D89 rec n (cL (cL (cR (cL (cL (cL (cR (cR (cf Try.f89))))))))) (xs (xs x0 0 (fun (env : Env) (h : Hp) => q1 (env 0) (env 2) (env 3) h)) 1 (fun (env : Env) (h : Hp) => kk4 (env 0) (env 2) (env 3) h)) (fun (env : Env) (h : Hp) => q0 (env 0) (env 2) (env 3) (env 4) (env 5) h) = fun (env : Env) (h : Hp) =>
    bnd (rec 87 [(env 0)] h) fun v63 h63 =>
    bnd (pExtract 0 v63 h63) fun v64 h64 =>
    bnd (pExtract 1 v63 h64) fun v65 h65 =>
    bnd (pNew [(.i .i64 (Int.ofNat 0)), (.s []), (.i .i64 (Int.ofNat 0)), .l0, .l0, .l0] h65) fun v66 h66 =>
    bnd (pStore 6 v66 v64 h66) fun _ h67 =>
    q0 (env 0) (env 2) (env 3) v66 v65 h67 := by kernel_rfl

theorem s89a5q4u (rec : FuncId → List DV → Hp → Res) (n : Nat) (kk4 : DV → DV → DV → Hp → Res) : (fun (env : Env) (h : Hp) =>
    bnd (rec 87 [(env 0)] h) fun v68 h68 =>
    bnd (pExtract 0 v68 h68) fun v69 h69 =>
    bnd (pExtract 1 v68 h69) fun v70 h70 =>
    bnd (pNew [(.i .i64 (Int.ofNat 0)), (.s []), (.i .i64 (Int.ofNat 0)), .l0, .l0, .l0] h70) fun v71 h71 =>
    bnd (pStore 6 v71 v69 h71) fun _ h72 =>
    s89a6 rec n kk4 (env 0) (env 2) (env 3) v71 v70 h72) = (fun (env : Env) (h : Hp) => s89a5 rec n kk4 (env 0) (env 2) (env 3) h) := by kernel_rfl

theorem s89a5e (rec : FuncId → List DV → Hp → Res) (n : Nat) (kk4 : DV → DV → DV → Hp → Res) : D89 rec n (cR (cL (cL (cL (cR (cR (cf Try.f89))))))) (xs x0 0 (fun (env : Env) (h : Hp) => s89a3 rec n (env 0) (env 2) (env 3) h)) (fun (env : Env) (h : Hp) => kk4 (env 0) (env 2) (env 3) h) = (fun (env : Env) (h : Hp) => s89a5 rec n kk4 (env 0) (env 2) (env 3) h) :=
  (by kernel_rfl : D89 rec n (cR (cL (cL (cL (cR (cR (cf Try.f89))))))) (xs x0 0 (fun (env : Env) (h : Hp) => s89a3 rec n (env 0) (env 2) (env 3) h)) (fun (env : Env) (h : Hp) => kk4 (env 0) (env 2) (env 3) h) = D89 rec n (cL (cR (cL (cL (cL (cR (cR (cf Try.f89)))))))) (xs (xs x0 0 (fun (env : Env) (h : Hp) => s89a3 rec n (env 0) (env 2) (env 3) h)) 1 (fun (env : Env) (h : Hp) => kk4 (env 0) (env 2) (env 3) h)) (fun (env : Env) (h : Hp) => kk4 (env 0) (env 2) (env 3) h)).trans
  ((s89a5p3 rec n kk4).trans
  ((s89a5q4 rec n kk4 (s89a6 rec n kk4) (s89a3 rec n)).trans (s89a5q4u rec n kk4)))

theorem s89a4p5 (rec : FuncId → List DV → Hp → Res) (n : Nat) (kk4 : DV → DV → DV → Hp → Res) : D89 rec n (cL (cL (cL (cR (cR (cf Try.f89)))))) (xs x0 0 (fun (env : Env) (h : Hp) => s89a3 rec n (env 0) (env 2) (env 3) h)) (fun (env : Env) (h : Hp) => kk4 (env 0) (env 2) (env 3) h) = D89 rec n (cL (cL (cL (cL (cR (cR (cf Try.f89))))))) (xs x0 0 (fun (env : Env) (h : Hp) => s89a3 rec n (env 0) (env 2) (env 3) h)) (fun (env : Env) (h : Hp) => s89a5 rec n kk4 (env 0) (env 2) (env 3) h) :=
  congrArg (fun k => D89 rec n (cL (cL (cL (cL (cR (cR (cf Try.f89))))))) (xs x0 0 (fun (env : Env) (h : Hp) => s89a3 rec n (env 0) (env 2) (env 3) h)) k) (s89a5e rec n kk4)

theorem s89a4be (rec : FuncId → List DV → Hp → Res) (n : Nat) (kk4 : DV → DV → DV → Hp → Res) : D89 rec n (cL (cL (cL (cR (cR (cf Try.f89)))))) (xs x0 0 (fun (env : Env) (h : Hp) => s89a3 rec n (env 0) (env 2) (env 3) h)) (fun (env : Env) (h : Hp) => kk4 (env 0) (env 2) (env 3) h) = (fun (env : Env) (h : Hp) => s89a4b rec n kk4 (env 0) (env 2) (env 3) h) :=
  (s89a4p5 rec n kk4).trans
  ((by kernel_rfl))

theorem s89a4le (rec : FuncId → List DV → Hp → Res) (n : Nat) (m : Nat) : loopN (fun kk => D89 rec n (cL (cL (cL (cR (cR (cf Try.f89)))))) (xs x0 0 (fun (env : Env) (h : Hp) => s89a3 rec n (env 0) (env 2) (env 3) h)) kk) m = (fun (env : Env) (h : Hp) => s89a4l rec n m (env 0) (env 2) (env 3) h) := by
  induction m with
  | zero => exact (by kernel_rfl : loopN (fun kk => D89 rec n (cL (cL (cL (cR (cR (cf Try.f89)))))) (xs x0 0 (fun (env : Env) (h : Hp) => s89a3 rec n (env 0) (env 2) (env 3) h)) kk) 0 = (fun (env : Env) (h : Hp) => s89a4l rec n 0 (env 0) (env 2) (env 3) h))
  | succ m ih =>
    refine (by kernel_rfl : loopN (fun kk => D89 rec n (cL (cL (cL (cR (cR (cf Try.f89)))))) (xs x0 0 (fun (env : Env) (h : Hp) => s89a3 rec n (env 0) (env 2) (env 3) h)) kk) (m + 1) = D89 rec n (cL (cL (cL (cR (cR (cf Try.f89)))))) (xs x0 0 (fun (env : Env) (h : Hp) => s89a3 rec n (env 0) (env 2) (env 3) h)) (loopN (fun kk => D89 rec n (cL (cL (cL (cR (cR (cf Try.f89)))))) (xs x0 0 (fun (env : Env) (h : Hp) => s89a3 rec n (env 0) (env 2) (env 3) h)) kk) m)).trans ?_
    rw [ih]
    exact (s89a4be rec n (s89a4l rec n m)).trans (by kernel_rfl)

theorem s89a4e (rec : FuncId → List DV → Hp → Res) (n : Nat) : D89 rec n (cL (cL (cR (cR (cf Try.f89))))) (xs x0 0 (fun (env : Env) (h : Hp) => s89a3 rec n (env 0) (env 2) (env 3) h)) (fun (env : Env) (h : Hp) => s89a3 rec n (env 0) (env 2) (env 3) h) = (fun (env : Env) (h : Hp) => s89a4 rec n (env 0) (env 2) (env 3) h) :=
  (by kernel_rfl : D89 rec n (cL (cL (cR (cR (cf Try.f89))))) (xs x0 0 (fun (env : Env) (h : Hp) => s89a3 rec n (env 0) (env 2) (env 3) h)) (fun (env : Env) (h : Hp) => s89a3 rec n (env 0) (env 2) (env 3) h) = loopN (fun kk => D89 rec n (cL (cL (cL (cR (cR (cf Try.f89)))))) (xs x0 0 (fun (env : Env) (h : Hp) => s89a3 rec n (env 0) (env 2) (env 3) h)) kk) n).trans ((s89a4le rec n n).trans (by kernel_rfl))

theorem s89a2p6 (rec : FuncId → List DV → Hp → Res) (n : Nat) : D89 rec n (cR (cR (cf Try.f89))) x0 (retK CF Try.f89) = D89 rec n (cL (cR (cR (cf Try.f89)))) x0 (fun (env : Env) (h : Hp) => s89a3 rec n (env 0) (env 2) (env 3) h) :=
  congrArg (fun k => D89 rec n (cL (cR (cR (cf Try.f89)))) x0 k) (s89a3e rec n)

theorem s89a2e (rec : FuncId → List DV → Hp → Res) (n : Nat) : D89 rec n (cR (cR (cf Try.f89))) x0 (retK CF Try.f89) = (fun (env : Env) (h : Hp) => s89a2 rec n (env 0) (env 2) (env 3) h) :=
  (s89a2p6 rec n).trans
  ((by kernel_rfl : D89 rec n (cL (cR (cR (cf Try.f89)))) x0 (fun (env : Env) (h : Hp) => s89a3 rec n (env 0) (env 2) (env 3) h) = D89 rec n (cL (cL (cR (cR (cf Try.f89))))) (xs x0 0 (fun (env : Env) (h : Hp) => s89a3 rec n (env 0) (env 2) (env 3) h)) (fun (env : Env) (h : Hp) => s89a3 rec n (env 0) (env 2) (env 3) h)).trans
  ((s89a4e rec n).trans (by kernel_rfl)))

theorem s89a1p7 (rec : FuncId → List DV → Hp → Res) (n : Nat) : D89 rec n (cR (cf Try.f89)) x0 (retK CF Try.f89) = D89 rec n (cL (cR (cf Try.f89))) x0 (fun (env : Env) (h : Hp) => s89a2 rec n (env 0) (env 2) (env 3) h) :=
  congrArg (fun k => D89 rec n (cL (cR (cf Try.f89))) x0 k) (s89a2e rec n)

theorem s89a1q8 (rec : FuncId → List DV → Hp → Res) (n : Nat) (q0 : DV → DV → DV → Hp → Res) : D89 rec n (cL (cR (cf Try.f89))) x0 (fun (env : Env) (h : Hp) => q0 (env 0) (env 2) (env 3) h) = fun (env : Env) (h : Hp) =>
    bnd (pBuild [(.i .i64 (Int.ofNat 0)), (.s []), (.i .i64 (Int.ofNat 0)), .l0, .l0, .l0] [(0, 1, (.i .i64 (Int.ofNat 4)))] h) fun v95 h95 =>
    bnd (pNew [(.i .i64 (Int.ofNat 0)), (.s []), (.i .i64 (Int.ofNat 0)), .l0, .l0, .l0] h95) fun v96 h96 =>
    bnd (pStore 6 v96 v95 h96) fun _ h97 =>
    q0 (env 0) (env 2) v96 h97 := by kernel_rfl

theorem s89a1q8u (rec : FuncId → List DV → Hp → Res) (n : Nat) : (fun (env : Env) (h : Hp) =>
    bnd (pBuild [(.i .i64 (Int.ofNat 0)), (.s []), (.i .i64 (Int.ofNat 0)), .l0, .l0, .l0] [(0, 1, (.i .i64 (Int.ofNat 4)))] h) fun v98 h98 =>
    bnd (pNew [(.i .i64 (Int.ofNat 0)), (.s []), (.i .i64 (Int.ofNat 0)), .l0, .l0, .l0] h98) fun v99 h99 =>
    bnd (pStore 6 v99 v98 h99) fun _ h100 =>
    s89a2 rec n (env 0) (env 2) v99 h100) = (fun (env : Env) (h : Hp) => s89a1 rec n (env 0) (env 2) h) := by kernel_rfl

theorem s89a1e (rec : FuncId → List DV → Hp → Res) (n : Nat) : D89 rec n (cR (cf Try.f89)) x0 (retK CF Try.f89) = (fun (env : Env) (h : Hp) => s89a1 rec n (env 0) (env 2) h) :=
  (s89a1p7 rec n).trans
  ((s89a1q8 rec n (s89a2 rec n)).trans (s89a1q8u rec n))

theorem s89p9 (rec : FuncId → List DV → Hp → Res) (n : Nat) : D89 rec n (cf Try.f89) x0 (retK CF Try.f89) = D89 rec n (cL (cf Try.f89)) x0 (fun (env : Env) (h : Hp) => s89a1 rec n (env 0) (env 2) h) :=
  congrArg (fun k => D89 rec n (cL (cf Try.f89)) x0 k) (s89a1e rec n)

theorem s89q10 (rec : FuncId → List DV → Hp → Res) (n : Nat) (q0 : DV → DV → Hp → Res) : D89 rec n (cL (cf Try.f89)) x0 (fun (env : Env) (h : Hp) => q0 (env 0) (env 2) h) = fun (env : Env) (h : Hp) =>
    bnd (pNew [(.i .i64 (Int.ofNat 0)), (.s []), (.i .i64 (Int.ofNat 0)), .l0, .l0, .l0] h) fun v103 h103 =>
    q0 (env 0) v103 h103 := by kernel_rfl

theorem s89q10u (rec : FuncId → List DV → Hp → Res) (n : Nat) : (fun (env : Env) (h : Hp) =>
    bnd (pNew [(.i .i64 (Int.ofNat 0)), (.s []), (.i .i64 (Int.ofNat 0)), .l0, .l0, .l0] h) fun v104 h104 =>
    s89a1 rec n (env 0) v104 h104) = (fun (env : Env) (h : Hp) => s89 rec n (env 0) h) := by kernel_rfl

theorem s89m (rec : FuncId → List DV → Hp → Res) (n : Nat) : D89 rec n (cf Try.f89) x0 (retK CF Try.f89) = (fun (env : Env) (h : Hp) => s89 rec n (env 0) h) :=
  (s89p9 rec n).trans
  ((s89q10 rec n (s89a1 rec n)).trans (s89q10u rec n))

theorem s89ok (rec : FuncId → List DV → Hp → Res) (n : Nat) (args : List DV) (h : Hp) : bodyD CF rec n 89 args h = s89 rec n (args.getD 0 undefD) h :=
  (by kernel_rfl : bodyD CF rec n 89 args h = D89 rec n (cf Try.f89) x0 (retK CF Try.f89) (argsE args) h).trans ((congrFun (congrFun (s89m rec n) (argsE args)) h).trans (by kernel_rfl))

/-- parse.parser).inner -/
noncomputable def s90 (rec : FuncId → List DV → Hp → Res) (n : Nat) (x0 : DV) (h0 : Hp) : Res :=
  bnd (pNew [(.i .i64 (Int.ofNat 0)), (.s []), (.i .i64 (Int.ofNat 0)), .l0, .l0, .l0] h0) fun v1 h1 =>
  bnd (rec 53 [x0] h1) fun v2 h2 =>
  bnd (pNew [(.i .i64 (Int.ofNat 0)), (.s []), (.i .i64 (Int.ofNat 0)), .l0, .l0, .l0] h2) fun v3 h3 =>
  bnd (pStore 6 v3 v2 h3) fun _ h4 =>
  bnd (rec 32 [x0, (.i .i64 (Int.ofNat 10)), (.s [41])] h4) fun v5 h5 =>
  bnd (pLoadA 6 v3 h5) fun v6 h6 =>
  bnd (pStore 6 v1 v6 h6) fun _ h7 =>
  bnd (pLoadA 6 v1 h7) fun v8 _ =>
  some (v8, h7)

noncomputable def D90 (rec : FuncId → List DV → Hp → Res) (n : Nat) (c : Code) (X : Nat → K) (k : K) : K := codeD CF rec 9 n c X (retK CF Try.f90) k

theorem s90m (rec : FuncId → List DV → Hp → Res) (n : Nat) : D90 rec n (cf Try.f90) x0 (retK CF Try.f90) = (fun (env : Env) (h : Hp) => s90 rec n (env 0) h) :=
  (by kernel_rfl)

theorem s90ok (rec : FuncId → List DV → Hp → Res) (n : Nat) (args : List DV) (h : Hp) : bodyD CF rec n 90 args h = s90 rec n (args.getD 0 undefD) h :=
  (by kernel_rfl : bodyD CF rec n 90 args h = D90 rec n (cf Try.f90) x0 (retK CF Try.f90) (argsE args) h).trans ((congrFun (congrFun (s90m rec n) (argsE args)) h).trans (by kernel_rfl))

noncomputable def s91a4 (rec : FuncId → List DV → Hp → Res) (n : Nat) (x0 x2 x3 : DV) (h0 : Hp) : Res :=
  bnd (rec 30 [x0] h0) fun v1 h1 =>
  bnd (pField 4 x3 h1) fun v2 h2 =>
  bnd (pStore 1 v2 v1 h2) fun _ h3 =>
  bnd (rec 31 [x0] h3) fun v4 h4 =>
  bnd (pField 5 x3 h4) fun v5 h5 =>
  bnd (pStore 1 v5 v4 h5) fun _ h6 =>
  bnd (rec 32 [x0, (.i .i64 (Int.ofNat 10)), (.s [93])] h6) fun v7 h7 =>
  bnd (pLoadA 6 x3 h7) fun v8 h8 =>
  bnd (pStore 6 x2 v8 h8) fun _ h9 =>
  bnd (pLoadA 6 x2 h9) fun v10 _ =>
  some (v10, h9)

noncomputable def s91a3 (rec : FuncId → List DV → Hp → Res) (n : Nat) (x0 x2 x3 : DV) (h0 : Hp) : Res :=
  bnd (pField 3 x3 h0) fun v21 h21 =>
  bnd (pLoad1 v21 h21) fun v22 h22 =>
  bnd (pLen v22 h22) fun v23 h23 =>
  bnd (pInt .gtr v23 (.i .i64 (Int.ofNat 0)) h23) fun v24 h24 =>
  bnd (gD v24 true (some (x0, h24)) h24) fun v25 h25 =>
  bnd (gD v24 true (rec 51 [v25, (.i .i64 (Int.ofNat 10)), (.s [93])] h25) h25) fun v26 h26 =>
  bnd (gD v24 true (pUn .not v26 h26) h26) fun v27 h27 =>
  bnd (pPick v24 v27 (.b false) h27) fun v28 h28 =>
  ifD v28 (
    bnd (rec 32 [x0, (.i .i64 (Int.ofNat 10)), (.s [124])] h28) fun v29 h29 =>
    s91a4 rec n x0 x2 x3 h29) (
    s91a4 rec n x0 x2 x3 h28)

noncomputable def s91a5b (rec : FuncId → List DV → Hp → Res) (n : Nat) (kk5 : DV → DV → DV → Hp → Res) (x0 x2 x3 : DV) (h0 : Hp) : Res :=
    bnd (rec 51 [x0, (.i .i64 (Int.ofNat 8)), (.s [])] h0) fun v39 h39 =>
    ifD v39 (
      bnd (pField 3 x3 (resv 1 h39)) fun v40 h40 =>
      bnd (pLoad1 v40 h40) fun v41 h41 =>
      bnd (pField 3 x3 h41) fun v42 h42 =>
      bnd (pLoad1 v42 h42) fun v43 h43 =>
      bnd (rec 56 [x0, (.i .i64 (Int.ofNat 8)), v43] h43) fun v44 h44 =>
      cnd (sameR (pLoad1 v40 h44) v41 && true) (
      bnd (pBuildSliceAt (nthPos 0 h39.next) [(.s [])] 1 [(0, 1, v44)] h44) fun v45 h45 =>
      bnd (pAppend 1 16 v41 v45 h45) fun v46 h46 =>
      bnd (pField 3 x3 h46) fun v47 h47 =>
      bnd (pStore 1 v47 v46 h47) fun v48 h48 =>
      kk5 x0 x2 x3 h48)) (
      s91a3 rec n x0 x2 x3 h39)

noncomputable def s91a5l (rec : FuncId → List DV → Hp → Res) (n : Nat) (m : Nat) : DV → DV → DV → Hp → Res :=
  Nat.rec (motive := fun _ => DV → DV → DV → Hp → Res) (fun _ _ _ _ => none) (fun _ ih => s91a5b rec n ih) m

noncomputable def s91a5 (rec : FuncId → List DV → Hp → Res) (n : Nat) : DV → DV → DV → Hp → Res := s91a5l rec n n

noncomputable def s91a2 (rec : FuncId → List DV → Hp → Res) (n : Nat) (x0 x2 x3 : DV) (h0 : Hp) : Res :=
  s91a5 rec n x0 x2 x3 h0

noncomputable def s91a1 (rec : FuncId → List DV → Hp → Res) (n : Nat) (x0 x2 : DV) (h0 : Hp) : Res :=
  bnd (pBuild [(.i .i64 (Int.ofNat 0)), (.s []), (.i .i64 (Int.ofNat 0)), .l0, .l0, .l0] [(0, 1, (.i .i64 (Int.ofNat 9)))] h0) fun v79 h79 =>
  bnd (pNew [(.i .i64 (Int.ofNat 0)), (.s []), (.i .i64 (Int.ofNat 0)), .l0, .l0, .l0] h79) fun v80 h80 =>
  bnd (pStore 6 v80 v79 h80) fun _ h81 =>
  s91a2 rec n x0 x2 v80 h81

/-- parse.parser).block -/
noncomputable def s91 (rec : FuncId → List DV → Hp → Res) (n : Nat) (x0 : DV) (h0 : Hp) : Res :=
  bnd (pNew [(.i .i64 (Int.ofNat 0)), (.s []), (.i .i64 (Int.ofNat 0)), .l0, .l0, .l0] h0) fun v91 h91 =>
  s91a1 rec n x0 v91 h91

noncomputable def D91 (rec : FuncId → List DV → Hp → Res) (n : Nat) (c : Code) (X : Nat → K) (k : K) : K := codeD CF rec 36 n c X (retK CF Try.f91) k

theorem s91a4e (rec : FuncId → List DV → Hp → Res) (n : Nat) : D91 rec n (cR (cR (cR (cR (cf Try.f91))))) x0 (retK CF Try.f91) = (fun (env : Env) (h : Hp) => s91a4 rec n (env 0) (env 2) (env 3) h) :=
  (by kernel_rfl)

theorem s91a3p1 (rec : FuncId → List DV → Hp → Res) (n : Nat) : D91 rec n (cR (cR (cR (cf Try.f91)))) x0 (retK CF Try.f91) = D91 rec n (cL (cR (cR (cR (cf Try.f91))))) x0 (fun (env : Env) (h : Hp) => s91a4 rec n (env 0) (env 2) (env 3) h) :=
  congrArg (fun k => D91 rec n (cL (cR (cR (cR (cf Try.f91))))) x0 k) (s91a4e rec n)

theorem s91a3e (rec : FuncId → List DV → Hp → Res) (n : Nat) : D91 rec n (cR (cR (cR (cf Try.f91)))) x0 (retK CF Try.f91) = (fun (env : Env) (h : Hp) => s91a3 rec n (env 0) (env 2) (env 3) h) :=
  (s91a3p1 rec n).trans
  ((by kernel_rfl))

theorem s91a5q2 (rec : FuncId → List DV → Hp → Res) (n : Nat) (kk5 : DV → DV → DV → Hp → Res) (q0 : DV → DV → DV → Hp → Res) : D91 rec n (cL (cL (cL (cR (cR (cf Try.f91)))))) (xs x0 0 (fun (env : Env) (h : Hp) => q0 (env 0) (env 2) (env 3) h)) (fun (env : Env) (h : Hp) => kk5 (env 0) (env 2) (env 3) h) = fun (env : Env) (h : Hp) =>
    bnd (rec 51 [(env 0), (.i .i64 (Int.ofNat 8)), (.s [])] h) fun v59 h59 =>
    ifD v59 (
      bnd (pField 3 (env 3) (resv 1 h59)) fun v60 h60 =>
      bnd (pLoad1 v60 h60) fun v61 h61 =>
      bnd (pField 3 (env 3) h61) fun v62 h62 =>
      bnd (pLoad1 v62 h62) fun v63 h63 =>
      bnd (rec 56 [(env 0), (.i .i64 (Int.ofNat 8)), v63] h63) fun v64 h64 =>
      cnd (sameR (pLoad1 v60 h64) v61 && true) (
      bnd (pBuildSliceAt (nthPos 0 h59.next) [(.s [])] 1 [(0, 1, v64)] h64) fun v65 h65 =>
      bnd (pAppend 1 16 v61 v65 h65) fun v66 h66 =>
      bnd (pField 3 (env 3) h66) fun v67 h67 =>
      bnd (pStore 1 v67 v66 h67) fun v68 h68 =>
      kk5 (env 0) (env 2) (env 3) h68)) (
      q0 (env 0) (env 2) (env 3) h59) := by kernel_rfl

theorem s91a5q2u (rec : FuncId → List DV → Hp → Res) (n : Nat) (kk5 : DV → DV → DV → Hp → Res) : (fun (env : Env) (h : Hp) =>
    bnd (rec 51 [(env 0), (.i .i64 (Int.ofNat 8)), (.s [])] h) fun v69 h69 =>
    ifD v69 (
      bnd (pField 3 (env 3) (resv 1 h69)) fun v70 h70 =>
      bnd (pLoad1 v70 h70) fun v71 h71 =>
      bnd (pField 3 (env 3) h71) fun v72 h72 =>
      bnd (pLoad1 v72 h72) fun v73 h73 =>
      bnd (rec 56 [(env 0), (.i .i64 (Int.ofNat 8)), v73] h73) fun v74 h74 =>
      cnd (sameR (pLoad1 v70 h74) v71 && true) (
      bnd (pBuildSliceAt (nthPos 0 h69.next) [(.s [])] 1 [(0, 1, v74)] h74) fun v75 h75 =>
      bnd (pAppend 1 16 v71 v75 h75) fun v76 h76 =>
      bnd (pField 3 (env 3) h76) fun v77 h77 =>
      bnd (pStore 1 v77 v76 h77) fun v78 h78 =>
      kk5 (env 0) (env 2) (env 3) h78)) (
      s91a3 rec n (env 0) (env 2) (env 3) h69)) = (fun (env : Env) (h : Hp) => s91a5b rec n kk5 (env 0) (env 2) (env 3) h) := by kernel_rfl

theorem s91a5be (rec : FuncId → List DV → Hp → Res) (n : Nat) (kk5 : DV → DV → DV → Hp → Res) : D91 rec n (cL (cL (cL (cR (cR (cf Try.f91)))))) (xs x0 0 (fun (env : Env) (h : Hp) => s91a3 rec n (env 0) (env 2) (env 3) h)) (fun (env : Env) (h : Hp) => kk5 (env 0) (env 2) (env 3) h) = (fun (env : Env) (h : Hp) => s91a5b rec n kk5 (env 0) (env 2) (env 3) h) :=
  (s91a5q2 rec n kk5 (s91a3 rec n)).trans (s91a5q2u rec n kk5)

theorem s91a5le (rec : FuncId → List DV → Hp → Res) (n : Nat) (m : Nat) : loopN (fun kk => D91 rec n (cL (cL (cL (cR (cR (cf Try.f91)))))) (xs x0 0 (fun (env : Env) (h : Hp) => s91a3 rec n (env 0) (env 2) (env 3) h)) kk) m = (fun (env : Env) (h : Hp) => s91a5l rec n m (env 0) (env 2) (env 3) h) := by
  induction m with
  | zero => exact (by kernel_rfl : loopN (fun kk => D91 rec n (cL (cL (cL (cR (cR (cf Try.f91)))))) (xs x0 0 (fun (env : Env) (h : Hp) => s91a3 rec n (env 0) (env 2) (env 3) h)) kk) 0 = (fun (env : Env) (h : Hp) => s91a5l rec n 0 (env 0) (env 2) (env 3) h))
  | succ m ih =>
    refine (by kernel_rfl : loopN (fun kk => D91 rec n (cL (cL (cL (cR (cR (cf Try.f91)))))) (xs x0 0 (fun (env : Env) (h : Hp) => s91a3 rec n (env 0) (env 2) (env 3) h)) kk) (m + 1) = D91 rec n (cL (cL (cL (cR (cR (cf Try.f91)))))) (xs x0 0 (fun (env : Env) (h : Hp) => s91a3 rec n (env 0) (env 2) (env 3) h)) (loopN (fun kk => D91 rec n (cL (cL (cL (cR (cR (cf Try.f91)))))) (xs x0 0 (fun (env : Env) (h : Hp) => s91a3 rec n (env 0) (env 2) (env 3) h)) kk) m)).trans ?_
    rw [ih]
    exact (s91a5be rec n (s91a5l rec n m)).trans (by kernel_rfl)

theorem s91a5e (rec : FuncId → List DV → Hp → Res) (n : Nat) : D91 rec n (cL (cL (cR (cR (cf Try.f91))))) (xs x0 0 (fun (env : Env) (h : Hp) => s91a3 rec n (env 0) (env 2) (env 3) h)) (fun (env : Env) (h : Hp) => s91a3 rec n (env 0) (env 2) (env 3) h) = (fun (env : Env) (h : Hp) => s91a5 rec n (env 0) (env 2) (env 3) h) :=
  (by kernel_rfl : D91 rec n (cL (cL (cR (cR (cf Try.f91))))) (xs x0 0 (fun (env : Env) (h : Hp) => s91a3 rec n (env 0) (env 2) (env 3) h)) (fun (env : Env) (h : Hp) => s91a3 rec n (env 0) (env 2) (env 3) h) = loopN (fun kk => D91 rec n (cL (cL (cL (cR (cR (cf Try.f91)))))) (xs x0 0 (fun (env : Env) (h : Hp) => s91a3 rec n (env 0) (env 2) (env 3) h)) kk) n).trans ((s91a5le rec n n).trans (by kernel_rfl))

theorem s91a2p3 (rec : FuncId → List DV → Hp → Res) (n : Nat) : D91 rec n (cR (cR (cf Try.f91))) x0 (retK CF Try.f91) = D91 rec n (cL (cR (cR (cf Try.f91)))) x0 (fun (env : Env) (h : Hp) => s91a3 rec n (env 0) (env 2) (env 3) h) :=
  congrArg (fun k => D91 rec n (cL (cR (cR (cf Try.f91)))) x0 k) (s91a3e rec n)

theorem s91a2e (rec : FuncId → List DV → Hp → Res) (n : Nat) : D91 rec n (cR (cR (cf Try.f91))) x0 (retK CF Try.f91) = (fun (env : Env) (h : Hp) => s91a2 rec n (env 0) (env 2) (env 3) h) :=
  (s91a2p3 rec n).trans
  ((by kernel_rfl : D91 rec n (cL (cR (cR (cf Try.f91)))) x0 (fun (env : Env) (h : Hp) => s91a3 rec n (env 0) (env 2) (env 3) h) = D91 rec n (cL (cL (cR (cR (cf Try.f91))))) (xs x0 0 (fun (env : Env) (h : Hp) => s91a3 rec n (env 0) (env 2) (env 3) h)) (fun (env : Env) (h : Hp) => s91a3 rec n (env 0) (env 2) (env 3) h)).trans
  ((s91a5e rec n).trans (by kernel_rfl)))

theorem s91a1p4 (rec : FuncId → List DV → Hp → Res) (n : Nat) : D91 rec n (cR (cf Try.f91)) x0 (retK CF Try.f91) = D91 rec n (cL (cR (cf Try.f91))) x0 (fun (env : Env) (h : Hp) => s91a2 rec n (env 0) (env 2) (env 3) h) :=
  congrArg (fun k => D91 rec n (cL (cR (cf Try.f91))) x0 k) (s91a2e rec n)

theorem s91a1q5 (rec : FuncId → List DV → Hp → Res) (n : Nat) (q0 : DV → DV → DV → Hp → Res) : D91 rec n (cL (cR (cf Try.f91))) x0 (fun (env : Env) (h : Hp) => q0 (env 0) (env 2) (env 3) h) = fun (env : Env) (h : Hp) =>
    bnd (pBuild [(.i .i64 (Int.ofNat 0)), (.s []), (.i .i64 (Int.ofNat 0)), .l0, .l0, .l0] [(0, 1, (.i .i64 (Int.ofNat 9)))] h) fun v85 h85 =>
    bnd (pNew [(.i .i64 (Int.ofNat 0)), (.s []), (.i .i64 (Int.ofNat 0)), .l0, .l0, .l0] h85) fun v86 h86 =>
    bnd (pStore 6 v86 v85 h86) fun _ h87 =>
    q0 (env 0) (env 2) v86 h87 := by kernel_rfl

theorem s91a1q5u (rec : FuncId → List DV → Hp → Res) (n : Nat) : (fun (env : Env) (h : Hp) =>
    bnd (pBuild [(.i .i64 (Int.ofNat 0)), (.s []), (.i .i64 (Int.ofNat 0)), .l0, .l0, .l0] [(0, 1, (.i .i64 (Int.ofNat 9)))] h) fun v88 h88 =>
    bnd (pNew [(.i .i64 (Int.ofNat 0)), (.s []), (.i .i64 (Int.ofNat 0)), .l0, .l0, .l0] h88) fun v89 h89 =>
    bnd (pStore 6 v89 v88 h89) fun _ h90 =>
    s91a2 rec n (env 0) (env 2) v89 h90) = (fun (env : Env) (h : Hp) => s91a1 rec n (env 0) (env 2) h) := by kernel_rfl

theorem s91a1e (rec : FuncId → List DV → Hp → Res) (n : Nat) : D91 rec n (cR (cf Try.f91)) x0 (retK CF Try.f91) = (fun (env : Env) (h : Hp) => s91a1 rec n (env 0) (env 2) h) :=
  (s91a1p4 rec n).trans
  ((s91a1q5 rec n (s91a2 rec n)).trans (s91a1q5u rec n))

theorem s91p6 (rec : FuncId → List DV → Hp → Res) (n : Nat) : D91 rec n (cf Try.f91) x0 (retK CF Try.f91) = D91 rec n (cL (cf Try.f91)) x0 (fun (env : Env) (h : Hp) => s91a1 rec n (env 0) (env 2) h) :=
  congrArg (fun k => D91 rec n (cL (cf Try.f91)) x0 k) (s91a1e rec n)

theorem s91q7 (rec : FuncId → List DV → Hp → Res) (n : Nat) (q0 : DV → DV → Hp → Res) : D91 rec n (cL (cf Try.f91)) x0 (fun (env : Env) (h : Hp) => q0 (env 0) (env 2) h) = fun (env : Env) (h : Hp) =>
    bnd (pNew [(.i .i64 (Int.ofNat 0)), (.s []), (.i .i64 (Int.ofNat 0)), .l0, .l0, .l0] h) fun v93 h93 =>
    q0 (env 0) v93 h93 := by kernel_rfl

theorem s91q7u (rec : FuncId → List DV → Hp → Res) (n : Nat) : (fun (env : Env) (h : Hp) =>
    bnd (pNew [(.i .i64 (Int.ofNat 0)), (.s []), (.i .i64 (Int.ofNat 0)), .l0, .l0, .l0] h) fun v94 h94 =>
    s91a1 rec n (env 0) v94 h94) = (fun (env : Env) (h : Hp) => s91 rec n (env 0) h) := by kernel_rfl

theorem s91m (rec : FuncId → List DV → Hp → Res) (n : Nat) : D91 rec n (cf Try.f91) x0 (retK CF Try.f91) = (fun (env : Env) (h : Hp) => s91 rec n (env 0) h) :=
  (s91p6 rec n).trans
  ((s91q7 rec n (s91a1 rec n)).trans (s91q7u rec n))

theorem s91ok (rec : FuncId → List DV → Hp → Res) (n : Nat) (args : List DV) (h : Hp) : bodyD CF rec n 91 args h = s91 rec n (args.getD 0 undefD) h :=
  (by kernel_rfl : bodyD CF rec n 91 args h = D91 rec n (cf Try.f91) x0 (retK CF Try.f91) (argsE args) h).trans ((congrFun (congrFun (s91m rec n) (argsE args)) h).trans (by kernel_rfl))

/-- api.Node] -/
noncomputable def s92 (rec : FuncId → List DV → Hp → Res) (n : Nat) (x0 : DV) (h0 : Hp) : Res :=
  bnd (pEq (.slice 25) true x0 .l0 h0) fun v1 h1 =>
  ifD v1 (
    some (.l0, h1)) (
    bnd (pBuildSlice [] 0 [] h1) fun v2 h2 =>
    bnd (pAppend 6 104 v2 x0 h2) fun v3 h3 =>
    some (v3, h3))

noncomputable def D92 (rec : FuncId → List DV → Hp → Res) (n : Nat) (c : Code) (X : Nat → K) (k : K) : K := codeD CF rec 8 n c X (retK CF Try.f92) k

theorem s92m (rec : FuncId → List DV → Hp → Res) (n : Nat) : D92 rec n (cf Try.f92) x0 (retK CF Try.f92) = (fun (env : Env) (h : Hp) => s92 rec n (env 0) h) :=
  (by kernel_rfl)

theorem s92ok (rec : FuncId → List DV → Hp → Res) (n : Nat) (args : List DV) (h : Hp) : bodyD CF rec n 92 args h = s92 rec n (args.getD 0 undefD) h :=
  (by kernel_rfl : bodyD CF rec n 92 args h = D92 rec n (cf Try.f92) x0 (retK CF Try.f92) (argsE args) h).trans ((congrFun (congrFun (s92m rec n) (argsE args)) h).trans (by kernel_rfl))

/-- parse.parser).negative -/
noncomputable def s93 (rec : FuncId → List DV → Hp → Res) (n : Nat) (x0 : DV) (h0 : Hp) : Res :=
  bnd (rec 55 [x0, (.i .i64 (Int.ofNat 1))] h0) fun v1 h1 =>
  bnd (pNew [(.i .i64 (Int.ofNat 0)), (.s []), (.i .i64 (Int.ofNat 0)), (.i .i64 (Int.ofNat 0))] h1) fun v2 h2 =>
  bnd (pStore 4 v2 v1 h2) fun _ h3 =>
  bnd (rec 51 [x0, (.i .i64 (Int.ofNat 3)), (.s [45])] h3) fun v4 h4 =>
  bnd (gD v4 true (pField 0 v2 h4) h4) fun v5 h5 =>
  bnd (gD v4 true (pLoad1 v5 h5) h5) fun v6 h6 =>
  bnd (gD v4 true (pInt .eql v6 (.i .i64 (Int.ofNat 4)) h6) h6) fun v7 h7 =>
  bnd (pPick v4 v7 (.b false) h7) fun v8 h8 =>
  bnd (gD v8 true (pField 3 v2 h8) h8) fun v9 h9 =>
  bnd (gD v8 true (pLoad1 v9 h9) h9) fun v10 h10 =>
  bnd (gD v8 true (some (x0, h10)) h10) fun v11 h11 =>
  bnd (gD v8 true (rec 55 [v11, (.i .i64 (Int.ofNat 0))] h11) h11) fun v12 h12 =>
  cnd (sameR (gD v8 true (pLoad1 v9 h12) h12) v10 && true) (
  bnd (gD v8 true (pPart1 3 v12 h12) h12) fun v13 h13 =>
  bnd (gD v8 true (pInt .add v13 (.i .i64 (Int.ofNat 1)) h13) h13) fun v14 h14 =>
  bnd (gD v8 true (pInt .eql v10 v14 h14) h14) fun v15 h15 =>
  bnd (pPick v8 v15 (.b false) h15) fun v16 h16 =>
  some (v16, h16))

noncomputable def D93 (rec : FuncId → List DV → Hp → Res) (n : Nat) (c : Code) (X : Nat → K) (k : K) : K := codeD CF rec 22 n c X (retK CF Try.f93) k

theorem s93m (rec : FuncId → List DV → Hp → Res) (n : Nat) : D93 rec n (cf Try.f93) x0 (retK CF Try.f93) = (fun (env : Env) (h : Hp) => s93 rec n (env 0) h) :=
  (by kernel_rfl)

theorem s93ok (rec : FuncId → List DV → Hp → Res) (n : Nat) (args : List DV) (h : Hp) : bodyD CF rec n 93 args h = s93 rec n (args.getD 0 undefD) h :=
  (by kernel_rfl : bodyD CF rec n 93 args h = D93 rec n (cf Try.f93) x0 (retK CF Try.f93) (argsE args) h).trans ((congrFun (congrFun (s93m rec n) (argsE args)) h).trans (by kernel_rfl))

end Go.Dd
