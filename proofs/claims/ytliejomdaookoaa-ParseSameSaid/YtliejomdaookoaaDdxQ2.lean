/- Dd, part Q2 (printed by gen.py): functions of the seat's program as Lean functions, linked to Dd. -/
import Derived.Test.YtliejomdaookoaaDdxQh
set_option linter.unusedVariables false
set_option maxRecDepth 100000
namespace Go.Dd
open Go.Proofs

noncomputable def s26a3 (rec : FuncId → List DV → Hp → Res) (n : Nat) (x3 : DV) (h0 : Hp) : Res :=
  some (x3, h0)

noncomputable def s26a7 (rec : FuncId → List DV → Hp → Res) (n : Nat) (x0 x3 : DV) (h0 : Hp) : Res :=
  bnd (rec 28 [x0, (.i .i64 (Int.ofNat 10)), (.s [124])] h0) fun v1 h1 =>
  s26a3 rec n x3 h1

noncomputable def s26a8b (rec : FuncId → List DV → Hp → Res) (n : Nat) (kk8 : DV → DV → Hp → Res) (x0 x3 : DV) (h0 : Hp) : Res :=
    bnd (rec 41 [x0, (.i .i64 (Int.ofNat 1)), (.s [])] h0) fun v3 h3 =>
    ifD v3 (
      bnd (rec 42 [x0] h3) fun v4 h4 =>
      bnd (pPart1 1 v4 h4) fun v5 h5 =>
      bnd (pBuildSlice [(.s [])] 1 [(0, 1, v5)] h5) fun v6 h6 =>
      bnd (pAppend 1 16 x3 v6 h6) fun v7 h7 =>
      kk8 x0 v7 h7) (
      s26a7 rec n x0 x3 h3)

noncomputable def s26a8l (rec : FuncId → List DV → Hp → Res) (n : Nat) (m : Nat) : DV → DV → Hp → Res :=
  Nat.rec (motive := fun _ => DV → DV → Hp → Res) (fun _ _ _ => none) (fun _ ih => s26a8b rec n ih) m

noncomputable def s26a8 (rec : FuncId → List DV → Hp → Res) (n : Nat) : DV → DV → Hp → Res := s26a8l rec n n

noncomputable def s26a6 (rec : FuncId → List DV → Hp → Res) (n : Nat) (x0 x3 : DV) (h0 : Hp) : Res :=
  s26a8 rec n x0 x3 h0

noncomputable def s26a5 (rec : FuncId → List DV → Hp → Res) (n : Nat) (x0 x3 : DV) (h0 : Hp) : Res :=
  bnd (rec 42 [x0] h0) fun v23 h23 =>
  s26a6 rec n x0 x3 h23

noncomputable def s26a4 (rec : FuncId → List DV → Hp → Res) (n : Nat) (x0 x3 x5 : DV) (h0 : Hp) : Res :=
  ifD x5 (
    s26a5 rec n x0 x3 h0) (
    s26a3 rec n x3 h0)

noncomputable def s26a2 (rec : FuncId → List DV → Hp → Res) (n : Nat) (x0 x3 : DV) (h0 : Hp) : Res :=
  bnd (rec 41 [x0, (.i .i64 (Int.ofNat 10)), (.s [124])] h0) fun v25 h25 =>
  s26a4 rec n x0 x3 v25 h25

noncomputable def s26a1 (rec : FuncId → List DV → Hp → Res) (n : Nat) (x0 : DV) (h0 : Hp) : Res :=
  s26a2 rec n x0 .l0 h0

/-- vivariumref07.P).temps -/
noncomputable def s26 (rec : FuncId → List DV → Hp → Res) (n : Nat) (x0 : DV) (h0 : Hp) : Res :=
  s26a1 rec n x0 h0

noncomputable def D26 (rec : FuncId → List DV → Hp → Res) (n : Nat) (c : Code) (X : Nat → K) (k : K) : K := codeD CF rec 19 n c X (retK CF Try.f26) k

theorem s26a3e (rec : FuncId → List DV → Hp → Res) (n : Nat) : D26 rec n (cR (cR (cR (cf Try.f26)))) x0 (retK CF Try.f26) = (fun (env : Env) (h : Hp) => s26a3 rec n (env 3) h) :=
  (by kernel_rfl)

theorem s26a7e (rec : FuncId → List DV → Hp → Res) (n : Nat) : D26 rec n (cR (cR (cL (cR (cL (cR (cR (cf Try.f26)))))))) x0 (fun (env : Env) (h : Hp) => s26a3 rec n (env 3) h) = (fun (env : Env) (h : Hp) => s26a7 rec n (env 0) (env 3) h) :=
  (by kernel_rfl)

theorem s26a8q1 (rec : FuncId → List DV → Hp → Res) (n : Nat) (kk8 : DV → DV → Hp → Res) (q0 : DV → DV → Hp → Res) : D26 rec n (cL (cL (cL (cR (cL (cR (cL (cR (cR (cf Try.f26)))))))))) (xs x0 0 (fun (env : Env) (h : Hp) => q0 (env 0) (env 3) h)) (fun (env : Env) (h : Hp) => kk8 (env 0) (env 3) h) = fun (env : Env) (h : Hp) =>
    bnd (rec 41 [(env 0), (.i .i64 (Int.ofNat 1)), (.s [])] h) fun v13 h13 =>
    ifD v13 (
      bnd (rec 42 [(env 0)] h13) fun v14 h14 =>
      bnd (pPart1 1 v14 h14) fun v15 h15 =>
      bnd (pBuildSlice [(.s [])] 1 [(0, 1, v15)] h15) fun v16 h16 =>
      bnd (pAppend 1 16 (env 3) v16 h16) fun v17 h17 =>
      kk8 (env 0) v17 h17) (
      q0 (env 0) (env 3) h13) := by kernel_rfl

theorem s26a8q1u (rec : FuncId → List DV → Hp → Res) (n : Nat) (kk8 : DV → DV → Hp → Res) : (fun (env : Env) (h : Hp) =>
    bnd (rec 41 [(env 0), (.i .i64 (Int.ofNat 1)), (.s [])] h) fun v18 h18 =>
    ifD v18 (
      bnd (rec 42 [(env 0)] h18) fun v19 h19 =>
      bnd (pPart1 1 v19 h19) fun v20 h20 =>
      bnd (pBuildSlice [(.s [])] 1 [(0, 1, v20)] h20) fun v21 h21 =>
      bnd (pAppend 1 16 (env 3) v21 h21) fun v22 h22 =>
      kk8 (env 0) v22 h22) (
      s26a7 rec n (env 0) (env 3) h18)) = (fun (env : Env) (h : Hp) => s26a8b rec n kk8 (env 0) (env 3) h) := by kernel_rfl

theorem s26a8be (rec : FuncId → List DV → Hp → Res) (n : Nat) (kk8 : DV → DV → Hp → Res) : D26 rec n (cL (cL (cL (cR (cL (cR (cL (cR (cR (cf Try.f26)))))))))) (xs x0 0 (fun (env : Env) (h : Hp) => s26a7 rec n (env 0) (env 3) h)) (fun (env : Env) (h : Hp) => kk8 (env 0) (env 3) h) = (fun (env : Env) (h : Hp) => s26a8b rec n kk8 (env 0) (env 3) h) :=
  (s26a8q1 rec n kk8 (s26a7 rec n)).trans (s26a8q1u rec n kk8)

theorem s26a8le (rec : FuncId → List DV → Hp → Res) (n : Nat) (m : Nat) : loopN (fun kk => D26 rec n (cL (cL (cL (cR (cL (cR (cL (cR (cR (cf Try.f26)))))))))) (xs x0 0 (fun (env : Env) (h : Hp) => s26a7 rec n (env 0) (env 3) h)) kk) m = (fun (env : Env) (h : Hp) => s26a8l rec n m (env 0) (env 3) h) := by
  induction m with
  | zero => exact (by kernel_rfl : loopN (fun kk => D26 rec n (cL (cL (cL (cR (cL (cR (cL (cR (cR (cf Try.f26)))))))))) (xs x0 0 (fun (env : Env) (h : Hp) => s26a7 rec n (env 0) (env 3) h)) kk) 0 = (fun (env : Env) (h : Hp) => s26a8l rec n 0 (env 0) (env 3) h))
  | succ m ih =>
    refine (by kernel_rfl : loopN (fun kk => D26 rec n (cL (cL (cL (cR (cL (cR (cL (cR (cR (cf Try.f26)))))))))) (xs x0 0 (fun (env : Env) (h : Hp) => s26a7 rec n (env 0) (env 3) h)) kk) (m + 1) = D26 rec n (cL (cL (cL (cR (cL (cR (cL (cR (cR (cf Try.f26)))))))))) (xs x0 0 (fun (env : Env) (h : Hp) => s26a7 rec n (env 0) (env 3) h)) (loopN (fun kk => D26 rec n (cL (cL (cL (cR (cL (cR (cL (cR (cR (cf Try.f26)))))))))) (xs x0 0 (fun (env : Env) (h : Hp) => s26a7 rec n (env 0) (env 3) h)) kk) m)).trans ?_
    rw [ih]
    exact (s26a8be rec n (s26a8l rec n m)).trans (by kernel_rfl)

theorem s26a8e (rec : FuncId → List DV → Hp → Res) (n : Nat) : D26 rec n (cL (cL (cR (cL (cR (cL (cR (cR (cf Try.f26))))))))) (xs x0 0 (fun (env : Env) (h : Hp) => s26a7 rec n (env 0) (env 3) h)) (fun (env : Env) (h : Hp) => s26a7 rec n (env 0) (env 3) h) = (fun (env : Env) (h : Hp) => s26a8 rec n (env 0) (env 3) h) :=
  (by kernel_rfl : D26 rec n (cL (cL (cR (cL (cR (cL (cR (cR (cf Try.f26))))))))) (xs x0 0 (fun (env : Env) (h : Hp) => s26a7 rec n (env 0) (env 3) h)) (fun (env : Env) (h : Hp) => s26a7 rec n (env 0) (env 3) h) = loopN (fun kk => D26 rec n (cL (cL (cL (cR (cL (cR (cL (cR (cR (cf Try.f26)))))))))) (xs x0 0 (fun (env : Env) (h : Hp) => s26a7 rec n (env 0) (env 3) h)) kk) n).trans ((s26a8le rec n n).trans (by kernel_rfl))

theorem s26a6p2 (rec : FuncId → List DV → Hp → Res) (n : Nat) : D26 rec n (cR (cL (cR (cL (cR (cR (cf Try.f26))))))) x0 (fun (env : Env) (h : Hp) => s26a3 rec n (env 3) h) = D26 rec n (cL (cR (cL (cR (cL (cR (cR (cf Try.f26)))))))) x0 (fun (env : Env) (h : Hp) => s26a7 rec n (env 0) (env 3) h) :=
  congrArg (fun k => D26 rec n (cL (cR (cL (cR (cL (cR (cR (cf Try.f26)))))))) x0 k) (s26a7e rec n)

theorem s26a6e (rec : FuncId → List DV → Hp → Res) (n : Nat) : D26 rec n (cR (cL (cR (cL (cR (cR (cf Try.f26))))))) x0 (fun (env : Env) (h : Hp) => s26a3 rec n (env 3) h) = (fun (env : Env) (h : Hp) => s26a6 rec n (env 0) (env 3) h) :=
  (s26a6p2 rec n).trans
  ((by kernel_rfl : D26 rec n (cL (cR (cL (cR (cL (cR (cR (cf Try.f26)))))))) x0 (fun (env : Env) (h : Hp) => s26a7 rec n (env 0) (env 3) h) = D26 rec n (cL (cL (cR (cL (cR (cL (cR (cR (cf Try.f26))))))))) (xs x0 0 (fun (env : Env) (h : Hp) => s26a7 rec n (env 0) (env 3) h)) (fun (env : Env) (h : Hp) => s26a7 rec n (env 0) (env 3) h)).trans
  ((s26a8e rec n).trans (by kernel_rfl)))

theorem s26a5p3 (rec : FuncId → List DV → Hp → Res) (n : Nat) : D26 rec n (cL (cR (cL (cR (cR (cf Try.f26)))))) x0 (fun (env : Env) (h : Hp) => s26a3 rec n (env 3) h) = D26 rec n (cL (cL (cR (cL (cR (cR (cf Try.f26))))))) x0 (fun (env : Env) (h : Hp) => s26a6 rec n (env 0) (env 3) h) :=
  congrArg (fun k => D26 rec n (cL (cL (cR (cL (cR (cR (cf Try.f26))))))) x0 k) (s26a6e rec n)

theorem s26a5e (rec : FuncId → List DV → Hp → Res) (n : Nat) : D26 rec n (cL (cR (cL (cR (cR (cf Try.f26)))))) x0 (fun (env : Env) (h : Hp) => s26a3 rec n (env 3) h) = (fun (env : Env) (h : Hp) => s26a5 rec n (env 0) (env 3) h) :=
  (s26a5p3 rec n).trans
  ((by kernel_rfl))

theorem s26a4e (rec : FuncId → List DV → Hp → Res) (n : Nat) : D26 rec n (cR (cL (cR (cR (cf Try.f26))))) x0 (fun (env : Env) (h : Hp) => s26a3 rec n (env 3) h) = (fun (env : Env) (h : Hp) => s26a4 rec n (env 0) (env 3) (env 5) h) :=
  (by kernel_rfl : D26 rec n (cR (cL (cR (cR (cf Try.f26))))) x0 (fun (env : Env) (h : Hp) => s26a3 rec n (env 3) h) = (fun (env : Env) (h : Hp) => ifD (opr env (cC (cR (cL (cR (cR (cf Try.f26))))))) (D26 rec n (cL (cR (cL (cR (cR (cf Try.f26)))))) x0 (fun (env : Env) (h : Hp) => s26a3 rec n (env 3) h) env h) (D26 rec n (cR (cR (cL (cR (cR (cf Try.f26)))))) x0 (fun (env : Env) (h : Hp) => s26a3 rec n (env 3) h) env h))).trans (by rw [s26a5e rec n]; kernel_rfl)

theorem s26a2p4 (rec : FuncId → List DV → Hp → Res) (n : Nat) : D26 rec n (cR (cR (cf Try.f26))) x0 (retK CF Try.f26) = D26 rec n (cL (cR (cR (cf Try.f26)))) x0 (fun (env : Env) (h : Hp) => s26a3 rec n (env 3) h) :=
  congrArg (fun k => D26 rec n (cL (cR (cR (cf Try.f26)))) x0 k) (s26a3e rec n)

theorem s26a2p5 (rec : FuncId → List DV → Hp → Res) (n : Nat) : D26 rec n (cL (cR (cR (cf Try.f26)))) x0 (fun (env : Env) (h : Hp) => s26a3 rec n (env 3) h) = D26 rec n (cL (cL (cR (cR (cf Try.f26))))) x0 (fun (env : Env) (h : Hp) => s26a4 rec n (env 0) (env 3) (env 5) h) :=
  congrArg (fun k => D26 rec n (cL (cL (cR (cR (cf Try.f26))))) x0 k) (s26a4e rec n)

theorem s26a2e (rec : FuncId → List DV → Hp → Res) (n : Nat) : D26 rec n (cR (cR (cf Try.f26))) x0 (retK CF Try.f26) = (fun (env : Env) (h : Hp) => s26a2 rec n (env 0) (env 3) h) :=
  (s26a2p4 rec n).trans
  ((s26a2p5 rec n).trans
  ((by kernel_rfl)))

theorem s26a1p6 (rec : FuncId → List DV → Hp → Res) (n : Nat) : D26 rec n (cR (cf Try.f26)) x0 (retK CF Try.f26) = D26 rec n (cL (cR (cf Try.f26))) x0 (fun (env : Env) (h : Hp) => s26a2 rec n (env 0) (env 3) h) :=
  congrArg (fun k => D26 rec n (cL (cR (cf Try.f26))) x0 k) (s26a2e rec n)

theorem s26a1e (rec : FuncId → List DV → Hp → Res) (n : Nat) : D26 rec n (cR (cf Try.f26)) x0 (retK CF Try.f26) = (fun (env : Env) (h : Hp) => s26a1 rec n (env 0) h) :=
  (s26a1p6 rec n).trans
  ((by kernel_rfl))

theorem s26p7 (rec : FuncId → List DV → Hp → Res) (n : Nat) : D26 rec n (cf Try.f26) x0 (retK CF Try.f26) = D26 rec n (cL (cf Try.f26)) x0 (fun (env : Env) (h : Hp) => s26a1 rec n (env 0) h) :=
  congrArg (fun k => D26 rec n (cL (cf Try.f26)) x0 k) (s26a1e rec n)

theorem s26m (rec : FuncId → List DV → Hp → Res) (n : Nat) : D26 rec n (cf Try.f26) x0 (retK CF Try.f26) = (fun (env : Env) (h : Hp) => s26 rec n (env 0) h) :=
  (s26p7 rec n).trans
  ((by kernel_rfl))

theorem s26ok (rec : FuncId → List DV → Hp → Res) (n : Nat) (args : List DV) (h : Hp) : bodyD CF rec n 26 args h = s26 rec n (args.getD 0 undefD) h :=
  (by kernel_rfl : bodyD CF rec n 26 args h = D26 rec n (cf Try.f26) x0 (retK CF Try.f26) (argsE args) h).trans ((congrFun (congrFun (s26m rec n) (argsE args)) h).trans (by kernel_rfl))

noncomputable def s27a3 (rec : FuncId → List DV → Hp → Res) (n : Nat) (x3 : DV) (h0 : Hp) : Res :=
  some (x3, h0)

noncomputable def s27a4b (rec : FuncId → List DV → Hp → Res) (n : Nat) (kk4 : DV → DV → Hp → Res) (x0 x3 : DV) (h0 : Hp) : Res :=
    bnd (pNil x0 h0) fun v1 h1 =>
    bnd (pField 3 v1 h1) fun v2 h2 =>
    bnd (pLoad1 v2 h2) fun v3 h3 =>
    bnd (pInt .eql v3 (.i .i64 (Int.ofNat 0)) h3) fun v4 h4 =>
    bnd (gD v4 true (some (x0, h4)) h4) fun v5 h5 =>
    bnd (gD v4 true (rec 41 [v5, (.i .i64 (Int.ofNat 0)), (.s [])] h5) h5) fun v6 h6 =>
    bnd (gD v4 true (pUn .not v6 h6) h6) fun v7 h7 =>
    bnd (pPick v4 v7 (.b false) h7) fun v8 h8 =>
    bnd (gD v8 true (some (x0, h8)) h8) fun v9 h9 =>
    bnd (gD v8 true (rec 41 [v9, (.i .i64 (Int.ofNat 10)), (.s [93])] h9) h9) fun v10 h10 =>
    bnd (gD v8 true (pUn .not v10 h10) h10) fun v11 h11 =>
    bnd (pPick v8 v11 (.b false) h11) fun v12 h12 =>
    ifD v12 (
      bnd (rec 41 [x0, (.i .i64 (Int.ofNat 10)), (.s [94])] h12) fun v13 h13 =>
      ifD v13 (
        bnd (rec 42 [x0] h13) fun v14 h14 =>
        bnd (rec 45 [x0] h14) fun v15 h15 =>
        bnd (pNew [(.i .i64 (Int.ofNat 0)), (.s []), (.i .i64 (Int.ofNat 0)), .l0, .l0, .l0] h15) fun v16 h16 =>
        bnd (pStore 6 v16 v15 h16) fun _ h17 =>
        bnd (pLoadA 6 v16 h17) fun v18 h18 =>
        bnd (pBuildSlice [(.i .i64 (Int.ofNat 0)), (.s []), (.i .i64 (Int.ofNat 0)), .l0, .l0, .l0] 1 [(0, 6, v18)] h18) fun v19 h19 =>
        bnd (pBuild [(.i .i64 (Int.ofNat 0)), (.s []), (.i .i64 (Int.ofNat 0)), .l0, .l0, .l0] [(0, 1, (.i .i64 (Int.ofNat 10))), (5, 1, v19)] h19) fun v20 h20 =>
        bnd (pBuildSlice [(.i .i64 (Int.ofNat 0)), (.s []), (.i .i64 (Int.ofNat 0)), .l0, .l0, .l0] 1 [(0, 6, v20)] h20) fun v21 h21 =>
        bnd (pAppend 6 104 x3 v21 h21) fun v22 h22 =>
        bnd (rec 41 [x0, (.i .i64 (Int.ofNat 10)), (.s [46])] h22) fun v23 h23 =>
        ifD v23 (
          bnd (rec 42 [x0] h23) fun v24 h24 =>
          s27a3 rec n v22 h24) (
          s27a3 rec n v22 h23)) (
        bnd (rec 45 [x0] h13) fun v25 h25 =>
        bnd (pBuildSlice [(.i .i64 (Int.ofNat 0)), (.s []), (.i .i64 (Int.ofNat 0)), .l0, .l0, .l0] 1 [(0, 6, v25)] h25) fun v26 h26 =>
        bnd (pAppend 6 104 x3 v26 h26) fun v27 h27 =>
        bnd (rec 41 [x0, (.i .i64 (Int.ofNat 10)), (.s [46])] h27) fun v28 h28 =>
        bnd (pUn .not v28 h28) fun v29 h29 =>
        ifD v29 (
          s27a3 rec n v27 h29) (
          bnd (rec 42 [x0] h29) fun v30 h30 =>
          kk4 x0 v27 h30))) (
      s27a3 rec n x3 h12)

noncomputable def s27a4l (rec : FuncId → List DV → Hp → Res) (n : Nat) (m : Nat) : DV → DV → Hp → Res :=
  Nat.rec (motive := fun _ => DV → DV → Hp → Res) (fun _ _ _ => none) (fun _ ih => s27a4b rec n ih) m

noncomputable def s27a4 (rec : FuncId → List DV → Hp → Res) (n : Nat) : DV → DV → Hp → Res := s27a4l rec n n

noncomputable def s27a2 (rec : FuncId → List DV → Hp → Res) (n : Nat) (x0 x3 : DV) (h0 : Hp) : Res :=
  s27a4 rec n x0 x3 h0

noncomputable def s27a1 (rec : FuncId → List DV → Hp → Res) (n : Nat) (x0 : DV) (h0 : Hp) : Res :=
  s27a2 rec n x0 .l0 h0

/-- vivariumref07.P).statements -/
noncomputable def s27 (rec : FuncId → List DV → Hp → Res) (n : Nat) (x0 : DV) (h0 : Hp) : Res :=
  s27a1 rec n x0 h0

noncomputable def D27 (rec : FuncId → List DV → Hp → Res) (n : Nat) (c : Code) (X : Nat → K) (k : K) : K := codeD CF rec 47 n c X (retK CF Try.f27) k

theorem s27a3e (rec : FuncId → List DV → Hp → Res) (n : Nat) : D27 rec n (cR (cR (cR (cf Try.f27)))) x0 (retK CF Try.f27) = (fun (env : Env) (h : Hp) => s27a3 rec n (env 3) h) :=
  (by kernel_rfl)

theorem s27a4q1 (rec : FuncId → List DV → Hp → Res) (n : Nat) (kk4 : DV → DV → Hp → Res) (q0 : DV → Hp → Res) : D27 rec n (cL (cL (cL (cR (cR (cf Try.f27)))))) (xs x0 0 (fun (env : Env) (h : Hp) => q0 (env 3) h)) (fun (env : Env) (h : Hp) => kk4 (env 0) (env 3) h) = fun (env : Env) (h : Hp) =>
    bnd (pNil (env 0) h) fun v61 h61 =>
    bnd (pField 3 v61 h61) fun v62 h62 =>
    bnd (pLoad1 v62 h62) fun v63 h63 =>
    bnd (pInt .eql v63 (.i .i64 (Int.ofNat 0)) h63) fun v64 h64 =>
    bnd (gD v64 true (some ((env 0), h64)) h64) fun v65 h65 =>
    bnd (gD v64 true (rec 41 [v65, (.i .i64 (Int.ofNat 0)), (.s [])] h65) h65) fun v66 h66 =>
    bnd (gD v64 true (pUn .not v66 h66) h66) fun v67 h67 =>
    bnd (pPick v64 v67 (.b false) h67) fun v68 h68 =>
    bnd (gD v68 true (some ((env 0), h68)) h68) fun v69 h69 =>
    bnd (gD v68 true (rec 41 [v69, (.i .i64 (Int.ofNat 10)), (.s [93])] h69) h69) fun v70 h70 =>
    bnd (gD v68 true (pUn .not v70 h70) h70) fun v71 h71 =>
    bnd (pPick v68 v71 (.b false) h71) fun v72 h72 =>
    ifD v72 (
      bnd (rec 41 [(env 0), (.i .i64 (Int.ofNat 10)), (.s [94])] h72) fun v73 h73 =>
      ifD v73 (
        bnd (rec 42 [(env 0)] h73) fun v74 h74 =>
        bnd (rec 45 [(env 0)] h74) fun v75 h75 =>
        bnd (pNew [(.i .i64 (Int.ofNat 0)), (.s []), (.i .i64 (Int.ofNat 0)), .l0, .l0, .l0] h75) fun v76 h76 =>
        bnd (pStore 6 v76 v75 h76) fun _ h77 =>
        bnd (pLoadA 6 v76 h77) fun v78 h78 =>
        bnd (pBuildSlice [(.i .i64 (Int.ofNat 0)), (.s []), (.i .i64 (Int.ofNat 0)), .l0, .l0, .l0] 1 [(0, 6, v78)] h78) fun v79 h79 =>
        bnd (pBuild [(.i .i64 (Int.ofNat 0)), (.s []), (.i .i64 (Int.ofNat 0)), .l0, .l0, .l0] [(0, 1, (.i .i64 (Int.ofNat 10))), (5, 1, v79)] h79) fun v80 h80 =>
        bnd (pBuildSlice [(.i .i64 (Int.ofNat 0)), (.s []), (.i .i64 (Int.ofNat 0)), .l0, .l0, .l0] 1 [(0, 6, v80)] h80) fun v81 h81 =>
        bnd (pAppend 6 104 (env 3) v81 h81) fun v82 h82 =>
        bnd (rec 41 [(env 0), (.i .i64 (Int.ofNat 10)), (.s [46])] h82) fun v83 h83 =>
        ifD v83 (
          bnd (rec 42 [(env 0)] h83) fun v84 h84 =>
          q0 v82 h84) (
          q0 v82 h83)) (
        bnd (rec 45 [(env 0)] h73) fun v85 h85 =>
        bnd (pBuildSlice [(.i .i64 (Int.ofNat 0)), (.s []), (.i .i64 (Int.ofNat 0)), .l0, .l0, .l0] 1 [(0, 6, v85)] h85) fun v86 h86 =>
        bnd (pAppend 6 104 (env 3) v86 h86) fun v87 h87 =>
        bnd (rec 41 [(env 0), (.i .i64 (Int.ofNat 10)), (.s [46])] h87) fun v88 h88 =>
        bnd (pUn .not v88 h88) fun v89 h89 =>
        ifD v89 (
          q0 v87 h89) (
          bnd (rec 42 [(env 0)] h89) fun v90 h90 =>
          kk4 (env 0) v87 h90))) (
      q0 (env 3) h72) := by kernel_rfl

theorem s27a4q1u (rec : FuncId → List DV → Hp → Res) (n : Nat) (kk4 : DV → DV → Hp → Res) : (fun (env : Env) (h : Hp) =>
    bnd (pNil (env 0) h) fun v91 h91 =>
    bnd (pField 3 v91 h91) fun v92 h92 =>
    bnd (pLoad1 v92 h92) fun v93 h93 =>
    bnd (pInt .eql v93 (.i .i64 (Int.ofNat 0)) h93) fun v94 h94 =>
    bnd (gD v94 true (some ((env 0), h94)) h94) fun v95 h95 =>
    bnd (gD v94 true (rec 41 [v95, (.i .i64 (Int.ofNat 0)), (.s [])] h95) h95) fun v96 h96 =>
    bnd (gD v94 true (pUn .not v96 h96) h96) fun v97 h97 =>
    bnd (pPick v94 v97 (.b false) h97) fun v98 h98 =>
    bnd (gD v98 true (some ((env 0), h98)) h98) fun v99 h99 =>
    bnd (gD v98 true (rec 41 [v99, (.i .i64 (Int.ofNat 10)), (.s [93])] h99) h99) fun v100 h100 =>
    bnd (gD v98 true (pUn .not v100 h100) h100) fun v101 h101 =>
    bnd (pPick v98 v101 (.b false) h101) fun v102 h102 =>
    ifD v102 (
      bnd (rec 41 [(env 0), (.i .i64 (Int.ofNat 10)), (.s [94])] h102) fun v103 h103 =>
      ifD v103 (
        bnd (rec 42 [(env 0)] h103) fun v104 h104 =>
        bnd (rec 45 [(env 0)] h104) fun v105 h105 =>
        bnd (pNew [(.i .i64 (Int.ofNat 0)), (.s []), (.i .i64 (Int.ofNat 0)), .l0, .l0, .l0] h105) fun v106 h106 =>
        bnd (pStore 6 v106 v105 h106) fun _ h107 =>
        bnd (pLoadA 6 v106 h107) fun v108 h108 =>
        bnd (pBuildSlice [(.i .i64 (Int.ofNat 0)), (.s []), (.i .i64 (Int.ofNat 0)), .l0, .l0, .l0] 1 [(0, 6, v108)] h108) fun v109 h109 =>
        bnd (pBuild [(.i .i64 (Int.ofNat 0)), (.s []), (.i .i64 (Int.ofNat 0)), .l0, .l0, .l0] [(0, 1, (.i .i64 (Int.ofNat 10))), (5, 1, v109)] h109) fun v110 h110 =>
        bnd (pBuildSlice [(.i .i64 (Int.ofNat 0)), (.s []), (.i .i64 (Int.ofNat 0)), .l0, .l0, .l0] 1 [(0, 6, v110)] h110) fun v111 h111 =>
        bnd (pAppend 6 104 (env 3) v111 h111) fun v112 h112 =>
        bnd (rec 41 [(env 0), (.i .i64 (Int.ofNat 10)), (.s [46])] h112) fun v113 h113 =>
        ifD v113 (
          bnd (rec 42 [(env 0)] h113) fun v114 h114 =>
          s27a3 rec n v112 h114) (
          s27a3 rec n v112 h113)) (
        bnd (rec 45 [(env 0)] h103) fun v115 h115 =>
        bnd (pBuildSlice [(.i .i64 (Int.ofNat 0)), (.s []), (.i .i64 (Int.ofNat 0)), .l0, .l0, .l0] 1 [(0, 6, v115)] h115) fun v116 h116 =>
        bnd (pAppend 6 104 (env 3) v116 h116) fun v117 h117 =>
        bnd (rec 41 [(env 0), (.i .i64 (Int.ofNat 10)), (.s [46])] h117) fun v118 h118 =>
        bnd (pUn .not v118 h118) fun v119 h119 =>
        ifD v119 (
          s27a3 rec n v117 h119) (
          bnd (rec 42 [(env 0)] h119) fun v120 h120 =>
          kk4 (env 0) v117 h120))) (
      s27a3 rec n (env 3) h102)) = (fun (env : Env) (h : Hp) => s27a4b rec n kk4 (env 0) (env 3) h) := by kernel_rfl

theorem s27a4be (rec : FuncId → List DV → Hp → Res) (n : Nat) (kk4 : DV → DV → Hp → Res) : D27 rec n (cL (cL (cL (cR (cR (cf Try.f27)))))) (xs x0 0 (fun (env : Env) (h : Hp) => s27a3 rec n (env 3) h)) (fun (env : Env) (h : Hp) => kk4 (env 0) (env 3) h) = (fun (env : Env) (h : Hp) => s27a4b rec n kk4 (env 0) (env 3) h) :=
  (s27a4q1 rec n kk4 (s27a3 rec n)).trans (s27a4q1u rec n kk4)

theorem s27a4le (rec : FuncId → List DV → Hp → Res) (n : Nat) (m : Nat) : loopN (fun kk => D27 rec n (cL (cL (cL (cR (cR (cf Try.f27)))))) (xs x0 0 (fun (env : Env) (h : Hp) => s27a3 rec n (env 3) h)) kk) m = (fun (env : Env) (h : Hp) => s27a4l rec n m (env 0) (env 3) h) := by
  induction m with
  | zero => exact (by kernel_rfl : loopN (fun kk => D27 rec n (cL (cL (cL (cR (cR (cf Try.f27)))))) (xs x0 0 (fun (env : Env) (h : Hp) => s27a3 rec n (env 3) h)) kk) 0 = (fun (env : Env) (h : Hp) => s27a4l rec n 0 (env 0) (env 3) h))
  | succ m ih =>
    refine (by kernel_rfl : loopN (fun kk => D27 rec n (cL (cL (cL (cR (cR (cf Try.f27)))))) (xs x0 0 (fun (env : Env) (h : Hp) => s27a3 rec n (env 3) h)) kk) (m + 1) = D27 rec n (cL (cL (cL (cR (cR (cf Try.f27)))))) (xs x0 0 (fun (env : Env) (h : Hp) => s27a3 rec n (env 3) h)) (loopN (fun kk => D27 rec n (cL (cL (cL (cR (cR (cf Try.f27)))))) (xs x0 0 (fun (env : Env) (h : Hp) => s27a3 rec n (env 3) h)) kk) m)).trans ?_
    rw [ih]
    exact (s27a4be rec n (s27a4l rec n m)).trans (by kernel_rfl)

theorem s27a4e (rec : FuncId → List DV → Hp → Res) (n : Nat) : D27 rec n (cL (cL (cR (cR (cf Try.f27))))) (xs x0 0 (fun (env : Env) (h : Hp) => s27a3 rec n (env 3) h)) (fun (env : Env) (h : Hp) => s27a3 rec n (env 3) h) = (fun (env : Env) (h : Hp) => s27a4 rec n (env 0) (env 3) h) :=
  (by kernel_rfl : D27 rec n (cL (cL (cR (cR (cf Try.f27))))) (xs x0 0 (fun (env : Env) (h : Hp) => s27a3 rec n (env 3) h)) (fun (env : Env) (h : Hp) => s27a3 rec n (env 3) h) = loopN (fun kk => D27 rec n (cL (cL (cL (cR (cR (cf Try.f27)))))) (xs x0 0 (fun (env : Env) (h : Hp) => s27a3 rec n (env 3) h)) kk) n).trans ((s27a4le rec n n).trans (by kernel_rfl))

theorem s27a2p2 (rec : FuncId → List DV → Hp → Res) (n : Nat) : D27 rec n (cR (cR (cf Try.f27))) x0 (retK CF Try.f27) = D27 rec n (cL (cR (cR (cf Try.f27)))) x0 (fun (env : Env) (h : Hp) => s27a3 rec n (env 3) h) :=
  congrArg (fun k => D27 rec n (cL (cR (cR (cf Try.f27)))) x0 k) (s27a3e rec n)

theorem s27a2e (rec : FuncId → List DV → Hp → Res) (n : Nat) : D27 rec n (cR (cR (cf Try.f27))) x0 (retK CF Try.f27) = (fun (env : Env) (h : Hp) => s27a2 rec n (env 0) (env 3) h) :=
  (s27a2p2 rec n).trans
  ((by kernel_rfl : D27 rec n (cL (cR (cR (cf Try.f27)))) x0 (fun (env : Env) (h : Hp) => s27a3 rec n (env 3) h) = D27 rec n (cL (cL (cR (cR (cf Try.f27))))) (xs x0 0 (fun (env : Env) (h : Hp) => s27a3 rec n (env 3) h)) (fun (env : Env) (h : Hp) => s27a3 rec n (env 3) h)).trans
  ((s27a4e rec n).trans (by kernel_rfl)))

theorem s27a1p3 (rec : FuncId → List DV → Hp → Res) (n : Nat) : D27 rec n (cR (cf Try.f27)) x0 (retK CF Try.f27) = D27 rec n (cL (cR (cf Try.f27))) x0 (fun (env : Env) (h : Hp) => s27a2 rec n (env 0) (env 3) h) :=
  congrArg (fun k => D27 rec n (cL (cR (cf Try.f27))) x0 k) (s27a2e rec n)

theorem s27a1e (rec : FuncId → List DV → Hp → Res) (n : Nat) : D27 rec n (cR (cf Try.f27)) x0 (retK CF Try.f27) = (fun (env : Env) (h : Hp) => s27a1 rec n (env 0) h) :=
  (s27a1p3 rec n).trans
  ((by kernel_rfl))

theorem s27p4 (rec : FuncId → List DV → Hp → Res) (n : Nat) : D27 rec n (cf Try.f27) x0 (retK CF Try.f27) = D27 rec n (cL (cf Try.f27)) x0 (fun (env : Env) (h : Hp) => s27a1 rec n (env 0) h) :=
  congrArg (fun k => D27 rec n (cL (cf Try.f27)) x0 k) (s27a1e rec n)

theorem s27m (rec : FuncId → List DV → Hp → Res) (n : Nat) : D27 rec n (cf Try.f27) x0 (retK CF Try.f27) = (fun (env : Env) (h : Hp) => s27 rec n (env 0) h) :=
  (s27p4 rec n).trans
  ((by kernel_rfl))

theorem s27ok (rec : FuncId → List DV → Hp → Res) (n : Nat) (args : List DV) (h : Hp) : bodyD CF rec n 27 args h = s27 rec n (args.getD 0 undefD) h :=
  (by kernel_rfl : bodyD CF rec n 27 args h = D27 rec n (cf Try.f27) x0 (retK CF Try.f27) (argsE args) h).trans ((congrFun (congrFun (s27m rec n) (argsE args)) h).trans (by kernel_rfl))

/-- vivariumref07.P).need -/
noncomputable def s28 (rec : FuncId → List DV → Hp → Res) (n : Nat) (x0 x1 x2 : DV) (h0 : Hp) : Res :=
  bnd (pNew [(.i .i64 (Int.ofNat 0)), (.s []), (.i .i64 (Int.ofNat 0)), (.i .i64 (Int.ofNat 0))] h0) fun v1 h1 =>
  bnd (rec 41 [x0, x1, x2] h1) fun v2 h2 =>
  bnd (pUn .not v2 h2) fun v3 h3 =>
  ifD v3 (
    bnd (rec 46 [x0, (.i .i64 (Int.ofNat 0))] h3) fun v4 h4 =>
    bnd (rec 44 [x0, v4, (.i .i64 (Int.ofNat 13))] h4) fun v5 h5 =>
    bnd (pBuild [(.i .i64 (Int.ofNat 0)), (.s []), (.i .i64 (Int.ofNat 0)), (.i .i64 (Int.ofNat 0))] [] h5) fun v6 h6 =>
    bnd (pStore 4 v1 v6 h6) fun _ h7 =>
    bnd (pLoadA 4 v1 h7) fun v8 _ =>
    some (v8, h7)) (
    bnd (rec 42 [x0] h3) fun v9 h9 =>
    bnd (pStore 4 v1 v9 h9) fun _ h10 =>
    bnd (pLoadA 4 v1 h10) fun v11 _ =>
    some (v11, h10))

noncomputable def D28 (rec : FuncId → List DV → Hp → Res) (n : Nat) (c : Code) (X : Nat → K) (k : K) : K := codeD CF rec 21 n c X (retK CF Try.f28) k

theorem s28m (rec : FuncId → List DV → Hp → Res) (n : Nat) : D28 rec n (cf Try.f28) x0 (retK CF Try.f28) = (fun (env : Env) (h : Hp) => s28 rec n (env 0) (env 1) (env 2) h) :=
  (by kernel_rfl)

theorem s28ok (rec : FuncId → List DV → Hp → Res) (n : Nat) (args : List DV) (h : Hp) : bodyD CF rec n 28 args h = s28 rec n (args.getD 0 undefD) (args.getD 1 undefD) (args.getD 2 undefD) h :=
  (by kernel_rfl : bodyD CF rec n 28 args h = D28 rec n (cf Try.f28) x0 (retK CF Try.f28) (argsE args) h).trans ((congrFun (congrFun (s28m rec n) (argsE args)) h).trans (by kernel_rfl))

noncomputable def s29a6 (rec : FuncId → List DV → Hp → Res) (n : Nat) (x0 x6 : DV) (h0 : Hp) : Res :=
  bnd (pLenS x0 h0) fun v1 h1 =>
  bnd (pBuild [(.i .i64 (Int.ofNat 0)), (.s []), (.i .i64 (Int.ofNat 0)), (.i .i64 (Int.ofNat 0))] [(3, 1, v1)] h1) fun v2 h2 =>
  bnd (pBuildSlice [(.i .i64 (Int.ofNat 0)), (.s []), (.i .i64 (Int.ofNat 0)), (.i .i64 (Int.ofNat 0))] 1 [(0, 4, v2)] h2) fun v3 h3 =>
  bnd (pAppend 4 40 x6 v3 h3) fun v4 h4 =>
  some (.t [v4, (.i .i64 (Int.ofNat 0)), (.i .i64 (Int.ofNat 0))], h4)

noncomputable def s29a7b (rec : FuncId → List DV → Hp → Res) (n : Nat) (kk7 : DV → DV → DV → Hp → Res) (x0 x5 x6 : DV) (h0 : Hp) : Res :=
    bnd (rec 48 [(.s [9, 10, 13, 32])] h0) fun v9 h9 =>
    bnd (pLenS x0 h9) fun v10 h10 =>
    bnd (rec 47 [x5, v9, v10] h10) fun v11 h11 =>
    bnd (pNil x5 h11) fun v12 h12 =>
    bnd (pField 1 v12 h12) fun v13 h13 =>
    bnd (pLoad1 v13 h13) fun v14 h14 =>
    bnd (pLenS x0 h14) fun v15 h15 =>
    bnd (pInt .geq v14 v15 h15) fun v16 h16 =>
    ifD v16 (
      s29a6 rec n x0 x6 h16) (
      bnd (pNil x5 h16) fun v17 h17 =>
      bnd (pField 1 v17 h17) fun v18 h18 =>
      bnd (pLoad1 v18 h18) fun v19 h19 =>
      bnd (pIndexS x0 v19 h19) fun v20 h20 =>
      bnd (pInt .eql v20 (.i .u8 (Int.ofNat 34)) h20) fun v21 h21 =>
      ifD v21 (
        bnd (pNil x5 h21) fun v22 h22 =>
        bnd (pField 1 v22 h22) fun v23 h23 =>
        bnd (pLoad1 v23 h23) fun v24 h24 =>
        bnd (pInt .add v24 (.i .i64 (Int.ofNat 1)) h24) fun v25 h25 =>
        bnd (pSliceS x0 (some v25) none h25) fun v26 h26 =>
        bnd (rec 49 [v26, (.i .u8 (Int.ofNat 34))] h26) fun v27 h27 =>
        bnd (pInt .lss v27 (.i .i64 (Int.ofNat 0)) h27) fun v28 h28 =>
        ifD v28 (
          bnd (pNil x5 h28) fun v29 h29 =>
          bnd (pField 1 v29 h29) fun v30 h30 =>
          bnd (pLoad1 v30 h30) fun v31 h31 =>
          some (.t [.l0, v31, (.i .i64 (Int.ofNat 11))], h31)) (
          bnd (pNil x5 h28) fun v32 h32 =>
          bnd (pField 1 v32 h32) fun v33 h33 =>
          bnd (pLoad1 v33 h33) fun v34 h34 =>
          bnd (pInt .add v27 (.i .i64 (Int.ofNat 2)) h34) fun v35 h35 =>
          bnd (pInt .add v34 v35 h35) fun v36 h36 =>
          bnd (pNil x5 h36) fun v37 h37 =>
          bnd (pField 1 v37 h37) fun v38 h38 =>
          bnd (pStore 1 v38 v36 h38) fun _ h39 =>
          kk7 x0 x5 x6 h39)) (
        bnd (rec 50 [x5] h21) fun v40 h40 =>
        bnd (pExtract 0 v40 h40) fun v41 h41 =>
        bnd (pExtract 1 v40 h41) fun v42 h42 =>
        bnd (pNew [(.i .i64 (Int.ofNat 0)), (.s []), (.i .i64 (Int.ofNat 0)), (.i .i64 (Int.ofNat 0))] h42) fun v43 h43 =>
        bnd (pStore 4 v43 v41 h43) fun _ h44 =>
        bnd (pInt .neq v42 (.i .i64 (Int.ofNat 0)) h44) fun v45 h45 =>
        ifD v45 (
          bnd (pField 3 v43 h45) fun v46 h46 =>
          bnd (pLoad1 v46 h46) fun v47 h47 =>
          some (.t [.l0, v47, v42], h47)) (
          bnd (pLoadA 4 v43 h45) fun v48 h48 =>
          bnd (pBuildSlice [(.i .i64 (Int.ofNat 0)), (.s []), (.i .i64 (Int.ofNat 0)), (.i .i64 (Int.ofNat 0))] 1 [(0, 4, v48)] h48) fun v49 h49 =>
          bnd (pAppend 4 40 x6 v49 h49) fun v50 h50 =>
          kk7 x0 x5 v50 h50)))

noncomputable def s29a7l (rec : FuncId → List DV → Hp → Res) (n : Nat) (m : Nat) : DV → DV → DV → Hp → Res :=
  Nat.rec (motive := fun _ => DV → DV → DV → Hp → Res) (fun _ _ _ _ => none) (fun _ ih => s29a7b rec n ih) m

noncomputable def s29a7 (rec : FuncId → List DV → Hp → Res) (n : Nat) : DV → DV → DV → Hp → Res := s29a7l rec n n

noncomputable def s29a5 (rec : FuncId → List DV → Hp → Res) (n : Nat) (x0 x5 x6 : DV) (h0 : Hp) : Res :=
  s29a7 rec n x0 x5 x6 h0

noncomputable def s29a4 (rec : FuncId → List DV → Hp → Res) (n : Nat) (x0 x5 x6 : DV) (h0 : Hp) : Res :=
  s29a5 rec n x0 x5 x6 h0

noncomputable def s29a3 (rec : FuncId → List DV → Hp → Res) (n : Nat) (x0 x5 : DV) (h0 : Hp) : Res :=
  s29a4 rec n x0 x5 .l0 h0

noncomputable def s29a2 (rec : FuncId → List DV → Hp → Res) (n : Nat) (x0 : DV) (h0 : Hp) : Res :=
  bnd (pBuild [(.s []), (.i .i64 (Int.ofNat 0))] [(0, 1, x0)] h0) fun v177 h177 =>
  bnd (pBox v177 h177) fun v178 h178 =>
  s29a3 rec n x0 v178 h178

noncomputable def s29a1 (rec : FuncId → List DV → Hp → Res) (n : Nat) (x0 : DV) (h0 : Hp) : Res :=
  bnd (pLenS x0 h0) fun v185 h185 =>
  bnd (pInt .gtr v185 (.i .i64 (Int.ofNat 2000)) h185) fun v186 h186 =>
  ifD v186 (
    some (.t [.l0, (.i .i64 (Int.ofNat 0)), (.i .i64 (Int.ofNat 12))], h186)) (
    s29a2 rec n x0 h186)

/-- lex.Tokens -/
noncomputable def s29 (rec : FuncId → List DV → Hp → Res) (n : Nat) (x0 : DV) (h0 : Hp) : Res :=
  s29a1 rec n x0 h0

noncomputable def D29 (rec : FuncId → List DV → Hp → Res) (n : Nat) (c : Code) (X : Nat → K) (k : K) : K := codeD CF rec 80 n c X (retK CF Try.f29) k

theorem s29a6e (rec : FuncId → List DV → Hp → Res) (n : Nat) : D29 rec n (cR (cR (cR (cR (cR (cL (cR (cf Try.f29)))))))) x0 (retK CF Try.f29) = (fun (env : Env) (h : Hp) => s29a6 rec n (env 0) (env 6) h) :=
  (by kernel_rfl)

theorem s29a7q1 (rec : FuncId → List DV → Hp → Res) (n : Nat) (kk7 : DV → DV → DV → Hp → Res) (q0 : DV → DV → Hp → Res) : D29 rec n (cL (cL (cL (cR (cR (cR (cR (cL (cR (cf Try.f29)))))))))) (xs x0 0 (fun (env : Env) (h : Hp) => q0 (env 0) (env 6) h)) (fun (env : Env) (h : Hp) => kk7 (env 0) (env 5) (env 6) h) = fun (env : Env) (h : Hp) =>
    bnd (rec 48 [(.s [9, 10, 13, 32])] h) fun v93 h93 =>
    bnd (pLenS (env 0) h93) fun v94 h94 =>
    bnd (rec 47 [(env 5), v93, v94] h94) fun v95 h95 =>
    bnd (pNil (env 5) h95) fun v96 h96 =>
    bnd (pField 1 v96 h96) fun v97 h97 =>
    bnd (pLoad1 v97 h97) fun v98 h98 =>
    bnd (pLenS (env 0) h98) fun v99 h99 =>
    bnd (pInt .geq v98 v99 h99) fun v100 h100 =>
    ifD v100 (
      q0 (env 0) (env 6) h100) (
      bnd (pNil (env 5) h100) fun v101 h101 =>
      bnd (pField 1 v101 h101) fun v102 h102 =>
      bnd (pLoad1 v102 h102) fun v103 h103 =>
      bnd (pIndexS (env 0) v103 h103) fun v104 h104 =>
      bnd (pInt .eql v104 (.i .u8 (Int.ofNat 34)) h104) fun v105 h105 =>
      ifD v105 (
        bnd (pNil (env 5) h105) fun v106 h106 =>
        bnd (pField 1 v106 h106) fun v107 h107 =>
        bnd (pLoad1 v107 h107) fun v108 h108 =>
        bnd (pInt .add v108 (.i .i64 (Int.ofNat 1)) h108) fun v109 h109 =>
        bnd (pSliceS (env 0) (some v109) none h109) fun v110 h110 =>
        bnd (rec 49 [v110, (.i .u8 (Int.ofNat 34))] h110) fun v111 h111 =>
        bnd (pInt .lss v111 (.i .i64 (Int.ofNat 0)) h111) fun v112 h112 =>
        ifD v112 (
          bnd (pNil (env 5) h112) fun v113 h113 =>
          bnd (pField 1 v113 h113) fun v114 h114 =>
          bnd (pLoad1 v114 h114) fun v115 h115 =>
          some (.t [.l0, v115, (.i .i64 (Int.ofNat 11))], h115)) (
          bnd (pNil (env 5) h112) fun v116 h116 =>
          bnd (pField 1 v116 h116) fun v117 h117 =>
          bnd (pLoad1 v117 h117) fun v118 h118 =>
          bnd (pInt .add v111 (.i .i64 (Int.ofNat 2)) h118) fun v119 h119 =>
          bnd (pInt .add v118 v119 h119) fun v120 h120 =>
          bnd (pNil (env 5) h120) fun v121 h121 =>
          bnd (pField 1 v121 h121) fun v122 h122 =>
          bnd (pStore 1 v122 v120 h122) fun _ h123 =>
          kk7 (env 0) (env 5) (env 6) h123)) (
        bnd (rec 50 [(env 5)] h105) fun v124 h124 =>
        bnd (pExtract 0 v124 h124) fun v125 h125 =>
        bnd (pExtract 1 v124 h125) fun v126 h126 =>
        bnd (pNew [(.i .i64 (Int.ofNat 0)), (.s []), (.i .i64 (Int.ofNat 0)), (.i .i64 (Int.ofNat 0))] h126) fun v127 h127 =>
        bnd (pStore 4 v127 v125 h127) fun _ h128 =>
        bnd (pInt .neq v126 (.i .i64 (Int.ofNat 0)) h128) fun v129 h129 =>
        ifD v129 (
          bnd (pField 3 v127 h129) fun v130 h130 =>
          bnd (pLoad1 v130 h130) fun v131 h131 =>
          some (.t [.l0, v131, v126], h131)) (
          bnd (pLoadA 4 v127 h129) fun v132 h132 =>
          bnd (pBuildSlice [(.i .i64 (Int.ofNat 0)), (.s []), (.i .i64 (Int.ofNat 0)), (.i .i64 (Int.ofNat 0))] 1 [(0, 4, v132)] h132) fun v133 h133 =>
          bnd (pAppend 4 40 (env 6) v133 h133) fun v134 h134 =>
          kk7 (env 0) (env 5) v134 h134))) := by kernel_rfl

theorem s29a7q1u (rec : FuncId → List DV → Hp → Res) (n : Nat) (kk7 : DV → DV → DV → Hp → Res) : (fun (env : Env) (h : Hp) =>
    bnd (rec 48 [(.s [9, 10, 13, 32])] h) fun v135 h135 =>
    bnd (pLenS (env 0) h135) fun v136 h136 =>
    bnd (rec 47 [(env 5), v135, v136] h136) fun v137 h137 =>
    bnd (pNil (env 5) h137) fun v138 h138 =>
    bnd (pField 1 v138 h138) fun v139 h139 =>
    bnd (pLoad1 v139 h139) fun v140 h140 =>
    bnd (pLenS (env 0) h140) fun v141 h141 =>
    bnd (pInt .geq v140 v141 h141) fun v142 h142 =>
    ifD v142 (
      s29a6 rec n (env 0) (env 6) h142) (
      bnd (pNil (env 5) h142) fun v143 h143 =>
      bnd (pField 1 v143 h143) fun v144 h144 =>
      bnd (pLoad1 v144 h144) fun v145 h145 =>
      bnd (pIndexS (env 0) v145 h145) fun v146 h146 =>
      bnd (pInt .eql v146 (.i .u8 (Int.ofNat 34)) h146) fun v147 h147 =>
      ifD v147 (
        bnd (pNil (env 5) h147) fun v148 h148 =>
        bnd (pField 1 v148 h148) fun v149 h149 =>
        bnd (pLoad1 v149 h149) fun v150 h150 =>
        bnd (pInt .add v150 (.i .i64 (Int.ofNat 1)) h150) fun v151 h151 =>
        bnd (pSliceS (env 0) (some v151) none h151) fun v152 h152 =>
        bnd (rec 49 [v152, (.i .u8 (Int.ofNat 34))] h152) fun v153 h153 =>
        bnd (pInt .lss v153 (.i .i64 (Int.ofNat 0)) h153) fun v154 h154 =>
        ifD v154 (
          bnd (pNil (env 5) h154) fun v155 h155 =>
          bnd (pField 1 v155 h155) fun v156 h156 =>
          bnd (pLoad1 v156 h156) fun v157 h157 =>
          some (.t [.l0, v157, (.i .i64 (Int.ofNat 11))], h157)) (
          bnd (pNil (env 5) h154) fun v158 h158 =>
          bnd (pField 1 v158 h158) fun v159 h159 =>
          bnd (pLoad1 v159 h159) fun v160 h160 =>
          bnd (pInt .add v153 (.i .i64 (Int.ofNat 2)) h160) fun v161 h161 =>
          bnd (pInt .add v160 v161 h161) fun v162 h162 =>
          bnd (pNil (env 5) h162) fun v163 h163 =>
          bnd (pField 1 v163 h163) fun v164 h164 =>
          bnd (pStore 1 v164 v162 h164) fun _ h165 =>
          kk7 (env 0) (env 5) (env 6) h165)) (
        bnd (rec 50 [(env 5)] h147) fun v166 h166 =>
        bnd (pExtract 0 v166 h166) fun v167 h167 =>
        bnd (pExtract 1 v166 h167) fun v168 h168 =>
        bnd (pNew [(.i .i64 (Int.ofNat 0)), (.s []), (.i .i64 (Int.ofNat 0)), (.i .i64 (Int.ofNat 0))] h168) fun v169 h169 =>
        bnd (pStore 4 v169 v167 h169) fun _ h170 =>
        bnd (pInt .neq v168 (.i .i64 (Int.ofNat 0)) h170) fun v171 h171 =>
        ifD v171 (
          bnd (pField 3 v169 h171) fun v172 h172 =>
          bnd (pLoad1 v172 h172) fun v173 h173 =>
          some (.t [.l0, v173, v168], h173)) (
          bnd (pLoadA 4 v169 h171) fun v174 h174 =>
          bnd (pBuildSlice [(.i .i64 (Int.ofNat 0)), (.s []), (.i .i64 (Int.ofNat 0)), (.i .i64 (Int.ofNat 0))] 1 [(0, 4, v174)] h174) fun v175 h175 =>
          bnd (pAppend 4 40 (env 6) v175 h175) fun v176 h176 =>
          kk7 (env 0) (env 5) v176 h176)))) = (fun (env : Env) (h : Hp) => s29a7b rec n kk7 (env 0) (env 5) (env 6) h) := by kernel_rfl

theorem s29a7be (rec : FuncId → List DV → Hp → Res) (n : Nat) (kk7 : DV → DV → DV → Hp → Res) : D29 rec n (cL (cL (cL (cR (cR (cR (cR (cL (cR (cf Try.f29)))))))))) (xs x0 0 (fun (env : Env) (h : Hp) => s29a6 rec n (env 0) (env 6) h)) (fun (env : Env) (h : Hp) => kk7 (env 0) (env 5) (env 6) h) = (fun (env : Env) (h : Hp) => s29a7b rec n kk7 (env 0) (env 5) (env 6) h) :=
  (s29a7q1 rec n kk7 (s29a6 rec n)).trans (s29a7q1u rec n kk7)

theorem s29a7le (rec : FuncId → List DV → Hp → Res) (n : Nat) (m : Nat) : loopN (fun kk => D29 rec n (cL (cL (cL (cR (cR (cR (cR (cL (cR (cf Try.f29)))))))))) (xs x0 0 (fun (env : Env) (h : Hp) => s29a6 rec n (env 0) (env 6) h)) kk) m = (fun (env : Env) (h : Hp) => s29a7l rec n m (env 0) (env 5) (env 6) h) := by
  induction m with
  | zero => exact (by kernel_rfl : loopN (fun kk => D29 rec n (cL (cL (cL (cR (cR (cR (cR (cL (cR (cf Try.f29)))))))))) (xs x0 0 (fun (env : Env) (h : Hp) => s29a6 rec n (env 0) (env 6) h)) kk) 0 = (fun (env : Env) (h : Hp) => s29a7l rec n 0 (env 0) (env 5) (env 6) h))
  | succ m ih =>
    refine (by kernel_rfl : loopN (fun kk => D29 rec n (cL (cL (cL (cR (cR (cR (cR (cL (cR (cf Try.f29)))))))))) (xs x0 0 (fun (env : Env) (h : Hp) => s29a6 rec n (env 0) (env 6) h)) kk) (m + 1) = D29 rec n (cL (cL (cL (cR (cR (cR (cR (cL (cR (cf Try.f29)))))))))) (xs x0 0 (fun (env : Env) (h : Hp) => s29a6 rec n (env 0) (env 6) h)) (loopN (fun kk => D29 rec n (cL (cL (cL (cR (cR (cR (cR (cL (cR (cf Try.f29)))))))))) (xs x0 0 (fun (env : Env) (h : Hp) => s29a6 rec n (env 0) (env 6) h)) kk) m)).trans ?_
    rw [ih]
    exact (s29a7be rec n (s29a7l rec n m)).trans (by kernel_rfl)

theorem s29a7e (rec : FuncId → List DV → Hp → Res) (n : Nat) : D29 rec n (cL (cL (cR (cR (cR (cR (cL (cR (cf Try.f29))))))))) (xs x0 0 (fun (env : Env) (h : Hp) => s29a6 rec n (env 0) (env 6) h)) (fun (env : Env) (h : Hp) => s29a6 rec n (env 0) (env 6) h) = (fun (env : Env) (h : Hp) => s29a7 rec n (env 0) (env 5) (env 6) h) :=
  (by kernel_rfl : D29 rec n (cL (cL (cR (cR (cR (cR (cL (cR (cf Try.f29))))))))) (xs x0 0 (fun (env : Env) (h : Hp) => s29a6 rec n (env 0) (env 6) h)) (fun (env : Env) (h : Hp) => s29a6 rec n (env 0) (env 6) h) = loopN (fun kk => D29 rec n (cL (cL (cL (cR (cR (cR (cR (cL (cR (cf Try.f29)))))))))) (xs x0 0 (fun (env : Env) (h : Hp) => s29a6 rec n (env 0) (env 6) h)) kk) n).trans ((s29a7le rec n n).trans (by kernel_rfl))

theorem s29a5p2 (rec : FuncId → List DV → Hp → Res) (n : Nat) : D29 rec n (cR (cR (cR (cR (cL (cR (cf Try.f29))))))) x0 (retK CF Try.f29) = D29 rec n (cL (cR (cR (cR (cR (cL (cR (cf Try.f29)))))))) x0 (fun (env : Env) (h : Hp) => s29a6 rec n (env 0) (env 6) h) :=
  congrArg (fun k => D29 rec n (cL (cR (cR (cR (cR (cL (cR (cf Try.f29)))))))) x0 k) (s29a6e rec n)

theorem s29a5e (rec : FuncId → List DV → Hp → Res) (n : Nat) : D29 rec n (cR (cR (cR (cR (cL (cR (cf Try.f29))))))) x0 (retK CF Try.f29) = (fun (env : Env) (h : Hp) => s29a5 rec n (env 0) (env 5) (env 6) h) :=
  (s29a5p2 rec n).trans
  ((by kernel_rfl : D29 rec n (cL (cR (cR (cR (cR (cL (cR (cf Try.f29)))))))) x0 (fun (env : Env) (h : Hp) => s29a6 rec n (env 0) (env 6) h) = D29 rec n (cL (cL (cR (cR (cR (cR (cL (cR (cf Try.f29))))))))) (xs x0 0 (fun (env : Env) (h : Hp) => s29a6 rec n (env 0) (env 6) h)) (fun (env : Env) (h : Hp) => s29a6 rec n (env 0) (env 6) h)).trans
  ((s29a7e rec n).trans (by kernel_rfl)))

theorem s29a4p3 (rec : FuncId → List DV → Hp → Res) (n : Nat) : D29 rec n (cR (cR (cR (cL (cR (cf Try.f29)))))) x0 (retK CF Try.f29) = D29 rec n (cL (cR (cR (cR (cL (cR (cf Try.f29))))))) x0 (fun (env : Env) (h : Hp) => s29a5 rec n (env 0) (env 5) (env 6) h) :=
  congrArg (fun k => D29 rec n (cL (cR (cR (cR (cL (cR (cf Try.f29))))))) x0 k) (s29a5e rec n)

theorem s29a4e (rec : FuncId → List DV → Hp → Res) (n : Nat) : D29 rec n (cR (cR (cR (cL (cR (cf Try.f29)))))) x0 (retK CF Try.f29) = (fun (env : Env) (h : Hp) => s29a4 rec n (env 0) (env 5) (env 6) h) :=
  (s29a4p3 rec n).trans
  ((by kernel_rfl))

theorem s29a3p4 (rec : FuncId → List DV → Hp → Res) (n : Nat) : D29 rec n (cR (cR (cL (cR (cf Try.f29))))) x0 (retK CF Try.f29) = D29 rec n (cL (cR (cR (cL (cR (cf Try.f29)))))) x0 (fun (env : Env) (h : Hp) => s29a4 rec n (env 0) (env 5) (env 6) h) :=
  congrArg (fun k => D29 rec n (cL (cR (cR (cL (cR (cf Try.f29)))))) x0 k) (s29a4e rec n)

theorem s29a3e (rec : FuncId → List DV → Hp → Res) (n : Nat) : D29 rec n (cR (cR (cL (cR (cf Try.f29))))) x0 (retK CF Try.f29) = (fun (env : Env) (h : Hp) => s29a3 rec n (env 0) (env 5) h) :=
  (s29a3p4 rec n).trans
  ((by kernel_rfl))

theorem s29a2p5 (rec : FuncId → List DV → Hp → Res) (n : Nat) : D29 rec n (cR (cL (cR (cf Try.f29)))) x0 (retK CF Try.f29) = D29 rec n (cL (cR (cL (cR (cf Try.f29))))) x0 (fun (env : Env) (h : Hp) => s29a3 rec n (env 0) (env 5) h) :=
  congrArg (fun k => D29 rec n (cL (cR (cL (cR (cf Try.f29))))) x0 k) (s29a3e rec n)

theorem s29a2q6 (rec : FuncId → List DV → Hp → Res) (n : Nat) (q0 : DV → DV → Hp → Res) : D29 rec n (cL (cR (cL (cR (cf Try.f29))))) x0 (fun (env : Env) (h : Hp) => q0 (env 0) (env 5) h) = fun (env : Env) (h : Hp) =>
    bnd (pBuild [(.s []), (.i .i64 (Int.ofNat 0))] [(0, 1, (env 0))] h) fun v181 h181 =>
    bnd (pBox v181 h181) fun v182 h182 =>
    q0 (env 0) v182 h182 := by kernel_rfl

theorem s29a2q6u (rec : FuncId → List DV → Hp → Res) (n : Nat) : (fun (env : Env) (h : Hp) =>
    bnd (pBuild [(.s []), (.i .i64 (Int.ofNat 0))] [(0, 1, (env 0))] h) fun v183 h183 =>
    bnd (pBox v183 h183) fun v184 h184 =>
    s29a3 rec n (env 0) v184 h184) = (fun (env : Env) (h : Hp) => s29a2 rec n (env 0) h) := by kernel_rfl

theorem s29a2e (rec : FuncId → List DV → Hp → Res) (n : Nat) : D29 rec n (cR (cL (cR (cf Try.f29)))) x0 (retK CF Try.f29) = (fun (env : Env) (h : Hp) => s29a2 rec n (env 0) h) :=
  (s29a2p5 rec n).trans
  ((s29a2q6 rec n (s29a3 rec n)).trans (s29a2q6u rec n))

theorem s29a1p7 (rec : FuncId → List DV → Hp → Res) (n : Nat) : D29 rec n (cL (cR (cf Try.f29))) x0 (retK CF Try.f29) = D29 rec n (cL (cL (cR (cf Try.f29)))) x0 (fun (env : Env) (h : Hp) => s29a2 rec n (env 0) h) :=
  congrArg (fun k => D29 rec n (cL (cL (cR (cf Try.f29)))) x0 k) (s29a2e rec n)

theorem s29a1e (rec : FuncId → List DV → Hp → Res) (n : Nat) : D29 rec n (cR (cf Try.f29)) x0 (retK CF Try.f29) = (fun (env : Env) (h : Hp) => s29a1 rec n (env 0) h) :=
  (by kernel_rfl : D29 rec n (cR (cf Try.f29)) x0 (retK CF Try.f29) = D29 rec n (cL (cR (cf Try.f29))) x0 (retK CF Try.f29)).trans
  ((s29a1p7 rec n).trans
  ((by kernel_rfl)))

theorem s29p8 (rec : FuncId → List DV → Hp → Res) (n : Nat) : D29 rec n (cf Try.f29) x0 (retK CF Try.f29) = D29 rec n (cL (cf Try.f29)) x0 (fun (env : Env) (h : Hp) => s29a1 rec n (env 0) h) :=
  congrArg (fun k => D29 rec n (cL (cf Try.f29)) x0 k) (s29a1e rec n)

theorem s29m (rec : FuncId → List DV → Hp → Res) (n : Nat) : D29 rec n (cf Try.f29) x0 (retK CF Try.f29) = (fun (env : Env) (h : Hp) => s29 rec n (env 0) h) :=
  (s29p8 rec n).trans
  ((by kernel_rfl))

theorem s29ok (rec : FuncId → List DV → Hp → Res) (n : Nat) (args : List DV) (h : Hp) : bodyD CF rec n 29 args h = s29 rec n (args.getD 0 undefD) h :=
  (by kernel_rfl : bodyD CF rec n 29 args h = D29 rec n (cf Try.f29) x0 (retK CF Try.f29) (argsE args) h).trans ((congrFun (congrFun (s29m rec n) (argsE args)) h).trans (by kernel_rfl))

noncomputable def s30a5 (rec : FuncId → List DV → Hp → Res) (n : Nat) (x0 x3 : DV) (h0 : Hp) : Res :=
  bnd (rec 32 [x0, (.i .i64 (Int.ofNat 10)), (.s [124])] h0) fun v1 h1 =>
  some (x3, h1)

noncomputable def s30a6b (rec : FuncId → List DV → Hp → Res) (n : Nat) (kk6 : DV → DV → Hp → Res) (x0 x3 : DV) (h0 : Hp) : Res :=
    bnd (rec 51 [x0, (.i .i64 (Int.ofNat 1)), (.s [])] h0) fun v3 h3 =>
    ifD v3 (
      bnd (rec 52 [x0] h3) fun v4 h4 =>
      bnd (pPart1 1 v4 h4) fun v5 h5 =>
      bnd (pBuildSlice [(.s [])] 1 [(0, 1, v5)] h5) fun v6 h6 =>
      bnd (pAppend 1 16 x3 v6 h6) fun v7 h7 =>
      kk6 x0 v7 h7) (
      s30a5 rec n x0 x3 h3)

noncomputable def s30a6l (rec : FuncId → List DV → Hp → Res) (n : Nat) (m : Nat) : DV → DV → Hp → Res :=
  Nat.rec (motive := fun _ => DV → DV → Hp → Res) (fun _ _ _ => none) (fun _ ih => s30a6b rec n ih) m

noncomputable def s30a6 (rec : FuncId → List DV → Hp → Res) (n : Nat) : DV → DV → Hp → Res := s30a6l rec n n

noncomputable def s30a4 (rec : FuncId → List DV → Hp → Res) (n : Nat) (x0 x3 : DV) (h0 : Hp) : Res :=
  s30a6 rec n x0 x3 h0

noncomputable def s30a3 (rec : FuncId → List DV → Hp → Res) (n : Nat) (x0 x3 : DV) (h0 : Hp) : Res :=
  bnd (rec 52 [x0] h0) fun v23 h23 =>
  s30a4 rec n x0 x3 h23

noncomputable def s30a2 (rec : FuncId → List DV → Hp → Res) (n : Nat) (x0 x3 : DV) (h0 : Hp) : Res :=
  bnd (rec 51 [x0, (.i .i64 (Int.ofNat 10)), (.s [124])] h0) fun v25 h25 =>
  bnd (pUn .not v25 h25) fun v26 h26 =>
  ifD v26 (
    some (.l0, h26)) (
    s30a3 rec n x0 x3 h26)

noncomputable def s30a1 (rec : FuncId → List DV → Hp → Res) (n : Nat) (x0 : DV) (h0 : Hp) : Res :=
  s30a2 rec n x0 .l0 h0

/-- parse.parser).temps -/
noncomputable def s30 (rec : FuncId → List DV → Hp → Res) (n : Nat) (x0 : DV) (h0 : Hp) : Res :=
  s30a1 rec n x0 h0

noncomputable def D30 (rec : FuncId → List DV → Hp → Res) (n : Nat) (c : Code) (X : Nat → K) (k : K) : K := codeD CF rec 20 n c X (retK CF Try.f30) k

theorem s30a5e (rec : FuncId → List DV → Hp → Res) (n : Nat) : D30 rec n (cR (cR (cR (cR (cR (cf Try.f30)))))) x0 (retK CF Try.f30) = (fun (env : Env) (h : Hp) => s30a5 rec n (env 0) (env 3) h) :=
  (by kernel_rfl)

theorem s30a6q1 (rec : FuncId → List DV → Hp → Res) (n : Nat) (kk6 : DV → DV → Hp → Res) (q0 : DV → DV → Hp → Res) : D30 rec n (cL (cL (cL (cR (cR (cR (cR (cf Try.f30)))))))) (xs x0 0 (fun (env : Env) (h : Hp) => q0 (env 0) (env 3) h)) (fun (env : Env) (h : Hp) => kk6 (env 0) (env 3) h) = fun (env : Env) (h : Hp) =>
    bnd (rec 51 [(env 0), (.i .i64 (Int.ofNat 1)), (.s [])] h) fun v13 h13 =>
    ifD v13 (
      bnd (rec 52 [(env 0)] h13) fun v14 h14 =>
      bnd (pPart1 1 v14 h14) fun v15 h15 =>
      bnd (pBuildSlice [(.s [])] 1 [(0, 1, v15)] h15) fun v16 h16 =>
      bnd (pAppend 1 16 (env 3) v16 h16) fun v17 h17 =>
      kk6 (env 0) v17 h17) (
      q0 (env 0) (env 3) h13) := by kernel_rfl

theorem s30a6q1u (rec : FuncId → List DV → Hp → Res) (n : Nat) (kk6 : DV → DV → Hp → Res) : (fun (env : Env) (h : Hp) =>
    bnd (rec 51 [(env 0), (.i .i64 (Int.ofNat 1)), (.s [])] h) fun v18 h18 =>
    ifD v18 (
      bnd (rec 52 [(env 0)] h18) fun v19 h19 =>
      bnd (pPart1 1 v19 h19) fun v20 h20 =>
      bnd (pBuildSlice [(.s [])] 1 [(0, 1, v20)] h20) fun v21 h21 =>
      bnd (pAppend 1 16 (env 3) v21 h21) fun v22 h22 =>
      kk6 (env 0) v22 h22) (
      s30a5 rec n (env 0) (env 3) h18)) = (fun (env : Env) (h : Hp) => s30a6b rec n kk6 (env 0) (env 3) h) := by kernel_rfl

theorem s30a6be (rec : FuncId → List DV → Hp → Res) (n : Nat) (kk6 : DV → DV → Hp → Res) : D30 rec n (cL (cL (cL (cR (cR (cR (cR (cf Try.f30)))))))) (xs x0 0 (fun (env : Env) (h : Hp) => s30a5 rec n (env 0) (env 3) h)) (fun (env : Env) (h : Hp) => kk6 (env 0) (env 3) h) = (fun (env : Env) (h : Hp) => s30a6b rec n kk6 (env 0) (env 3) h) :=
  (s30a6q1 rec n kk6 (s30a5 rec n)).trans (s30a6q1u rec n kk6)

theorem s30a6le (rec : FuncId → List DV → Hp → Res) (n : Nat) (m : Nat) : loopN (fun kk => D30 rec n (cL (cL (cL (cR (cR (cR (cR (cf Try.f30)))))))) (xs x0 0 (fun (env : Env) (h : Hp) => s30a5 rec n (env 0) (env 3) h)) kk) m = (fun (env : Env) (h : Hp) => s30a6l rec n m (env 0) (env 3) h) := by
  induction m with
  | zero => exact (by kernel_rfl : loopN (fun kk => D30 rec n (cL (cL (cL (cR (cR (cR (cR (cf Try.f30)))))))) (xs x0 0 (fun (env : Env) (h : Hp) => s30a5 rec n (env 0) (env 3) h)) kk) 0 = (fun (env : Env) (h : Hp) => s30a6l rec n 0 (env 0) (env 3) h))
  | succ m ih =>
    refine (by kernel_rfl : loopN (fun kk => D30 rec n (cL (cL (cL (cR (cR (cR (cR (cf Try.f30)))))))) (xs x0 0 (fun (env : Env) (h : Hp) => s30a5 rec n (env 0) (env 3) h)) kk) (m + 1) = D30 rec n (cL (cL (cL (cR (cR (cR (cR (cf Try.f30)))))))) (xs x0 0 (fun (env : Env) (h : Hp) => s30a5 rec n (env 0) (env 3) h)) (loopN (fun kk => D30 rec n (cL (cL (cL (cR (cR (cR (cR (cf Try.f30)))))))) (xs x0 0 (fun (env : Env) (h : Hp) => s30a5 rec n (env 0) (env 3) h)) kk) m)).trans ?_
    rw [ih]
    exact (s30a6be rec n (s30a6l rec n m)).trans (by kernel_rfl)

theorem s30a6e (rec : FuncId → List DV → Hp → Res) (n : Nat) : D30 rec n (cL (cL (cR (cR (cR (cR (cf Try.f30))))))) (xs x0 0 (fun (env : Env) (h : Hp) => s30a5 rec n (env 0) (env 3) h)) (fun (env : Env) (h : Hp) => s30a5 rec n (env 0) (env 3) h) = (fun (env : Env) (h : Hp) => s30a6 rec n (env 0) (env 3) h) :=
  (by kernel_rfl : D30 rec n (cL (cL (cR (cR (cR (cR (cf Try.f30))))))) (xs x0 0 (fun (env : Env) (h : Hp) => s30a5 rec n (env 0) (env 3) h)) (fun (env : Env) (h : Hp) => s30a5 rec n (env 0) (env 3) h) = loopN (fun kk => D30 rec n (cL (cL (cL (cR (cR (cR (cR (cf Try.f30)))))))) (xs x0 0 (fun (env : Env) (h : Hp) => s30a5 rec n (env 0) (env 3) h)) kk) n).trans ((s30a6le rec n n).trans (by kernel_rfl))

theorem s30a4p2 (rec : FuncId → List DV → Hp → Res) (n : Nat) : D30 rec n (cR (cR (cR (cR (cf Try.f30))))) x0 (retK CF Try.f30) = D30 rec n (cL (cR (cR (cR (cR (cf Try.f30)))))) x0 (fun (env : Env) (h : Hp) => s30a5 rec n (env 0) (env 3) h) :=
  congrArg (fun k => D30 rec n (cL (cR (cR (cR (cR (cf Try.f30)))))) x0 k) (s30a5e rec n)

theorem s30a4e (rec : FuncId → List DV → Hp → Res) (n : Nat) : D30 rec n (cR (cR (cR (cR (cf Try.f30))))) x0 (retK CF Try.f30) = (fun (env : Env) (h : Hp) => s30a4 rec n (env 0) (env 3) h) :=
  (s30a4p2 rec n).trans
  ((by kernel_rfl : D30 rec n (cL (cR (cR (cR (cR (cf Try.f30)))))) x0 (fun (env : Env) (h : Hp) => s30a5 rec n (env 0) (env 3) h) = D30 rec n (cL (cL (cR (cR (cR (cR (cf Try.f30))))))) (xs x0 0 (fun (env : Env) (h : Hp) => s30a5 rec n (env 0) (env 3) h)) (fun (env : Env) (h : Hp) => s30a5 rec n (env 0) (env 3) h)).trans
  ((s30a6e rec n).trans (by kernel_rfl)))

theorem s30a3p3 (rec : FuncId → List DV → Hp → Res) (n : Nat) : D30 rec n (cR (cR (cR (cf Try.f30)))) x0 (retK CF Try.f30) = D30 rec n (cL (cR (cR (cR (cf Try.f30))))) x0 (fun (env : Env) (h : Hp) => s30a4 rec n (env 0) (env 3) h) :=
  congrArg (fun k => D30 rec n (cL (cR (cR (cR (cf Try.f30))))) x0 k) (s30a4e rec n)

theorem s30a3e (rec : FuncId → List DV → Hp → Res) (n : Nat) : D30 rec n (cR (cR (cR (cf Try.f30)))) x0 (retK CF Try.f30) = (fun (env : Env) (h : Hp) => s30a3 rec n (env 0) (env 3) h) :=
  (s30a3p3 rec n).trans
  ((by kernel_rfl))

theorem s30a2p4 (rec : FuncId → List DV → Hp → Res) (n : Nat) : D30 rec n (cR (cR (cf Try.f30))) x0 (retK CF Try.f30) = D30 rec n (cL (cR (cR (cf Try.f30)))) x0 (fun (env : Env) (h : Hp) => s30a3 rec n (env 0) (env 3) h) :=
  congrArg (fun k => D30 rec n (cL (cR (cR (cf Try.f30)))) x0 k) (s30a3e rec n)

theorem s30a2e (rec : FuncId → List DV → Hp → Res) (n : Nat) : D30 rec n (cR (cR (cf Try.f30))) x0 (retK CF Try.f30) = (fun (env : Env) (h : Hp) => s30a2 rec n (env 0) (env 3) h) :=
  (s30a2p4 rec n).trans
  ((by kernel_rfl))

theorem s30a1p5 (rec : FuncId → List DV → Hp → Res) (n : Nat) : D30 rec n (cR (cf Try.f30)) x0 (retK CF Try.f30) = D30 rec n (cL (cR (cf Try.f30))) x0 (fun (env : Env) (h : Hp) => s30a2 rec n (env 0) (env 3) h) :=
  congrArg (fun k => D30 rec n (cL (cR (cf Try.f30))) x0 k) (s30a2e rec n)

theorem s30a1e (rec : FuncId → List DV → Hp → Res) (n : Nat) : D30 rec n (cR (cf Try.f30)) x0 (retK CF Try.f30) = (fun (env : Env) (h : Hp) => s30a1 rec n (env 0) h) :=
  (s30a1p5 rec n).trans
  ((by kernel_rfl))

theorem s30p6 (rec : FuncId → List DV → Hp → Res) (n : Nat) : D30 rec n (cf Try.f30) x0 (retK CF Try.f30) = D30 rec n (cL (cf Try.f30)) x0 (fun (env : Env) (h : Hp) => s30a1 rec n (env 0) h) :=
  congrArg (fun k => D30 rec n (cL (cf Try.f30)) x0 k) (s30a1e rec n)

theorem s30m (rec : FuncId → List DV → Hp → Res) (n : Nat) : D30 rec n (cf Try.f30) x0 (retK CF Try.f30) = (fun (env : Env) (h : Hp) => s30 rec n (env 0) h) :=
  (s30p6 rec n).trans
  ((by kernel_rfl))

theorem s30ok (rec : FuncId → List DV → Hp → Res) (n : Nat) (args : List DV) (h : Hp) : bodyD CF rec n 30 args h = s30 rec n (args.getD 0 undefD) h :=
  (by kernel_rfl : bodyD CF rec n 30 args h = D30 rec n (cf Try.f30) x0 (retK CF Try.f30) (argsE args) h).trans ((congrFun (congrFun (s30m rec n) (argsE args)) h).trans (by kernel_rfl))

noncomputable def s31a3 (rec : FuncId → List DV → Hp → Res) (n : Nat) (x3 : DV) (h0 : Hp) : Res :=
  some (x3, h0)

noncomputable def s31a6 (rec : FuncId → List DV → Hp → Res) (n : Nat) (kk4 : DV → DV → Hp → Res) (x0 x3 : DV) (h0 : Hp) : Res :=
  bnd (rec 53 [x0] h0) fun v1 h1 =>
  bnd (pBuildSlice [(.i .i64 (Int.ofNat 0)), (.s []), (.i .i64 (Int.ofNat 0)), .l0, .l0, .l0] 1 [(0, 6, v1)] h1) fun v2 h2 =>
  bnd (pAppend 6 104 x3 v2 h2) fun v3 h3 =>
  bnd (rec 51 [x0, (.i .i64 (Int.ofNat 10)), (.s [46])] h3) fun v4 h4 =>
  bnd (pUn .not v4 h4) fun v5 h5 =>
  ifD v5 (
    some (v3, h5)) (
    bnd (rec 52 [x0] h5) fun v6 h6 =>
    kk4 x0 v3 h6)

noncomputable def s31a11 (rec : FuncId → List DV → Hp → Res) (n : Nat) (kk4 : DV → DV → Hp → Res) (x3 : DV) (h0 : Hp) : Res :=
  some (x3, h0)

noncomputable def s31a10 (rec : FuncId → List DV → Hp → Res) (n : Nat) (kk4 : DV → DV → Hp → Res) (x0 x3 : DV) (h0 : Hp) : Res :=
  bnd (rec 51 [x0, (.i .i64 (Int.ofNat 10)), (.s [46])] h0) fun v25 h25 =>
  ifD v25 (
    bnd (rec 52 [x0] h25) fun v26 h26 =>
    s31a11 rec n kk4 x3 h26) (
    s31a11 rec n kk4 x3 h25)

noncomputable def s31a9 (rec : FuncId → List DV → Hp → Res) (n : Nat) (kk4 : DV → DV → Hp → Res) (x0 x3 : DV) (h0 : Hp) : Res :=
  bnd (rec 53 [x0] h0) fun v29 h29 =>
  bnd (pBuildSlice [(.i .i64 (Int.ofNat 0)), (.s []), (.i .i64 (Int.ofNat 0)), .l0, .l0, .l0] 1 [(0, 6, v29)] h29) fun v30 h30 =>
  bnd (pBuild [(.i .i64 (Int.ofNat 0)), (.s []), (.i .i64 (Int.ofNat 0)), .l0, .l0, .l0] [(0, 1, (.i .i64 (Int.ofNat 10))), (5, 1, v30)] h30) fun v31 h31 =>
  bnd (pBuildSlice [(.i .i64 (Int.ofNat 0)), (.s []), (.i .i64 (Int.ofNat 0)), .l0, .l0, .l0] 1 [(0, 6, v31)] h31) fun v32 h32 =>
  bnd (pAppend 6 104 x3 v32 h32) fun v33 h33 =>
  s31a10 rec n kk4 x0 v33 h33

noncomputable def s31a8 (rec : FuncId → List DV → Hp → Res) (n : Nat) (kk4 : DV → DV → Hp → Res) (x0 x3 : DV) (h0 : Hp) : Res :=
  bnd (rec 52 [x0] h0) fun v49 h49 =>
  s31a9 rec n kk4 x0 x3 h49

noncomputable def s31a7 (rec : FuncId → List DV → Hp → Res) (n : Nat) (kk4 : DV → DV → Hp → Res) (x0 x3 x20 : DV) (h0 : Hp) : Res :=
  ifD x20 (
    s31a8 rec n kk4 x0 x3 h0) (
    s31a6 rec n kk4 x0 x3 h0)

noncomputable def s31a5 (rec : FuncId → List DV → Hp → Res) (n : Nat) (kk4 : DV → DV → Hp → Res) (x0 x3 : DV) (h0 : Hp) : Res :=
  bnd (rec 51 [x0, (.i .i64 (Int.ofNat 10)), (.s [94])] h0) fun v51 h51 =>
  s31a7 rec n kk4 x0 x3 v51 h51

noncomputable def s31a4b (rec : FuncId → List DV → Hp → Res) (n : Nat) (kk4 : DV → DV → Hp → Res) (x0 x3 : DV) (h0 : Hp) : Res :=
    bnd (pNil x0 h0) fun v53 h53 =>
    bnd (pField 3 v53 h53) fun v54 h54 =>
    bnd (pLoad1 v54 h54) fun v55 h55 =>
    bnd (pInt .eql v55 (.i .i64 (Int.ofNat 0)) h55) fun v56 h56 =>
    bnd (gD v56 true (some (x0, h56)) h56) fun v57 h57 =>
    bnd (gD v56 true (rec 51 [v57, (.i .i64 (Int.ofNat 0)), (.s [])] h57) h57) fun v58 h58 =>
    bnd (gD v56 true (pUn .not v58 h58) h58) fun v59 h59 =>
    bnd (pPick v56 v59 (.b false) h59) fun v60 h60 =>
    bnd (gD v60 true (some (x0, h60)) h60) fun v61 h61 =>
    bnd (gD v60 true (rec 51 [v61, (.i .i64 (Int.ofNat 10)), (.s [93])] h61) h61) fun v62 h62 =>
    bnd (gD v60 true (pUn .not v62 h62) h62) fun v63 h63 =>
    bnd (pPick v60 v63 (.b false) h63) fun v64 h64 =>
    ifD v64 (
      s31a5 rec n kk4 x0 x3 h64) (
      s31a3 rec n x3 h64)

noncomputable def s31a4l (rec : FuncId → List DV → Hp → Res) (n : Nat) (m : Nat) : DV → DV → Hp → Res :=
  Nat.rec (motive := fun _ => DV → DV → Hp → Res) (fun _ _ _ => none) (fun _ ih => s31a4b rec n ih) m

noncomputable def s31a4 (rec : FuncId → List DV → Hp → Res) (n : Nat) : DV → DV → Hp → Res := s31a4l rec n n

noncomputable def s31a2 (rec : FuncId → List DV → Hp → Res) (n : Nat) (x0 x3 : DV) (h0 : Hp) : Res :=
  s31a4 rec n x0 x3 h0

noncomputable def s31a1 (rec : FuncId → List DV → Hp → Res) (n : Nat) (x0 : DV) (h0 : Hp) : Res :=
  s31a2 rec n x0 .l0 h0

/-- parse.parser).statements -/
noncomputable def s31 (rec : FuncId → List DV → Hp → Res) (n : Nat) (x0 : DV) (h0 : Hp) : Res :=
  s31a1 rec n x0 h0

noncomputable def D31 (rec : FuncId → List DV → Hp → Res) (n : Nat) (c : Code) (X : Nat → K) (k : K) : K := codeD CF rec 47 n c X (retK CF Try.f31) k

theorem s31a3e (rec : FuncId → List DV → Hp → Res) (n : Nat) : D31 rec n (cR (cR (cR (cf Try.f31)))) x0 (retK CF Try.f31) = (fun (env : Env) (h : Hp) => s31a3 rec n (env 3) h) :=
  (by kernel_rfl)

theorem s31a6q1 (rec : FuncId → List DV → Hp → Res) (n : Nat) (kk4 : DV → DV → Hp → Res) (q0 : DV → Hp → Res) : D31 rec n (cR (cL (cR (cL (cL (cL (cR (cR (cf Try.f31))))))))) (xs (xs x0 0 (fun (env : Env) (h : Hp) => q0 (env 3) h)) 1 (fun (env : Env) (h : Hp) => kk4 (env 0) (env 3) h)) (fun (env : Env) (h : Hp) => kk4 (env 0) (env 3) h) = fun (env : Env) (h : Hp) =>
    bnd (rec 53 [(env 0)] h) fun v13 h13 =>
    bnd (pBuildSlice [(.i .i64 (Int.ofNat 0)), (.s []), (.i .i64 (Int.ofNat 0)), .l0, .l0, .l0] 1 [(0, 6, v13)] h13) fun v14 h14 =>
    bnd (pAppend 6 104 (env 3) v14 h14) fun v15 h15 =>
    bnd (rec 51 [(env 0), (.i .i64 (Int.ofNat 10)), (.s [46])] h15) fun v16 h16 =>
    bnd (pUn .not v16 h16) fun v17 h17 =>
    ifD v17 (
      some (v15, h17)) (
      bnd (rec 52 [(env 0)] h17) fun v18 h18 =>
      kk4 (env 0) v15 h18) := by kernel_rfl

theorem s31a6q1u (rec : FuncId → List DV → Hp → Res) (n : Nat) (kk4 : DV → DV → Hp → Res) : (fun (env : Env) (h : Hp) =>
    bnd (rec 53 [(env 0)] h) fun v19 h19 =>
    bnd (pBuildSlice [(.i .i64 (Int.ofNat 0)), (.s []), (.i .i64 (Int.ofNat 0)), .l0, .l0, .l0] 1 [(0, 6, v19)] h19) fun v20 h20 =>
    bnd (pAppend 6 104 (env 3) v20 h20) fun v21 h21 =>
    bnd (rec 51 [(env 0), (.i .i64 (Int.ofNat 10)), (.s [46])] h21) fun v22 h22 =>
    bnd (pUn .not v22 h22) fun v23 h23 =>
    ifD v23 (
      some (v21, h23)) (
      bnd (rec 52 [(env 0)] h23) fun v24 h24 =>
      kk4 (env 0) v21 h24)) = (fun (env : Env) (h : Hp) => s31a6 rec n kk4 (env 0) (env 3) h) := by kernel_rfl

theorem s31a6e (rec : FuncId → List DV → Hp → Res) (n : Nat) (kk4 : DV → DV → Hp → Res) : D31 rec n (cR (cL (cR (cL (cL (cL (cR (cR (cf Try.f31))))))))) (xs (xs x0 0 (fun (env : Env) (h : Hp) => s31a3 rec n (env 3) h)) 1 (fun (env : Env) (h : Hp) => kk4 (env 0) (env 3) h)) (fun (env : Env) (h : Hp) => kk4 (env 0) (env 3) h) = (fun (env : Env) (h : Hp) => s31a6 rec n kk4 (env 0) (env 3) h) :=
  (s31a6q1 rec n kk4 (s31a3 rec n)).trans (s31a6q1u rec n kk4)

theorem s31a11e (rec : FuncId → List DV → Hp → Res) (n : Nat) (kk4 : DV → DV → Hp → Res) : D31 rec n (cR (cR (cR (cL (cR (cL (cL (cR (cL (cL (cL (cR (cR (cf Try.f31)))))))))))))) (xs (xs x0 0 (fun (env : Env) (h : Hp) => s31a3 rec n (env 3) h)) 1 (fun (env : Env) (h : Hp) => kk4 (env 0) (env 3) h)) (fun (env : Env) (h : Hp) => s31a6 rec n kk4 (env 0) (env 3) h) = (fun (env : Env) (h : Hp) => s31a11 rec n kk4 (env 3) h) :=
  (by kernel_rfl)

theorem s31a10p2 (rec : FuncId → List DV → Hp → Res) (n : Nat) (kk4 : DV → DV → Hp → Res) : D31 rec n (cR (cR (cL (cR (cL (cL (cR (cL (cL (cL (cR (cR (cf Try.f31))))))))))))) (xs (xs x0 0 (fun (env : Env) (h : Hp) => s31a3 rec n (env 3) h)) 1 (fun (env : Env) (h : Hp) => kk4 (env 0) (env 3) h)) (fun (env : Env) (h : Hp) => s31a6 rec n kk4 (env 0) (env 3) h) = D31 rec n (cL (cR (cR (cL (cR (cL (cL (cR (cL (cL (cL (cR (cR (cf Try.f31)))))))))))))) (xs (xs x0 0 (fun (env : Env) (h : Hp) => s31a3 rec n (env 3) h)) 1 (fun (env : Env) (h : Hp) => kk4 (env 0) (env 3) h)) (fun (env : Env) (h : Hp) => s31a11 rec n kk4 (env 3) h) :=
  congrArg (fun k => D31 rec n (cL (cR (cR (cL (cR (cL (cL (cR (cL (cL (cL (cR (cR (cf Try.f31)))))))))))))) (xs (xs x0 0 (fun (env : Env) (h : Hp) => s31a3 rec n (env 3) h)) 1 (fun (env : Env) (h : Hp) => kk4 (env 0) (env 3) h)) k) (s31a11e rec n kk4)

theorem s31a10e (rec : FuncId → List DV → Hp → Res) (n : Nat) (kk4 : DV → DV → Hp → Res) : D31 rec n (cR (cR (cL (cR (cL (cL (cR (cL (cL (cL (cR (cR (cf Try.f31))))))))))))) (xs (xs x0 0 (fun (env : Env) (h : Hp) => s31a3 rec n (env 3) h)) 1 (fun (env : Env) (h : Hp) => kk4 (env 0) (env 3) h)) (fun (env : Env) (h : Hp) => s31a6 rec n kk4 (env 0) (env 3) h) = (fun (env : Env) (h : Hp) => s31a10 rec n kk4 (env 0) (env 3) h) :=
  (s31a10p2 rec n kk4).trans
  ((by kernel_rfl))

theorem s31a9p3 (rec : FuncId → List DV → Hp → Res) (n : Nat) (kk4 : DV → DV → Hp → Res) : D31 rec n (cR (cL (cR (cL (cL (cR (cL (cL (cL (cR (cR (cf Try.f31)))))))))))) (xs (xs x0 0 (fun (env : Env) (h : Hp) => s31a3 rec n (env 3) h)) 1 (fun (env : Env) (h : Hp) => kk4 (env 0) (env 3) h)) (fun (env : Env) (h : Hp) => s31a6 rec n kk4 (env 0) (env 3) h) = D31 rec n (cL (cR (cL (cR (cL (cL (cR (cL (cL (cL (cR (cR (cf Try.f31))))))))))))) (xs (xs x0 0 (fun (env : Env) (h : Hp) => s31a3 rec n (env 3) h)) 1 (fun (env : Env) (h : Hp) => kk4 (env 0) (env 3) h)) (fun (env : Env) (h : Hp) => s31a10 rec n kk4 (env 0) (env 3) h) :=
  congrArg (fun k => D31 rec n (cL (cR (cL (cR (cL (cL (cR (cL (cL (cL (cR (cR (cf Try.f31))))))))))))) (xs (xs x0 0 (fun (env : Env) (h : Hp) => s31a3 rec n (env 3) h)) 1 (fun (env : Env) (h : Hp) => kk4 (env 0) (env 3) h)) k) (s31a10e rec n kk4)

theorem s31a9q4 (rec : FuncId → List DV → Hp → Res) (n : Nat) (kk4 : DV → DV → Hp → Res) (q0 : DV → DV → Hp → Res) (q1 : DV → Hp → Res) : D31 rec n (cL (cR (cL (cR (cL (cL (cR (cL (cL (cL (cR (cR (cf Try.f31))))))))))))) (xs (xs x0 0 (fun (env : Env) (h : Hp) => q1 (env 3) h)) 1 (fun (env : Env) (h : Hp) => kk4 (env 0) (env 3) h)) (fun (env : Env) (h : Hp) => q0 (env 0) (env 3) h) = fun (env : Env) (h : Hp) =>
    bnd (rec 53 [(env 0)] h) fun v39 h39 =>
    bnd (pBuildSlice [(.i .i64 (Int.ofNat 0)), (.s []), (.i .i64 (Int.ofNat 0)), .l0, .l0, .l0] 1 [(0, 6, v39)] h39) fun v40 h40 =>
    bnd (pBuild [(.i .i64 (Int.ofNat 0)), (.s []), (.i .i64 (Int.ofNat 0)), .l0, .l0, .l0] [(0, 1, (.i .i64 (Int.ofNat 10))), (5, 1, v40)] h40) fun v41 h41 =>
    bnd (pBuildSlice [(.i .i64 (Int.ofNat 0)), (.s []), (.i .i64 (Int.ofNat 0)), .l0, .l0, .l0] 1 [(0, 6, v41)] h41) fun v42 h42 =>
    bnd (pAppend 6 104 (env 3) v42 h42) fun v43 h43 =>
    q0 (env 0) v43 h43 := by kernel_rfl

theorem s31a9q4u (rec : FuncId → List DV → Hp → Res) (n : Nat) (kk4 : DV → DV → Hp → Res) : (fun (env : Env) (h : Hp) =>
    bnd (rec 53 [(env 0)] h) fun v44 h44 =>
    bnd (pBuildSlice [(.i .i64 (Int.ofNat 0)), (.s []), (.i .i64 (Int.ofNat 0)), .l0, .l0, .l0] 1 [(0, 6, v44)] h44) fun v45 h45 =>
    bnd (pBuild [(.i .i64 (Int.ofNat 0)), (.s []), (.i .i64 (Int.ofNat 0)), .l0, .l0, .l0] [(0, 1, (.i .i64 (Int.ofNat 10))), (5, 1, v45)] h45) fun v46 h46 =>
    bnd (pBuildSlice [(.i .i64 (Int.ofNat 0)), (.s []), (.i .i64 (Int.ofNat 0)), .l0, .l0, .l0] 1 [(0, 6, v46)] h46) fun v47 h47 =>
    bnd (pAppend 6 104 (env 3) v47 h47) fun v48 h48 =>
    s31a10 rec n kk4 (env 0) v48 h48) = (fun (env : Env) (h : Hp) => s31a9 rec n kk4 (env 0) (env 3) h) := by kernel_rfl

theorem s31a9e (rec : FuncId → List DV → Hp → Res) (n : Nat) (kk4 : DV → DV → Hp → Res) : D31 rec n (cR (cL (cR (cL (cL (cR (cL (cL (cL (cR (cR (cf Try.f31)))))))))))) (xs (xs x0 0 (fun (env : Env) (h : Hp) => s31a3 rec n (env 3) h)) 1 (fun (env : Env) (h : Hp) => kk4 (env 0) (env 3) h)) (fun (env : Env) (h : Hp) => s31a6 rec n kk4 (env 0) (env 3) h) = (fun (env : Env) (h : Hp) => s31a9 rec n kk4 (env 0) (env 3) h) :=
  (s31a9p3 rec n kk4).trans
  ((s31a9q4 rec n kk4 (s31a10 rec n kk4) (s31a3 rec n)).trans (s31a9q4u rec n kk4))

theorem s31a8p5 (rec : FuncId → List DV → Hp → Res) (n : Nat) (kk4 : DV → DV → Hp → Res) : D31 rec n (cL (cR (cL (cL (cR (cL (cL (cL (cR (cR (cf Try.f31))))))))))) (xs (xs x0 0 (fun (env : Env) (h : Hp) => s31a3 rec n (env 3) h)) 1 (fun (env : Env) (h : Hp) => kk4 (env 0) (env 3) h)) (fun (env : Env) (h : Hp) => s31a6 rec n kk4 (env 0) (env 3) h) = D31 rec n (cL (cL (cR (cL (cL (cR (cL (cL (cL (cR (cR (cf Try.f31)))))))))))) (xs (xs x0 0 (fun (env : Env) (h : Hp) => s31a3 rec n (env 3) h)) 1 (fun (env : Env) (h : Hp) => kk4 (env 0) (env 3) h)) (fun (env : Env) (h : Hp) => s31a9 rec n kk4 (env 0) (env 3) h) :=
  congrArg (fun k => D31 rec n (cL (cL (cR (cL (cL (cR (cL (cL (cL (cR (cR (cf Try.f31)))))))))))) (xs (xs x0 0 (fun (env : Env) (h : Hp) => s31a3 rec n (env 3) h)) 1 (fun (env : Env) (h : Hp) => kk4 (env 0) (env 3) h)) k) (s31a9e rec n kk4)

theorem s31a8e (rec : FuncId → List DV → Hp → Res) (n : Nat) (kk4 : DV → DV → Hp → Res) : D31 rec n (cL (cR (cL (cL (cR (cL (cL (cL (cR (cR (cf Try.f31))))))))))) (xs (xs x0 0 (fun (env : Env) (h : Hp) => s31a3 rec n (env 3) h)) 1 (fun (env : Env) (h : Hp) => kk4 (env 0) (env 3) h)) (fun (env : Env) (h : Hp) => s31a6 rec n kk4 (env 0) (env 3) h) = (fun (env : Env) (h : Hp) => s31a8 rec n kk4 (env 0) (env 3) h) :=
  (s31a8p5 rec n kk4).trans
  ((by kernel_rfl))

theorem s31a7e (rec : FuncId → List DV → Hp → Res) (n : Nat) (kk4 : DV → DV → Hp → Res) : D31 rec n (cR (cL (cL (cR (cL (cL (cL (cR (cR (cf Try.f31)))))))))) (xs (xs x0 0 (fun (env : Env) (h : Hp) => s31a3 rec n (env 3) h)) 1 (fun (env : Env) (h : Hp) => kk4 (env 0) (env 3) h)) (fun (env : Env) (h : Hp) => s31a6 rec n kk4 (env 0) (env 3) h) = (fun (env : Env) (h : Hp) => s31a7 rec n kk4 (env 0) (env 3) (env 20) h) :=
  (by kernel_rfl : D31 rec n (cR (cL (cL (cR (cL (cL (cL (cR (cR (cf Try.f31)))))))))) (xs (xs x0 0 (fun (env : Env) (h : Hp) => s31a3 rec n (env 3) h)) 1 (fun (env : Env) (h : Hp) => kk4 (env 0) (env 3) h)) (fun (env : Env) (h : Hp) => s31a6 rec n kk4 (env 0) (env 3) h) = (fun (env : Env) (h : Hp) => ifD (opr env (cC (cR (cL (cL (cR (cL (cL (cL (cR (cR (cf Try.f31)))))))))))) (D31 rec n (cL (cR (cL (cL (cR (cL (cL (cL (cR (cR (cf Try.f31))))))))))) (xs (xs x0 0 (fun (env : Env) (h : Hp) => s31a3 rec n (env 3) h)) 1 (fun (env : Env) (h : Hp) => kk4 (env 0) (env 3) h)) (fun (env : Env) (h : Hp) => s31a6 rec n kk4 (env 0) (env 3) h) env h) (D31 rec n (cR (cR (cL (cL (cR (cL (cL (cL (cR (cR (cf Try.f31))))))))))) (xs (xs x0 0 (fun (env : Env) (h : Hp) => s31a3 rec n (env 3) h)) 1 (fun (env : Env) (h : Hp) => kk4 (env 0) (env 3) h)) (fun (env : Env) (h : Hp) => s31a6 rec n kk4 (env 0) (env 3) h) env h))).trans (by rw [s31a8e rec n kk4]; kernel_rfl)

theorem s31a5p6 (rec : FuncId → List DV → Hp → Res) (n : Nat) (kk4 : DV → DV → Hp → Res) : D31 rec n (cL (cR (cL (cL (cL (cR (cR (cf Try.f31)))))))) (xs (xs x0 0 (fun (env : Env) (h : Hp) => s31a3 rec n (env 3) h)) 1 (fun (env : Env) (h : Hp) => kk4 (env 0) (env 3) h)) (fun (env : Env) (h : Hp) => kk4 (env 0) (env 3) h) = D31 rec n (cL (cL (cR (cL (cL (cL (cR (cR (cf Try.f31))))))))) (xs (xs x0 0 (fun (env : Env) (h : Hp) => s31a3 rec n (env 3) h)) 1 (fun (env : Env) (h : Hp) => kk4 (env 0) (env 3) h)) (fun (env : Env) (h : Hp) => s31a6 rec n kk4 (env 0) (env 3) h) :=
  congrArg (fun k => D31 rec n (cL (cL (cR (cL (cL (cL (cR (cR (cf Try.f31))))))))) (xs (xs x0 0 (fun (env : Env) (h : Hp) => s31a3 rec n (env 3) h)) 1 (fun (env : Env) (h : Hp) => kk4 (env 0) (env 3) h)) k) (s31a6e rec n kk4)

theorem s31a5p7 (rec : FuncId → List DV → Hp → Res) (n : Nat) (kk4 : DV → DV → Hp → Res) : D31 rec n (cL (cL (cR (cL (cL (cL (cR (cR (cf Try.f31))))))))) (xs (xs x0 0 (fun (env : Env) (h : Hp) => s31a3 rec n (env 3) h)) 1 (fun (env : Env) (h : Hp) => kk4 (env 0) (env 3) h)) (fun (env : Env) (h : Hp) => s31a6 rec n kk4 (env 0) (env 3) h) = D31 rec n (cL (cL (cL (cR (cL (cL (cL (cR (cR (cf Try.f31)))))))))) (xs (xs x0 0 (fun (env : Env) (h : Hp) => s31a3 rec n (env 3) h)) 1 (fun (env : Env) (h : Hp) => kk4 (env 0) (env 3) h)) (fun (env : Env) (h : Hp) => s31a7 rec n kk4 (env 0) (env 3) (env 20) h) :=
  congrArg (fun k => D31 rec n (cL (cL (cL (cR (cL (cL (cL (cR (cR (cf Try.f31)))))))))) (xs (xs x0 0 (fun (env : Env) (h : Hp) => s31a3 rec n (env 3) h)) 1 (fun (env : Env) (h : Hp) => kk4 (env 0) (env 3) h)) k) (s31a7e rec n kk4)

theorem s31a5e (rec : FuncId → List DV → Hp → Res) (n : Nat) (kk4 : DV → DV → Hp → Res) : D31 rec n (cR (cL (cL (cL (cR (cR (cf Try.f31))))))) (xs x0 0 (fun (env : Env) (h : Hp) => s31a3 rec n (env 3) h)) (fun (env : Env) (h : Hp) => kk4 (env 0) (env 3) h) = (fun (env : Env) (h : Hp) => s31a5 rec n kk4 (env 0) (env 3) h) :=
  (by kernel_rfl : D31 rec n (cR (cL (cL (cL (cR (cR (cf Try.f31))))))) (xs x0 0 (fun (env : Env) (h : Hp) => s31a3 rec n (env 3) h)) (fun (env : Env) (h : Hp) => kk4 (env 0) (env 3) h) = D31 rec n (cL (cR (cL (cL (cL (cR (cR (cf Try.f31)))))))) (xs (xs x0 0 (fun (env : Env) (h : Hp) => s31a3 rec n (env 3) h)) 1 (fun (env : Env) (h : Hp) => kk4 (env 0) (env 3) h)) (fun (env : Env) (h : Hp) => kk4 (env 0) (env 3) h)).trans
  ((s31a5p6 rec n kk4).trans
  ((s31a5p7 rec n kk4).trans
  ((by kernel_rfl))))

theorem s31a4p8 (rec : FuncId → List DV → Hp → Res) (n : Nat) (kk4 : DV → DV → Hp → Res) : D31 rec n (cL (cL (cL (cR (cR (cf Try.f31)))))) (xs x0 0 (fun (env : Env) (h : Hp) => s31a3 rec n (env 3) h)) (fun (env : Env) (h : Hp) => kk4 (env 0) (env 3) h) = D31 rec n (cL (cL (cL (cL (cR (cR (cf Try.f31))))))) (xs x0 0 (fun (env : Env) (h : Hp) => s31a3 rec n (env 3) h)) (fun (env : Env) (h : Hp) => s31a5 rec n kk4 (env 0) (env 3) h) :=
  congrArg (fun k => D31 rec n (cL (cL (cL (cL (cR (cR (cf Try.f31))))))) (xs x0 0 (fun (env : Env) (h : Hp) => s31a3 rec n (env 3) h)) k) (s31a5e rec n kk4)

theorem s31a4be (rec : FuncId → List DV → Hp → Res) (n : Nat) (kk4 : DV → DV → Hp → Res) : D31 rec n (cL (cL (cL (cR (cR (cf Try.f31)))))) (xs x0 0 (fun (env : Env) (h : Hp) => s31a3 rec n (env 3) h)) (fun (env : Env) (h : Hp) => kk4 (env 0) (env 3) h) = (fun (env : Env) (h : Hp) => s31a4b rec n kk4 (env 0) (env 3) h) :=
  (s31a4p8 rec n kk4).trans
  ((by kernel_rfl))

theorem s31a4le (rec : FuncId → List DV → Hp → Res) (n : Nat) (m : Nat) : loopN (fun kk => D31 rec n (cL (cL (cL (cR (cR (cf Try.f31)))))) (xs x0 0 (fun (env : Env) (h : Hp) => s31a3 rec n (env 3) h)) kk) m = (fun (env : Env) (h : Hp) => s31a4l rec n m (env 0) (env 3) h) := by
  induction m with
  | zero => exact (by kernel_rfl : loopN (fun kk => D31 rec n (cL (cL (cL (cR (cR (cf Try.f31)))))) (xs x0 0 (fun (env : Env) (h : Hp) => s31a3 rec n (env 3) h)) kk) 0 = (fun (env : Env) (h : Hp) => s31a4l rec n 0 (env 0) (env 3) h))
  | succ m ih =>
    refine (by kernel_rfl : loopN (fun kk => D31 rec n (cL (cL (cL (cR (cR (cf Try.f31)))))) (xs x0 0 (fun (env : Env) (h : Hp) => s31a3 rec n (env 3) h)) kk) (m + 1) = D31 rec n (cL (cL (cL (cR (cR (cf Try.f31)))))) (xs x0 0 (fun (env : Env) (h : Hp) => s31a3 rec n (env 3) h)) (loopN (fun kk => D31 rec n (cL (cL (cL (cR (cR (cf Try.f31)))))) (xs x0 0 (fun (env : Env) (h : Hp) => s31a3 rec n (env 3) h)) kk) m)).trans ?_
    rw [ih]
    exact (s31a4be rec n (s31a4l rec n m)).trans (by kernel_rfl)

theorem s31a4e (rec : FuncId → List DV → Hp → Res) (n : Nat) : D31 rec n (cL (cL (cR (cR (cf Try.f31))))) (xs x0 0 (fun (env : Env) (h : Hp) => s31a3 rec n (env 3) h)) (fun (env : Env) (h : Hp) => s31a3 rec n (env 3) h) = (fun (env : Env) (h : Hp) => s31a4 rec n (env 0) (env 3) h) :=
  (by kernel_rfl : D31 rec n (cL (cL (cR (cR (cf Try.f31))))) (xs x0 0 (fun (env : Env) (h : Hp) => s31a3 rec n (env 3) h)) (fun (env : Env) (h : Hp) => s31a3 rec n (env 3) h) = loopN (fun kk => D31 rec n (cL (cL (cL (cR (cR (cf Try.f31)))))) (xs x0 0 (fun (env : Env) (h : Hp) => s31a3 rec n (env 3) h)) kk) n).trans ((s31a4le rec n n).trans (by kernel_rfl))

theorem s31a2p9 (rec : FuncId → List DV → Hp → Res) (n : Nat) : D31 rec n (cR (cR (cf Try.f31))) x0 (retK CF Try.f31) = D31 rec n (cL (cR (cR (cf Try.f31)))) x0 (fun (env : Env) (h : Hp) => s31a3 rec n (env 3) h) :=
  congrArg (fun k => D31 rec n (cL (cR (cR (cf Try.f31)))) x0 k) (s31a3e rec n)

theorem s31a2e (rec : FuncId → List DV → Hp → Res) (n : Nat) : D31 rec n (cR (cR (cf Try.f31))) x0 (retK CF Try.f31) = (fun (env : Env) (h : Hp) => s31a2 rec n (env 0) (env 3) h) :=
  (s31a2p9 rec n).trans
  ((by kernel_rfl : D31 rec n (cL (cR (cR (cf Try.f31)))) x0 (fun (env : Env) (h : Hp) => s31a3 rec n (env 3) h) = D31 rec n (cL (cL (cR (cR (cf Try.f31))))) (xs x0 0 (fun (env : Env) (h : Hp) => s31a3 rec n (env 3) h)) (fun (env : Env) (h : Hp) => s31a3 rec n (env 3) h)).trans
  ((s31a4e rec n).trans (by kernel_rfl)))

theorem s31a1p10 (rec : FuncId → List DV → Hp → Res) (n : Nat) : D31 rec n (cR (cf Try.f31)) x0 (retK CF Try.f31) = D31 rec n (cL (cR (cf Try.f31))) x0 (fun (env : Env) (h : Hp) => s31a2 rec n (env 0) (env 3) h) :=
  congrArg (fun k => D31 rec n (cL (cR (cf Try.f31))) x0 k) (s31a2e rec n)

theorem s31a1e (rec : FuncId → List DV → Hp → Res) (n : Nat) : D31 rec n (cR (cf Try.f31)) x0 (retK CF Try.f31) = (fun (env : Env) (h : Hp) => s31a1 rec n (env 0) h) :=
  (s31a1p10 rec n).trans
  ((by kernel_rfl))

theorem s31p11 (rec : FuncId → List DV → Hp → Res) (n : Nat) : D31 rec n (cf Try.f31) x0 (retK CF Try.f31) = D31 rec n (cL (cf Try.f31)) x0 (fun (env : Env) (h : Hp) => s31a1 rec n (env 0) h) :=
  congrArg (fun k => D31 rec n (cL (cf Try.f31)) x0 k) (s31a1e rec n)

theorem s31m (rec : FuncId → List DV → Hp → Res) (n : Nat) : D31 rec n (cf Try.f31) x0 (retK CF Try.f31) = (fun (env : Env) (h : Hp) => s31 rec n (env 0) h) :=
  (s31p11 rec n).trans
  ((by kernel_rfl))

theorem s31ok (rec : FuncId → List DV → Hp → Res) (n : Nat) (args : List DV) (h : Hp) : bodyD CF rec n 31 args h = s31 rec n (args.getD 0 undefD) h :=
  (by kernel_rfl : bodyD CF rec n 31 args h = D31 rec n (cf Try.f31) x0 (retK CF Try.f31) (argsE args) h).trans ((congrFun (congrFun (s31m rec n) (argsE args)) h).trans (by kernel_rfl))

/-- parse.parser).need -/
noncomputable def s32 (rec : FuncId → List DV → Hp → Res) (n : Nat) (x0 x1 x2 : DV) (h0 : Hp) : Res :=
  bnd (pNew [(.i .i64 (Int.ofNat 0)), (.s []), (.i .i64 (Int.ofNat 0)), (.i .i64 (Int.ofNat 0))] h0) fun v1 h1 =>
  bnd (rec 51 [x0, x1, x2] h1) fun v2 h2 =>
  bnd (pUn .not v2 h2) fun v3 h3 =>
  ifD v3 (
    bnd (rec 55 [x0, (.i .i64 (Int.ofNat 0))] h3) fun v4 h4 =>
    bnd (rec 54 [x0, v4, (.i .i64 (Int.ofNat 13))] h4) fun v5 h5 =>
    bnd (pBuild [(.i .i64 (Int.ofNat 0)), (.s []), (.i .i64 (Int.ofNat 0)), (.i .i64 (Int.ofNat 0))] [] h5) fun v6 h6 =>
    bnd (pStore 4 v1 v6 h6) fun _ h7 =>
    bnd (pLoadA 4 v1 h7) fun v8 _ =>
    some (v8, h7)) (
    bnd (rec 52 [x0] h3) fun v9 h9 =>
    bnd (pStore 4 v1 v9 h9) fun _ h10 =>
    bnd (pLoadA 4 v1 h10) fun v11 _ =>
    some (v11, h10))

noncomputable def D32 (rec : FuncId → List DV → Hp → Res) (n : Nat) (c : Code) (X : Nat → K) (k : K) : K := codeD CF rec 19 n c X (retK CF Try.f32) k

theorem s32m (rec : FuncId → List DV → Hp → Res) (n : Nat) : D32 rec n (cf Try.f32) x0 (retK CF Try.f32) = (fun (env : Env) (h : Hp) => s32 rec n (env 0) (env 1) (env 2) h) :=
  (by kernel_rfl)

theorem s32ok (rec : FuncId → List DV → Hp → Res) (n : Nat) (args : List DV) (h : Hp) : bodyD CF rec n 32 args h = s32 rec n (args.getD 0 undefD) (args.getD 1 undefD) (args.getD 2 undefD) h :=
  (by kernel_rfl : bodyD CF rec n 32 args h = D32 rec n (cf Try.f32) x0 (retK CF Try.f32) (argsE args) h).trans ((congrFun (congrFun (s32m rec n) (argsE args)) h).trans (by kernel_rfl))

noncomputable def s33a8 (rec : FuncId → List DV → Hp → Res) (n : Nat) (h0 : Hp) : Res :=
  some ((.i .i64 (Int.ofNat 0)), h0)

noncomputable def s33a10b (rec : FuncId → List DV → Hp → Res) (n : Nat) (kk10 : DV → DV → DV → Hp → Res) (x0 x5 x6 : DV) (h0 : Hp) : Res :=
    bnd (pLenS x5 h0) fun v1 h1 =>
    bnd (pInt .lss x6 v1 h1) fun v2 h2 =>
    ifD v2 (
      bnd (pIndexS x5 x6 h2) fun v3 h3 =>
      bnd (pInt .eql v3 x0 h3) fun v4 h4 =>
      ifD v4 (
        some ((.i .i64 (Int.ofNat 4)), h4)) (
        bnd (pInt .add x6 (.i .i64 (Int.ofNat 1)) h4) fun v5 h5 =>
        kk10 x0 x5 v5 h5)) (
      s33a8 rec n h2)

noncomputable def s33a10l (rec : FuncId → List DV → Hp → Res) (n : Nat) (m : Nat) : DV → DV → DV → Hp → Res :=
  Nat.rec (motive := fun _ => DV → DV → DV → Hp → Res) (fun _ _ _ _ => none) (fun _ ih => s33a10b rec n ih) m

noncomputable def s33a10 (rec : FuncId → List DV → Hp → Res) (n : Nat) : DV → DV → DV → Hp → Res := s33a10l rec n n

noncomputable def s33a9 (rec : FuncId → List DV → Hp → Res) (n : Nat) (x0 x5 x6 : DV) (h0 : Hp) : Res :=
  s33a10 rec n x0 x5 x6 h0

noncomputable def s33a7 (rec : FuncId → List DV → Hp → Res) (n : Nat) (x0 x5 : DV) (h0 : Hp) : Res :=
  s33a9 rec n x0 x5 (.i .i64 (Int.ofNat 0)) h0

noncomputable def s33a6 (rec : FuncId → List DV → Hp → Res) (n : Nat) (x0 : DV) (h0 : Hp) : Res :=
  s33a7 rec n x0 (.s [94, 46, 59, 40, 41, 91, 93, 124]) h0

noncomputable def s33a12b (rec : FuncId → List DV → Hp → Res) (n : Nat) (kk12 : DV → DV → DV → Hp → Res) (x0 x3 x4 : DV) (h0 : Hp) : Res :=
    bnd (pLenS x3 h0) fun v11 h11 =>
    bnd (pInt .lss x4 v11 h11) fun v12 h12 =>
    ifD v12 (
      bnd (pIndexS x3 x4 h12) fun v13 h13 =>
      bnd (pInt .eql v13 x0 h13) fun v14 h14 =>
      ifD v14 (
        some ((.i .i64 (Int.ofNat 3)), h14)) (
        bnd (pInt .add x4 (.i .i64 (Int.ofNat 1)) h14) fun v15 h15 =>
        kk12 x0 x3 v15 h15)) (
      s33a6 rec n x0 h12)

noncomputable def s33a12l (rec : FuncId → List DV → Hp → Res) (n : Nat) (m : Nat) : DV → DV → DV → Hp → Res :=
  Nat.rec (motive := fun _ => DV → DV → DV → Hp → Res) (fun _ _ _ _ => none) (fun _ ih => s33a12b rec n ih) m

noncomputable def s33a12 (rec : FuncId → List DV → Hp → Res) (n : Nat) : DV → DV → DV → Hp → Res := s33a12l rec n n

noncomputable def s33a11 (rec : FuncId → List DV → Hp → Res) (n : Nat) (x0 x3 x4 : DV) (h0 : Hp) : Res :=
  s33a12 rec n x0 x3 x4 h0

noncomputable def s33a5 (rec : FuncId → List DV → Hp → Res) (n : Nat) (x0 x3 : DV) (h0 : Hp) : Res :=
  s33a11 rec n x0 x3 (.i .i64 (Int.ofNat 0)) h0

noncomputable def s33a4 (rec : FuncId → List DV → Hp → Res) (n : Nat) (x0 : DV) (h0 : Hp) : Res :=
  s33a5 rec n x0 (.s [43, 45, 42, 47, 60, 62, 61, 126, 44, 64, 38, 37]) h0

noncomputable def s33a3 (rec : FuncId → List DV → Hp → Res) (n : Nat) (x0 : DV) (h0 : Hp) : Res :=
  bnd (pInt .eql x0 (.i .u8 (Int.ofNat 9)) h0) fun v21 h21 =>
  bnd (gD v21 false (some (x0, h21)) h21) fun v22 h22 =>
  bnd (gD v21 false (pInt .eql v22 (.i .u8 (Int.ofNat 10)) h22) h22) fun v23 h23 =>
  bnd (pPick v21 (.b true) v23 h23) fun v24 h24 =>
  bnd (gD v24 false (some (x0, h24)) h24) fun v25 h25 =>
  bnd (gD v24 false (pInt .eql v25 (.i .u8 (Int.ofNat 13)) h25) h25) fun v26 h26 =>
  bnd (pPick v24 (.b true) v26 h26) fun v27 h27 =>
  bnd (gD v27 false (some (x0, h27)) h27) fun v28 h28 =>
  bnd (gD v27 false (pInt .eql v28 (.i .u8 (Int.ofNat 32)) h28) h28) fun v29 h29 =>
  bnd (pPick v27 (.b true) v29 h29) fun v30 h30 =>
  ifD v30 (
    some ((.i .i64 (Int.ofNat 5)), h30)) (
    s33a4 rec n x0 h30)

noncomputable def s33a2 (rec : FuncId → List DV → Hp → Res) (n : Nat) (x0 : DV) (h0 : Hp) : Res :=
  bnd (pInt .geq x0 (.i .u8 (Int.ofNat 48)) h0) fun v41 h41 =>
  bnd (gD v41 true (some (x0, h41)) h41) fun v42 h42 =>
  bnd (gD v41 true (pInt .leq v42 (.i .u8 (Int.ofNat 57)) h42) h42) fun v43 h43 =>
  bnd (pPick v41 v43 (.b false) h43) fun v44 h44 =>
  ifD v44 (
    some ((.i .i64 (Int.ofNat 2)), h44)) (
    s33a3 rec n x0 h44)

noncomputable def s33a1 (rec : FuncId → List DV → Hp → Res) (n : Nat) (x0 : DV) (h0 : Hp) : Res :=
  bnd (pInt .geq x0 (.i .u8 (Int.ofNat 97)) h0) fun v49 h49 =>
  bnd (gD v49 true (some (x0, h49)) h49) fun v50 h50 =>
  bnd (gD v49 true (pInt .leq v50 (.i .u8 (Int.ofNat 122)) h50) h50) fun v51 h51 =>
  bnd (pPick v49 v51 (.b false) h51) fun v52 h52 =>
  bnd (gD v52 false (some (x0, h52)) h52) fun v53 h53 =>
  bnd (gD v52 false (pInt .geq v53 (.i .u8 (Int.ofNat 65)) h53) h53) fun v54 h54 =>
  bnd (gD v52 false (some (v54, h54)) h54) fun v55 h55 =>
  bnd (gD v55 true (some (x0, h55)) h55) fun v56 h56 =>
  bnd (gD v55 true (pInt .leq v56 (.i .u8 (Int.ofNat 90)) h56) h56) fun v57 h57 =>
  bnd (gD v52 false (pPick v55 v57 (.b false) h57) h57) fun v58 h58 =>
  bnd (pPick v52 (.b true) v58 h58) fun v59 h59 =>
  ifD v59 (
    some ((.i .i64 (Int.ofNat 1)), h59)) (
    s33a2 rec n x0 h59)

/-- vivariumref06.kind -/
noncomputable def s33 (rec : FuncId → List DV → Hp → Res) (n : Nat) (x0 : DV) (h0 : Hp) : Res :=
  s33a1 rec n x0 h0

noncomputable def D33 (rec : FuncId → List DV → Hp → Res) (n : Nat) (c : Code) (X : Nat → K) (k : K) : K := codeD CF rec 63 n c X (retK CF Try.f33) k

theorem s33a8e (rec : FuncId → List DV → Hp → Res) (n : Nat) : D33 rec n (cR (cR (cR (cR (cR (cR (cR (cR (cf Try.f33))))))))) x0 (retK CF Try.f33) = (fun (env : Env) (h : Hp) => s33a8 rec n h) :=
  (by kernel_rfl)

theorem s33a10be (rec : FuncId → List DV → Hp → Res) (n : Nat) (kk10 : DV → DV → DV → Hp → Res) : D33 rec n (cL (cL (cR (cL (cR (cR (cR (cR (cR (cR (cR (cf Try.f33)))))))))))) (xs x0 2 (fun (env : Env) (h : Hp) => s33a8 rec n h)) (fun (env : Env) (h : Hp) => kk10 (env 0) (env 5) (env 6) h) = (fun (env : Env) (h : Hp) => s33a10b rec n kk10 (env 0) (env 5) (env 6) h) :=
  (by kernel_rfl)

theorem s33a10le (rec : FuncId → List DV → Hp → Res) (n : Nat) (m : Nat) : loopN (fun kk => D33 rec n (cL (cL (cR (cL (cR (cR (cR (cR (cR (cR (cR (cf Try.f33)))))))))))) (xs x0 2 (fun (env : Env) (h : Hp) => s33a8 rec n h)) kk) m = (fun (env : Env) (h : Hp) => s33a10l rec n m (env 0) (env 5) (env 6) h) := by
  induction m with
  | zero => exact (by kernel_rfl : loopN (fun kk => D33 rec n (cL (cL (cR (cL (cR (cR (cR (cR (cR (cR (cR (cf Try.f33)))))))))))) (xs x0 2 (fun (env : Env) (h : Hp) => s33a8 rec n h)) kk) 0 = (fun (env : Env) (h : Hp) => s33a10l rec n 0 (env 0) (env 5) (env 6) h))
  | succ m ih =>
    refine (by kernel_rfl : loopN (fun kk => D33 rec n (cL (cL (cR (cL (cR (cR (cR (cR (cR (cR (cR (cf Try.f33)))))))))))) (xs x0 2 (fun (env : Env) (h : Hp) => s33a8 rec n h)) kk) (m + 1) = D33 rec n (cL (cL (cR (cL (cR (cR (cR (cR (cR (cR (cR (cf Try.f33)))))))))))) (xs x0 2 (fun (env : Env) (h : Hp) => s33a8 rec n h)) (loopN (fun kk => D33 rec n (cL (cL (cR (cL (cR (cR (cR (cR (cR (cR (cR (cf Try.f33)))))))))))) (xs x0 2 (fun (env : Env) (h : Hp) => s33a8 rec n h)) kk) m)).trans ?_
    rw [ih]
    exact (s33a10be rec n (s33a10l rec n m)).trans (by kernel_rfl)

theorem s33a10e (rec : FuncId → List DV → Hp → Res) (n : Nat) : D33 rec n (cL (cR (cL (cR (cR (cR (cR (cR (cR (cR (cf Try.f33))))))))))) (xs x0 2 (fun (env : Env) (h : Hp) => s33a8 rec n h)) (fun (env : Env) (h : Hp) => s33a8 rec n h) = (fun (env : Env) (h : Hp) => s33a10 rec n (env 0) (env 5) (env 6) h) :=
  (by kernel_rfl : D33 rec n (cL (cR (cL (cR (cR (cR (cR (cR (cR (cR (cf Try.f33))))))))))) (xs x0 2 (fun (env : Env) (h : Hp) => s33a8 rec n h)) (fun (env : Env) (h : Hp) => s33a8 rec n h) = loopN (fun kk => D33 rec n (cL (cL (cR (cL (cR (cR (cR (cR (cR (cR (cR (cf Try.f33)))))))))))) (xs x0 2 (fun (env : Env) (h : Hp) => s33a8 rec n h)) kk) n).trans ((s33a10le rec n n).trans (by kernel_rfl))

theorem s33a9e (rec : FuncId → List DV → Hp → Res) (n : Nat) : D33 rec n (cR (cL (cR (cR (cR (cR (cR (cR (cR (cf Try.f33)))))))))) x0 (fun (env : Env) (h : Hp) => s33a8 rec n h) = (fun (env : Env) (h : Hp) => s33a9 rec n (env 0) (env 5) (env 6) h) :=
  (by kernel_rfl : D33 rec n (cR (cL (cR (cR (cR (cR (cR (cR (cR (cf Try.f33)))))))))) x0 (fun (env : Env) (h : Hp) => s33a8 rec n h) = D33 rec n (cL (cR (cL (cR (cR (cR (cR (cR (cR (cR (cf Try.f33))))))))))) (xs x0 2 (fun (env : Env) (h : Hp) => s33a8 rec n h)) (fun (env : Env) (h : Hp) => s33a8 rec n h)).trans
  ((s33a10e rec n).trans (by kernel_rfl))

theorem s33a7p1 (rec : FuncId → List DV → Hp → Res) (n : Nat) : D33 rec n (cR (cR (cR (cR (cR (cR (cR (cf Try.f33)))))))) x0 (retK CF Try.f33) = D33 rec n (cL (cR (cR (cR (cR (cR (cR (cR (cf Try.f33))))))))) x0 (fun (env : Env) (h : Hp) => s33a8 rec n h) :=
  congrArg (fun k => D33 rec n (cL (cR (cR (cR (cR (cR (cR (cR (cf Try.f33))))))))) x0 k) (s33a8e rec n)

theorem s33a7p2 (rec : FuncId → List DV → Hp → Res) (n : Nat) : D33 rec n (cL (cR (cR (cR (cR (cR (cR (cR (cf Try.f33))))))))) x0 (fun (env : Env) (h : Hp) => s33a8 rec n h) = D33 rec n (cL (cL (cR (cR (cR (cR (cR (cR (cR (cf Try.f33)))))))))) x0 (fun (env : Env) (h : Hp) => s33a9 rec n (env 0) (env 5) (env 6) h) :=
  congrArg (fun k => D33 rec n (cL (cL (cR (cR (cR (cR (cR (cR (cR (cf Try.f33)))))))))) x0 k) (s33a9e rec n)

theorem s33a7e (rec : FuncId → List DV → Hp → Res) (n : Nat) : D33 rec n (cR (cR (cR (cR (cR (cR (cR (cf Try.f33)))))))) x0 (retK CF Try.f33) = (fun (env : Env) (h : Hp) => s33a7 rec n (env 0) (env 5) h) :=
  (s33a7p1 rec n).trans
  ((s33a7p2 rec n).trans
  ((by kernel_rfl)))

theorem s33a6p3 (rec : FuncId → List DV → Hp → Res) (n : Nat) : D33 rec n (cR (cR (cR (cR (cR (cR (cf Try.f33))))))) x0 (retK CF Try.f33) = D33 rec n (cL (cR (cR (cR (cR (cR (cR (cf Try.f33)))))))) x0 (fun (env : Env) (h : Hp) => s33a7 rec n (env 0) (env 5) h) :=
  congrArg (fun k => D33 rec n (cL (cR (cR (cR (cR (cR (cR (cf Try.f33)))))))) x0 k) (s33a7e rec n)

theorem s33a6e (rec : FuncId → List DV → Hp → Res) (n : Nat) : D33 rec n (cR (cR (cR (cR (cR (cR (cf Try.f33))))))) x0 (retK CF Try.f33) = (fun (env : Env) (h : Hp) => s33a6 rec n (env 0) h) :=
  (s33a6p3 rec n).trans
  ((by kernel_rfl))

theorem s33a12be (rec : FuncId → List DV → Hp → Res) (n : Nat) (kk12 : DV → DV → DV → Hp → Res) : D33 rec n (cL (cL (cR (cL (cR (cR (cR (cR (cR (cf Try.f33)))))))))) (xs x0 0 (fun (env : Env) (h : Hp) => s33a6 rec n (env 0) h)) (fun (env : Env) (h : Hp) => kk12 (env 0) (env 3) (env 4) h) = (fun (env : Env) (h : Hp) => s33a12b rec n kk12 (env 0) (env 3) (env 4) h) :=
  (by kernel_rfl)

theorem s33a12le (rec : FuncId → List DV → Hp → Res) (n : Nat) (m : Nat) : loopN (fun kk => D33 rec n (cL (cL (cR (cL (cR (cR (cR (cR (cR (cf Try.f33)))))))))) (xs x0 0 (fun (env : Env) (h : Hp) => s33a6 rec n (env 0) h)) kk) m = (fun (env : Env) (h : Hp) => s33a12l rec n m (env 0) (env 3) (env 4) h) := by
  induction m with
  | zero => exact (by kernel_rfl : loopN (fun kk => D33 rec n (cL (cL (cR (cL (cR (cR (cR (cR (cR (cf Try.f33)))))))))) (xs x0 0 (fun (env : Env) (h : Hp) => s33a6 rec n (env 0) h)) kk) 0 = (fun (env : Env) (h : Hp) => s33a12l rec n 0 (env 0) (env 3) (env 4) h))
  | succ m ih =>
    refine (by kernel_rfl : loopN (fun kk => D33 rec n (cL (cL (cR (cL (cR (cR (cR (cR (cR (cf Try.f33)))))))))) (xs x0 0 (fun (env : Env) (h : Hp) => s33a6 rec n (env 0) h)) kk) (m + 1) = D33 rec n (cL (cL (cR (cL (cR (cR (cR (cR (cR (cf Try.f33)))))))))) (xs x0 0 (fun (env : Env) (h : Hp) => s33a6 rec n (env 0) h)) (loopN (fun kk => D33 rec n (cL (cL (cR (cL (cR (cR (cR (cR (cR (cf Try.f33)))))))))) (xs x0 0 (fun (env : Env) (h : Hp) => s33a6 rec n (env 0) h)) kk) m)).trans ?_
    rw [ih]
    exact (s33a12be rec n (s33a12l rec n m)).trans (by kernel_rfl)

theorem s33a12e (rec : FuncId → List DV → Hp → Res) (n : Nat) : D33 rec n (cL (cR (cL (cR (cR (cR (cR (cR (cf Try.f33))))))))) (xs x0 0 (fun (env : Env) (h : Hp) => s33a6 rec n (env 0) h)) (fun (env : Env) (h : Hp) => s33a6 rec n (env 0) h) = (fun (env : Env) (h : Hp) => s33a12 rec n (env 0) (env 3) (env 4) h) :=
  (by kernel_rfl : D33 rec n (cL (cR (cL (cR (cR (cR (cR (cR (cf Try.f33))))))))) (xs x0 0 (fun (env : Env) (h : Hp) => s33a6 rec n (env 0) h)) (fun (env : Env) (h : Hp) => s33a6 rec n (env 0) h) = loopN (fun kk => D33 rec n (cL (cL (cR (cL (cR (cR (cR (cR (cR (cf Try.f33)))))))))) (xs x0 0 (fun (env : Env) (h : Hp) => s33a6 rec n (env 0) h)) kk) n).trans ((s33a12le rec n n).trans (by kernel_rfl))

theorem s33a11e (rec : FuncId → List DV → Hp → Res) (n : Nat) : D33 rec n (cR (cL (cR (cR (cR (cR (cR (cf Try.f33)))))))) x0 (fun (env : Env) (h : Hp) => s33a6 rec n (env 0) h) = (fun (env : Env) (h : Hp) => s33a11 rec n (env 0) (env 3) (env 4) h) :=
  (by kernel_rfl : D33 rec n (cR (cL (cR (cR (cR (cR (cR (cf Try.f33)))))))) x0 (fun (env : Env) (h : Hp) => s33a6 rec n (env 0) h) = D33 rec n (cL (cR (cL (cR (cR (cR (cR (cR (cf Try.f33))))))))) (xs x0 0 (fun (env : Env) (h : Hp) => s33a6 rec n (env 0) h)) (fun (env : Env) (h : Hp) => s33a6 rec n (env 0) h)).trans
  ((s33a12e rec n).trans (by kernel_rfl))

theorem s33a5p4 (rec : FuncId → List DV → Hp → Res) (n : Nat) : D33 rec n (cR (cR (cR (cR (cR (cf Try.f33)))))) x0 (retK CF Try.f33) = D33 rec n (cL (cR (cR (cR (cR (cR (cf Try.f33))))))) x0 (fun (env : Env) (h : Hp) => s33a6 rec n (env 0) h) :=
  congrArg (fun k => D33 rec n (cL (cR (cR (cR (cR (cR (cf Try.f33))))))) x0 k) (s33a6e rec n)

theorem s33a5p5 (rec : FuncId → List DV → Hp → Res) (n : Nat) : D33 rec n (cL (cR (cR (cR (cR (cR (cf Try.f33))))))) x0 (fun (env : Env) (h : Hp) => s33a6 rec n (env 0) h) = D33 rec n (cL (cL (cR (cR (cR (cR (cR (cf Try.f33)))))))) x0 (fun (env : Env) (h : Hp) => s33a11 rec n (env 0) (env 3) (env 4) h) :=
  congrArg (fun k => D33 rec n (cL (cL (cR (cR (cR (cR (cR (cf Try.f33)))))))) x0 k) (s33a11e rec n)

theorem s33a5e (rec : FuncId → List DV → Hp → Res) (n : Nat) : D33 rec n (cR (cR (cR (cR (cR (cf Try.f33)))))) x0 (retK CF Try.f33) = (fun (env : Env) (h : Hp) => s33a5 rec n (env 0) (env 3) h) :=
  (s33a5p4 rec n).trans
  ((s33a5p5 rec n).trans
  ((by kernel_rfl)))

theorem s33a4p6 (rec : FuncId → List DV → Hp → Res) (n : Nat) : D33 rec n (cR (cR (cR (cR (cf Try.f33))))) x0 (retK CF Try.f33) = D33 rec n (cL (cR (cR (cR (cR (cf Try.f33)))))) x0 (fun (env : Env) (h : Hp) => s33a5 rec n (env 0) (env 3) h) :=
  congrArg (fun k => D33 rec n (cL (cR (cR (cR (cR (cf Try.f33)))))) x0 k) (s33a5e rec n)

theorem s33a4e (rec : FuncId → List DV → Hp → Res) (n : Nat) : D33 rec n (cR (cR (cR (cR (cf Try.f33))))) x0 (retK CF Try.f33) = (fun (env : Env) (h : Hp) => s33a4 rec n (env 0) h) :=
  (s33a4p6 rec n).trans
  ((by kernel_rfl))

theorem s33a3p7 (rec : FuncId → List DV → Hp → Res) (n : Nat) : D33 rec n (cR (cR (cR (cf Try.f33)))) x0 (retK CF Try.f33) = D33 rec n (cL (cR (cR (cR (cf Try.f33))))) x0 (fun (env : Env) (h : Hp) => s33a4 rec n (env 0) h) :=
  congrArg (fun k => D33 rec n (cL (cR (cR (cR (cf Try.f33))))) x0 k) (s33a4e rec n)

theorem s33a3e (rec : FuncId → List DV → Hp → Res) (n : Nat) : D33 rec n (cR (cR (cR (cf Try.f33)))) x0 (retK CF Try.f33) = (fun (env : Env) (h : Hp) => s33a3 rec n (env 0) h) :=
  (s33a3p7 rec n).trans
  ((by kernel_rfl))

theorem s33a2p8 (rec : FuncId → List DV → Hp → Res) (n : Nat) : D33 rec n (cR (cR (cf Try.f33))) x0 (retK CF Try.f33) = D33 rec n (cL (cR (cR (cf Try.f33)))) x0 (fun (env : Env) (h : Hp) => s33a3 rec n (env 0) h) :=
  congrArg (fun k => D33 rec n (cL (cR (cR (cf Try.f33)))) x0 k) (s33a3e rec n)

theorem s33a2e (rec : FuncId → List DV → Hp → Res) (n : Nat) : D33 rec n (cR (cR (cf Try.f33))) x0 (retK CF Try.f33) = (fun (env : Env) (h : Hp) => s33a2 rec n (env 0) h) :=
  (s33a2p8 rec n).trans
  ((by kernel_rfl))

theorem s33a1p9 (rec : FuncId → List DV → Hp → Res) (n : Nat) : D33 rec n (cR (cf Try.f33)) x0 (retK CF Try.f33) = D33 rec n (cL (cR (cf Try.f33))) x0 (fun (env : Env) (h : Hp) => s33a2 rec n (env 0) h) :=
  congrArg (fun k => D33 rec n (cL (cR (cf Try.f33))) x0 k) (s33a2e rec n)

theorem s33a1e (rec : FuncId → List DV → Hp → Res) (n : Nat) : D33 rec n (cR (cf Try.f33)) x0 (retK CF Try.f33) = (fun (env : Env) (h : Hp) => s33a1 rec n (env 0) h) :=
  (s33a1p9 rec n).trans
  ((by kernel_rfl))

theorem s33p10 (rec : FuncId → List DV → Hp → Res) (n : Nat) : D33 rec n (cf Try.f33) x0 (retK CF Try.f33) = D33 rec n (cL (cf Try.f33)) x0 (fun (env : Env) (h : Hp) => s33a1 rec n (env 0) h) :=
  congrArg (fun k => D33 rec n (cL (cf Try.f33)) x0 k) (s33a1e rec n)

theorem s33m (rec : FuncId → List DV → Hp → Res) (n : Nat) : D33 rec n (cf Try.f33) x0 (retK CF Try.f33) = (fun (env : Env) (h : Hp) => s33 rec n (env 0) h) :=
  (s33p10 rec n).trans
  ((by kernel_rfl))

theorem s33ok (rec : FuncId → List DV → Hp → Res) (n : Nat) (args : List DV) (h : Hp) : bodyD CF rec n 33 args h = s33 rec n (args.getD 0 undefD) h :=
  (by kernel_rfl : bodyD CF rec n 33 args h = D33 rec n (cf Try.f33) x0 (retK CF Try.f33) (argsE args) h).trans ((congrFun (congrFun (s33m rec n) (argsE args)) h).trans (by kernel_rfl))

/-- vivariumref06.at -/
noncomputable def s34 (rec : FuncId → List DV → Hp → Res) (n : Nat) (x0 x1 : DV) (h0 : Hp) : Res :=
  bnd (pLenS x0 h0) fun v1 h1 =>
  bnd (pInt .geq x1 v1 h1) fun v2 h2 =>
  ifD v2 (
    some ((.i .i64 (Int.negSucc 0)), h2)) (
    bnd (pIndexS x0 x1 h2) fun v3 h3 =>
    bnd (rec 33 [v3] h3) fun v4 h4 =>
    some (v4, h4))

noncomputable def D34 (rec : FuncId → List DV → Hp → Res) (n : Nat) (c : Code) (X : Nat → K) (k : K) : K := codeD CF rec 13 n c X (retK CF Try.f34) k

theorem s34m (rec : FuncId → List DV → Hp → Res) (n : Nat) : D34 rec n (cf Try.f34) x0 (retK CF Try.f34) = (fun (env : Env) (h : Hp) => s34 rec n (env 0) (env 1) h) :=
  (by kernel_rfl)

theorem s34ok (rec : FuncId → List DV → Hp → Res) (n : Nat) (args : List DV) (h : Hp) : bodyD CF rec n 34 args h = s34 rec n (args.getD 0 undefD) (args.getD 1 undefD) h :=
  (by kernel_rfl : bodyD CF rec n 34 args h = D34 rec n (cf Try.f34) x0 (retK CF Try.f34) (argsE args) h).trans ((congrFun (congrFun (s34m rec n) (argsE args)) h).trans (by kernel_rfl))

noncomputable def s35a2 (rec : FuncId → List DV → Hp → Res) (n : Nat) (x1 : DV) (h0 : Hp) : Res :=
  some (x1, h0)

noncomputable def s35a3b (rec : FuncId → List DV → Hp → Res) (n : Nat) (kk3 : DV → DV → Hp → Res) (x0 x1 : DV) (h0 : Hp) : Res :=
    bnd (rec 34 [x0, x1] h0) fun v1 h1 =>
    bnd (pInt .eql v1 (.i .i64 (Int.ofNat 1)) h1) fun v2 h2 =>
    bnd (gD v2 false (some (x0, h2)) h2) fun v3 h3 =>
    bnd (gD v2 false (some (x1, h3)) h3) fun v4 h4 =>
    bnd (gD v2 false (rec 34 [v3, v4] h4) h4) fun v5 h5 =>
    bnd (gD v2 false (pInt .eql v5 (.i .i64 (Int.ofNat 2)) h5) h5) fun v6 h6 =>
    bnd (pPick v2 (.b true) v6 h6) fun v7 h7 =>
    ifD v7 (
      bnd (pInt .add x1 (.i .i64 (Int.ofNat 1)) h7) fun v8 h8 =>
      kk3 x0 v8 h8) (
      s35a2 rec n x1 h7)

noncomputable def s35a3l (rec : FuncId → List DV → Hp → Res) (n : Nat) (m : Nat) : DV → DV → Hp → Res :=
  Nat.rec (motive := fun _ => DV → DV → Hp → Res) (fun _ _ _ => none) (fun _ ih => s35a3b rec n ih) m

noncomputable def s35a3 (rec : FuncId → List DV → Hp → Res) (n : Nat) : DV → DV → Hp → Res := s35a3l rec n n

noncomputable def s35a1 (rec : FuncId → List DV → Hp → Res) (n : Nat) (x0 x1 : DV) (h0 : Hp) : Res :=
  s35a3 rec n x0 x1 h0

/-- vivariumref06.nameEnd -/
noncomputable def s35 (rec : FuncId → List DV → Hp → Res) (n : Nat) (x0 x1 : DV) (h0 : Hp) : Res :=
  s35a1 rec n x0 x1 h0

noncomputable def D35 (rec : FuncId → List DV → Hp → Res) (n : Nat) (c : Code) (X : Nat → K) (k : K) : K := codeD CF rec 18 n c X (retK CF Try.f35) k

theorem s35a2e (rec : FuncId → List DV → Hp → Res) (n : Nat) : D35 rec n (cR (cR (cf Try.f35))) x0 (retK CF Try.f35) = (fun (env : Env) (h : Hp) => s35a2 rec n (env 1) h) :=
  (by kernel_rfl)

theorem s35a3be (rec : FuncId → List DV → Hp → Res) (n : Nat) (kk3 : DV → DV → Hp → Res) : D35 rec n (cL (cL (cL (cR (cf Try.f35))))) (xs x0 0 (fun (env : Env) (h : Hp) => s35a2 rec n (env 1) h)) (fun (env : Env) (h : Hp) => kk3 (env 0) (env 1) h) = (fun (env : Env) (h : Hp) => s35a3b rec n kk3 (env 0) (env 1) h) :=
  (by kernel_rfl)

theorem s35a3le (rec : FuncId → List DV → Hp → Res) (n : Nat) (m : Nat) : loopN (fun kk => D35 rec n (cL (cL (cL (cR (cf Try.f35))))) (xs x0 0 (fun (env : Env) (h : Hp) => s35a2 rec n (env 1) h)) kk) m = (fun (env : Env) (h : Hp) => s35a3l rec n m (env 0) (env 1) h) := by
  induction m with
  | zero => exact (by kernel_rfl : loopN (fun kk => D35 rec n (cL (cL (cL (cR (cf Try.f35))))) (xs x0 0 (fun (env : Env) (h : Hp) => s35a2 rec n (env 1) h)) kk) 0 = (fun (env : Env) (h : Hp) => s35a3l rec n 0 (env 0) (env 1) h))
  | succ m ih =>
    refine (by kernel_rfl : loopN (fun kk => D35 rec n (cL (cL (cL (cR (cf Try.f35))))) (xs x0 0 (fun (env : Env) (h : Hp) => s35a2 rec n (env 1) h)) kk) (m + 1) = D35 rec n (cL (cL (cL (cR (cf Try.f35))))) (xs x0 0 (fun (env : Env) (h : Hp) => s35a2 rec n (env 1) h)) (loopN (fun kk => D35 rec n (cL (cL (cL (cR (cf Try.f35))))) (xs x0 0 (fun (env : Env) (h : Hp) => s35a2 rec n (env 1) h)) kk) m)).trans ?_
    rw [ih]
    exact (s35a3be rec n (s35a3l rec n m)).trans (by kernel_rfl)

theorem s35a3e (rec : FuncId → List DV → Hp → Res) (n : Nat) : D35 rec n (cL (cL (cR (cf Try.f35)))) (xs x0 0 (fun (env : Env) (h : Hp) => s35a2 rec n (env 1) h)) (fun (env : Env) (h : Hp) => s35a2 rec n (env 1) h) = (fun (env : Env) (h : Hp) => s35a3 rec n (env 0) (env 1) h) :=
  (by kernel_rfl : D35 rec n (cL (cL (cR (cf Try.f35)))) (xs x0 0 (fun (env : Env) (h : Hp) => s35a2 rec n (env 1) h)) (fun (env : Env) (h : Hp) => s35a2 rec n (env 1) h) = loopN (fun kk => D35 rec n (cL (cL (cL (cR (cf Try.f35))))) (xs x0 0 (fun (env : Env) (h : Hp) => s35a2 rec n (env 1) h)) kk) n).trans ((s35a3le rec n n).trans (by kernel_rfl))

theorem s35a1p1 (rec : FuncId → List DV → Hp → Res) (n : Nat) : D35 rec n (cR (cf Try.f35)) x0 (retK CF Try.f35) = D35 rec n (cL (cR (cf Try.f35))) x0 (fun (env : Env) (h : Hp) => s35a2 rec n (env 1) h) :=
  congrArg (fun k => D35 rec n (cL (cR (cf Try.f35))) x0 k) (s35a2e rec n)

theorem s35a1e (rec : FuncId → List DV → Hp → Res) (n : Nat) : D35 rec n (cR (cf Try.f35)) x0 (retK CF Try.f35) = (fun (env : Env) (h : Hp) => s35a1 rec n (env 0) (env 1) h) :=
  (s35a1p1 rec n).trans
  ((by kernel_rfl : D35 rec n (cL (cR (cf Try.f35))) x0 (fun (env : Env) (h : Hp) => s35a2 rec n (env 1) h) = D35 rec n (cL (cL (cR (cf Try.f35)))) (xs x0 0 (fun (env : Env) (h : Hp) => s35a2 rec n (env 1) h)) (fun (env : Env) (h : Hp) => s35a2 rec n (env 1) h)).trans
  ((s35a3e rec n).trans (by kernel_rfl)))

theorem s35p2 (rec : FuncId → List DV → Hp → Res) (n : Nat) : D35 rec n (cf Try.f35) x0 (retK CF Try.f35) = D35 rec n (cL (cf Try.f35)) x0 (fun (env : Env) (h : Hp) => s35a1 rec n (env 0) (env 1) h) :=
  congrArg (fun k => D35 rec n (cL (cf Try.f35)) x0 k) (s35a1e rec n)

theorem s35m (rec : FuncId → List DV → Hp → Res) (n : Nat) : D35 rec n (cf Try.f35) x0 (retK CF Try.f35) = (fun (env : Env) (h : Hp) => s35 rec n (env 0) (env 1) h) :=
  (s35p2 rec n).trans
  ((by kernel_rfl))

theorem s35ok (rec : FuncId → List DV → Hp → Res) (n : Nat) (args : List DV) (h : Hp) : bodyD CF rec n 35 args h = s35 rec n (args.getD 0 undefD) (args.getD 1 undefD) h :=
  (by kernel_rfl : bodyD CF rec n 35 args h = D35 rec n (cf Try.f35) x0 (retK CF Try.f35) (argsE args) h).trans ((congrFun (congrFun (s35m rec n) (argsE args)) h).trans (by kernel_rfl))

/-- vivariumref06.colon -/
noncomputable def s36 (rec : FuncId → List DV → Hp → Res) (n : Nat) (x0 x1 : DV) (h0 : Hp) : Res :=
  bnd (pLenS x0 h0) fun v1 h1 =>
  bnd (pInt .lss x1 v1 h1) fun v2 h2 =>
  bnd (gD v2 true (some (x0, h2)) h2) fun v3 h3 =>
  bnd (gD v2 true (some (x1, h3)) h3) fun v4 h4 =>
  bnd (gD v2 true (pIndexS v3 v4 h4) h4) fun v5 h5 =>
  bnd (gD v2 true (pInt .eql v5 (.i .u8 (Int.ofNat 58)) h5) h5) fun v6 h6 =>
  bnd (pPick v2 v6 (.b false) h6) fun v7 h7 =>
  bnd (gD v7 true (some (x1, h7)) h7) fun v8 h8 =>
  bnd (gD v7 true (pInt .add v8 (.i .i64 (Int.ofNat 1)) h8) h8) fun v9 h9 =>
  bnd (gD v7 true (some (x0, h9)) h9) fun v10 h10 =>
  bnd (gD v7 true (pLenS v10 h10) h10) fun v11 h11 =>
  bnd (gD v7 true (pInt .lss v9 v11 h11) h11) fun v12 h12 =>
  bnd (gD v7 true (some (v12, h12)) h12) fun v13 h13 =>
  bnd (gD v13 true (some (x0, h13)) h13) fun v14 h14 =>
  bnd (gD v13 true (some (x1, h14)) h14) fun v15 h15 =>
  bnd (gD v13 true (pInt .add v15 (.i .i64 (Int.ofNat 1)) h15) h15) fun v16 h16 =>
  bnd (gD v13 true (pIndexS v14 v16 h16) h16) fun v17 h17 =>
  bnd (gD v13 true (pInt .eql v17 (.i .u8 (Int.ofNat 61)) h17) h17) fun v18 h18 =>
  bnd (gD v7 true (pPick v13 v18 (.b false) h18) h18) fun v19 h19 =>
  bnd (gD v7 true (pUn .not v19 h19) h19) fun v20 h20 =>
  bnd (pPick v7 v20 (.b false) h20) fun v21 h21 =>
  some (v21, h21)

noncomputable def D36 (rec : FuncId → List DV → Hp → Res) (n : Nat) (c : Code) (X : Nat → K) (k : K) : K := codeD CF rec 30 n c X (retK CF Try.f36) k

theorem s36m (rec : FuncId → List DV → Hp → Res) (n : Nat) : D36 rec n (cf Try.f36) x0 (retK CF Try.f36) = (fun (env : Env) (h : Hp) => s36 rec n (env 0) (env 1) h) :=
  (by kernel_rfl)

theorem s36ok (rec : FuncId → List DV → Hp → Res) (n : Nat) (args : List DV) (h : Hp) : bodyD CF rec n 36 args h = s36 rec n (args.getD 0 undefD) (args.getD 1 undefD) h :=
  (by kernel_rfl : bodyD CF rec n 36 args h = D36 rec n (cf Try.f36) x0 (retK CF Try.f36) (argsE args) h).trans ((congrFun (congrFun (s36m rec n) (argsE args)) h).trans (by kernel_rfl))

noncomputable def s37a3 (rec : FuncId → List DV → Hp → Res) (n : Nat) (x3 x4 : DV) (h0 : Hp) : Res :=
  bnd (pLoadA 4 x3 h0) fun v1 h1 =>
  bnd (pStore 4 x4 v1 h1) fun _ h2 =>
  bnd (pLoadA 4 x4 h2) fun v3 _ =>
  some (.t [v3, (.i .i64 (Int.ofNat 0)), (.i .i64 (Int.ofNat 11))], h2)

noncomputable def s37a4b (rec : FuncId → List DV → Hp → Res) (n : Nat) (kk4 : DV → DV → DV → DV → Hp → Res) (x0 x3 x4 x7 : DV) (h0 : Hp) : Res :=
    bnd (pLenS x0 h0) fun v7 h7 =>
    bnd (pInt .lss x7 v7 h7) fun v8 h8 =>
    ifD v8 (
      bnd (pIndexS x0 x7 h8) fun v9 h9 =>
      bnd (pInt .neq v9 (.i .u8 (Int.ofNat 39)) h9) fun v10 h10 =>
      ifD v10 (
        bnd (pField 1 x3 h10) fun v11 h11 =>
        bnd (pLoad1 v11 h11) fun v12 h12 =>
        bnd (pInt .add x7 (.i .i64 (Int.ofNat 1)) h12) fun v13 h13 =>
        bnd (pSliceS x0 (some x7) (some v13) h13) fun v14 h14 =>
        bnd (pStr .add v12 v14 h14) fun v15 h15 =>
        bnd (pField 1 x3 h15) fun v16 h16 =>
        bnd (pStore 1 v16 v15 h16) fun v17 h17 =>
        bnd (pInt .add x7 (.i .i64 (Int.ofNat 1)) h17) fun v18 h18 =>
        kk4 x0 x3 x4 v18 h18) (
        bnd (pInt .add x7 (.i .i64 (Int.ofNat 1)) h10) fun v19 h19 =>
        bnd (pLenS x0 h19) fun v20 h20 =>
        bnd (pInt .lss v19 v20 h20) fun v21 h21 =>
        bnd (gD v21 true (some (x0, h21)) h21) fun v22 h22 =>
        bnd (gD v21 true (some (x7, h22)) h22) fun v23 h23 =>
        bnd (gD v21 true (pInt .add v23 (.i .i64 (Int.ofNat 1)) h23) h23) fun v24 h24 =>
        bnd (gD v21 true (pIndexS v22 v24 h24) h24) fun v25 h25 =>
        bnd (gD v21 true (pInt .eql v25 (.i .u8 (Int.ofNat 39)) h25) h25) fun v26 h26 =>
        bnd (pPick v21 v26 (.b false) h26) fun v27 h27 =>
        ifD v27 (
          bnd (pField 1 x3 h27) fun v28 h28 =>
          bnd (pLoad1 v28 h28) fun v29 h29 =>
          bnd (pStr .add v29 (.s [39]) h29) fun v30 h30 =>
          bnd (pField 1 x3 h30) fun v31 h31 =>
          bnd (pStore 1 v31 v30 h31) fun _ h32 =>
          bnd (pInt .add x7 (.i .i64 (Int.ofNat 2)) h32) fun v33 h33 =>
          kk4 x0 x3 x4 v33 h33) (
          bnd (pLoadA 4 x3 h27) fun v34 h34 =>
          bnd (pInt .add x7 (.i .i64 (Int.ofNat 1)) h34) fun v35 h35 =>
          bnd (pStore 4 x4 v34 h35) fun _ h36 =>
          bnd (pLoadA 4 x4 h36) fun v37 _ =>
          some (.t [v37, v35, (.i .i64 (Int.ofNat 0))], h36)))) (
      s37a3 rec n x3 x4 h8)

noncomputable def s37a4l (rec : FuncId → List DV → Hp → Res) (n : Nat) (m : Nat) : DV → DV → DV → DV → Hp → Res :=
  Nat.rec (motive := fun _ => DV → DV → DV → DV → Hp → Res) (fun _ _ _ _ _ => none) (fun _ ih => s37a4b rec n ih) m

noncomputable def s37a4 (rec : FuncId → List DV → Hp → Res) (n : Nat) : DV → DV → DV → DV → Hp → Res := s37a4l rec n n

noncomputable def s37a2 (rec : FuncId → List DV → Hp → Res) (n : Nat) (x0 x3 x4 x7 : DV) (h0 : Hp) : Res :=
  s37a4 rec n x0 x3 x4 x7 h0

noncomputable def s37a1 (rec : FuncId → List DV → Hp → Res) (n : Nat) (x0 x3 x4 : DV) (h0 : Hp) : Res :=
  bnd (pField 3 x3 h0) fun v69 h69 =>
  bnd (pLoad1 v69 h69) fun v70 h70 =>
  bnd (pInt .add v70 (.i .i64 (Int.ofNat 1)) h70) fun v71 h71 =>
  s37a2 rec n x0 x3 x4 v71 h71

/-- vivariumref06.text -/
noncomputable def s37 (rec : FuncId → List DV → Hp → Res) (n : Nat) (x0 x1 : DV) (h0 : Hp) : Res :=
  bnd (pBox x1 h0) fun v75 h75 =>
  bnd (pNew [(.i .i64 (Int.ofNat 0)), (.s []), (.i .i64 (Int.ofNat 0)), (.i .i64 (Int.ofNat 0))] h75) fun v76 h76 =>
  s37a1 rec n x0 v75 v76 h76

noncomputable def D37 (rec : FuncId → List DV → Hp → Res) (n : Nat) (c : Code) (X : Nat → K) (k : K) : K := codeD CF rec 52 n c X (retK CF Try.f37) k

theorem s37a3e (rec : FuncId → List DV → Hp → Res) (n : Nat) : D37 rec n (cR (cR (cR (cf Try.f37)))) x0 (retK CF Try.f37) = (fun (env : Env) (h : Hp) => s37a3 rec n (env 3) (env 4) h) :=
  (by kernel_rfl)

theorem s37a4be (rec : FuncId → List DV → Hp → Res) (n : Nat) (kk4 : DV → DV → DV → DV → Hp → Res) : D37 rec n (cL (cL (cL (cR (cR (cf Try.f37)))))) (xs x0 0 (fun (env : Env) (h : Hp) => s37a3 rec n (env 3) (env 4) h)) (fun (env : Env) (h : Hp) => kk4 (env 0) (env 3) (env 4) (env 7) h) = (fun (env : Env) (h : Hp) => s37a4b rec n kk4 (env 0) (env 3) (env 4) (env 7) h) :=
  (by kernel_rfl)

theorem s37a4le (rec : FuncId → List DV → Hp → Res) (n : Nat) (m : Nat) : loopN (fun kk => D37 rec n (cL (cL (cL (cR (cR (cf Try.f37)))))) (xs x0 0 (fun (env : Env) (h : Hp) => s37a3 rec n (env 3) (env 4) h)) kk) m = (fun (env : Env) (h : Hp) => s37a4l rec n m (env 0) (env 3) (env 4) (env 7) h) := by
  induction m with
  | zero => exact (by kernel_rfl : loopN (fun kk => D37 rec n (cL (cL (cL (cR (cR (cf Try.f37)))))) (xs x0 0 (fun (env : Env) (h : Hp) => s37a3 rec n (env 3) (env 4) h)) kk) 0 = (fun (env : Env) (h : Hp) => s37a4l rec n 0 (env 0) (env 3) (env 4) (env 7) h))
  | succ m ih =>
    refine (by kernel_rfl : loopN (fun kk => D37 rec n (cL (cL (cL (cR (cR (cf Try.f37)))))) (xs x0 0 (fun (env : Env) (h : Hp) => s37a3 rec n (env 3) (env 4) h)) kk) (m + 1) = D37 rec n (cL (cL (cL (cR (cR (cf Try.f37)))))) (xs x0 0 (fun (env : Env) (h : Hp) => s37a3 rec n (env 3) (env 4) h)) (loopN (fun kk => D37 rec n (cL (cL (cL (cR (cR (cf Try.f37)))))) (xs x0 0 (fun (env : Env) (h : Hp) => s37a3 rec n (env 3) (env 4) h)) kk) m)).trans ?_
    rw [ih]
    exact (s37a4be rec n (s37a4l rec n m)).trans (by kernel_rfl)

theorem s37a4e (rec : FuncId → List DV → Hp → Res) (n : Nat) : D37 rec n (cL (cL (cR (cR (cf Try.f37))))) (xs x0 0 (fun (env : Env) (h : Hp) => s37a3 rec n (env 3) (env 4) h)) (fun (env : Env) (h : Hp) => s37a3 rec n (env 3) (env 4) h) = (fun (env : Env) (h : Hp) => s37a4 rec n (env 0) (env 3) (env 4) (env 7) h) :=
  (by kernel_rfl : D37 rec n (cL (cL (cR (cR (cf Try.f37))))) (xs x0 0 (fun (env : Env) (h : Hp) => s37a3 rec n (env 3) (env 4) h)) (fun (env : Env) (h : Hp) => s37a3 rec n (env 3) (env 4) h) = loopN (fun kk => D37 rec n (cL (cL (cL (cR (cR (cf Try.f37)))))) (xs x0 0 (fun (env : Env) (h : Hp) => s37a3 rec n (env 3) (env 4) h)) kk) n).trans ((s37a4le rec n n).trans (by kernel_rfl))

theorem s37a2p1 (rec : FuncId → List DV → Hp → Res) (n : Nat) : D37 rec n (cR (cR (cf Try.f37))) x0 (retK CF Try.f37) = D37 rec n (cL (cR (cR (cf Try.f37)))) x0 (fun (env : Env) (h : Hp) => s37a3 rec n (env 3) (env 4) h) :=
  congrArg (fun k => D37 rec n (cL (cR (cR (cf Try.f37)))) x0 k) (s37a3e rec n)

theorem s37a2e (rec : FuncId → List DV → Hp → Res) (n : Nat) : D37 rec n (cR (cR (cf Try.f37))) x0 (retK CF Try.f37) = (fun (env : Env) (h : Hp) => s37a2 rec n (env 0) (env 3) (env 4) (env 7) h) :=
  (s37a2p1 rec n).trans
  ((by kernel_rfl : D37 rec n (cL (cR (cR (cf Try.f37)))) x0 (fun (env : Env) (h : Hp) => s37a3 rec n (env 3) (env 4) h) = D37 rec n (cL (cL (cR (cR (cf Try.f37))))) (xs x0 0 (fun (env : Env) (h : Hp) => s37a3 rec n (env 3) (env 4) h)) (fun (env : Env) (h : Hp) => s37a3 rec n (env 3) (env 4) h)).trans
  ((s37a4e rec n).trans (by kernel_rfl)))

theorem s37a1p2 (rec : FuncId → List DV → Hp → Res) (n : Nat) : D37 rec n (cR (cf Try.f37)) x0 (retK CF Try.f37) = D37 rec n (cL (cR (cf Try.f37))) x0 (fun (env : Env) (h : Hp) => s37a2 rec n (env 0) (env 3) (env 4) (env 7) h) :=
  congrArg (fun k => D37 rec n (cL (cR (cf Try.f37))) x0 k) (s37a2e rec n)

theorem s37a1e (rec : FuncId → List DV → Hp → Res) (n : Nat) : D37 rec n (cR (cf Try.f37)) x0 (retK CF Try.f37) = (fun (env : Env) (h : Hp) => s37a1 rec n (env 0) (env 3) (env 4) h) :=
  (s37a1p2 rec n).trans
  ((by kernel_rfl))

theorem s37p3 (rec : FuncId → List DV → Hp → Res) (n : Nat) : D37 rec n (cf Try.f37) x0 (retK CF Try.f37) = D37 rec n (cL (cf Try.f37)) x0 (fun (env : Env) (h : Hp) => s37a1 rec n (env 0) (env 3) (env 4) h) :=
  congrArg (fun k => D37 rec n (cL (cf Try.f37)) x0 k) (s37a1e rec n)

theorem s37q4 (rec : FuncId → List DV → Hp → Res) (n : Nat) (q0 : DV → DV → DV → Hp → Res) : D37 rec n (cL (cf Try.f37)) x0 (fun (env : Env) (h : Hp) => q0 (env 0) (env 3) (env 4) h) = fun (env : Env) (h : Hp) =>
    bnd (pBox (env 1) h) fun v79 h79 =>
    bnd (pNew [(.i .i64 (Int.ofNat 0)), (.s []), (.i .i64 (Int.ofNat 0)), (.i .i64 (Int.ofNat 0))] h79) fun v80 h80 =>
    q0 (env 0) v79 v80 h80 := by kernel_rfl

theorem s37q4u (rec : FuncId → List DV → Hp → Res) (n : Nat) : (fun (env : Env) (h : Hp) =>
    bnd (pBox (env 1) h) fun v81 h81 =>
    bnd (pNew [(.i .i64 (Int.ofNat 0)), (.s []), (.i .i64 (Int.ofNat 0)), (.i .i64 (Int.ofNat 0))] h81) fun v82 h82 =>
    s37a1 rec n (env 0) v81 v82 h82) = (fun (env : Env) (h : Hp) => s37 rec n (env 0) (env 1) h) := by kernel_rfl

theorem s37m (rec : FuncId → List DV → Hp → Res) (n : Nat) : D37 rec n (cf Try.f37) x0 (retK CF Try.f37) = (fun (env : Env) (h : Hp) => s37 rec n (env 0) (env 1) h) :=
  (s37p3 rec n).trans
  ((s37q4 rec n (s37a1 rec n)).trans (s37q4u rec n))

theorem s37ok (rec : FuncId → List DV → Hp → Res) (n : Nat) (args : List DV) (h : Hp) : bodyD CF rec n 37 args h = s37 rec n (args.getD 0 undefD) (args.getD 1 undefD) h :=
  (by kernel_rfl : bodyD CF rec n 37 args h = D37 rec n (cf Try.f37) x0 (retK CF Try.f37) (argsE args) h).trans ((congrFun (congrFun (s37m rec n) (argsE args)) h).trans (by kernel_rfl))

end Go.Dd
