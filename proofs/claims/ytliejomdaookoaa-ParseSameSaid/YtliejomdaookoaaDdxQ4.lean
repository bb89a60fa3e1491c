/- Dd, part Q4 (printed by gen.py): functions of the seat's program as Lean functions, linked to Dd. -/
import Derived.Test.YtliejomdaookoaaDdxQh
set_option linter.unusedVariables false
set_option maxRecDepth 100000
namespace Go.Dd
open Go.Proofs

noncomputable def s56a3 (rec : FuncId → List DV → Hp → Res) (n : Nat) (x7 : DV) (h0 : Hp) : Res :=
  bnd (pField 1 x7 h0) fun v1 h1 =>
  bnd (pLoad1 v1 h1) fun v2 h2 =>
  some (v2, h2)

noncomputable def s56a2 (rec : FuncId → List DV → Hp → Res) (n : Nat) (x0 x2 x7 : DV) (h0 : Hp) : Res :=
  bnd (pLen x2 h0) fun v5 h5 =>
  bnd (pInt .eql v5 (.i .i64 (Int.ofNat 4)) h5) fun v6 h6 =>
  ifD v6 (
    bnd (pLoadA 4 x7 h6) fun v7 h7 =>
    bnd (rec 54 [x0, v7, (.i .i64 (Int.ofNat 18))] h7) fun v8 h8 =>
    s56a3 rec n x7 h8) (
    s56a3 rec n x7 h6)

noncomputable def s56a1 (rec : FuncId → List DV → Hp → Res) (n : Nat) (x0 x1 x2 : DV) (h0 : Hp) : Res :=
  bnd (rec 32 [x0, x1, (.s [])] h0) fun v13 h13 =>
  bnd (pNew [(.i .i64 (Int.ofNat 0)), (.s []), (.i .i64 (Int.ofNat 0)), (.i .i64 (Int.ofNat 0))] h13) fun v14 h14 =>
  bnd (pStore 4 v14 v13 h14) fun _ h15 =>
  s56a2 rec n x0 x2 v14 h15

/-- parse.parser).name -/
noncomputable def s56 (rec : FuncId → List DV → Hp → Res) (n : Nat) (x0 x1 x2 : DV) (h0 : Hp) : Res :=
  s56a1 rec n x0 x1 x2 h0

noncomputable def D56 (rec : FuncId → List DV → Hp → Res) (n : Nat) (c : Code) (X : Nat → K) (k : K) : K := codeD CF rec 19 n c X (retK CF Try.f56) k

theorem s56a3e (rec : FuncId → List DV → Hp → Res) (n : Nat) : D56 rec n (cR (cR (cR (cf Try.f56)))) x0 (retK CF Try.f56) = (fun (env : Env) (h : Hp) => s56a3 rec n (env 7) h) :=
  (by kernel_rfl)

theorem s56a2p1 (rec : FuncId → List DV → Hp → Res) (n : Nat) : D56 rec n (cR (cR (cf Try.f56))) x0 (retK CF Try.f56) = D56 rec n (cL (cR (cR (cf Try.f56)))) x0 (fun (env : Env) (h : Hp) => s56a3 rec n (env 7) h) :=
  congrArg (fun k => D56 rec n (cL (cR (cR (cf Try.f56)))) x0 k) (s56a3e rec n)

theorem s56a2e (rec : FuncId → List DV → Hp → Res) (n : Nat) : D56 rec n (cR (cR (cf Try.f56))) x0 (retK CF Try.f56) = (fun (env : Env) (h : Hp) => s56a2 rec n (env 0) (env 2) (env 7) h) :=
  (s56a2p1 rec n).trans
  ((by kernel_rfl))

theorem s56a1p2 (rec : FuncId → List DV → Hp → Res) (n : Nat) : D56 rec n (cR (cf Try.f56)) x0 (retK CF Try.f56) = D56 rec n (cL (cR (cf Try.f56))) x0 (fun (env : Env) (h : Hp) => s56a2 rec n (env 0) (env 2) (env 7) h) :=
  congrArg (fun k => D56 rec n (cL (cR (cf Try.f56))) x0 k) (s56a2e rec n)

theorem s56a1q3 (rec : FuncId → List DV → Hp → Res) (n : Nat) (q0 : DV → DV → DV → Hp → Res) : D56 rec n (cL (cR (cf Try.f56))) x0 (fun (env : Env) (h : Hp) => q0 (env 0) (env 2) (env 7) h) = fun (env : Env) (h : Hp) =>
    bnd (rec 32 [(env 0), (env 1), (.s [])] h) fun v19 h19 =>
    bnd (pNew [(.i .i64 (Int.ofNat 0)), (.s []), (.i .i64 (Int.ofNat 0)), (.i .i64 (Int.ofNat 0))] h19) fun v20 h20 =>
    bnd (pStore 4 v20 v19 h20) fun _ h21 =>
    q0 (env 0) (env 2) v20 h21 := by kernel_rfl

theorem s56a1q3u (rec : FuncId → List DV → Hp → Res) (n : Nat) : (fun (env : Env) (h : Hp) =>
    bnd (rec 32 [(env 0), (env 1), (.s [])] h) fun v22 h22 =>
    bnd (pNew [(.i .i64 (Int.ofNat 0)), (.s []), (.i .i64 (Int.ofNat 0)), (.i .i64 (Int.ofNat 0))] h22) fun v23 h23 =>
    bnd (pStore 4 v23 v22 h23) fun _ h24 =>
    s56a2 rec n (env 0) (env 2) v23 h24) = (fun (env : Env) (h : Hp) => s56a1 rec n (env 0) (env 1) (env 2) h) := by kernel_rfl

theorem s56a1e (rec : FuncId → List DV → Hp → Res) (n : Nat) : D56 rec n (cR (cf Try.f56)) x0 (retK CF Try.f56) = (fun (env : Env) (h : Hp) => s56a1 rec n (env 0) (env 1) (env 2) h) :=
  (s56a1p2 rec n).trans
  ((s56a1q3 rec n (s56a2 rec n)).trans (s56a1q3u rec n))

theorem s56p4 (rec : FuncId → List DV → Hp → Res) (n : Nat) : D56 rec n (cf Try.f56) x0 (retK CF Try.f56) = D56 rec n (cL (cf Try.f56)) x0 (fun (env : Env) (h : Hp) => s56a1 rec n (env 0) (env 1) (env 2) h) :=
  congrArg (fun k => D56 rec n (cL (cf Try.f56)) x0 k) (s56a1e rec n)

theorem s56m (rec : FuncId → List DV → Hp → Res) (n : Nat) : D56 rec n (cf Try.f56) x0 (retK CF Try.f56) = (fun (env : Env) (h : Hp) => s56 rec n (env 0) (env 1) (env 2) h) :=
  (s56p4 rec n).trans
  ((by kernel_rfl))

theorem s56ok (rec : FuncId → List DV → Hp → Res) (n : Nat) (args : List DV) (h : Hp) : bodyD CF rec n 56 args h = s56 rec n (args.getD 0 undefD) (args.getD 1 undefD) (args.getD 2 undefD) h :=
  (by kernel_rfl : bodyD CF rec n 56 args h = D56 rec n (cf Try.f56) x0 (retK CF Try.f56) (argsE args) h).trans ((congrFun (congrFun (s56m rec n) (argsE args)) h).trans (by kernel_rfl))

noncomputable def s57a7 (rec : FuncId → List DV → Hp → Res) (n : Nat) (x0 x2 x3 : DV) (h0 : Hp) : Res :=
  bnd (rec 41 [x0, (.i .i64 (Int.ofNat 10)), (.s [91])] h0) fun v1 h1 =>
  ifD v1 (
    bnd (rec 76 [x0] h1) fun v2 h2 =>
    bnd (pStore 6 x2 v2 h2) fun _ h3 =>
    bnd (pLoadA 6 x2 h3) fun v4 _ =>
    some (v4, h3)) (
    bnd (rec 46 [x0, (.i .i64 (Int.ofNat 0))] h1) fun v5 h5 =>
    bnd (rec 44 [x0, v5, (.i .i64 (Int.ofNat 13))] h5) fun v6 h6 =>
    bnd (pLoadA 6 x3 h6) fun v7 h7 =>
    bnd (pStore 6 x2 v7 h7) fun _ h8 =>
    bnd (pLoadA 6 x2 h8) fun v9 _ =>
    some (v9, h8))

noncomputable def s57a11 (rec : FuncId → List DV → Hp → Res) (n : Nat) (x2 x3 : DV) (h0 : Hp) : Res :=
  bnd (pLoadA 6 x3 h0) fun v19 h19 =>
  bnd (pStore 6 x2 v19 h19) fun _ h20 =>
  bnd (pLoadA 6 x2 h20) fun v21 _ =>
  some (v21, h20)

noncomputable def s57a10 (rec : FuncId → List DV → Hp → Res) (n : Nat) (x0 x2 x3 x4 : DV) (h0 : Hp) : Res :=
  ifD x4 (
    bnd (rec 45 [x0] h0) fun v25 h25 =>
    bnd (pStore 6 x3 v25 h25) fun _ h26 =>
    bnd (rec 28 [x0, (.i .i64 (Int.ofNat 10)), (.s [41])] h26) fun v27 h27 =>
    bnd (pNil x0 h27) fun v28 h28 =>
    bnd (pField 2 v28 h28) fun v29 h29 =>
    bnd (pLoad1 v29 h29) fun v30 h30 =>
    bnd (pInt .sub v30 (.i .i64 (Int.ofNat 1)) h30) fun v31 h31 =>
    bnd (pNil x0 h31) fun v32 h32 =>
    bnd (pField 2 v32 h32) fun v33 h33 =>
    bnd (pStore 1 v33 v31 h33) fun _ h34 =>
    s57a11 rec n x2 x3 h34) (
    s57a11 rec n x2 x3 h0)

noncomputable def s57a9 (rec : FuncId → List DV → Hp → Res) (n : Nat) (x0 x2 x3 : DV) (h0 : Hp) : Res :=
  bnd (rec 75 [x0] h0) fun v45 h45 =>
  s57a10 rec n x0 x2 x3 v45 h45

noncomputable def s57a8 (rec : FuncId → List DV → Hp → Res) (n : Nat) (x0 x2 x3 x29 : DV) (h0 : Hp) : Res :=
  ifD x29 (
    s57a9 rec n x0 x2 x3 h0) (
    s57a7 rec n x0 x2 x3 h0)

noncomputable def s57a6 (rec : FuncId → List DV → Hp → Res) (n : Nat) (x0 x2 x3 : DV) (h0 : Hp) : Res :=
  bnd (rec 41 [x0, (.i .i64 (Int.ofNat 10)), (.s [40])] h0) fun v47 h47 =>
  s57a8 rec n x0 x2 x3 v47 h47

noncomputable def s57a5 (rec : FuncId → List DV → Hp → Res) (n : Nat) (x0 x2 x3 : DV) (h0 : Hp) : Res :=
  bnd (rec 41 [x0, (.i .i64 (Int.ofNat 7)), (.s [])] h0) fun v49 h49 =>
  ifD v49 (
    bnd (rec 74 [x0] h49) fun v50 h50 =>
    bnd (pStore 6 x2 v50 h50) fun _ h51 =>
    bnd (pLoadA 6 x2 h51) fun v52 _ =>
    some (v52, h51)) (
    s57a6 rec n x0 x2 x3 h49)

noncomputable def s57a4 (rec : FuncId → List DV → Hp → Res) (n : Nat) (x0 x2 x3 : DV) (h0 : Hp) : Res :=
  bnd (rec 41 [x0, (.i .i64 (Int.ofNat 1)), (.s [])] h0) fun v57 h57 =>
  ifD v57 (
    bnd (rec 42 [x0] h57) fun v58 h58 =>
    bnd (pPart1 1 v58 h58) fun v59 h59 =>
    bnd (pBuild [(.i .i64 (Int.ofNat 0)), (.s []), (.i .i64 (Int.ofNat 0)), .l0, .l0, .l0] [(0, 1, (.i .i64 (Int.ofNat 5))), (1, 1, v59)] h59) fun v60 h60 =>
    bnd (pStore 6 x2 v60 h60) fun _ h61 =>
    bnd (pLoadA 6 x2 h61) fun v62 _ =>
    some (v62, h61)) (
    s57a5 rec n x0 x2 x3 h57)

noncomputable def s57a3 (rec : FuncId → List DV → Hp → Res) (n : Nat) (x0 x2 x3 x4 : DV) (h0 : Hp) : Res :=
  ifD x4 (
    bnd (pLoadA 6 x3 h0) fun v81 h81 =>
    bnd (pStore 6 x2 v81 h81) fun _ h82 =>
    bnd (pLoadA 6 x2 h82) fun v83 _ =>
    some (v83, h82)) (
    s57a4 rec n x0 x2 x3 h0)

noncomputable def s57a2 (rec : FuncId → List DV → Hp → Res) (n : Nat) (x0 x2 : DV) (h0 : Hp) : Res :=
  bnd (rec 73 [x0] h0) fun v87 h87 =>
  bnd (pExtract 0 v87 h87) fun v88 h88 =>
  bnd (pExtract 1 v87 h88) fun v89 h89 =>
  bnd (pNew [(.i .i64 (Int.ofNat 0)), (.s []), (.i .i64 (Int.ofNat 0)), .l0, .l0, .l0] h89) fun v90 h90 =>
  bnd (pStore 6 v90 v88 h90) fun _ h91 =>
  s57a3 rec n x0 x2 v90 v89 h91

noncomputable def s57a1 (rec : FuncId → List DV → Hp → Res) (n : Nat) (x0 x2 : DV) (h0 : Hp) : Res :=
  bnd (pNil x0 h0) fun v107 h107 =>
  bnd (pField 3 v107 h107) fun v108 h108 =>
  bnd (pLoad1 v108 h108) fun v109 h109 =>
  bnd (pInt .neq v109 (.i .i64 (Int.ofNat 0)) h109) fun v110 h110 =>
  ifD v110 (
    bnd (pBuild [(.i .i64 (Int.ofNat 0)), (.s []), (.i .i64 (Int.ofNat 0)), .l0, .l0, .l0] [] h110) fun v111 h111 =>
    bnd (pStore 6 x2 v111 h111) fun _ h112 =>
    bnd (pLoadA 6 x2 h112) fun v113 _ =>
    some (v113, h112)) (
    s57a2 rec n x0 x2 h110)

/-- vivariumref07.P).primary -/
noncomputable def s57 (rec : FuncId → List DV → Hp → Res) (n : Nat) (x0 : DV) (h0 : Hp) : Res :=
  bnd (pNew [(.i .i64 (Int.ofNat 0)), (.s []), (.i .i64 (Int.ofNat 0)), .l0, .l0, .l0] h0) fun v135 h135 =>
  s57a1 rec n x0 v135 h135

noncomputable def D57 (rec : FuncId → List DV → Hp → Res) (n : Nat) (c : Code) (X : Nat → K) (k : K) : K := codeD CF rec 54 n c X (retK CF Try.f57) k

theorem s57a7e (rec : FuncId → List DV → Hp → Res) (n : Nat) : D57 rec n (cR (cR (cR (cR (cR (cR (cR (cf Try.f57)))))))) x0 (retK CF Try.f57) = (fun (env : Env) (h : Hp) => s57a7 rec n (env 0) (env 2) (env 3) h) :=
  (by kernel_rfl)

theorem s57a11e (rec : FuncId → List DV → Hp → Res) (n : Nat) : D57 rec n (cR (cR (cL (cR (cL (cR (cR (cR (cR (cR (cR (cf Try.f57)))))))))))) x0 (fun (env : Env) (h : Hp) => s57a7 rec n (env 0) (env 2) (env 3) h) = (fun (env : Env) (h : Hp) => s57a11 rec n (env 2) (env 3) h) :=
  (by kernel_rfl)

theorem s57a10p1 (rec : FuncId → List DV → Hp → Res) (n : Nat) : D57 rec n (cR (cL (cR (cL (cR (cR (cR (cR (cR (cR (cf Try.f57))))))))))) x0 (fun (env : Env) (h : Hp) => s57a7 rec n (env 0) (env 2) (env 3) h) = D57 rec n (cL (cR (cL (cR (cL (cR (cR (cR (cR (cR (cR (cf Try.f57)))))))))))) x0 (fun (env : Env) (h : Hp) => s57a11 rec n (env 2) (env 3) h) :=
  congrArg (fun k => D57 rec n (cL (cR (cL (cR (cL (cR (cR (cR (cR (cR (cR (cf Try.f57)))))))))))) x0 k) (s57a11e rec n)

theorem s57a10e (rec : FuncId → List DV → Hp → Res) (n : Nat) : D57 rec n (cR (cL (cR (cL (cR (cR (cR (cR (cR (cR (cf Try.f57))))))))))) x0 (fun (env : Env) (h : Hp) => s57a7 rec n (env 0) (env 2) (env 3) h) = (fun (env : Env) (h : Hp) => s57a10 rec n (env 0) (env 2) (env 3) (env 4) h) :=
  (s57a10p1 rec n).trans
  ((by kernel_rfl))

theorem s57a9p2 (rec : FuncId → List DV → Hp → Res) (n : Nat) : D57 rec n (cL (cR (cL (cR (cR (cR (cR (cR (cR (cf Try.f57)))))))))) x0 (fun (env : Env) (h : Hp) => s57a7 rec n (env 0) (env 2) (env 3) h) = D57 rec n (cL (cL (cR (cL (cR (cR (cR (cR (cR (cR (cf Try.f57))))))))))) x0 (fun (env : Env) (h : Hp) => s57a10 rec n (env 0) (env 2) (env 3) (env 4) h) :=
  congrArg (fun k => D57 rec n (cL (cL (cR (cL (cR (cR (cR (cR (cR (cR (cf Try.f57))))))))))) x0 k) (s57a10e rec n)

theorem s57a9e (rec : FuncId → List DV → Hp → Res) (n : Nat) : D57 rec n (cL (cR (cL (cR (cR (cR (cR (cR (cR (cf Try.f57)))))))))) x0 (fun (env : Env) (h : Hp) => s57a7 rec n (env 0) (env 2) (env 3) h) = (fun (env : Env) (h : Hp) => s57a9 rec n (env 0) (env 2) (env 3) h) :=
  (s57a9p2 rec n).trans
  ((by kernel_rfl))

theorem s57a8e (rec : FuncId → List DV → Hp → Res) (n : Nat) : D57 rec n (cR (cL (cR (cR (cR (cR (cR (cR (cf Try.f57))))))))) x0 (fun (env : Env) (h : Hp) => s57a7 rec n (env 0) (env 2) (env 3) h) = (fun (env : Env) (h : Hp) => s57a8 rec n (env 0) (env 2) (env 3) (env 29) h) :=
  (by kernel_rfl : D57 rec n (cR (cL (cR (cR (cR (cR (cR (cR (cf Try.f57))))))))) x0 (fun (env : Env) (h : Hp) => s57a7 rec n (env 0) (env 2) (env 3) h) = (fun (env : Env) (h : Hp) => ifD (opr env (cC (cR (cL (cR (cR (cR (cR (cR (cR (cf Try.f57))))))))))) (D57 rec n (cL (cR (cL (cR (cR (cR (cR (cR (cR (cf Try.f57)))))))))) x0 (fun (env : Env) (h : Hp) => s57a7 rec n (env 0) (env 2) (env 3) h) env h) (D57 rec n (cR (cR (cL (cR (cR (cR (cR (cR (cR (cf Try.f57)))))))))) x0 (fun (env : Env) (h : Hp) => s57a7 rec n (env 0) (env 2) (env 3) h) env h))).trans (by rw [s57a9e rec n]; kernel_rfl)

theorem s57a6p3 (rec : FuncId → List DV → Hp → Res) (n : Nat) : D57 rec n (cR (cR (cR (cR (cR (cR (cf Try.f57))))))) x0 (retK CF Try.f57) = D57 rec n (cL (cR (cR (cR (cR (cR (cR (cf Try.f57)))))))) x0 (fun (env : Env) (h : Hp) => s57a7 rec n (env 0) (env 2) (env 3) h) :=
  congrArg (fun k => D57 rec n (cL (cR (cR (cR (cR (cR (cR (cf Try.f57)))))))) x0 k) (s57a7e rec n)

theorem s57a6p4 (rec : FuncId → List DV → Hp → Res) (n : Nat) : D57 rec n (cL (cR (cR (cR (cR (cR (cR (cf Try.f57)))))))) x0 (fun (env : Env) (h : Hp) => s57a7 rec n (env 0) (env 2) (env 3) h) = D57 rec n (cL (cL (cR (cR (cR (cR (cR (cR (cf Try.f57))))))))) x0 (fun (env : Env) (h : Hp) => s57a8 rec n (env 0) (env 2) (env 3) (env 29) h) :=
  congrArg (fun k => D57 rec n (cL (cL (cR (cR (cR (cR (cR (cR (cf Try.f57))))))))) x0 k) (s57a8e rec n)

theorem s57a6e (rec : FuncId → List DV → Hp → Res) (n : Nat) : D57 rec n (cR (cR (cR (cR (cR (cR (cf Try.f57))))))) x0 (retK CF Try.f57) = (fun (env : Env) (h : Hp) => s57a6 rec n (env 0) (env 2) (env 3) h) :=
  (s57a6p3 rec n).trans
  ((s57a6p4 rec n).trans
  ((by kernel_rfl)))

theorem s57a5p5 (rec : FuncId → List DV → Hp → Res) (n : Nat) : D57 rec n (cR (cR (cR (cR (cR (cf Try.f57)))))) x0 (retK CF Try.f57) = D57 rec n (cL (cR (cR (cR (cR (cR (cf Try.f57))))))) x0 (fun (env : Env) (h : Hp) => s57a6 rec n (env 0) (env 2) (env 3) h) :=
  congrArg (fun k => D57 rec n (cL (cR (cR (cR (cR (cR (cf Try.f57))))))) x0 k) (s57a6e rec n)

theorem s57a5e (rec : FuncId → List DV → Hp → Res) (n : Nat) : D57 rec n (cR (cR (cR (cR (cR (cf Try.f57)))))) x0 (retK CF Try.f57) = (fun (env : Env) (h : Hp) => s57a5 rec n (env 0) (env 2) (env 3) h) :=
  (s57a5p5 rec n).trans
  ((by kernel_rfl))

theorem s57a4p6 (rec : FuncId → List DV → Hp → Res) (n : Nat) : D57 rec n (cR (cR (cR (cR (cf Try.f57))))) x0 (retK CF Try.f57) = D57 rec n (cL (cR (cR (cR (cR (cf Try.f57)))))) x0 (fun (env : Env) (h : Hp) => s57a5 rec n (env 0) (env 2) (env 3) h) :=
  congrArg (fun k => D57 rec n (cL (cR (cR (cR (cR (cf Try.f57)))))) x0 k) (s57a5e rec n)

theorem s57a4q7 (rec : FuncId → List DV → Hp → Res) (n : Nat) (q0 : DV → DV → DV → Hp → Res) : D57 rec n (cL (cR (cR (cR (cR (cf Try.f57)))))) x0 (fun (env : Env) (h : Hp) => q0 (env 0) (env 2) (env 3) h) = fun (env : Env) (h : Hp) =>
    bnd (rec 41 [(env 0), (.i .i64 (Int.ofNat 1)), (.s [])] h) fun v69 h69 =>
    ifD v69 (
      bnd (rec 42 [(env 0)] h69) fun v70 h70 =>
      bnd (pPart1 1 v70 h70) fun v71 h71 =>
      bnd (pBuild [(.i .i64 (Int.ofNat 0)), (.s []), (.i .i64 (Int.ofNat 0)), .l0, .l0, .l0] [(0, 1, (.i .i64 (Int.ofNat 5))), (1, 1, v71)] h71) fun v72 h72 =>
      bnd (pStore 6 (env 2) v72 h72) fun _ h73 =>
      bnd (pLoadA 6 (env 2) h73) fun v74 _ =>
      some (v74, h73)) (
      q0 (env 0) (env 2) (env 3) h69) := by kernel_rfl

theorem s57a4q7u (rec : FuncId → List DV → Hp → Res) (n : Nat) : (fun (env : Env) (h : Hp) =>
    bnd (rec 41 [(env 0), (.i .i64 (Int.ofNat 1)), (.s [])] h) fun v75 h75 =>
    ifD v75 (
      bnd (rec 42 [(env 0)] h75) fun v76 h76 =>
      bnd (pPart1 1 v76 h76) fun v77 h77 =>
      bnd (pBuild [(.i .i64 (Int.ofNat 0)), (.s []), (.i .i64 (Int.ofNat 0)), .l0, .l0, .l0] [(0, 1, (.i .i64 (Int.ofNat 5))), (1, 1, v77)] h77) fun v78 h78 =>
      bnd (pStore 6 (env 2) v78 h78) fun _ h79 =>
      bnd (pLoadA 6 (env 2) h79) fun v80 _ =>
      some (v80, h79)) (
      s57a5 rec n (env 0) (env 2) (env 3) h75)) = (fun (env : Env) (h : Hp) => s57a4 rec n (env 0) (env 2) (env 3) h) := by kernel_rfl

theorem s57a4e (rec : FuncId → List DV → Hp → Res) (n : Nat) : D57 rec n (cR (cR (cR (cR (cf Try.f57))))) x0 (retK CF Try.f57) = (fun (env : Env) (h : Hp) => s57a4 rec n (env 0) (env 2) (env 3) h) :=
  (s57a4p6 rec n).trans
  ((s57a4q7 rec n (s57a5 rec n)).trans (s57a4q7u rec n))

theorem s57a3p8 (rec : FuncId → List DV → Hp → Res) (n : Nat) : D57 rec n (cR (cR (cR (cf Try.f57)))) x0 (retK CF Try.f57) = D57 rec n (cL (cR (cR (cR (cf Try.f57))))) x0 (fun (env : Env) (h : Hp) => s57a4 rec n (env 0) (env 2) (env 3) h) :=
  congrArg (fun k => D57 rec n (cL (cR (cR (cR (cf Try.f57))))) x0 k) (s57a4e rec n)

theorem s57a3e (rec : FuncId → List DV → Hp → Res) (n : Nat) : D57 rec n (cR (cR (cR (cf Try.f57)))) x0 (retK CF Try.f57) = (fun (env : Env) (h : Hp) => s57a3 rec n (env 0) (env 2) (env 3) (env 4) h) :=
  (s57a3p8 rec n).trans
  ((by kernel_rfl))

theorem s57a2p9 (rec : FuncId → List DV → Hp → Res) (n : Nat) : D57 rec n (cR (cR (cf Try.f57))) x0 (retK CF Try.f57) = D57 rec n (cL (cR (cR (cf Try.f57)))) x0 (fun (env : Env) (h : Hp) => s57a3 rec n (env 0) (env 2) (env 3) (env 4) h) :=
  congrArg (fun k => D57 rec n (cL (cR (cR (cf Try.f57)))) x0 k) (s57a3e rec n)

theorem s57a2q10 (rec : FuncId → List DV → Hp → Res) (n : Nat) (q0 : DV → DV → DV → DV → Hp → Res) : D57 rec n (cL (cR (cR (cf Try.f57)))) x0 (fun (env : Env) (h : Hp) => q0 (env 0) (env 2) (env 3) (env 4) h) = fun (env : Env) (h : Hp) =>
    bnd (rec 73 [(env 0)] h) fun v97 h97 =>
    bnd (pExtract 0 v97 h97) fun v98 h98 =>
    bnd (pExtract 1 v97 h98) fun v99 h99 =>
    bnd (pNew [(.i .i64 (Int.ofNat 0)), (.s []), (.i .i64 (Int.ofNat 0)), .l0, .l0, .l0] h99) fun v100 h100 =>
    bnd (pStore 6 v100 v98 h100) fun _ h101 =>
    q0 (env 0) (env 2) v100 v99 h101 := by kernel_rfl

theorem s57a2q10u (rec : FuncId → List DV → Hp → Res) (n : Nat) : (fun (env : Env) (h : Hp) =>
    bnd (rec 73 [(env 0)] h) fun v102 h102 =>
    bnd (pExtract 0 v102 h102) fun v103 h103 =>
    bnd (pExtract 1 v102 h103) fun v104 h104 =>
    bnd (pNew [(.i .i64 (Int.ofNat 0)), (.s []), (.i .i64 (Int.ofNat 0)), .l0, .l0, .l0] h104) fun v105 h105 =>
    bnd (pStore 6 v105 v103 h105) fun _ h106 =>
    s57a3 rec n (env 0) (env 2) v105 v104 h106) = (fun (env : Env) (h : Hp) => s57a2 rec n (env 0) (env 2) h) := by kernel_rfl

theorem s57a2e (rec : FuncId → List DV → Hp → Res) (n : Nat) : D57 rec n (cR (cR (cf Try.f57))) x0 (retK CF Try.f57) = (fun (env : Env) (h : Hp) => s57a2 rec n (env 0) (env 2) h) :=
  (s57a2p9 rec n).trans
  ((s57a2q10 rec n (s57a3 rec n)).trans (s57a2q10u rec n))

theorem s57a1p11 (rec : FuncId → List DV → Hp → Res) (n : Nat) : D57 rec n (cR (cf Try.f57)) x0 (retK CF Try.f57) = D57 rec n (cL (cR (cf Try.f57))) x0 (fun (env : Env) (h : Hp) => s57a2 rec n (env 0) (env 2) h) :=
  congrArg (fun k => D57 rec n (cL (cR (cf Try.f57))) x0 k) (s57a2e rec n)

theorem s57a1q12 (rec : FuncId → List DV → Hp → Res) (n : Nat) (q0 : DV → DV → Hp → Res) : D57 rec n (cL (cR (cf Try.f57))) x0 (fun (env : Env) (h : Hp) => q0 (env 0) (env 2) h) = fun (env : Env) (h : Hp) =>
    bnd (pNil (env 0) h) fun v121 h121 =>
    bnd (pField 3 v121 h121) fun v122 h122 =>
    bnd (pLoad1 v122 h122) fun v123 h123 =>
    bnd (pInt .neq v123 (.i .i64 (Int.ofNat 0)) h123) fun v124 h124 =>
    ifD v124 (
      bnd (pBuild [(.i .i64 (Int.ofNat 0)), (.s []), (.i .i64 (Int.ofNat 0)), .l0, .l0, .l0] [] h124) fun v125 h125 =>
      bnd (pStore 6 (env 2) v125 h125) fun _ h126 =>
      bnd (pLoadA 6 (env 2) h126) fun v127 _ =>
      some (v127, h126)) (
      q0 (env 0) (env 2) h124) := by kernel_rfl

theorem s57a1q12u (rec : FuncId → List DV → Hp → Res) (n : Nat) : (fun (env : Env) (h : Hp) =>
    bnd (pNil (env 0) h) fun v128 h128 =>
    bnd (pField 3 v128 h128) fun v129 h129 =>
    bnd (pLoad1 v129 h129) fun v130 h130 =>
    bnd (pInt .neq v130 (.i .i64 (Int.ofNat 0)) h130) fun v131 h131 =>
    ifD v131 (
      bnd (pBuild [(.i .i64 (Int.ofNat 0)), (.s []), (.i .i64 (Int.ofNat 0)), .l0, .l0, .l0] [] h131) fun v132 h132 =>
      bnd (pStore 6 (env 2) v132 h132) fun _ h133 =>
      bnd (pLoadA 6 (env 2) h133) fun v134 _ =>
      some (v134, h133)) (
      s57a2 rec n (env 0) (env 2) h131)) = (fun (env : Env) (h : Hp) => s57a1 rec n (env 0) (env 2) h) := by kernel_rfl

theorem s57a1e (rec : FuncId → List DV → Hp → Res) (n : Nat) : D57 rec n (cR (cf Try.f57)) x0 (retK CF Try.f57) = (fun (env : Env) (h : Hp) => s57a1 rec n (env 0) (env 2) h) :=
  (s57a1p11 rec n).trans
  ((s57a1q12 rec n (s57a2 rec n)).trans (s57a1q12u rec n))

theorem s57p13 (rec : FuncId → List DV → Hp → Res) (n : Nat) : D57 rec n (cf Try.f57) x0 (retK CF Try.f57) = D57 rec n (cL (cf Try.f57)) x0 (fun (env : Env) (h : Hp) => s57a1 rec n (env 0) (env 2) h) :=
  congrArg (fun k => D57 rec n (cL (cf Try.f57)) x0 k) (s57a1e rec n)

theorem s57q14 (rec : FuncId → List DV → Hp → Res) (n : Nat) (q0 : DV → DV → Hp → Res) : D57 rec n (cL (cf Try.f57)) x0 (fun (env : Env) (h : Hp) => q0 (env 0) (env 2) h) = fun (env : Env) (h : Hp) =>
    bnd (pNew [(.i .i64 (Int.ofNat 0)), (.s []), (.i .i64 (Int.ofNat 0)), .l0, .l0, .l0] h) fun v137 h137 =>
    q0 (env 0) v137 h137 := by kernel_rfl

theorem s57q14u (rec : FuncId → List DV → Hp → Res) (n : Nat) : (fun (env : Env) (h : Hp) =>
    bnd (pNew [(.i .i64 (Int.ofNat 0)), (.s []), (.i .i64 (Int.ofNat 0)), .l0, .l0, .l0] h) fun v138 h138 =>
    s57a1 rec n (env 0) v138 h138) = (fun (env : Env) (h : Hp) => s57 rec n (env 0) h) := by kernel_rfl

theorem s57m (rec : FuncId → List DV → Hp → Res) (n : Nat) : D57 rec n (cf Try.f57) x0 (retK CF Try.f57) = (fun (env : Env) (h : Hp) => s57 rec n (env 0) h) :=
  (s57p13 rec n).trans
  ((s57q14 rec n (s57a1 rec n)).trans (s57q14u rec n))

theorem s57ok (rec : FuncId → List DV → Hp → Res) (n : Nat) (args : List DV) (h : Hp) : bodyD CF rec n 57 args h = s57 rec n (args.getD 0 undefD) h :=
  (by kernel_rfl : bodyD CF rec n 57 args h = D57 rec n (cf Try.f57) x0 (retK CF Try.f57) (argsE args) h).trans ((congrFun (congrFun (s57m rec n) (argsE args)) h).trans (by kernel_rfl))

noncomputable def s58a2 (rec : FuncId → List DV → Hp → Res) (n : Nat) (x3 x4 : DV) (h0 : Hp) : Res :=
  bnd (pLoadA 6 x3 h0) fun v1 h1 =>
  bnd (pStore 6 x4 v1 h1) fun _ h2 =>
  bnd (pLoadA 6 x4 h2) fun v3 _ =>
  some (v3, h2)

noncomputable def s58a3b (rec : FuncId → List DV → Hp → Res) (n : Nat) (kk3 : DV → DV → DV → Hp → Res) (x0 x3 x4 : DV) (h0 : Hp) : Res :=
    bnd (rec 41 [x0, (.i .i64 (Int.ofNat 1)), (.s [])] h0) fun v7 h7 =>
    ifD v7 (
      bnd (rec 42 [x0] (resv 1 h7)) fun v8 h8 =>
      bnd (pPart1 1 v8 h8) fun v9 h9 =>
      bnd (pLoadA 6 x3 h9) fun v10 h10 =>
      cnd (sameR (pLoadA 6 x3 (resv 1 h7)) v10 && true) (
      bnd (pBuildSliceAt (nthPos 0 h7.next) [(.i .i64 (Int.ofNat 0)), (.s []), (.i .i64 (Int.ofNat 0)), .l0, .l0, .l0] 1 [(0, 6, v10)] h10) fun v11 h11 =>
      bnd (pBuild [(.i .i64 (Int.ofNat 0)), (.s []), (.i .i64 (Int.ofNat 0)), .l0, .l0, .l0] [(0, 1, (.i .i64 (Int.ofNat 7))), (1, 1, v9), (5, 1, v11)] h11) fun v12 h12 =>
      bnd (pStore 6 x3 v12 h12) fun v13 h13 =>
      kk3 x0 x3 x4 h13)) (
      s58a2 rec n x3 x4 h7)

noncomputable def s58a3l (rec : FuncId → List DV → Hp → Res) (n : Nat) (m : Nat) : DV → DV → DV → Hp → Res :=
  Nat.rec (motive := fun _ => DV → DV → DV → Hp → Res) (fun _ _ _ _ => none) (fun _ ih => s58a3b rec n ih) m

noncomputable def s58a3 (rec : FuncId → List DV → Hp → Res) (n : Nat) : DV → DV → DV → Hp → Res := s58a3l rec n n

noncomputable def s58a1 (rec : FuncId → List DV → Hp → Res) (n : Nat) (x0 x3 x4 : DV) (h0 : Hp) : Res :=
  s58a3 rec n x0 x3 x4 h0

/-- vivariumref07.P).unary -/
noncomputable def s58 (rec : FuncId → List DV → Hp → Res) (n : Nat) (x0 x1 : DV) (h0 : Hp) : Res :=
  bnd (pBox x1 h0) fun v35 h35 =>
  bnd (pNew [(.i .i64 (Int.ofNat 0)), (.s []), (.i .i64 (Int.ofNat 0)), .l0, .l0, .l0] h35) fun v36 h36 =>
  s58a1 rec n x0 v35 v36 h36

noncomputable def D58 (rec : FuncId → List DV → Hp → Res) (n : Nat) (c : Code) (X : Nat → K) (k : K) : K := codeD CF rec 14 n c X (retK CF Try.f58) k

theorem s58a2e (rec : FuncId → List DV → Hp → Res) (n : Nat) : D58 rec n (cR (cR (cf Try.f58))) x0 (retK CF Try.f58) = (fun (env : Env) (h : Hp) => s58a2 rec n (env 3) (env 4) h) :=
  (by kernel_rfl)

theorem s58a3q1 (rec : FuncId → List DV → Hp → Res) (n : Nat) (kk3 : DV → DV → DV → Hp → Res) (q0 : DV → DV → Hp → Res) : D58 rec n (cL (cL (cL (cR (cf Try.f58))))) (xs x0 0 (fun (env : Env) (h : Hp) => q0 (env 3) (env 4) h)) (fun (env : Env) (h : Hp) => kk3 (env 0) (env 3) (env 4) h) = fun (env : Env) (h : Hp) =>
    bnd (rec 41 [(env 0), (.i .i64 (Int.ofNat 1)), (.s [])] h) fun v21 h21 =>
    ifD v21 (
      bnd (rec 42 [(env 0)] (resv 1 h21)) fun v22 h22 =>
      bnd (pPart1 1 v22 h22) fun v23 h23 =>
      bnd (pLoadA 6 (env 3) h23) fun v24 h24 =>
      cnd (sameR (pLoadA 6 (env 3) (resv 1 h21)) v24 && true) (
      bnd (pBuildSliceAt (nthPos 0 h21.next) [(.i .i64 (Int.ofNat 0)), (.s []), (.i .i64 (Int.ofNat 0)), .l0, .l0, .l0] 1 [(0, 6, v24)] h24) fun v25 h25 =>
      bnd (pBuild [(.i .i64 (Int.ofNat 0)), (.s []), (.i .i64 (Int.ofNat 0)), .l0, .l0, .l0] [(0, 1, (.i .i64 (Int.ofNat 7))), (1, 1, v23), (5, 1, v25)] h25) fun v26 h26 =>
      bnd (pStore 6 (env 3) v26 h26) fun v27 h27 =>
      kk3 (env 0) (env 3) (env 4) h27)) (
      q0 (env 3) (env 4) h21) := by kernel_rfl

theorem s58a3q1u (rec : FuncId → List DV → Hp → Res) (n : Nat) (kk3 : DV → DV → DV → Hp → Res) : (fun (env : Env) (h : Hp) =>
    bnd (rec 41 [(env 0), (.i .i64 (Int.ofNat 1)), (.s [])] h) fun v28 h28 =>
    ifD v28 (
      bnd (rec 42 [(env 0)] (resv 1 h28)) fun v29 h29 =>
      bnd (pPart1 1 v29 h29) fun v30 h30 =>
      bnd (pLoadA 6 (env 3) h30) fun v31 h31 =>
      cnd (sameR (pLoadA 6 (env 3) (resv 1 h28)) v31 && true) (
      bnd (pBuildSliceAt (nthPos 0 h28.next) [(.i .i64 (Int.ofNat 0)), (.s []), (.i .i64 (Int.ofNat 0)), .l0, .l0, .l0] 1 [(0, 6, v31)] h31) fun v32 h32 =>
      bnd (pBuild [(.i .i64 (Int.ofNat 0)), (.s []), (.i .i64 (Int.ofNat 0)), .l0, .l0, .l0] [(0, 1, (.i .i64 (Int.ofNat 7))), (1, 1, v30), (5, 1, v32)] h32) fun v33 h33 =>
      bnd (pStore 6 (env 3) v33 h33) fun v34 h34 =>
      kk3 (env 0) (env 3) (env 4) h34)) (
      s58a2 rec n (env 3) (env 4) h28)) = (fun (env : Env) (h : Hp) => s58a3b rec n kk3 (env 0) (env 3) (env 4) h) := by kernel_rfl

theorem s58a3be (rec : FuncId → List DV → Hp → Res) (n : Nat) (kk3 : DV → DV → DV → Hp → Res) : D58 rec n (cL (cL (cL (cR (cf Try.f58))))) (xs x0 0 (fun (env : Env) (h : Hp) => s58a2 rec n (env 3) (env 4) h)) (fun (env : Env) (h : Hp) => kk3 (env 0) (env 3) (env 4) h) = (fun (env : Env) (h : Hp) => s58a3b rec n kk3 (env 0) (env 3) (env 4) h) :=
  (s58a3q1 rec n kk3 (s58a2 rec n)).trans (s58a3q1u rec n kk3)

theorem s58a3le (rec : FuncId → List DV → Hp → Res) (n : Nat) (m : Nat) : loopN (fun kk => D58 rec n (cL (cL (cL (cR (cf Try.f58))))) (xs x0 0 (fun (env : Env) (h : Hp) => s58a2 rec n (env 3) (env 4) h)) kk) m = (fun (env : Env) (h : Hp) => s58a3l rec n m (env 0) (env 3) (env 4) h) := by
  induction m with
  | zero => exact (by kernel_rfl : loopN (fun kk => D58 rec n (cL (cL (cL (cR (cf Try.f58))))) (xs x0 0 (fun (env : Env) (h : Hp) => s58a2 rec n (env 3) (env 4) h)) kk) 0 = (fun (env : Env) (h : Hp) => s58a3l rec n 0 (env 0) (env 3) (env 4) h))
  | succ m ih =>
    refine (by kernel_rfl : loopN (fun kk => D58 rec n (cL (cL (cL (cR (cf Try.f58))))) (xs x0 0 (fun (env : Env) (h : Hp) => s58a2 rec n (env 3) (env 4) h)) kk) (m + 1) = D58 rec n (cL (cL (cL (cR (cf Try.f58))))) (xs x0 0 (fun (env : Env) (h : Hp) => s58a2 rec n (env 3) (env 4) h)) (loopN (fun kk => D58 rec n (cL (cL (cL (cR (cf Try.f58))))) (xs x0 0 (fun (env : Env) (h : Hp) => s58a2 rec n (env 3) (env 4) h)) kk) m)).trans ?_
    rw [ih]
    exact (s58a3be rec n (s58a3l rec n m)).trans (by kernel_rfl)

theorem s58a3e (rec : FuncId → List DV → Hp → Res) (n : Nat) : D58 rec n (cL (cL (cR (cf Try.f58)))) (xs x0 0 (fun (env : Env) (h : Hp) => s58a2 rec n (env 3) (env 4) h)) (fun (env : Env) (h : Hp) => s58a2 rec n (env 3) (env 4) h) = (fun (env : Env) (h : Hp) => s58a3 rec n (env 0) (env 3) (env 4) h) :=
  (by kernel_rfl : D58 rec n (cL (cL (cR (cf Try.f58)))) (xs x0 0 (fun (env : Env) (h : Hp) => s58a2 rec n (env 3) (env 4) h)) (fun (env : Env) (h : Hp) => s58a2 rec n (env 3) (env 4) h) = loopN (fun kk => D58 rec n (cL (cL (cL (cR (cf Try.f58))))) (xs x0 0 (fun (env : Env) (h : Hp) => s58a2 rec n (env 3) (env 4) h)) kk) n).trans ((s58a3le rec n n).trans (by kernel_rfl))

theorem s58a1p2 (rec : FuncId → List DV → Hp → Res) (n : Nat) : D58 rec n (cR (cf Try.f58)) x0 (retK CF Try.f58) = D58 rec n (cL (cR (cf Try.f58))) x0 (fun (env : Env) (h : Hp) => s58a2 rec n (env 3) (env 4) h) :=
  congrArg (fun k => D58 rec n (cL (cR (cf Try.f58))) x0 k) (s58a2e rec n)

theorem s58a1e (rec : FuncId → List DV → Hp → Res) (n : Nat) : D58 rec n (cR (cf Try.f58)) x0 (retK CF Try.f58) = (fun (env : Env) (h : Hp) => s58a1 rec n (env 0) (env 3) (env 4) h) :=
  (s58a1p2 rec n).trans
  ((by kernel_rfl : D58 rec n (cL (cR (cf Try.f58))) x0 (fun (env : Env) (h : Hp) => s58a2 rec n (env 3) (env 4) h) = D58 rec n (cL (cL (cR (cf Try.f58)))) (xs x0 0 (fun (env : Env) (h : Hp) => s58a2 rec n (env 3) (env 4) h)) (fun (env : Env) (h : Hp) => s58a2 rec n (env 3) (env 4) h)).trans
  ((s58a3e rec n).trans (by kernel_rfl)))

theorem s58p3 (rec : FuncId → List DV → Hp → Res) (n : Nat) : D58 rec n (cf Try.f58) x0 (retK CF Try.f58) = D58 rec n (cL (cf Try.f58)) x0 (fun (env : Env) (h : Hp) => s58a1 rec n (env 0) (env 3) (env 4) h) :=
  congrArg (fun k => D58 rec n (cL (cf Try.f58)) x0 k) (s58a1e rec n)

theorem s58q4 (rec : FuncId → List DV → Hp → Res) (n : Nat) (q0 : DV → DV → DV → Hp → Res) : D58 rec n (cL (cf Try.f58)) x0 (fun (env : Env) (h : Hp) => q0 (env 0) (env 3) (env 4) h) = fun (env : Env) (h : Hp) =>
    bnd (pBox (env 1) h) fun v39 h39 =>
    bnd (pNew [(.i .i64 (Int.ofNat 0)), (.s []), (.i .i64 (Int.ofNat 0)), .l0, .l0, .l0] h39) fun v40 h40 =>
    q0 (env 0) v39 v40 h40 := by kernel_rfl

theorem s58q4u (rec : FuncId → List DV → Hp → Res) (n : Nat) : (fun (env : Env) (h : Hp) =>
    bnd (pBox (env 1) h) fun v41 h41 =>
    bnd (pNew [(.i .i64 (Int.ofNat 0)), (.s []), (.i .i64 (Int.ofNat 0)), .l0, .l0, .l0] h41) fun v42 h42 =>
    s58a1 rec n (env 0) v41 v42 h42) = (fun (env : Env) (h : Hp) => s58 rec n (env 0) (env 1) h) := by kernel_rfl

theorem s58m (rec : FuncId → List DV → Hp → Res) (n : Nat) : D58 rec n (cf Try.f58) x0 (retK CF Try.f58) = (fun (env : Env) (h : Hp) => s58 rec n (env 0) (env 1) h) :=
  (s58p3 rec n).trans
  ((s58q4 rec n (s58a1 rec n)).trans (s58q4u rec n))

theorem s58ok (rec : FuncId → List DV → Hp → Res) (n : Nat) (args : List DV) (h : Hp) : bodyD CF rec n 58 args h = s58 rec n (args.getD 0 undefD) (args.getD 1 undefD) h :=
  (by kernel_rfl : bodyD CF rec n 58 args h = D58 rec n (cf Try.f58) x0 (retK CF Try.f58) (argsE args) h).trans ((congrFun (congrFun (s58m rec n) (argsE args)) h).trans (by kernel_rfl))

noncomputable def s59a2 (rec : FuncId → List DV → Hp → Res) (n : Nat) (x3 x4 : DV) (h0 : Hp) : Res :=
  bnd (pLoadA 6 x3 h0) fun v1 h1 =>
  bnd (pStore 6 x4 v1 h1) fun _ h2 =>
  bnd (pLoadA 6 x4 h2) fun v3 _ =>
  some (v3, h2)

noncomputable def s59a3b (rec : FuncId → List DV → Hp → Res) (n : Nat) (kk3 : DV → DV → DV → Hp → Res) (x0 x3 x4 : DV) (h0 : Hp) : Res :=
    bnd (rec 41 [x0, (.i .i64 (Int.ofNat 3)), (.s [])] h0) fun v7 h7 =>
    ifD v7 (
      bnd (rec 42 [x0] h7) fun v8 h8 =>
      bnd (pPart1 1 v8 h8) fun v9 h9 =>
      bnd (rec 57 [x0] h9) fun v10 h10 =>
      bnd (pNew [(.i .i64 (Int.ofNat 0)), (.s []), (.i .i64 (Int.ofNat 0)), .l0, .l0, .l0] h10) fun v11 h11 =>
      bnd (pStore 6 v11 v10 h11) fun _ h12 =>
      bnd (pLoadA 6 v11 h12) fun v13 h13 =>
      bnd (rec 58 [x0, v13] h13) fun v14 h14 =>
      bnd (pStore 6 v11 v14 h14) fun _ h15 =>
      bnd (pLoadA 6 x3 h15) fun v16 h16 =>
      bnd (pLoadA 6 v11 h16) fun v17 h17 =>
      bnd (pBuildSlice [(.i .i64 (Int.ofNat 0)), (.s []), (.i .i64 (Int.ofNat 0)), .l0, .l0, .l0, (.i .i64 (Int.ofNat 0)), (.s []), (.i .i64 (Int.ofNat 0)), .l0, .l0, .l0] 2 [(0, 6, v16), (6, 6, v17)] h17) fun v18 h18 =>
      bnd (pBuild [(.i .i64 (Int.ofNat 0)), (.s []), (.i .i64 (Int.ofNat 0)), .l0, .l0, .l0] [(0, 1, (.i .i64 (Int.ofNat 7))), (1, 1, v9), (5, 1, v18)] h18) fun v19 h19 =>
      bnd (pStore 6 x3 v19 h19) fun _ h20 =>
      kk3 x0 x3 x4 h20) (
      s59a2 rec n x3 x4 h7)

noncomputable def s59a3l (rec : FuncId → List DV → Hp → Res) (n : Nat) (m : Nat) : DV → DV → DV → Hp → Res :=
  Nat.rec (motive := fun _ => DV → DV → DV → Hp → Res) (fun _ _ _ _ => none) (fun _ ih => s59a3b rec n ih) m

noncomputable def s59a3 (rec : FuncId → List DV → Hp → Res) (n : Nat) : DV → DV → DV → Hp → Res := s59a3l rec n n

noncomputable def s59a1 (rec : FuncId → List DV → Hp → Res) (n : Nat) (x0 x3 x4 : DV) (h0 : Hp) : Res :=
  s59a3 rec n x0 x3 x4 h0

/-- vivariumref07.P).binary -/
noncomputable def s59 (rec : FuncId → List DV → Hp → Res) (n : Nat) (x0 x1 : DV) (h0 : Hp) : Res :=
  bnd (pBox x1 h0) fun v63 h63 =>
  bnd (pNew [(.i .i64 (Int.ofNat 0)), (.s []), (.i .i64 (Int.ofNat 0)), .l0, .l0, .l0] h63) fun v64 h64 =>
  s59a1 rec n x0 v63 v64 h64

noncomputable def D59 (rec : FuncId → List DV → Hp → Res) (n : Nat) (c : Code) (X : Nat → K) (k : K) : K := codeD CF rec 23 n c X (retK CF Try.f59) k

theorem s59a2e (rec : FuncId → List DV → Hp → Res) (n : Nat) : D59 rec n (cR (cR (cf Try.f59))) x0 (retK CF Try.f59) = (fun (env : Env) (h : Hp) => s59a2 rec n (env 3) (env 4) h) :=
  (by kernel_rfl)

theorem s59a3q1 (rec : FuncId → List DV → Hp → Res) (n : Nat) (kk3 : DV → DV → DV → Hp → Res) (q0 : DV → DV → Hp → Res) : D59 rec n (cL (cL (cL (cR (cf Try.f59))))) (xs x0 0 (fun (env : Env) (h : Hp) => q0 (env 3) (env 4) h)) (fun (env : Env) (h : Hp) => kk3 (env 0) (env 3) (env 4) h) = fun (env : Env) (h : Hp) =>
    bnd (rec 41 [(env 0), (.i .i64 (Int.ofNat 3)), (.s [])] h) fun v35 h35 =>
    ifD v35 (
      bnd (rec 42 [(env 0)] h35) fun v36 h36 =>
      bnd (pPart1 1 v36 h36) fun v37 h37 =>
      bnd (rec 57 [(env 0)] h37) fun v38 h38 =>
      bnd (pNew [(.i .i64 (Int.ofNat 0)), (.s []), (.i .i64 (Int.ofNat 0)), .l0, .l0, .l0] h38) fun v39 h39 =>
      bnd (pStore 6 v39 v38 h39) fun _ h40 =>
      bnd (pLoadA 6 v39 h40) fun v41 h41 =>
      bnd (rec 58 [(env 0), v41] h41) fun v42 h42 =>
      bnd (pStore 6 v39 v42 h42) fun _ h43 =>
      bnd (pLoadA 6 (env 3) h43) fun v44 h44 =>
      bnd (pLoadA 6 v39 h44) fun v45 h45 =>
      bnd (pBuildSlice [(.i .i64 (Int.ofNat 0)), (.s []), (.i .i64 (Int.ofNat 0)), .l0, .l0, .l0, (.i .i64 (Int.ofNat 0)), (.s []), (.i .i64 (Int.ofNat 0)), .l0, .l0, .l0] 2 [(0, 6, v44), (6, 6, v45)] h45) fun v46 h46 =>
      bnd (pBuild [(.i .i64 (Int.ofNat 0)), (.s []), (.i .i64 (Int.ofNat 0)), .l0, .l0, .l0] [(0, 1, (.i .i64 (Int.ofNat 7))), (1, 1, v37), (5, 1, v46)] h46) fun v47 h47 =>
      bnd (pStore 6 (env 3) v47 h47) fun _ h48 =>
      kk3 (env 0) (env 3) (env 4) h48) (
      q0 (env 3) (env 4) h35) := by kernel_rfl

theorem s59a3q1u (rec : FuncId → List DV → Hp → Res) (n : Nat) (kk3 : DV → DV → DV → Hp → Res) : (fun (env : Env) (h : Hp) =>
    bnd (rec 41 [(env 0), (.i .i64 (Int.ofNat 3)), (.s [])] h) fun v49 h49 =>
    ifD v49 (
      bnd (rec 42 [(env 0)] h49) fun v50 h50 =>
      bnd (pPart1 1 v50 h50) fun v51 h51 =>
      bnd (rec 57 [(env 0)] h51) fun v52 h52 =>
      bnd (pNew [(.i .i64 (Int.ofNat 0)), (.s []), (.i .i64 (Int.ofNat 0)), .l0, .l0, .l0] h52) fun v53 h53 =>
      bnd (pStore 6 v53 v52 h53) fun _ h54 =>
      bnd (pLoadA 6 v53 h54) fun v55 h55 =>
      bnd (rec 58 [(env 0), v55] h55) fun v56 h56 =>
      bnd (pStore 6 v53 v56 h56) fun _ h57 =>
      bnd (pLoadA 6 (env 3) h57) fun v58 h58 =>
      bnd (pLoadA 6 v53 h58) fun v59 h59 =>
      bnd (pBuildSlice [(.i .i64 (Int.ofNat 0)), (.s []), (.i .i64 (Int.ofNat 0)), .l0, .l0, .l0, (.i .i64 (Int.ofNat 0)), (.s []), (.i .i64 (Int.ofNat 0)), .l0, .l0, .l0] 2 [(0, 6, v58), (6, 6, v59)] h59) fun v60 h60 =>
      bnd (pBuild [(.i .i64 (Int.ofNat 0)), (.s []), (.i .i64 (Int.ofNat 0)), .l0, .l0, .l0] [(0, 1, (.i .i64 (Int.ofNat 7))), (1, 1, v51), (5, 1, v60)] h60) fun v61 h61 =>
      bnd (pStore 6 (env 3) v61 h61) fun _ h62 =>
      kk3 (env 0) (env 3) (env 4) h62) (
      s59a2 rec n (env 3) (env 4) h49)) = (fun (env : Env) (h : Hp) => s59a3b rec n kk3 (env 0) (env 3) (env 4) h) := by kernel_rfl

theorem s59a3be (rec : FuncId → List DV → Hp → Res) (n : Nat) (kk3 : DV → DV → DV → Hp → Res) : D59 rec n (cL (cL (cL (cR (cf Try.f59))))) (xs x0 0 (fun (env : Env) (h : Hp) => s59a2 rec n (env 3) (env 4) h)) (fun (env : Env) (h : Hp) => kk3 (env 0) (env 3) (env 4) h) = (fun (env : Env) (h : Hp) => s59a3b rec n kk3 (env 0) (env 3) (env 4) h) :=
  (s59a3q1 rec n kk3 (s59a2 rec n)).trans (s59a3q1u rec n kk3)

theorem s59a3le (rec : FuncId → List DV → Hp → Res) (n : Nat) (m : Nat) : loopN (fun kk => D59 rec n (cL (cL (cL (cR (cf Try.f59))))) (xs x0 0 (fun (env : Env) (h : Hp) => s59a2 rec n (env 3) (env 4) h)) kk) m = (fun (env : Env) (h : Hp) => s59a3l rec n m (env 0) (env 3) (env 4) h) := by
  induction m with
  | zero => exact (by kernel_rfl : loopN (fun kk => D59 rec n (cL (cL (cL (cR (cf Try.f59))))) (xs x0 0 (fun (env : Env) (h : Hp) => s59a2 rec n (env 3) (env 4) h)) kk) 0 = (fun (env : Env) (h : Hp) => s59a3l rec n 0 (env 0) (env 3) (env 4) h))
  | succ m ih =>
    refine (by kernel_rfl : loopN (fun kk => D59 rec n (cL (cL (cL (cR (cf Try.f59))))) (xs x0 0 (fun (env : Env) (h : Hp) => s59a2 rec n (env 3) (env 4) h)) kk) (m + 1) = D59 rec n (cL (cL (cL (cR (cf Try.f59))))) (xs x0 0 (fun (env : Env) (h : Hp) => s59a2 rec n (env 3) (env 4) h)) (loopN (fun kk => D59 rec n (cL (cL (cL (cR (cf Try.f59))))) (xs x0 0 (fun (env : Env) (h : Hp) => s59a2 rec n (env 3) (env 4) h)) kk) m)).trans ?_
    rw [ih]
    exact (s59a3be rec n (s59a3l rec n m)).trans (by kernel_rfl)

theorem s59a3e (rec : FuncId → List DV → Hp → Res) (n : Nat) : D59 rec n (cL (cL (cR (cf Try.f59)))) (xs x0 0 (fun (env : Env) (h : Hp) => s59a2 rec n (env 3) (env 4) h)) (fun (env : Env) (h : Hp) => s59a2 rec n (env 3) (env 4) h) = (fun (env : Env) (h : Hp) => s59a3 rec n (env 0) (env 3) (env 4) h) :=
  (by kernel_rfl : D59 rec n (cL (cL (cR (cf Try.f59)))) (xs x0 0 (fun (env : Env) (h : Hp) => s59a2 rec n (env 3) (env 4) h)) (fun (env : Env) (h : Hp) => s59a2 rec n (env 3) (env 4) h) = loopN (fun kk => D59 rec n (cL (cL (cL (cR (cf Try.f59))))) (xs x0 0 (fun (env : Env) (h : Hp) => s59a2 rec n (env 3) (env 4) h)) kk) n).trans ((s59a3le rec n n).trans (by kernel_rfl))

theorem s59a1p2 (rec : FuncId → List DV → Hp → Res) (n : Nat) : D59 rec n (cR (cf Try.f59)) x0 (retK CF Try.f59) = D59 rec n (cL (cR (cf Try.f59))) x0 (fun (env : Env) (h : Hp) => s59a2 rec n (env 3) (env 4) h) :=
  congrArg (fun k => D59 rec n (cL (cR (cf Try.f59))) x0 k) (s59a2e rec n)

theorem s59a1e (rec : FuncId → List DV → Hp → Res) (n : Nat) : D59 rec n (cR (cf Try.f59)) x0 (retK CF Try.f59) = (fun (env : Env) (h : Hp) => s59a1 rec n (env 0) (env 3) (env 4) h) :=
  (s59a1p2 rec n).trans
  ((by kernel_rfl : D59 rec n (cL (cR (cf Try.f59))) x0 (fun (env : Env) (h : Hp) => s59a2 rec n (env 3) (env 4) h) = D59 rec n (cL (cL (cR (cf Try.f59)))) (xs x0 0 (fun (env : Env) (h : Hp) => s59a2 rec n (env 3) (env 4) h)) (fun (env : Env) (h : Hp) => s59a2 rec n (env 3) (env 4) h)).trans
  ((s59a3e rec n).trans (by kernel_rfl)))

theorem s59p3 (rec : FuncId → List DV → Hp → Res) (n : Nat) : D59 rec n (cf Try.f59) x0 (retK CF Try.f59) = D59 rec n (cL (cf Try.f59)) x0 (fun (env : Env) (h : Hp) => s59a1 rec n (env 0) (env 3) (env 4) h) :=
  congrArg (fun k => D59 rec n (cL (cf Try.f59)) x0 k) (s59a1e rec n)

theorem s59q4 (rec : FuncId → List DV → Hp → Res) (n : Nat) (q0 : DV → DV → DV → Hp → Res) : D59 rec n (cL (cf Try.f59)) x0 (fun (env : Env) (h : Hp) => q0 (env 0) (env 3) (env 4) h) = fun (env : Env) (h : Hp) =>
    bnd (pBox (env 1) h) fun v67 h67 =>
    bnd (pNew [(.i .i64 (Int.ofNat 0)), (.s []), (.i .i64 (Int.ofNat 0)), .l0, .l0, .l0] h67) fun v68 h68 =>
    q0 (env 0) v67 v68 h68 := by kernel_rfl

theorem s59q4u (rec : FuncId → List DV → Hp → Res) (n : Nat) : (fun (env : Env) (h : Hp) =>
    bnd (pBox (env 1) h) fun v69 h69 =>
    bnd (pNew [(.i .i64 (Int.ofNat 0)), (.s []), (.i .i64 (Int.ofNat 0)), .l0, .l0, .l0] h69) fun v70 h70 =>
    s59a1 rec n (env 0) v69 v70 h70) = (fun (env : Env) (h : Hp) => s59 rec n (env 0) (env 1) h) := by kernel_rfl

theorem s59m (rec : FuncId → List DV → Hp → Res) (n : Nat) : D59 rec n (cf Try.f59) x0 (retK CF Try.f59) = (fun (env : Env) (h : Hp) => s59 rec n (env 0) (env 1) h) :=
  (s59p3 rec n).trans
  ((s59q4 rec n (s59a1 rec n)).trans (s59q4u rec n))

theorem s59ok (rec : FuncId → List DV → Hp → Res) (n : Nat) (args : List DV) (h : Hp) : bodyD CF rec n 59 args h = s59 rec n (args.getD 0 undefD) (args.getD 1 undefD) h :=
  (by kernel_rfl : bodyD CF rec n 59 args h = D59 rec n (cf Try.f59) x0 (retK CF Try.f59) (argsE args) h).trans ((congrFun (congrFun (s59m rec n) (argsE args)) h).trans (by kernel_rfl))

/-- vivariumref07.P).keywords -/
noncomputable def s60 (rec : FuncId → List DV → Hp → Res) (n : Nat) (x0 x1 : DV) (h0 : Hp) : Res :=
  bnd (pBox x1 h0) fun v1 h1 =>
  bnd (pNew [(.i .i64 (Int.ofNat 0)), (.s []), (.i .i64 (Int.ofNat 0)), .l0, .l0, .l0] h1) fun v2 h2 =>
  bnd (rec 41 [x0, (.i .i64 (Int.ofNat 2)), (.s [])] h2) fun v3 h3 =>
  bnd (pUn .not v3 h3) fun v4 h4 =>
  ifD v4 (
    bnd (pLoadA 6 v1 h4) fun v5 h5 =>
    bnd (pStore 6 v2 v5 h5) fun _ h6 =>
    bnd (pLoadA 6 v2 h6) fun v7 _ =>
    some (v7, h6)) (
    bnd (rec 61 [x0] h4) fun v8 h8 =>
    bnd (pNew [(.i .i64 (Int.ofNat 0)), (.s []), (.i .i64 (Int.ofNat 0)), .l0, .l0, .l0] h8) fun v9 h9 =>
    bnd (pStore 6 v9 v8 h9) fun _ h10 =>
    bnd (pLoadA 6 v1 h10) fun v11 h11 =>
    bnd (pBuildSlice [(.i .i64 (Int.ofNat 0)), (.s []), (.i .i64 (Int.ofNat 0)), .l0, .l0, .l0] 1 [(0, 6, v11)] h11) fun v12 h12 =>
    bnd (pField 5 v9 h12) fun v13 h13 =>
    bnd (pLoad1 v13 h13) fun v14 h14 =>
    bnd (pAppend 6 104 v12 v14 h14) fun v15 h15 =>
    bnd (pField 1 v9 h15) fun v16 h16 =>
    bnd (pLoad1 v16 h16) fun v17 h17 =>
    bnd (pBuild [(.i .i64 (Int.ofNat 0)), (.s []), (.i .i64 (Int.ofNat 0)), .l0, .l0, .l0] [(0, 1, (.i .i64 (Int.ofNat 7))), (1, 1, v17), (5, 1, v15)] h17) fun v18 h18 =>
    bnd (pStore 6 v2 v18 h18) fun _ h19 =>
    bnd (pLoadA 6 v2 h19) fun v20 _ =>
    some (v20, h19))

noncomputable def D60 (rec : FuncId → List DV → Hp → Res) (n : Nat) (c : Code) (X : Nat → K) (k : K) : K := codeD CF rec 23 n c X (retK CF Try.f60) k

theorem s60m (rec : FuncId → List DV → Hp → Res) (n : Nat) : D60 rec n (cf Try.f60) x0 (retK CF Try.f60) = (fun (env : Env) (h : Hp) => s60 rec n (env 0) (env 1) h) :=
  (by kernel_rfl)

theorem s60ok (rec : FuncId → List DV → Hp → Res) (n : Nat) (args : List DV) (h : Hp) : bodyD CF rec n 60 args h = s60 rec n (args.getD 0 undefD) (args.getD 1 undefD) h :=
  (by kernel_rfl : bodyD CF rec n 60 args h = D60 rec n (cf Try.f60) x0 (retK CF Try.f60) (argsE args) h).trans ((congrFun (congrFun (s60m rec n) (argsE args)) h).trans (by kernel_rfl))

noncomputable def s61a6 (rec : FuncId → List DV → Hp → Res) (n : Nat) (x2 x3 : DV) (h0 : Hp) : Res :=
  bnd (pLoadA 6 x3 h0) fun v1 h1 =>
  bnd (pStore 6 x2 v1 h1) fun _ h2 =>
  bnd (pLoadA 6 x2 h2) fun v3 _ =>
  some (v3, h2)

noncomputable def s61a7b (rec : FuncId → List DV → Hp → Res) (n : Nat) (kk7 : DV → DV → DV → Hp → Res) (x0 x2 x3 : DV) (h0 : Hp) : Res :=
    bnd (rec 41 [x0, (.i .i64 (Int.ofNat 2)), (.s [])] h0) fun v7 h7 =>
    ifD v7 (
      bnd (pField 1 x3 h7) fun v8 h8 =>
      bnd (pLoad1 v8 h8) fun v9 h9 =>
      bnd (rec 42 [x0] h9) fun v10 h10 =>
      cnd (sameR (pLoad1 v8 h10) v9 && true) (
      bnd (pPart1 1 v10 h10) fun v11 h11 =>
      bnd (pStr .add v9 v11 h11) fun v12 h12 =>
      bnd (pField 1 x3 h12) fun v13 h13 =>
      bnd (pStore 1 v13 v12 h13) fun v14 h14 =>
      bnd (rec 57 [x0] h14) fun v15 h15 =>
      bnd (pNew [(.i .i64 (Int.ofNat 0)), (.s []), (.i .i64 (Int.ofNat 0)), .l0, .l0, .l0] h15) fun v16 h16 =>
      bnd (pStore 6 v16 v15 h16) fun _ h17 =>
      bnd (pLoadA 6 v16 h17) fun v18 h18 =>
      bnd (rec 58 [x0, v18] h18) fun v19 h19 =>
      bnd (pStore 6 v16 v19 h19) fun _ h20 =>
      bnd (pField 5 x3 (resv 1 h20)) fun v21 h21 =>
      bnd (pLoad1 v21 h21) fun v22 h22 =>
      bnd (pLoadA 6 v16 h22) fun v23 h23 =>
      bnd (rec 59 [x0, v23] h23) fun v24 h24 =>
      cnd (sameR (pLoad1 v21 h24) v22 && true) (
      bnd (pBuildSliceAt (nthPos 0 h20.next) [(.i .i64 (Int.ofNat 0)), (.s []), (.i .i64 (Int.ofNat 0)), .l0, .l0, .l0] 1 [(0, 6, v24)] h24) fun v25 h25 =>
      bnd (pAppend 6 104 v22 v25 h25) fun v26 h26 =>
      bnd (pField 5 x3 h26) fun v27 h27 =>
      bnd (pStore 1 v27 v26 h27) fun v28 h28 =>
      kk7 x0 x2 x3 h28))) (
      s61a6 rec n x2 x3 h7)

noncomputable def s61a7l (rec : FuncId → List DV → Hp → Res) (n : Nat) (m : Nat) : DV → DV → DV → Hp → Res :=
  Nat.rec (motive := fun _ => DV → DV → DV → Hp → Res) (fun _ _ _ _ => none) (fun _ ih => s61a7b rec n ih) m

noncomputable def s61a7 (rec : FuncId → List DV → Hp → Res) (n : Nat) : DV → DV → DV → Hp → Res := s61a7l rec n n

noncomputable def s61a5 (rec : FuncId → List DV → Hp → Res) (n : Nat) (x0 x2 x3 : DV) (h0 : Hp) : Res :=
  s61a7 rec n x0 x2 x3 h0

noncomputable def s61a4 (rec : FuncId → List DV → Hp → Res) (n : Nat) (x0 x2 x3 : DV) (h0 : Hp) : Res :=
  bnd (rec 41 [x0, (.i .i64 (Int.ofNat 2)), (.s [])] h0) fun v95 h95 =>
  bnd (pUn .not v95 h95) fun v96 h96 =>
  ifD v96 (
    bnd (rec 46 [x0, (.i .i64 (Int.ofNat 0))] h96) fun v97 h97 =>
    bnd (rec 44 [x0, v97, (.i .i64 (Int.ofNat 13))] h97) fun v98 h98 =>
    s61a5 rec n x0 x2 x3 h98) (
    s61a5 rec n x0 x2 x3 h96)

noncomputable def s61a3 (rec : FuncId → List DV → Hp → Res) (n : Nat) (x0 x2 x3 : DV) (h0 : Hp) : Res :=
  bnd (rec 41 [x0, (.i .i64 (Int.ofNat 3)), (.s [])] h0) fun v103 h103 =>
  ifD v103 (
    bnd (rec 42 [x0] h103) fun v104 h104 =>
    bnd (pPart1 1 v104 h104) fun v105 h105 =>
    bnd (pField 1 x3 h105) fun v106 h106 =>
    bnd (pStore 1 v106 v105 h106) fun _ h107 =>
    bnd (rec 57 [x0] h107) fun v108 h108 =>
    bnd (pNew [(.i .i64 (Int.ofNat 0)), (.s []), (.i .i64 (Int.ofNat 0)), .l0, .l0, .l0] h108) fun v109 h109 =>
    bnd (pStore 6 v109 v108 h109) fun _ h110 =>
    bnd (pField 5 x3 (resv 1 h110)) fun v111 h111 =>
    bnd (pLoad1 v111 h111) fun v112 h112 =>
    bnd (pLoadA 6 v109 h112) fun v113 h113 =>
    bnd (rec 58 [x0, v113] h113) fun v114 h114 =>
    cnd (sameR (pLoad1 v111 h114) v112 && true) (
    bnd (pBuildSliceAt (nthPos 0 h110.next) [(.i .i64 (Int.ofNat 0)), (.s []), (.i .i64 (Int.ofNat 0)), .l0, .l0, .l0] 1 [(0, 6, v114)] h114) fun v115 h115 =>
    bnd (pAppend 6 104 v112 v115 h115) fun v116 h116 =>
    bnd (pField 5 x3 h116) fun v117 h117 =>
    bnd (pStore 1 v117 v116 h117) fun v118 h118 =>
    bnd (pLoadA 6 x3 h118) fun v119 h119 =>
    bnd (pStore 6 x2 v119 h119) fun _ h120 =>
    bnd (pLoadA 6 x2 h120) fun v121 _ =>
    some (v121, h120))) (
    s61a4 rec n x0 x2 x3 h103)

noncomputable def s61a2 (rec : FuncId → List DV → Hp → Res) (n : Nat) (x0 x2 x3 : DV) (h0 : Hp) : Res :=
  bnd (rec 41 [x0, (.i .i64 (Int.ofNat 1)), (.s [])] h0) fun v179 h179 =>
  ifD v179 (
    bnd (rec 42 [x0] h179) fun v180 h180 =>
    bnd (pPart1 1 v180 h180) fun v181 h181 =>
    bnd (pField 1 x3 h181) fun v182 h182 =>
    bnd (pStore 1 v182 v181 h182) fun _ h183 =>
    bnd (pLoadA 6 x3 h183) fun v184 h184 =>
    bnd (pStore 6 x2 v184 h184) fun _ h185 =>
    bnd (pLoadA 6 x2 h185) fun v186 _ =>
    some (v186, h185)) (
    s61a3 rec n x0 x2 x3 h179)

noncomputable def s61a1 (rec : FuncId → List DV → Hp → Res) (n : Nat) (x0 x2 : DV) (h0 : Hp) : Res :=
  bnd (pBuild [(.i .i64 (Int.ofNat 0)), (.s []), (.i .i64 (Int.ofNat 0)), .l0, .l0, .l0] [(0, 1, (.i .i64 (Int.ofNat 7)))] h0) fun v195 h195 =>
  bnd (pNew [(.i .i64 (Int.ofNat 0)), (.s []), (.i .i64 (Int.ofNat 0)), .l0, .l0, .l0] h195) fun v196 h196 =>
  bnd (pStore 6 v196 v195 h196) fun _ h197 =>
  s61a2 rec n x0 x2 v196 h197

/-- vivariumref07.P).message -/
noncomputable def s61 (rec : FuncId → List DV → Hp → Res) (n : Nat) (x0 : DV) (h0 : Hp) : Res :=
  bnd (pNew [(.i .i64 (Int.ofNat 0)), (.s []), (.i .i64 (Int.ofNat 0)), .l0, .l0, .l0] h0) fun v207 h207 =>
  s61a1 rec n x0 v207 h207

noncomputable def D61 (rec : FuncId → List DV → Hp → Res) (n : Nat) (c : Code) (X : Nat → K) (k : K) : K := codeD CF rec 61 n c X (retK CF Try.f61) k

theorem s61a6e (rec : FuncId → List DV → Hp → Res) (n : Nat) : D61 rec n (cR (cR (cR (cR (cR (cR (cf Try.f61))))))) x0 (retK CF Try.f61) = (fun (env : Env) (h : Hp) => s61a6 rec n (env 2) (env 3) h) :=
  (by kernel_rfl)

theorem s61a7q1 (rec : FuncId → List DV → Hp → Res) (n : Nat) (kk7 : DV → DV → DV → Hp → Res) (q0 : DV → DV → Hp → Res) : D61 rec n (cL (cL (cL (cR (cR (cR (cR (cR (cf Try.f61))))))))) (xs x0 0 (fun (env : Env) (h : Hp) => q0 (env 2) (env 3) h)) (fun (env : Env) (h : Hp) => kk7 (env 0) (env 2) (env 3) h) = fun (env : Env) (h : Hp) =>
    bnd (rec 41 [(env 0), (.i .i64 (Int.ofNat 2)), (.s [])] h) fun v51 h51 =>
    ifD v51 (
      bnd (pField 1 (env 3) h51) fun v52 h52 =>
      bnd (pLoad1 v52 h52) fun v53 h53 =>
      bnd (rec 42 [(env 0)] h53) fun v54 h54 =>
      cnd (sameR (pLoad1 v52 h54) v53 && true) (
      bnd (pPart1 1 v54 h54) fun v55 h55 =>
      bnd (pStr .add v53 v55 h55) fun v56 h56 =>
      bnd (pField 1 (env 3) h56) fun v57 h57 =>
      bnd (pStore 1 v57 v56 h57) fun v58 h58 =>
      bnd (rec 57 [(env 0)] h58) fun v59 h59 =>
      bnd (pNew [(.i .i64 (Int.ofNat 0)), (.s []), (.i .i64 (Int.ofNat 0)), .l0, .l0, .l0] h59) fun v60 h60 =>
      bnd (pStore 6 v60 v59 h60) fun _ h61 =>
      bnd (pLoadA 6 v60 h61) fun v62 h62 =>
      bnd (rec 58 [(env 0), v62] h62) fun v63 h63 =>
      bnd (pStore 6 v60 v63 h63) fun _ h64 =>
      bnd (pField 5 (env 3) (resv 1 h64)) fun v65 h65 =>
      bnd (pLoad1 v65 h65) fun v66 h66 =>
      bnd (pLoadA 6 v60 h66) fun v67 h67 =>
      bnd (rec 59 [(env 0), v67] h67) fun v68 h68 =>
      cnd (sameR (pLoad1 v65 h68) v66 && true) (
      bnd (pBuildSliceAt (nthPos 0 h64.next) [(.i .i64 (Int.ofNat 0)), (.s []), (.i .i64 (Int.ofNat 0)), .l0, .l0, .l0] 1 [(0, 6, v68)] h68) fun v69 h69 =>
      bnd (pAppend 6 104 v66 v69 h69) fun v70 h70 =>
      bnd (pField 5 (env 3) h70) fun v71 h71 =>
      bnd (pStore 1 v71 v70 h71) fun v72 h72 =>
      kk7 (env 0) (env 2) (env 3) h72))) (
      q0 (env 2) (env 3) h51) := by kernel_rfl

theorem s61a7q1u (rec : FuncId → List DV → Hp → Res) (n : Nat) (kk7 : DV → DV → DV → Hp → Res) : (fun (env : Env) (h : Hp) =>
    bnd (rec 41 [(env 0), (.i .i64 (Int.ofNat 2)), (.s [])] h) fun v73 h73 =>
    ifD v73 (
      bnd (pField 1 (env 3) h73) fun v74 h74 =>
      bnd (pLoad1 v74 h74) fun v75 h75 =>
      bnd (rec 42 [(env 0)] h75) fun v76 h76 =>
      cnd (sameR (pLoad1 v74 h76) v75 && true) (
      bnd (pPart1 1 v76 h76) fun v77 h77 =>
      bnd (pStr .add v75 v77 h77) fun v78 h78 =>
      bnd (pField 1 (env 3) h78) fun v79 h79 =>
      bnd (pStore 1 v79 v78 h79) fun v80 h80 =>
      bnd (rec 57 [(env 0)] h80) fun v81 h81 =>
      bnd (pNew [(.i .i64 (Int.ofNat 0)), (.s []), (.i .i64 (Int.ofNat 0)), .l0, .l0, .l0] h81) fun v82 h82 =>
      bnd (pStore 6 v82 v81 h82) fun _ h83 =>
      bnd (pLoadA 6 v82 h83) fun v84 h84 =>
      bnd (rec 58 [(env 0), v84] h84) fun v85 h85 =>
      bnd (pStore 6 v82 v85 h85) fun _ h86 =>
      bnd (pField 5 (env 3) (resv 1 h86)) fun v87 h87 =>
      bnd (pLoad1 v87 h87) fun v88 h88 =>
      bnd (pLoadA 6 v82 h88) fun v89 h89 =>
      bnd (rec 59 [(env 0), v89] h89) fun v90 h90 =>
      cnd (sameR (pLoad1 v87 h90) v88 && true) (
      bnd (pBuildSliceAt (nthPos 0 h86.next) [(.i .i64 (Int.ofNat 0)), (.s []), (.i .i64 (Int.ofNat 0)), .l0, .l0, .l0] 1 [(0, 6, v90)] h90) fun v91 h91 =>
      bnd (pAppend 6 104 v88 v91 h91) fun v92 h92 =>
      bnd (pField 5 (env 3) h92) fun v93 h93 =>
      bnd (pStore 1 v93 v92 h93) fun v94 h94 =>
      kk7 (env 0) (env 2) (env 3) h94))) (
      s61a6 rec n (env 2) (env 3) h73)) = (fun (env : Env) (h : Hp) => s61a7b rec n kk7 (env 0) (env 2) (env 3) h) := by kernel_rfl

theorem s61a7be (rec : FuncId → List DV → Hp → Res) (n : Nat) (kk7 : DV → DV → DV → Hp → Res) : D61 rec n (cL (cL (cL (cR (cR (cR (cR (cR (cf Try.f61))))))))) (xs x0 0 (fun (env : Env) (h : Hp) => s61a6 rec n (env 2) (env 3) h)) (fun (env : Env) (h : Hp) => kk7 (env 0) (env 2) (env 3) h) = (fun (env : Env) (h : Hp) => s61a7b rec n kk7 (env 0) (env 2) (env 3) h) :=
  (s61a7q1 rec n kk7 (s61a6 rec n)).trans (s61a7q1u rec n kk7)

theorem s61a7le (rec : FuncId → List DV → Hp → Res) (n : Nat) (m : Nat) : loopN (fun kk => D61 rec n (cL (cL (cL (cR (cR (cR (cR (cR (cf Try.f61))))))))) (xs x0 0 (fun (env : Env) (h : Hp) => s61a6 rec n (env 2) (env 3) h)) kk) m = (fun (env : Env) (h : Hp) => s61a7l rec n m (env 0) (env 2) (env 3) h) := by
  induction m with
  | zero => exact (by kernel_rfl : loopN (fun kk => D61 rec n (cL (cL (cL (cR (cR (cR (cR (cR (cf Try.f61))))))))) (xs x0 0 (fun (env : Env) (h : Hp) => s61a6 rec n (env 2) (env 3) h)) kk) 0 = (fun (env : Env) (h : Hp) => s61a7l rec n 0 (env 0) (env 2) (env 3) h))
  | succ m ih =>
    refine (by kernel_rfl : loopN (fun kk => D61 rec n (cL (cL (cL (cR (cR (cR (cR (cR (cf Try.f61))))))))) (xs x0 0 (fun (env : Env) (h : Hp) => s61a6 rec n (env 2) (env 3) h)) kk) (m + 1) = D61 rec n (cL (cL (cL (cR (cR (cR (cR (cR (cf Try.f61))))))))) (xs x0 0 (fun (env : Env) (h : Hp) => s61a6 rec n (env 2) (env 3) h)) (loopN (fun kk => D61 rec n (cL (cL (cL (cR (cR (cR (cR (cR (cf Try.f61))))))))) (xs x0 0 (fun (env : Env) (h : Hp) => s61a6 rec n (env 2) (env 3) h)) kk) m)).trans ?_
    rw [ih]
    exact (s61a7be rec n (s61a7l rec n m)).trans (by kernel_rfl)

theorem s61a7e (rec : FuncId → List DV → Hp → Res) (n : Nat) : D61 rec n (cL (cL (cR (cR (cR (cR (cR (cf Try.f61)))))))) (xs x0 0 (fun (env : Env) (h : Hp) => s61a6 rec n (env 2) (env 3) h)) (fun (env : Env) (h : Hp) => s61a6 rec n (env 2) (env 3) h) = (fun (env : Env) (h : Hp) => s61a7 rec n (env 0) (env 2) (env 3) h) :=
  (by kernel_rfl : D61 rec n (cL (cL (cR (cR (cR (cR (cR (cf Try.f61)))))))) (xs x0 0 (fun (env : Env) (h : Hp) => s61a6 rec n (env 2) (env 3) h)) (fun (env : Env) (h : Hp) => s61a6 rec n (env 2) (env 3) h) = loopN (fun kk => D61 rec n (cL (cL (cL (cR (cR (cR (cR (cR (cf Try.f61))))))))) (xs x0 0 (fun (env : Env) (h : Hp) => s61a6 rec n (env 2) (env 3) h)) kk) n).trans ((s61a7le rec n n).trans (by kernel_rfl))

theorem s61a5p2 (rec : FuncId → List DV → Hp → Res) (n : Nat) : D61 rec n (cR (cR (cR (cR (cR (cf Try.f61)))))) x0 (retK CF Try.f61) = D61 rec n (cL (cR (cR (cR (cR (cR (cf Try.f61))))))) x0 (fun (env : Env) (h : Hp) => s61a6 rec n (env 2) (env 3) h) :=
  congrArg (fun k => D61 rec n (cL (cR (cR (cR (cR (cR (cf Try.f61))))))) x0 k) (s61a6e rec n)

theorem s61a5e (rec : FuncId → List DV → Hp → Res) (n : Nat) : D61 rec n (cR (cR (cR (cR (cR (cf Try.f61)))))) x0 (retK CF Try.f61) = (fun (env : Env) (h : Hp) => s61a5 rec n (env 0) (env 2) (env 3) h) :=
  (s61a5p2 rec n).trans
  ((by kernel_rfl : D61 rec n (cL (cR (cR (cR (cR (cR (cf Try.f61))))))) x0 (fun (env : Env) (h : Hp) => s61a6 rec n (env 2) (env 3) h) = D61 rec n (cL (cL (cR (cR (cR (cR (cR (cf Try.f61)))))))) (xs x0 0 (fun (env : Env) (h : Hp) => s61a6 rec n (env 2) (env 3) h)) (fun (env : Env) (h : Hp) => s61a6 rec n (env 2) (env 3) h)).trans
  ((s61a7e rec n).trans (by kernel_rfl)))

theorem s61a4p3 (rec : FuncId → List DV → Hp → Res) (n : Nat) : D61 rec n (cR (cR (cR (cR (cf Try.f61))))) x0 (retK CF Try.f61) = D61 rec n (cL (cR (cR (cR (cR (cf Try.f61)))))) x0 (fun (env : Env) (h : Hp) => s61a5 rec n (env 0) (env 2) (env 3) h) :=
  congrArg (fun k => D61 rec n (cL (cR (cR (cR (cR (cf Try.f61)))))) x0 k) (s61a5e rec n)

theorem s61a4e (rec : FuncId → List DV → Hp → Res) (n : Nat) : D61 rec n (cR (cR (cR (cR (cf Try.f61))))) x0 (retK CF Try.f61) = (fun (env : Env) (h : Hp) => s61a4 rec n (env 0) (env 2) (env 3) h) :=
  (s61a4p3 rec n).trans
  ((by kernel_rfl))

theorem s61a3p4 (rec : FuncId → List DV → Hp → Res) (n : Nat) : D61 rec n (cR (cR (cR (cf Try.f61)))) x0 (retK CF Try.f61) = D61 rec n (cL (cR (cR (cR (cf Try.f61))))) x0 (fun (env : Env) (h : Hp) => s61a4 rec n (env 0) (env 2) (env 3) h) :=
  congrArg (fun k => D61 rec n (cL (cR (cR (cR (cf Try.f61))))) x0 k) (s61a4e rec n)

theorem s61a3q5 (rec : FuncId → List DV → Hp → Res) (n : Nat) (q0 : DV → DV → DV → Hp → Res) : D61 rec n (cL (cR (cR (cR (cf Try.f61))))) x0 (fun (env : Env) (h : Hp) => q0 (env 0) (env 2) (env 3) h) = fun (env : Env) (h : Hp) =>
    bnd (rec 41 [(env 0), (.i .i64 (Int.ofNat 3)), (.s [])] h) fun v141 h141 =>
    ifD v141 (
      bnd (rec 42 [(env 0)] h141) fun v142 h142 =>
      bnd (pPart1 1 v142 h142) fun v143 h143 =>
      bnd (pField 1 (env 3) h143) fun v144 h144 =>
      bnd (pStore 1 v144 v143 h144) fun _ h145 =>
      bnd (rec 57 [(env 0)] h145) fun v146 h146 =>
      bnd (pNew [(.i .i64 (Int.ofNat 0)), (.s []), (.i .i64 (Int.ofNat 0)), .l0, .l0, .l0] h146) fun v147 h147 =>
      bnd (pStore 6 v147 v146 h147) fun _ h148 =>
      bnd (pField 5 (env 3) (resv 1 h148)) fun v149 h149 =>
      bnd (pLoad1 v149 h149) fun v150 h150 =>
      bnd (pLoadA 6 v147 h150) fun v151 h151 =>
      bnd (rec 58 [(env 0), v151] h151) fun v152 h152 =>
      cnd (sameR (pLoad1 v149 h152) v150 && true) (
      bnd (pBuildSliceAt (nthPos 0 h148.next) [(.i .i64 (Int.ofNat 0)), (.s []), (.i .i64 (Int.ofNat 0)), .l0, .l0, .l0] 1 [(0, 6, v152)] h152) fun v153 h153 =>
      bnd (pAppend 6 104 v150 v153 h153) fun v154 h154 =>
      bnd (pField 5 (env 3) h154) fun v155 h155 =>
      bnd (pStore 1 v155 v154 h155) fun v156 h156 =>
      bnd (pLoadA 6 (env 3) h156) fun v157 h157 =>
      bnd (pStore 6 (env 2) v157 h157) fun _ h158 =>
      bnd (pLoadA 6 (env 2) h158) fun v159 _ =>
      some (v159, h158))) (
      q0 (env 0) (env 2) (env 3) h141) := by kernel_rfl

theorem s61a3q5u (rec : FuncId → List DV → Hp → Res) (n : Nat) : (fun (env : Env) (h : Hp) =>
    bnd (rec 41 [(env 0), (.i .i64 (Int.ofNat 3)), (.s [])] h) fun v160 h160 =>
    ifD v160 (
      bnd (rec 42 [(env 0)] h160) fun v161 h161 =>
      bnd (pPart1 1 v161 h161) fun v162 h162 =>
      bnd (pField 1 (env 3) h162) fun v163 h163 =>
      bnd (pStore 1 v163 v162 h163) fun _ h164 =>
      bnd (rec 57 [(env 0)] h164) fun v165 h165 =>
      bnd (pNew [(.i .i64 (Int.ofNat 0)), (.s []), (.i .i64 (Int.ofNat 0)), .l0, .l0, .l0] h165) fun v166 h166 =>
      bnd (pStore 6 v166 v165 h166) fun _ h167 =>
      bnd (pField 5 (env 3) (resv 1 h167)) fun v168 h168 =>
      bnd (pLoad1 v168 h168) fun v169 h169 =>
      bnd (pLoadA 6 v166 h169) fun v170 h170 =>
      bnd (rec 58 [(env 0), v170] h170) fun v171 h171 =>
      cnd (sameR (pLoad1 v168 h171) v169 && true) (
      bnd (pBuildSliceAt (nthPos 0 h167.next) [(.i .i64 (Int.ofNat 0)), (.s []), (.i .i64 (Int.ofNat 0)), .l0, .l0, .l0] 1 [(0, 6, v171)] h171) fun v172 h172 =>
      bnd (pAppend 6 104 v169 v172 h172) fun v173 h173 =>
      bnd (pField 5 (env 3) h173) fun v174 h174 =>
      bnd (pStore 1 v174 v173 h174) fun v175 h175 =>
      bnd (pLoadA 6 (env 3) h175) fun v176 h176 =>
      bnd (pStore 6 (env 2) v176 h176) fun _ h177 =>
      bnd (pLoadA 6 (env 2) h177) fun v178 _ =>
      some (v178, h177))) (
      s61a4 rec n (env 0) (env 2) (env 3) h160)) = (fun (env : Env) (h : Hp) => s61a3 rec n (env 0) (env 2) (env 3) h) := by kernel_rfl

theorem s61a3e (rec : FuncId → List DV → Hp → Res) (n : Nat) : D61 rec n (cR (cR (cR (cf Try.f61)))) x0 (retK CF Try.f61) = (fun (env : Env) (h : Hp) => s61a3 rec n (env 0) (env 2) (env 3) h) :=
  (s61a3p4 rec n).trans
  ((s61a3q5 rec n (s61a4 rec n)).trans (s61a3q5u rec n))

theorem s61a2p6 (rec : FuncId → List DV → Hp → Res) (n : Nat) : D61 rec n (cR (cR (cf Try.f61))) x0 (retK CF Try.f61) = D61 rec n (cL (cR (cR (cf Try.f61)))) x0 (fun (env : Env) (h : Hp) => s61a3 rec n (env 0) (env 2) (env 3) h) :=
  congrArg (fun k => D61 rec n (cL (cR (cR (cf Try.f61)))) x0 k) (s61a3e rec n)

theorem s61a2e (rec : FuncId → List DV → Hp → Res) (n : Nat) : D61 rec n (cR (cR (cf Try.f61))) x0 (retK CF Try.f61) = (fun (env : Env) (h : Hp) => s61a2 rec n (env 0) (env 2) (env 3) h) :=
  (s61a2p6 rec n).trans
  ((by kernel_rfl))

theorem s61a1p7 (rec : FuncId → List DV → Hp → Res) (n : Nat) : D61 rec n (cR (cf Try.f61)) x0 (retK CF Try.f61) = D61 rec n (cL (cR (cf Try.f61))) x0 (fun (env : Env) (h : Hp) => s61a2 rec n (env 0) (env 2) (env 3) h) :=
  congrArg (fun k => D61 rec n (cL (cR (cf Try.f61))) x0 k) (s61a2e rec n)

theorem s61a1q8 (rec : FuncId → List DV → Hp → Res) (n : Nat) (q0 : DV → DV → DV → Hp → Res) : D61 rec n (cL (cR (cf Try.f61))) x0 (fun (env : Env) (h : Hp) => q0 (env 0) (env 2) (env 3) h) = fun (env : Env) (h : Hp) =>
    bnd (pBuild [(.i .i64 (Int.ofNat 0)), (.s []), (.i .i64 (Int.ofNat 0)), .l0, .l0, .l0] [(0, 1, (.i .i64 (Int.ofNat 7)))] h) fun v201 h201 =>
    bnd (pNew [(.i .i64 (Int.ofNat 0)), (.s []), (.i .i64 (Int.ofNat 0)), .l0, .l0, .l0] h201) fun v202 h202 =>
    bnd (pStore 6 v202 v201 h202) fun _ h203 =>
    q0 (env 0) (env 2) v202 h203 := by kernel_rfl

theorem s61a1q8u (rec : FuncId → List DV → Hp → Res) (n : Nat) : (fun (env : Env) (h : Hp) =>
    bnd (pBuild [(.i .i64 (Int.ofNat 0)), (.s []), (.i .i64 (Int.ofNat 0)), .l0, .l0, .l0] [(0, 1, (.i .i64 (Int.ofNat 7)))] h) fun v204 h204 =>
    bnd (pNew [(.i .i64 (Int.ofNat 0)), (.s []), (.i .i64 (Int.ofNat 0)), .l0, .l0, .l0] h204) fun v205 h205 =>
    bnd (pStore 6 v205 v204 h205) fun _ h206 =>
    s61a2 rec n (env 0) (env 2) v205 h206) = (fun (env : Env) (h : Hp) => s61a1 rec n (env 0) (env 2) h) := by kernel_rfl

theorem s61a1e (rec : FuncId → List DV → Hp → Res) (n : Nat) : D61 rec n (cR (cf Try.f61)) x0 (retK CF Try.f61) = (fun (env : Env) (h : Hp) => s61a1 rec n (env 0) (env 2) h) :=
  (s61a1p7 rec n).trans
  ((s61a1q8 rec n (s61a2 rec n)).trans (s61a1q8u rec n))

theorem s61p9 (rec : FuncId → List DV → Hp → Res) (n : Nat) : D61 rec n (cf Try.f61) x0 (retK CF Try.f61) = D61 rec n (cL (cf Try.f61)) x0 (fun (env : Env) (h : Hp) => s61a1 rec n (env 0) (env 2) h) :=
  congrArg (fun k => D61 rec n (cL (cf Try.f61)) x0 k) (s61a1e rec n)

theorem s61q10 (rec : FuncId → List DV → Hp → Res) (n : Nat) (q0 : DV → DV → Hp → Res) : D61 rec n (cL (cf Try.f61)) x0 (fun (env : Env) (h : Hp) => q0 (env 0) (env 2) h) = fun (env : Env) (h : Hp) =>
    bnd (pNew [(.i .i64 (Int.ofNat 0)), (.s []), (.i .i64 (Int.ofNat 0)), .l0, .l0, .l0] h) fun v209 h209 =>
    q0 (env 0) v209 h209 := by kernel_rfl

theorem s61q10u (rec : FuncId → List DV → Hp → Res) (n : Nat) : (fun (env : Env) (h : Hp) =>
    bnd (pNew [(.i .i64 (Int.ofNat 0)), (.s []), (.i .i64 (Int.ofNat 0)), .l0, .l0, .l0] h) fun v210 h210 =>
    s61a1 rec n (env 0) v210 h210) = (fun (env : Env) (h : Hp) => s61 rec n (env 0) h) := by kernel_rfl

theorem s61m (rec : FuncId → List DV → Hp → Res) (n : Nat) : D61 rec n (cf Try.f61) x0 (retK CF Try.f61) = (fun (env : Env) (h : Hp) => s61 rec n (env 0) h) :=
  (s61p9 rec n).trans
  ((s61q10 rec n (s61a1 rec n)).trans (s61q10u rec n))

theorem s61ok (rec : FuncId → List DV → Hp → Res) (n : Nat) (args : List DV) (h : Hp) : bodyD CF rec n 61 args h = s61 rec n (args.getD 0 undefD) h :=
  (by kernel_rfl : bodyD CF rec n 61 args h = D61 rec n (cf Try.f61) x0 (retK CF Try.f61) (argsE args) h).trans ((congrFun (congrFun (s61m rec n) (argsE args)) h).trans (by kernel_rfl))

/-- lex.in$1 -/
noncomputable def s62 (rec : FuncId → List DV → Hp → Res) (n : Nat) (x0 x1 : DV) (h0 : Hp) : Res :=
  bnd (pLoad1 x1 h0) fun v1 h1 =>
  bnd (rec 49 [v1, x0] h1) fun v2 h2 =>
  bnd (pInt .geq v2 (.i .i64 (Int.ofNat 0)) h2) fun v3 h3 =>
  some (v3, h3)

noncomputable def D62 (rec : FuncId → List DV → Hp → Res) (n : Nat) (c : Code) (X : Nat → K) (k : K) : K := codeD CF rec 8 n c X (retK CF Try.f62) k

theorem s62m (rec : FuncId → List DV → Hp → Res) (n : Nat) : D62 rec n (cf Try.f62) x0 (retK CF Try.f62) = (fun (env : Env) (h : Hp) => s62 rec n (env 0) (env 1) h) :=
  (by kernel_rfl)

theorem s62ok (rec : FuncId → List DV → Hp → Res) (n : Nat) (args : List DV) (h : Hp) : bodyD CF rec n 62 args h = s62 rec n (args.getD 0 undefD) (args.getD 1 undefD) h :=
  (by kernel_rfl : bodyD CF rec n 62 args h = D62 rec n (cf Try.f62) x0 (retK CF Try.f62) (argsE args) h).trans ((congrFun (congrFun (s62m rec n) (argsE args)) h).trans (by kernel_rfl))

/-- stringslite.IndexByte -/
noncomputable def s63 (rec : FuncId → List DV → Hp → Res) (n : Nat) (x0 x1 : DV) (h0 : Hp) : Res :=
  bnd (idxF [x0, x1] h0) fun v1 h1 =>
  some (v1, h1)

noncomputable def D63 (rec : FuncId → List DV → Hp → Res) (n : Nat) (c : Code) (X : Nat → K) (k : K) : K := codeD CF rec 8 n c X (retK CF Try.f63) k

theorem s63m (rec : FuncId → List DV → Hp → Res) (n : Nat) : D63 rec n (cf Try.f63) x0 (retK CF Try.f63) = (fun (env : Env) (h : Hp) => s63 rec n (env 0) (env 1) h) :=
  (by kernel_rfl)

theorem s63ok (rec : FuncId → List DV → Hp → Res) (n : Nat) (args : List DV) (h : Hp) : bodyD CF rec n 63 args h = s63 rec n (args.getD 0 undefD) (args.getD 1 undefD) h :=
  (by kernel_rfl : bodyD CF rec n 63 args h = D63 rec n (cf Try.f63) x0 (retK CF Try.f63) (argsE args) h).trans ((congrFun (congrFun (s63m rec n) (argsE args)) h).trans (by kernel_rfl))

/-- lex.reader).next -/
noncomputable def s64 (rec : FuncId → List DV → Hp → Res) (n : Nat) (x0 x1 : DV) (h0 : Hp) : Res :=
  bnd (pNil x0 h0) fun v1 h1 =>
  bnd (pField 1 v1 h1) fun v2 h2 =>
  bnd (pLoad1 v2 h2) fun v3 h3 =>
  bnd (pInt .add v3 x1 h3) fun v4 h4 =>
  bnd (pNil x0 h4) fun v5 h5 =>
  bnd (pField 0 v5 h5) fun v6 h6 =>
  bnd (pLoad1 v6 h6) fun v7 h7 =>
  bnd (pLenS v7 h7) fun v8 h8 =>
  bnd (pInt .geq v4 v8 h8) fun v9 h9 =>
  ifD v9 (
    some ((.i .u8 (Int.ofNat 0)), h9)) (
    bnd (pNil x0 h9) fun v10 h10 =>
    bnd (pField 0 v10 h10) fun v11 h11 =>
    bnd (pLoad1 v11 h11) fun v12 h12 =>
    bnd (pNil x0 h12) fun v13 h13 =>
    bnd (pField 1 v13 h13) fun v14 h14 =>
    bnd (pLoad1 v14 h14) fun v15 h15 =>
    bnd (pInt .add v15 x1 h15) fun v16 h16 =>
    bnd (pIndexS v12 v16 h16) fun v17 h17 =>
    some (v17, h17))

noncomputable def D64 (rec : FuncId → List DV → Hp → Res) (n : Nat) (c : Code) (X : Nat → K) (k : K) : K := codeD CF rec 28 n c X (retK CF Try.f64) k

theorem s64m (rec : FuncId → List DV → Hp → Res) (n : Nat) : D64 rec n (cf Try.f64) x0 (retK CF Try.f64) = (fun (env : Env) (h : Hp) => s64 rec n (env 0) (env 1) h) :=
  (by kernel_rfl)

theorem s64ok (rec : FuncId → List DV → Hp → Res) (n : Nat) (args : List DV) (h : Hp) : bodyD CF rec n 64 args h = s64 rec n (args.getD 0 undefD) (args.getD 1 undefD) h :=
  (by kernel_rfl : bodyD CF rec n 64 args h = D64 rec n (cf Try.f64) x0 (retK CF Try.f64) (argsE args) h).trans ((congrFun (congrFun (s64m rec n) (argsE args)) h).trans (by kernel_rfl))

/-- lex.letter -/
noncomputable def s65 (rec : FuncId → List DV → Hp → Res) (n : Nat) (x0 : DV) (h0 : Hp) : Res :=
  bnd (pInt .geq x0 (.i .u8 (Int.ofNat 97)) h0) fun v1 h1 =>
  bnd (gD v1 true (some (x0, h1)) h1) fun v2 h2 =>
  bnd (gD v1 true (pInt .leq v2 (.i .u8 (Int.ofNat 122)) h2) h2) fun v3 h3 =>
  bnd (pPick v1 v3 (.b false) h3) fun v4 h4 =>
  bnd (gD v4 false (some (x0, h4)) h4) fun v5 h5 =>
  bnd (gD v4 false (pInt .geq v5 (.i .u8 (Int.ofNat 65)) h5) h5) fun v6 h6 =>
  bnd (gD v4 false (some (v6, h6)) h6) fun v7 h7 =>
  bnd (gD v7 true (some (x0, h7)) h7) fun v8 h8 =>
  bnd (gD v7 true (pInt .leq v8 (.i .u8 (Int.ofNat 90)) h8) h8) fun v9 h9 =>
  bnd (gD v4 false (pPick v7 v9 (.b false) h9) h9) fun v10 h10 =>
  bnd (pPick v4 (.b true) v10 h10) fun v11 h11 =>
  some (v11, h11)

noncomputable def D65 (rec : FuncId → List DV → Hp → Res) (n : Nat) (c : Code) (X : Nat → K) (k : K) : K := codeD CF rec 17 n c X (retK CF Try.f65) k

theorem s65m (rec : FuncId → List DV → Hp → Res) (n : Nat) : D65 rec n (cf Try.f65) x0 (retK CF Try.f65) = (fun (env : Env) (h : Hp) => s65 rec n (env 0) h) :=
  (by kernel_rfl)

theorem s65ok (rec : FuncId → List DV → Hp → Res) (n : Nat) (args : List DV) (h : Hp) : bodyD CF rec n 65 args h = s65 rec n (args.getD 0 undefD) h :=
  (by kernel_rfl : bodyD CF rec n 65 args h = D65 rec n (cf Try.f65) x0 (retK CF Try.f65) (argsE args) h).trans ((congrFun (congrFun (s65m rec n) (argsE args)) h).trans (by kernel_rfl))

/-- lex.reader).name -/
noncomputable def s66 (rec : FuncId → List DV → Hp → Res) (n : Nat) (x0 : DV) (h0 : Hp) : Res :=
  bnd (pNil x0 h0) fun v1 h1 =>
  bnd (pField 0 v1 h1) fun v2 h2 =>
  bnd (pLoad1 v2 h2) fun v3 h3 =>
  bnd (pLenS v3 h3) fun v4 h4 =>
  bnd (rec 47 [x0, (.f 78 [] []), v4] h4) fun v5 h5 =>
  bnd (pLenS v5 h5) fun v6 h6 =>
  bnd (pInt .gtr v6 (.i .i64 (Int.ofNat 24)) h6) fun v7 h7 =>
  ifD v7 (
    some (.t [(.s []), (.i .i64 (Int.ofNat 12))], h7)) (
    some (.t [v5, (.i .i64 (Int.ofNat 0))], h7))

noncomputable def D66 (rec : FuncId → List DV → Hp → Res) (n : Nat) (c : Code) (X : Nat → K) (k : K) : K := codeD CF rec 16 n c X (retK CF Try.f66) k

theorem s66m (rec : FuncId → List DV → Hp → Res) (n : Nat) : D66 rec n (cf Try.f66) x0 (retK CF Try.f66) = (fun (env : Env) (h : Hp) => s66 rec n (env 0) h) :=
  (by kernel_rfl)

theorem s66ok (rec : FuncId → List DV → Hp → Res) (n : Nat) (args : List DV) (h : Hp) : bodyD CF rec n 66 args h = s66 rec n (args.getD 0 undefD) h :=
  (by kernel_rfl : bodyD CF rec n 66 args h = D66 rec n (cf Try.f66) x0 (retK CF Try.f66) (argsE args) h).trans ((congrFun (congrFun (s66m rec n) (argsE args)) h).trans (by kernel_rfl))

/-- lex.reader).colon -/
noncomputable def s67 (rec : FuncId → List DV → Hp → Res) (n : Nat) (x0 : DV) (h0 : Hp) : Res :=
  bnd (rec 64 [x0, (.i .i64 (Int.ofNat 0))] h0) fun v1 h1 =>
  bnd (pInt .neq v1 (.i .u8 (Int.ofNat 58)) h1) fun v2 h2 =>
  bnd (gD v2 false (some (x0, h2)) h2) fun v3 h3 =>
  bnd (gD v2 false (rec 64 [v3, (.i .i64 (Int.ofNat 1))] h3) h3) fun v4 h4 =>
  bnd (gD v2 false (pInt .eql v4 (.i .u8 (Int.ofNat 61)) h4) h4) fun v5 h5 =>
  bnd (pPick v2 (.b true) v5 h5) fun v6 h6 =>
  ifD v6 (
    some ((.b false), h6)) (
    bnd (pNil x0 h6) fun v7 h7 =>
    bnd (pField 1 v7 h7) fun v8 h8 =>
    bnd (pLoad1 v8 h8) fun v9 h9 =>
    bnd (pInt .add v9 (.i .i64 (Int.ofNat 1)) h9) fun v10 h10 =>
    bnd (pNil x0 h10) fun v11 h11 =>
    bnd (pField 1 v11 h11) fun v12 h12 =>
    bnd (pStore 1 v12 v10 h12) fun _ h13 =>
    some ((.b true), h13))

noncomputable def D67 (rec : FuncId → List DV → Hp → Res) (n : Nat) (c : Code) (X : Nat → K) (k : K) : K := codeD CF rec 18 n c X (retK CF Try.f67) k

theorem s67m (rec : FuncId → List DV → Hp → Res) (n : Nat) : D67 rec n (cf Try.f67) x0 (retK CF Try.f67) = (fun (env : Env) (h : Hp) => s67 rec n (env 0) h) :=
  (by kernel_rfl)

theorem s67ok (rec : FuncId → List DV → Hp → Res) (n : Nat) (args : List DV) (h : Hp) : bodyD CF rec n 67 args h = s67 rec n (args.getD 0 undefD) h :=
  (by kernel_rfl : bodyD CF rec n 67 args h = D67 rec n (cf Try.f67) x0 (retK CF Try.f67) (argsE args) h).trans ((congrFun (congrFun (s67m rec n) (argsE args)) h).trans (by kernel_rfl))

/-- lex.digit -/
noncomputable def s68 (rec : FuncId → List DV → Hp → Res) (n : Nat) (x0 : DV) (h0 : Hp) : Res :=
  bnd (pInt .geq x0 (.i .u8 (Int.ofNat 48)) h0) fun v1 h1 =>
  bnd (gD v1 true (some (x0, h1)) h1) fun v2 h2 =>
  bnd (gD v1 true (pInt .leq v2 (.i .u8 (Int.ofNat 57)) h2) h2) fun v3 h3 =>
  bnd (pPick v1 v3 (.b false) h3) fun v4 h4 =>
  some (v4, h4)

noncomputable def D68 (rec : FuncId → List DV → Hp → Res) (n : Nat) (c : Code) (X : Nat → K) (k : K) : K := codeD CF rec 9 n c X (retK CF Try.f68) k

theorem s68m (rec : FuncId → List DV → Hp → Res) (n : Nat) : D68 rec n (cf Try.f68) x0 (retK CF Try.f68) = (fun (env : Env) (h : Hp) => s68 rec n (env 0) h) :=
  (by kernel_rfl)

theorem s68ok (rec : FuncId → List DV → Hp → Res) (n : Nat) (args : List DV) (h : Hp) : bodyD CF rec n 68 args h = s68 rec n (args.getD 0 undefD) h :=
  (by kernel_rfl : bodyD CF rec n 68 args h = D68 rec n (cf Try.f68) x0 (retK CF Try.f68) (argsE args) h).trans ((congrFun (congrFun (s68m rec n) (argsE args)) h).trans (by kernel_rfl))

noncomputable def s69a3 (rec : FuncId → List DV → Hp → Res) (n : Nat) (x4 : DV) (h0 : Hp) : Res :=
  some (.t [x4, (.i .i64 (Int.ofNat 0))], h0)

noncomputable def s69a5b (rec : FuncId → List DV → Hp → Res) (n : Nat) (kk5 : DV → DV → Hp → Res) (x4 x14 : DV) (h0 : Hp) : Res :=
    bnd (pNext x14 h0) fun v1 h1 =>
    bnd (pExtract 0 v1 h1) fun v2 h2 =>
    ifD v2 (
      bnd (pExtract 2 v1 h2) fun v3 h3 =>
      bnd (pInt .gtr x4 (.i .i64 (Int.ofNat 115292150460684697)) h3) fun v4 h4 =>
      ifD v4 (
        some (.t [(.i .i64 (Int.ofNat 0)), (.i .i64 (Int.ofNat 2))], h4)) (
        bnd (pInt .mul x4 (.i .i64 (Int.ofNat 10)) h4) fun v5 h5 =>
        bnd (pInt .sub v3 (.i .i32 (Int.ofNat 48)) h5) fun v6 h6 =>
        bnd (pConvI .i64 v6 h6) fun v7 h7 =>
        bnd (pInt .add v5 v7 h7) fun v8 h8 =>
        bnd (pInt .gtr v8 (.i .i64 (Int.ofNat 1152921504606846976)) h8) fun v9 h9 =>
        ifD v9 (
          some (.t [(.i .i64 (Int.ofNat 0)), (.i .i64 (Int.ofNat 2))], h9)) (
          kk5 v8 x14 h9))) (
      s69a3 rec n x4 h2)

noncomputable def s69a5l (rec : FuncId → List DV → Hp → Res) (n : Nat) (m : Nat) : DV → DV → Hp → Res :=
  Nat.rec (motive := fun _ => DV → DV → Hp → Res) (fun _ _ _ => none) (fun _ ih => s69a5b rec n ih) m

noncomputable def s69a5 (rec : FuncId → List DV → Hp → Res) (n : Nat) : DV → DV → Hp → Res := s69a5l rec n n

noncomputable def s69a4 (rec : FuncId → List DV → Hp → Res) (n : Nat) (x4 x14 : DV) (h0 : Hp) : Res :=
  s69a5 rec n x4 x14 h0

noncomputable def s69a2 (rec : FuncId → List DV → Hp → Res) (n : Nat) (x0 x4 : DV) (h0 : Hp) : Res :=
  bnd (pNil x0 h0) fun v19 h19 =>
  bnd (pField 0 v19 h19) fun v20 h20 =>
  bnd (pLoad1 v20 h20) fun v21 h21 =>
  bnd (pLenS v21 h21) fun v22 h22 =>
  bnd (rec 47 [x0, (.f 68 [] []), v22] h22) fun v23 h23 =>
  bnd (pRange v23 h23) fun v24 h24 =>
  s69a4 rec n x4 v24 h24

noncomputable def s69a1 (rec : FuncId → List DV → Hp → Res) (n : Nat) (x0 : DV) (h0 : Hp) : Res :=
  s69a2 rec n x0 (.i .i64 (Int.ofNat 0)) h0

/-- lex.reader).number -/
noncomputable def s69 (rec : FuncId → List DV → Hp → Res) (n : Nat) (x0 : DV) (h0 : Hp) : Res :=
  s69a1 rec n x0 h0

noncomputable def D69 (rec : FuncId → List DV → Hp → Res) (n : Nat) (c : Code) (X : Nat → K) (k : K) : K := codeD CF rec 29 n c X (retK CF Try.f69) k

theorem s69a3e (rec : FuncId → List DV → Hp → Res) (n : Nat) : D69 rec n (cR (cR (cR (cf Try.f69)))) x0 (retK CF Try.f69) = (fun (env : Env) (h : Hp) => s69a3 rec n (env 4) h) :=
  (by kernel_rfl)

theorem s69a5be (rec : FuncId → List DV → Hp → Res) (n : Nat) (kk5 : DV → DV → Hp → Res) : D69 rec n (cL (cL (cR (cL (cR (cR (cf Try.f69))))))) (xs x0 0 (fun (env : Env) (h : Hp) => s69a3 rec n (env 4) h)) (fun (env : Env) (h : Hp) => kk5 (env 4) (env 14) h) = (fun (env : Env) (h : Hp) => s69a5b rec n kk5 (env 4) (env 14) h) :=
  (by kernel_rfl)

theorem s69a5le (rec : FuncId → List DV → Hp → Res) (n : Nat) (m : Nat) : loopN (fun kk => D69 rec n (cL (cL (cR (cL (cR (cR (cf Try.f69))))))) (xs x0 0 (fun (env : Env) (h : Hp) => s69a3 rec n (env 4) h)) kk) m = (fun (env : Env) (h : Hp) => s69a5l rec n m (env 4) (env 14) h) := by
  induction m with
  | zero => exact (by kernel_rfl : loopN (fun kk => D69 rec n (cL (cL (cR (cL (cR (cR (cf Try.f69))))))) (xs x0 0 (fun (env : Env) (h : Hp) => s69a3 rec n (env 4) h)) kk) 0 = (fun (env : Env) (h : Hp) => s69a5l rec n 0 (env 4) (env 14) h))
  | succ m ih =>
    refine (by kernel_rfl : loopN (fun kk => D69 rec n (cL (cL (cR (cL (cR (cR (cf Try.f69))))))) (xs x0 0 (fun (env : Env) (h : Hp) => s69a3 rec n (env 4) h)) kk) (m + 1) = D69 rec n (cL (cL (cR (cL (cR (cR (cf Try.f69))))))) (xs x0 0 (fun (env : Env) (h : Hp) => s69a3 rec n (env 4) h)) (loopN (fun kk => D69 rec n (cL (cL (cR (cL (cR (cR (cf Try.f69))))))) (xs x0 0 (fun (env : Env) (h : Hp) => s69a3 rec n (env 4) h)) kk) m)).trans ?_
    rw [ih]
    exact (s69a5be rec n (s69a5l rec n m)).trans (by kernel_rfl)

theorem s69a5e (rec : FuncId → List DV → Hp → Res) (n : Nat) : D69 rec n (cL (cR (cL (cR (cR (cf Try.f69)))))) (xs x0 0 (fun (env : Env) (h : Hp) => s69a3 rec n (env 4) h)) (fun (env : Env) (h : Hp) => s69a3 rec n (env 4) h) = (fun (env : Env) (h : Hp) => s69a5 rec n (env 4) (env 14) h) :=
  (by kernel_rfl : D69 rec n (cL (cR (cL (cR (cR (cf Try.f69)))))) (xs x0 0 (fun (env : Env) (h : Hp) => s69a3 rec n (env 4) h)) (fun (env : Env) (h : Hp) => s69a3 rec n (env 4) h) = loopN (fun kk => D69 rec n (cL (cL (cR (cL (cR (cR (cf Try.f69))))))) (xs x0 0 (fun (env : Env) (h : Hp) => s69a3 rec n (env 4) h)) kk) n).trans ((s69a5le rec n n).trans (by kernel_rfl))

theorem s69a4e (rec : FuncId → List DV → Hp → Res) (n : Nat) : D69 rec n (cR (cL (cR (cR (cf Try.f69))))) x0 (fun (env : Env) (h : Hp) => s69a3 rec n (env 4) h) = (fun (env : Env) (h : Hp) => s69a4 rec n (env 4) (env 14) h) :=
  (by kernel_rfl : D69 rec n (cR (cL (cR (cR (cf Try.f69))))) x0 (fun (env : Env) (h : Hp) => s69a3 rec n (env 4) h) = D69 rec n (cL (cR (cL (cR (cR (cf Try.f69)))))) (xs x0 0 (fun (env : Env) (h : Hp) => s69a3 rec n (env 4) h)) (fun (env : Env) (h : Hp) => s69a3 rec n (env 4) h)).trans
  ((s69a5e rec n).trans (by kernel_rfl))

theorem s69a2p1 (rec : FuncId → List DV → Hp → Res) (n : Nat) : D69 rec n (cR (cR (cf Try.f69))) x0 (retK CF Try.f69) = D69 rec n (cL (cR (cR (cf Try.f69)))) x0 (fun (env : Env) (h : Hp) => s69a3 rec n (env 4) h) :=
  congrArg (fun k => D69 rec n (cL (cR (cR (cf Try.f69)))) x0 k) (s69a3e rec n)

theorem s69a2p2 (rec : FuncId → List DV → Hp → Res) (n : Nat) : D69 rec n (cL (cR (cR (cf Try.f69)))) x0 (fun (env : Env) (h : Hp) => s69a3 rec n (env 4) h) = D69 rec n (cL (cL (cR (cR (cf Try.f69))))) x0 (fun (env : Env) (h : Hp) => s69a4 rec n (env 4) (env 14) h) :=
  congrArg (fun k => D69 rec n (cL (cL (cR (cR (cf Try.f69))))) x0 k) (s69a4e rec n)

theorem s69a2e (rec : FuncId → List DV → Hp → Res) (n : Nat) : D69 rec n (cR (cR (cf Try.f69))) x0 (retK CF Try.f69) = (fun (env : Env) (h : Hp) => s69a2 rec n (env 0) (env 4) h) :=
  (s69a2p1 rec n).trans
  ((s69a2p2 rec n).trans
  ((by kernel_rfl)))

theorem s69a1p3 (rec : FuncId → List DV → Hp → Res) (n : Nat) : D69 rec n (cR (cf Try.f69)) x0 (retK CF Try.f69) = D69 rec n (cL (cR (cf Try.f69))) x0 (fun (env : Env) (h : Hp) => s69a2 rec n (env 0) (env 4) h) :=
  congrArg (fun k => D69 rec n (cL (cR (cf Try.f69))) x0 k) (s69a2e rec n)

theorem s69a1e (rec : FuncId → List DV → Hp → Res) (n : Nat) : D69 rec n (cR (cf Try.f69)) x0 (retK CF Try.f69) = (fun (env : Env) (h : Hp) => s69a1 rec n (env 0) h) :=
  (s69a1p3 rec n).trans
  ((by kernel_rfl))

theorem s69p4 (rec : FuncId → List DV → Hp → Res) (n : Nat) : D69 rec n (cf Try.f69) x0 (retK CF Try.f69) = D69 rec n (cL (cf Try.f69)) x0 (fun (env : Env) (h : Hp) => s69a1 rec n (env 0) h) :=
  congrArg (fun k => D69 rec n (cL (cf Try.f69)) x0 k) (s69a1e rec n)

theorem s69m (rec : FuncId → List DV → Hp → Res) (n : Nat) : D69 rec n (cf Try.f69) x0 (retK CF Try.f69) = (fun (env : Env) (h : Hp) => s69 rec n (env 0) h) :=
  (s69p4 rec n).trans
  ((by kernel_rfl))

theorem s69ok (rec : FuncId → List DV → Hp → Res) (n : Nat) (args : List DV) (h : Hp) : bodyD CF rec n 69 args h = s69 rec n (args.getD 0 undefD) h :=
  (by kernel_rfl : bodyD CF rec n 69 args h = D69 rec n (cf Try.f69) x0 (retK CF Try.f69) (argsE args) h).trans ((congrFun (congrFun (s69m rec n) (argsE args)) h).trans (by kernel_rfl))

noncomputable def s70a3b (rec : FuncId → List DV → Hp → Res) (n : Nat) (kk3 : DV → DV → Hp → Res) (x0 x4 : DV) (h0 : Hp) : Res :=
    bnd (pNil x0 h0) fun v1 h1 =>
    bnd (pField 0 v1 h1) fun v2 h2 =>
    bnd (pLoad1 v2 h2) fun v3 h3 =>
    bnd (pLenS v3 h3) fun v4 h4 =>
    bnd (rec 47 [x0, (.f 79 [] []), v4] h4) fun v5 h5 =>
    bnd (pStr .add x4 v5 h5) fun v6 h6 =>
    bnd (pNil x0 h6) fun v7 h7 =>
    bnd (pField 1 v7 h7) fun v8 h8 =>
    bnd (pLoad1 v8 h8) fun v9 h9 =>
    bnd (pNil x0 h9) fun v10 h10 =>
    bnd (pField 0 v10 h10) fun v11 h11 =>
    bnd (pLoad1 v11 h11) fun v12 h12 =>
    bnd (pLenS v12 h12) fun v13 h13 =>
    bnd (pInt .geq v9 v13 h13) fun v14 h14 =>
    ifD v14 (
      some (.t [(.s []), (.i .i64 (Int.ofNat 11))], h14)) (
      bnd (pNil x0 h14) fun v15 h15 =>
      bnd (pField 1 v15 h15) fun v16 h16 =>
      bnd (pLoad1 v16 h16) fun v17 h17 =>
      bnd (pInt .add v17 (.i .i64 (Int.ofNat 1)) h17) fun v18 h18 =>
      bnd (pNil x0 h18) fun v19 h19 =>
      bnd (pField 1 v19 h19) fun v20 h20 =>
      bnd (pStore 1 v20 v18 h20) fun _ h21 =>
      bnd (rec 64 [x0, (.i .i64 (Int.ofNat 0))] h21) fun v22 h22 =>
      bnd (pInt .neq v22 (.i .u8 (Int.ofNat 39)) h22) fun v23 h23 =>
      ifD v23 (
        some (.t [v6, (.i .i64 (Int.ofNat 0))], h23)) (
        bnd (pStr .add v6 (.s [39]) h23) fun v24 h24 =>
        bnd (pNil x0 h24) fun v25 h25 =>
        bnd (pField 1 v25 h25) fun v26 h26 =>
        bnd (pLoad1 v26 h26) fun v27 h27 =>
        bnd (pInt .add v27 (.i .i64 (Int.ofNat 1)) h27) fun v28 h28 =>
        bnd (pNil x0 h28) fun v29 h29 =>
        bnd (pField 1 v29 h29) fun v30 h30 =>
        bnd (pStore 1 v30 v28 h30) fun _ h31 =>
        kk3 x0 v24 h31))

noncomputable def s70a3l (rec : FuncId → List DV → Hp → Res) (n : Nat) (m : Nat) : DV → DV → Hp → Res :=
  Nat.rec (motive := fun _ => DV → DV → Hp → Res) (fun _ _ _ => none) (fun _ ih => s70a3b rec n ih) m

noncomputable def s70a3 (rec : FuncId → List DV → Hp → Res) (n : Nat) : DV → DV → Hp → Res := s70a3l rec n n

noncomputable def s70a2 (rec : FuncId → List DV → Hp → Res) (n : Nat) (x0 x4 : DV) (h0 : Hp) : Res :=
  s70a3 rec n x0 x4 h0

noncomputable def s70a1 (rec : FuncId → List DV → Hp → Res) (n : Nat) (x0 : DV) (h0 : Hp) : Res :=
  s70a2 rec n x0 (.s []) h0

/-- lex.reader).text -/
noncomputable def s70 (rec : FuncId → List DV → Hp → Res) (n : Nat) (x0 : DV) (h0 : Hp) : Res :=
  s70a1 rec n x0 h0

noncomputable def D70 (rec : FuncId → List DV → Hp → Res) (n : Nat) (c : Code) (X : Nat → K) (k : K) : K := codeD CF rec 44 n c X (retK CF Try.f70) k

theorem s70a3be (rec : FuncId → List DV → Hp → Res) (n : Nat) (kk3 : DV → DV → Hp → Res) : D70 rec n (cL (cL (cR (cR (cf Try.f70))))) (xs x0 0 (retK CF Try.f70)) (fun (env : Env) (h : Hp) => kk3 (env 0) (env 4) h) = (fun (env : Env) (h : Hp) => s70a3b rec n kk3 (env 0) (env 4) h) :=
  (by kernel_rfl)

theorem s70a3le (rec : FuncId → List DV → Hp → Res) (n : Nat) (m : Nat) : loopN (fun kk => D70 rec n (cL (cL (cR (cR (cf Try.f70))))) (xs x0 0 (retK CF Try.f70)) kk) m = (fun (env : Env) (h : Hp) => s70a3l rec n m (env 0) (env 4) h) := by
  induction m with
  | zero => exact (by kernel_rfl : loopN (fun kk => D70 rec n (cL (cL (cR (cR (cf Try.f70))))) (xs x0 0 (retK CF Try.f70)) kk) 0 = (fun (env : Env) (h : Hp) => s70a3l rec n 0 (env 0) (env 4) h))
  | succ m ih =>
    refine (by kernel_rfl : loopN (fun kk => D70 rec n (cL (cL (cR (cR (cf Try.f70))))) (xs x0 0 (retK CF Try.f70)) kk) (m + 1) = D70 rec n (cL (cL (cR (cR (cf Try.f70))))) (xs x0 0 (retK CF Try.f70)) (loopN (fun kk => D70 rec n (cL (cL (cR (cR (cf Try.f70))))) (xs x0 0 (retK CF Try.f70)) kk) m)).trans ?_
    rw [ih]
    exact (s70a3be rec n (s70a3l rec n m)).trans (by kernel_rfl)

theorem s70a3e (rec : FuncId → List DV → Hp → Res) (n : Nat) : D70 rec n (cL (cR (cR (cf Try.f70)))) (xs x0 0 (retK CF Try.f70)) (retK CF Try.f70) = (fun (env : Env) (h : Hp) => s70a3 rec n (env 0) (env 4) h) :=
  (by kernel_rfl : D70 rec n (cL (cR (cR (cf Try.f70)))) (xs x0 0 (retK CF Try.f70)) (retK CF Try.f70) = loopN (fun kk => D70 rec n (cL (cL (cR (cR (cf Try.f70))))) (xs x0 0 (retK CF Try.f70)) kk) n).trans ((s70a3le rec n n).trans (by kernel_rfl))

theorem s70a2e (rec : FuncId → List DV → Hp → Res) (n : Nat) : D70 rec n (cR (cR (cf Try.f70))) x0 (retK CF Try.f70) = (fun (env : Env) (h : Hp) => s70a2 rec n (env 0) (env 4) h) :=
  (by kernel_rfl : D70 rec n (cR (cR (cf Try.f70))) x0 (retK CF Try.f70) = D70 rec n (cL (cR (cR (cf Try.f70)))) (xs x0 0 (retK CF Try.f70)) (retK CF Try.f70)).trans
  ((s70a3e rec n).trans (by kernel_rfl))

theorem s70a1p1 (rec : FuncId → List DV → Hp → Res) (n : Nat) : D70 rec n (cR (cf Try.f70)) x0 (retK CF Try.f70) = D70 rec n (cL (cR (cf Try.f70))) x0 (fun (env : Env) (h : Hp) => s70a2 rec n (env 0) (env 4) h) :=
  congrArg (fun k => D70 rec n (cL (cR (cf Try.f70))) x0 k) (s70a2e rec n)

theorem s70a1e (rec : FuncId → List DV → Hp → Res) (n : Nat) : D70 rec n (cR (cf Try.f70)) x0 (retK CF Try.f70) = (fun (env : Env) (h : Hp) => s70a1 rec n (env 0) h) :=
  (s70a1p1 rec n).trans
  ((by kernel_rfl))

theorem s70p2 (rec : FuncId → List DV → Hp → Res) (n : Nat) : D70 rec n (cf Try.f70) x0 (retK CF Try.f70) = D70 rec n (cL (cf Try.f70)) x0 (fun (env : Env) (h : Hp) => s70a1 rec n (env 0) h) :=
  congrArg (fun k => D70 rec n (cL (cf Try.f70)) x0 k) (s70a1e rec n)

theorem s70m (rec : FuncId → List DV → Hp → Res) (n : Nat) : D70 rec n (cf Try.f70) x0 (retK CF Try.f70) = (fun (env : Env) (h : Hp) => s70 rec n (env 0) h) :=
  (s70p2 rec n).trans
  ((by kernel_rfl))

theorem s70ok (rec : FuncId → List DV → Hp → Res) (n : Nat) (args : List DV) (h : Hp) : bodyD CF rec n 70 args h = s70 rec n (args.getD 0 undefD) h :=
  (by kernel_rfl : bodyD CF rec n 70 args h = D70 rec n (cf Try.f70) x0 (retK CF Try.f70) (argsE args) h).trans ((congrFun (congrFun (s70m rec n) (argsE args)) h).trans (by kernel_rfl))

noncomputable def s71a7 (rec : FuncId → List DV → Hp → Res) (n : Nat) (x5 : DV) (h0 : Hp) : Res :=
  some (.t [x5, (.i .i64 (Int.ofNat 0))], h0)

noncomputable def s71a8b (rec : FuncId → List DV → Hp → Res) (n : Nat) (kk8 : DV → DV → Hp → Res) (x0 x5 : DV) (h0 : Hp) : Res :=
    bnd (rec 64 [x0, (.i .i64 (Int.ofNat 0))] h0) fun v1 h1 =>
    bnd (rec 65 [v1] h1) fun v2 h2 =>
    ifD v2 (
      bnd (pNil x0 h2) fun v3 h3 =>
      bnd (pField 1 v3 h3) fun v4 h4 =>
      bnd (pLoad1 v4 h4) fun v5 h5 =>
      bnd (rec 66 [x0] h5) fun v6 h6 =>
      bnd (pExtract 0 v6 h6) fun v7 h7 =>
      bnd (pExtract 1 v6 h7) fun v8 h8 =>
      bnd (rec 67 [x0] h8) fun v9 h9 =>
      bnd (pUn .not v9 h9) fun v10 h10 =>
      ifD v10 (
        bnd (pNil x0 h10) fun v11 h11 =>
        bnd (pField 1 v11 h11) fun v12 h12 =>
        bnd (pStore 1 v12 v5 h12) fun _ h13 =>
        some (.t [x5, (.i .i64 (Int.ofNat 0))], h13)) (
        bnd (pInt .neq v8 (.i .i64 (Int.ofNat 0)) h10) fun v14 h14 =>
        ifD v14 (
          some (.t [(.s []), v8], h14)) (
          bnd (pStr .add v7 (.s [58]) h14) fun v15 h15 =>
          bnd (pStr .add x5 v15 h15) fun v16 h16 =>
          kk8 x0 v16 h16))) (
      s71a7 rec n x5 h2)

noncomputable def s71a8l (rec : FuncId → List DV → Hp → Res) (n : Nat) (m : Nat) : DV → DV → Hp → Res :=
  Nat.rec (motive := fun _ => DV → DV → Hp → Res) (fun _ _ _ => none) (fun _ ih => s71a8b rec n ih) m

noncomputable def s71a8 (rec : FuncId → List DV → Hp → Res) (n : Nat) : DV → DV → Hp → Res := s71a8l rec n n

noncomputable def s71a6 (rec : FuncId → List DV → Hp → Res) (n : Nat) (x0 x5 : DV) (h0 : Hp) : Res :=
  s71a8 rec n x0 x5 h0

noncomputable def s71a5 (rec : FuncId → List DV → Hp → Res) (n : Nat) (x0 x5 : DV) (h0 : Hp) : Res :=
  bnd (pStr .add x5 (.s [58]) h0) fun v33 h33 =>
  s71a6 rec n x0 v33 h33

noncomputable def s71a4 (rec : FuncId → List DV → Hp → Res) (n : Nat) (x0 x5 x6 : DV) (h0 : Hp) : Res :=
  bnd (pInt .neq x6 (.i .i64 (Int.ofNat 0)) h0) fun v35 h35 =>
  bnd (gD v35 false (some (x0, h35)) h35) fun v36 h36 =>
  bnd (gD v35 false (rec 67 [v36] h36) h36) fun v37 h37 =>
  bnd (gD v35 false (pUn .not v37 h37) h37) fun v38 h38 =>
  bnd (pPick v35 (.b true) v38 h38) fun v39 h39 =>
  ifD v39 (
    some (.t [x5, x6], h39)) (
    s71a5 rec n x0 x5 h39)

noncomputable def s71a3 (rec : FuncId → List DV → Hp → Res) (n : Nat) (x0 : DV) (h0 : Hp) : Res :=
  bnd (rec 66 [x0] h0) fun v45 h45 =>
  bnd (pExtract 0 v45 h45) fun v46 h46 =>
  bnd (pExtract 1 v45 h46) fun v47 h47 =>
  s71a4 rec n x0 v46 v47 h47

noncomputable def s71a2 (rec : FuncId → List DV → Hp → Res) (n : Nat) (x0 : DV) (h0 : Hp) : Res :=
  bnd (rec 64 [x0, (.i .i64 (Int.ofNat 0))] h0) fun v51 h51 =>
  bnd (rec 65 [v51] h51) fun v52 h52 =>
  bnd (pUn .not v52 h52) fun v53 h53 =>
  ifD v53 (
    some (.t [(.s []), (.i .i64 (Int.ofNat 10))], h53)) (
    s71a3 rec n x0 h53)

noncomputable def s71a1 (rec : FuncId → List DV → Hp → Res) (n : Nat) (x0 : DV) (h0 : Hp) : Res :=
  bnd (rec 48 [(.s [43, 45, 42, 47, 60, 62, 61, 126, 44, 64, 38, 37])] h0) fun v57 h57 =>
  bnd (rec 47 [x0, v57, (.i .i64 (Int.ofNat 2))] h57) fun v58 h58 =>
  bnd (pStr .neq v58 (.s []) h58) fun v59 h59 =>
  ifD v59 (
    some (.t [v58, (.i .i64 (Int.ofNat 0))], h59)) (
    s71a2 rec n x0 h59)

/-- lex.reader).symbol -/
noncomputable def s71 (rec : FuncId → List DV → Hp → Res) (n : Nat) (x0 : DV) (h0 : Hp) : Res :=
  s71a1 rec n x0 h0

noncomputable def D71 (rec : FuncId → List DV → Hp → Res) (n : Nat) (c : Code) (X : Nat → K) (k : K) : K := codeD CF rec 64 n c X (retK CF Try.f71) k

theorem s71a7e (rec : FuncId → List DV → Hp → Res) (n : Nat) : D71 rec n (cR (cR (cR (cR (cR (cR (cR (cf Try.f71)))))))) x0 (retK CF Try.f71) = (fun (env : Env) (h : Hp) => s71a7 rec n (env 5) h) :=
  (by kernel_rfl)

theorem s71a8be (rec : FuncId → List DV → Hp → Res) (n : Nat) (kk8 : DV → DV → Hp → Res) : D71 rec n (cL (cL (cL (cR (cR (cR (cR (cR (cR (cf Try.f71)))))))))) (xs x0 0 (fun (env : Env) (h : Hp) => s71a7 rec n (env 5) h)) (fun (env : Env) (h : Hp) => kk8 (env 0) (env 5) h) = (fun (env : Env) (h : Hp) => s71a8b rec n kk8 (env 0) (env 5) h) :=
  (by kernel_rfl)

theorem s71a8le (rec : FuncId → List DV → Hp → Res) (n : Nat) (m : Nat) : loopN (fun kk => D71 rec n (cL (cL (cL (cR (cR (cR (cR (cR (cR (cf Try.f71)))))))))) (xs x0 0 (fun (env : Env) (h : Hp) => s71a7 rec n (env 5) h)) kk) m = (fun (env : Env) (h : Hp) => s71a8l rec n m (env 0) (env 5) h) := by
  induction m with
  | zero => exact (by kernel_rfl : loopN (fun kk => D71 rec n (cL (cL (cL (cR (cR (cR (cR (cR (cR (cf Try.f71)))))))))) (xs x0 0 (fun (env : Env) (h : Hp) => s71a7 rec n (env 5) h)) kk) 0 = (fun (env : Env) (h : Hp) => s71a8l rec n 0 (env 0) (env 5) h))
  | succ m ih =>
    refine (by kernel_rfl : loopN (fun kk => D71 rec n (cL (cL (cL (cR (cR (cR (cR (cR (cR (cf Try.f71)))))))))) (xs x0 0 (fun (env : Env) (h : Hp) => s71a7 rec n (env 5) h)) kk) (m + 1) = D71 rec n (cL (cL (cL (cR (cR (cR (cR (cR (cR (cf Try.f71)))))))))) (xs x0 0 (fun (env : Env) (h : Hp) => s71a7 rec n (env 5) h)) (loopN (fun kk => D71 rec n (cL (cL (cL (cR (cR (cR (cR (cR (cR (cf Try.f71)))))))))) (xs x0 0 (fun (env : Env) (h : Hp) => s71a7 rec n (env 5) h)) kk) m)).trans ?_
    rw [ih]
    exact (s71a8be rec n (s71a8l rec n m)).trans (by kernel_rfl)

theorem s71a8e (rec : FuncId → List DV → Hp → Res) (n : Nat) : D71 rec n (cL (cL (cR (cR (cR (cR (cR (cR (cf Try.f71))))))))) (xs x0 0 (fun (env : Env) (h : Hp) => s71a7 rec n (env 5) h)) (fun (env : Env) (h : Hp) => s71a7 rec n (env 5) h) = (fun (env : Env) (h : Hp) => s71a8 rec n (env 0) (env 5) h) :=
  (by kernel_rfl : D71 rec n (cL (cL (cR (cR (cR (cR (cR (cR (cf Try.f71))))))))) (xs x0 0 (fun (env : Env) (h : Hp) => s71a7 rec n (env 5) h)) (fun (env : Env) (h : Hp) => s71a7 rec n (env 5) h) = loopN (fun kk => D71 rec n (cL (cL (cL (cR (cR (cR (cR (cR (cR (cf Try.f71)))))))))) (xs x0 0 (fun (env : Env) (h : Hp) => s71a7 rec n (env 5) h)) kk) n).trans ((s71a8le rec n n).trans (by kernel_rfl))

theorem s71a6p1 (rec : FuncId → List DV → Hp → Res) (n : Nat) : D71 rec n (cR (cR (cR (cR (cR (cR (cf Try.f71))))))) x0 (retK CF Try.f71) = D71 rec n (cL (cR (cR (cR (cR (cR (cR (cf Try.f71)))))))) x0 (fun (env : Env) (h : Hp) => s71a7 rec n (env 5) h) :=
  congrArg (fun k => D71 rec n (cL (cR (cR (cR (cR (cR (cR (cf Try.f71)))))))) x0 k) (s71a7e rec n)

theorem s71a6e (rec : FuncId → List DV → Hp → Res) (n : Nat) : D71 rec n (cR (cR (cR (cR (cR (cR (cf Try.f71))))))) x0 (retK CF Try.f71) = (fun (env : Env) (h : Hp) => s71a6 rec n (env 0) (env 5) h) :=
  (s71a6p1 rec n).trans
  ((by kernel_rfl : D71 rec n (cL (cR (cR (cR (cR (cR (cR (cf Try.f71)))))))) x0 (fun (env : Env) (h : Hp) => s71a7 rec n (env 5) h) = D71 rec n (cL (cL (cR (cR (cR (cR (cR (cR (cf Try.f71))))))))) (xs x0 0 (fun (env : Env) (h : Hp) => s71a7 rec n (env 5) h)) (fun (env : Env) (h : Hp) => s71a7 rec n (env 5) h)).trans
  ((s71a8e rec n).trans (by kernel_rfl)))

theorem s71a5p2 (rec : FuncId → List DV → Hp → Res) (n : Nat) : D71 rec n (cR (cR (cR (cR (cR (cf Try.f71)))))) x0 (retK CF Try.f71) = D71 rec n (cL (cR (cR (cR (cR (cR (cf Try.f71))))))) x0 (fun (env : Env) (h : Hp) => s71a6 rec n (env 0) (env 5) h) :=
  congrArg (fun k => D71 rec n (cL (cR (cR (cR (cR (cR (cf Try.f71))))))) x0 k) (s71a6e rec n)

theorem s71a5e (rec : FuncId → List DV → Hp → Res) (n : Nat) : D71 rec n (cR (cR (cR (cR (cR (cf Try.f71)))))) x0 (retK CF Try.f71) = (fun (env : Env) (h : Hp) => s71a5 rec n (env 0) (env 5) h) :=
  (s71a5p2 rec n).trans
  ((by kernel_rfl))

theorem s71a4p3 (rec : FuncId → List DV → Hp → Res) (n : Nat) : D71 rec n (cR (cR (cR (cR (cf Try.f71))))) x0 (retK CF Try.f71) = D71 rec n (cL (cR (cR (cR (cR (cf Try.f71)))))) x0 (fun (env : Env) (h : Hp) => s71a5 rec n (env 0) (env 5) h) :=
  congrArg (fun k => D71 rec n (cL (cR (cR (cR (cR (cf Try.f71)))))) x0 k) (s71a5e rec n)

theorem s71a4e (rec : FuncId → List DV → Hp → Res) (n : Nat) : D71 rec n (cR (cR (cR (cR (cf Try.f71))))) x0 (retK CF Try.f71) = (fun (env : Env) (h : Hp) => s71a4 rec n (env 0) (env 5) (env 6) h) :=
  (s71a4p3 rec n).trans
  ((by kernel_rfl))

theorem s71a3p4 (rec : FuncId → List DV → Hp → Res) (n : Nat) : D71 rec n (cR (cR (cR (cf Try.f71)))) x0 (retK CF Try.f71) = D71 rec n (cL (cR (cR (cR (cf Try.f71))))) x0 (fun (env : Env) (h : Hp) => s71a4 rec n (env 0) (env 5) (env 6) h) :=
  congrArg (fun k => D71 rec n (cL (cR (cR (cR (cf Try.f71))))) x0 k) (s71a4e rec n)

theorem s71a3e (rec : FuncId → List DV → Hp → Res) (n : Nat) : D71 rec n (cR (cR (cR (cf Try.f71)))) x0 (retK CF Try.f71) = (fun (env : Env) (h : Hp) => s71a3 rec n (env 0) h) :=
  (s71a3p4 rec n).trans
  ((by kernel_rfl))

theorem s71a2p5 (rec : FuncId → List DV → Hp → Res) (n : Nat) : D71 rec n (cR (cR (cf Try.f71))) x0 (retK CF Try.f71) = D71 rec n (cL (cR (cR (cf Try.f71)))) x0 (fun (env : Env) (h : Hp) => s71a3 rec n (env 0) h) :=
  congrArg (fun k => D71 rec n (cL (cR (cR (cf Try.f71)))) x0 k) (s71a3e rec n)

theorem s71a2e (rec : FuncId → List DV → Hp → Res) (n : Nat) : D71 rec n (cR (cR (cf Try.f71))) x0 (retK CF Try.f71) = (fun (env : Env) (h : Hp) => s71a2 rec n (env 0) h) :=
  (s71a2p5 rec n).trans
  ((by kernel_rfl))

theorem s71a1p6 (rec : FuncId → List DV → Hp → Res) (n : Nat) : D71 rec n (cR (cf Try.f71)) x0 (retK CF Try.f71) = D71 rec n (cL (cR (cf Try.f71))) x0 (fun (env : Env) (h : Hp) => s71a2 rec n (env 0) h) :=
  congrArg (fun k => D71 rec n (cL (cR (cf Try.f71))) x0 k) (s71a2e rec n)

theorem s71a1e (rec : FuncId → List DV → Hp → Res) (n : Nat) : D71 rec n (cR (cf Try.f71)) x0 (retK CF Try.f71) = (fun (env : Env) (h : Hp) => s71a1 rec n (env 0) h) :=
  (s71a1p6 rec n).trans
  ((by kernel_rfl))

theorem s71p7 (rec : FuncId → List DV → Hp → Res) (n : Nat) : D71 rec n (cf Try.f71) x0 (retK CF Try.f71) = D71 rec n (cL (cf Try.f71)) x0 (fun (env : Env) (h : Hp) => s71a1 rec n (env 0) h) :=
  congrArg (fun k => D71 rec n (cL (cf Try.f71)) x0 k) (s71a1e rec n)

theorem s71m (rec : FuncId → List DV → Hp → Res) (n : Nat) : D71 rec n (cf Try.f71) x0 (retK CF Try.f71) = (fun (env : Env) (h : Hp) => s71 rec n (env 0) h) :=
  (s71p7 rec n).trans
  ((by kernel_rfl))

theorem s71ok (rec : FuncId → List DV → Hp → Res) (n : Nat) (args : List DV) (h : Hp) : bodyD CF rec n 71 args h = s71 rec n (args.getD 0 undefD) h :=
  (by kernel_rfl : bodyD CF rec n 71 args h = D71 rec n (cf Try.f71) x0 (retK CF Try.f71) (argsE args) h).trans ((congrFun (congrFun (s71m rec n) (argsE args)) h).trans (by kernel_rfl))

noncomputable def s72a6 (rec : FuncId → List DV → Hp → Res) (n : Nat) (x2 x4 : DV) (h0 : Hp) : Res :=
  bnd (pLoadA 6 x4 h0) fun v1 h1 =>
  bnd (pStore 6 x2 v1 h1) fun _ h2 =>
  bnd (pLoadA 6 x2 h2) fun v3 _ =>
  some (v3, h2)

noncomputable def s72a7b (rec : FuncId → List DV → Hp → Res) (n : Nat) (kk7 : DV → DV → DV → Hp → Res) (x0 x2 x4 : DV) (h0 : Hp) : Res :=
    bnd (rec 51 [x0, (.i .i64 (Int.ofNat 10)), (.s [59])] h0) fun v7 h7 =>
    ifD v7 (
      bnd (rec 52 [x0] h7) fun v8 h8 =>
      bnd (pField 5 x4 (resv 1 h8)) fun v9 h9 =>
      bnd (pLoad1 v9 h9) fun v10 h10 =>
      bnd (rec 85 [x0] h10) fun v11 h11 =>
      cnd (sameR (pLoad1 v9 h11) v10 && true) (
      bnd (rec 84 [v11] h11) fun v12 h12 =>
      cnd (sameR (pLoad1 v9 h12) v10 && true) (
      bnd (pBuildSliceAt (nthPos 0 h8.next) [(.i .i64 (Int.ofNat 0)), (.s []), (.i .i64 (Int.ofNat 0)), .l0, .l0, .l0] 1 [(0, 6, v12)] h12) fun v13 h13 =>
      bnd (pAppend 6 104 v10 v13 h13) fun v14 h14 =>
      bnd (pField 5 x4 h14) fun v15 h15 =>
      bnd (pStore 1 v15 v14 h15) fun v16 h16 =>
      kk7 x0 x2 x4 h16))) (
      s72a6 rec n x2 x4 h7)

noncomputable def s72a7l (rec : FuncId → List DV → Hp → Res) (n : Nat) (m : Nat) : DV → DV → DV → Hp → Res :=
  Nat.rec (motive := fun _ => DV → DV → DV → Hp → Res) (fun _ _ _ _ => none) (fun _ ih => s72a7b rec n ih) m

noncomputable def s72a7 (rec : FuncId → List DV → Hp → Res) (n : Nat) : DV → DV → DV → Hp → Res := s72a7l rec n n

noncomputable def s72a5 (rec : FuncId → List DV → Hp → Res) (n : Nat) (x0 x2 x4 : DV) (h0 : Hp) : Res :=
  s72a7 rec n x0 x2 x4 h0

noncomputable def s72a4 (rec : FuncId → List DV → Hp → Res) (n : Nat) (x0 x2 x3 : DV) (h0 : Hp) : Res :=
  bnd (pField 5 x3 (resv 2 h0)) fun v47 h47 =>
  bnd (pLoad1 v47 h47) fun v48 h48 =>
  bnd (pIndexAddr 6 v48 (.i .i64 (Int.ofNat 0)) h48) fun v49 h49 =>
  bnd (pLoadA 6 v49 h49) fun v50 h50 =>
  bnd (pLoadA 6 x3 h50) fun v51 h51 =>
  bnd (rec 84 [v51] h51) fun v52 h52 =>
  cnd (sameR (pLoadA 6 v49 h52) v50 && (sameR (pLoad1 v47 h52) v48 && true)) (
  bnd (pBuildSliceAt (nthPos 0 h0.next) [(.i .i64 (Int.ofNat 0)), (.s []), (.i .i64 (Int.ofNat 0)), .l0, .l0, .l0, (.i .i64 (Int.ofNat 0)), (.s []), (.i .i64 (Int.ofNat 0)), .l0, .l0, .l0] 2 [(0, 6, v50), (6, 6, v52)] h52) fun v53 h53 =>
  bnd (pBuild [(.i .i64 (Int.ofNat 0)), (.s []), (.i .i64 (Int.ofNat 0)), .l0, .l0, .l0] [(0, 1, (.i .i64 (Int.ofNat 8))), (5, 1, v53)] h53) fun v54 h54 =>
  bnd (pNewAt (nthPos 1 h0.next) [(.i .i64 (Int.ofNat 0)), (.s []), (.i .i64 (Int.ofNat 0)), .l0, .l0, .l0] h54) fun v55 h55 =>
  bnd (pStore 6 v55 v54 h55) fun v56 h56 =>
  s72a5 rec n x0 x2 v55 h56)

noncomputable def s72a3 (rec : FuncId → List DV → Hp → Res) (n : Nat) (x0 x2 x3 : DV) (h0 : Hp) : Res :=
  bnd (pField 0 x3 h0) fun v87 h87 =>
  bnd (pLoad1 v87 h87) fun v88 h88 =>
  bnd (pInt .neq v88 (.i .i64 (Int.ofNat 7)) h88) fun v89 h89 =>
  ifD v89 (
    bnd (rec 55 [x0, (.i .i64 (Int.ofNat 0))] h89) fun v90 h90 =>
    bnd (rec 54 [x0, v90, (.i .i64 (Int.ofNat 13))] h90) fun v91 h91 =>
    bnd (pLoadA 6 x3 h91) fun v92 h92 =>
    bnd (pStore 6 x2 v92 h92) fun _ h93 =>
    bnd (pLoadA 6 x2 h93) fun v94 _ =>
    some (v94, h93)) (
    s72a4 rec n x0 x2 x3 h89)

noncomputable def s72a2 (rec : FuncId → List DV → Hp → Res) (n : Nat) (x0 x2 x3 : DV) (h0 : Hp) : Res :=
  bnd (rec 51 [x0, (.i .i64 (Int.ofNat 10)), (.s [59])] h0) fun v103 h103 =>
  bnd (pUn .not v103 h103) fun v104 h104 =>
  ifD v104 (
    bnd (pLoadA 6 x3 h104) fun v105 h105 =>
    bnd (pStore 6 x2 v105 h105) fun _ h106 =>
    bnd (pLoadA 6 x2 h106) fun v107 _ =>
    some (v107, h106)) (
    s72a3 rec n x0 x2 x3 h104)

noncomputable def s72a1 (rec : FuncId → List DV → Hp → Res) (n : Nat) (x0 x2 : DV) (h0 : Hp) : Res :=
  bnd (rec 83 [x0] h0) fun v113 h113 =>
  bnd (rec 82 [x0, v113] h113) fun v114 h114 =>
  bnd (rec 81 [x0, v114] h114) fun v115 h115 =>
  bnd (rec 80 [x0, v115] h115) fun v116 h116 =>
  bnd (pNew [(.i .i64 (Int.ofNat 0)), (.s []), (.i .i64 (Int.ofNat 0)), .l0, .l0, .l0] h116) fun v117 h117 =>
  bnd (pStore 6 v117 v116 h117) fun _ h118 =>
  s72a2 rec n x0 x2 v117 h118

/-- parse.parser).cascade -/
noncomputable def s72 (rec : FuncId → List DV → Hp → Res) (n : Nat) (x0 : DV) (h0 : Hp) : Res :=
  bnd (pNew [(.i .i64 (Int.ofNat 0)), (.s []), (.i .i64 (Int.ofNat 0)), .l0, .l0, .l0] h0) fun v137 h137 =>
  s72a1 rec n x0 v137 h137

noncomputable def D72 (rec : FuncId → List DV → Hp → Res) (n : Nat) (c : Code) (X : Nat → K) (k : K) : K := codeD CF rec 46 n c X (retK CF Try.f72) k

theorem s72a6e (rec : FuncId → List DV → Hp → Res) (n : Nat) : D72 rec n (cR (cR (cR (cR (cR (cR (cf Try.f72))))))) x0 (retK CF Try.f72) = (fun (env : Env) (h : Hp) => s72a6 rec n (env 2) (env 4) h) :=
  (by kernel_rfl)

theorem s72a7q1 (rec : FuncId → List DV → Hp → Res) (n : Nat) (kk7 : DV → DV → DV → Hp → Res) (q0 : DV → DV → Hp → Res) : D72 rec n (cL (cL (cL (cR (cR (cR (cR (cR (cf Try.f72))))))))) (xs x0 0 (fun (env : Env) (h : Hp) => q0 (env 2) (env 4) h)) (fun (env : Env) (h : Hp) => kk7 (env 0) (env 2) (env 4) h) = fun (env : Env) (h : Hp) =>
    bnd (rec 51 [(env 0), (.i .i64 (Int.ofNat 10)), (.s [59])] h) fun v27 h27 =>
    ifD v27 (
      bnd (rec 52 [(env 0)] h27) fun v28 h28 =>
      bnd (pField 5 (env 4) (resv 1 h28)) fun v29 h29 =>
      bnd (pLoad1 v29 h29) fun v30 h30 =>
      bnd (rec 85 [(env 0)] h30) fun v31 h31 =>
      cnd (sameR (pLoad1 v29 h31) v30 && true) (
      bnd (rec 84 [v31] h31) fun v32 h32 =>
      cnd (sameR (pLoad1 v29 h32) v30 && true) (
      bnd (pBuildSliceAt (nthPos 0 h28.next) [(.i .i64 (Int.ofNat 0)), (.s []), (.i .i64 (Int.ofNat 0)), .l0, .l0, .l0] 1 [(0, 6, v32)] h32) fun v33 h33 =>
      bnd (pAppend 6 104 v30 v33 h33) fun v34 h34 =>
      bnd (pField 5 (env 4) h34) fun v35 h35 =>
      bnd (pStore 1 v35 v34 h35) fun v36 h36 =>
      kk7 (env 0) (env 2) (env 4) h36))) (
      q0 (env 2) (env 4) h27) := by kernel_rfl

theorem s72a7q1u (rec : FuncId → List DV → Hp → Res) (n : Nat) (kk7 : DV → DV → DV → Hp → Res) : (fun (env : Env) (h : Hp) =>
    bnd (rec 51 [(env 0), (.i .i64 (Int.ofNat 10)), (.s [59])] h) fun v37 h37 =>
    ifD v37 (
      bnd (rec 52 [(env 0)] h37) fun v38 h38 =>
      bnd (pField 5 (env 4) (resv 1 h38)) fun v39 h39 =>
      bnd (pLoad1 v39 h39) fun v40 h40 =>
      bnd (rec 85 [(env 0)] h40) fun v41 h41 =>
      cnd (sameR (pLoad1 v39 h41) v40 && true) (
      bnd (rec 84 [v41] h41) fun v42 h42 =>
      cnd (sameR (pLoad1 v39 h42) v40 && true) (
      bnd (pBuildSliceAt (nthPos 0 h38.next) [(.i .i64 (Int.ofNat 0)), (.s []), (.i .i64 (Int.ofNat 0)), .l0, .l0, .l0] 1 [(0, 6, v42)] h42) fun v43 h43 =>
      bnd (pAppend 6 104 v40 v43 h43) fun v44 h44 =>
      bnd (pField 5 (env 4) h44) fun v45 h45 =>
      bnd (pStore 1 v45 v44 h45) fun v46 h46 =>
      kk7 (env 0) (env 2) (env 4) h46))) (
      s72a6 rec n (env 2) (env 4) h37)) = (fun (env : Env) (h : Hp) => s72a7b rec n kk7 (env 0) (env 2) (env 4) h) := by kernel_rfl

theorem s72a7be (rec : FuncId → List DV → Hp → Res) (n : Nat) (kk7 : DV → DV → DV → Hp → Res) : D72 rec n (cL (cL (cL (cR (cR (cR (cR (cR (cf Try.f72))))))))) (xs x0 0 (fun (env : Env) (h : Hp) => s72a6 rec n (env 2) (env 4) h)) (fun (env : Env) (h : Hp) => kk7 (env 0) (env 2) (env 4) h) = (fun (env : Env) (h : Hp) => s72a7b rec n kk7 (env 0) (env 2) (env 4) h) :=
  (s72a7q1 rec n kk7 (s72a6 rec n)).trans (s72a7q1u rec n kk7)

theorem s72a7le (rec : FuncId → List DV → Hp → Res) (n : Nat) (m : Nat) : loopN (fun kk => D72 rec n (cL (cL (cL (cR (cR (cR (cR (cR (cf Try.f72))))))))) (xs x0 0 (fun (env : Env) (h : Hp) => s72a6 rec n (env 2) (env 4) h)) kk) m = (fun (env : Env) (h : Hp) => s72a7l rec n m (env 0) (env 2) (env 4) h) := by
  induction m with
  | zero => exact (by kernel_rfl : loopN (fun kk => D72 rec n (cL (cL (cL (cR (cR (cR (cR (cR (cf Try.f72))))))))) (xs x0 0 (fun (env : Env) (h : Hp) => s72a6 rec n (env 2) (env 4) h)) kk) 0 = (fun (env : Env) (h : Hp) => s72a7l rec n 0 (env 0) (env 2) (env 4) h))
  | succ m ih =>
    refine (by kernel_rfl : loopN (fun kk => D72 rec n (cL (cL (cL (cR (cR (cR (cR (cR (cf Try.f72))))))))) (xs x0 0 (fun (env : Env) (h : Hp) => s72a6 rec n (env 2) (env 4) h)) kk) (m + 1) = D72 rec n (cL (cL (cL (cR (cR (cR (cR (cR (cf Try.f72))))))))) (xs x0 0 (fun (env : Env) (h : Hp) => s72a6 rec n (env 2) (env 4) h)) (loopN (fun kk => D72 rec n (cL (cL (cL (cR (cR (cR (cR (cR (cf Try.f72))))))))) (xs x0 0 (fun (env : Env) (h : Hp) => s72a6 rec n (env 2) (env 4) h)) kk) m)).trans ?_
    rw [ih]
    exact (s72a7be rec n (s72a7l rec n m)).trans (by kernel_rfl)

theorem s72a7e (rec : FuncId → List DV → Hp → Res) (n : Nat) : D72 rec n (cL (cL (cR (cR (cR (cR (cR (cf Try.f72)))))))) (xs x0 0 (fun (env : Env) (h : Hp) => s72a6 rec n (env 2) (env 4) h)) (fun (env : Env) (h : Hp) => s72a6 rec n (env 2) (env 4) h) = (fun (env : Env) (h : Hp) => s72a7 rec n (env 0) (env 2) (env 4) h) :=
  (by kernel_rfl : D72 rec n (cL (cL (cR (cR (cR (cR (cR (cf Try.f72)))))))) (xs x0 0 (fun (env : Env) (h : Hp) => s72a6 rec n (env 2) (env 4) h)) (fun (env : Env) (h : Hp) => s72a6 rec n (env 2) (env 4) h) = loopN (fun kk => D72 rec n (cL (cL (cL (cR (cR (cR (cR (cR (cf Try.f72))))))))) (xs x0 0 (fun (env : Env) (h : Hp) => s72a6 rec n (env 2) (env 4) h)) kk) n).trans ((s72a7le rec n n).trans (by kernel_rfl))

theorem s72a5p2 (rec : FuncId → List DV → Hp → Res) (n : Nat) : D72 rec n (cR (cR (cR (cR (cR (cf Try.f72)))))) x0 (retK CF Try.f72) = D72 rec n (cL (cR (cR (cR (cR (cR (cf Try.f72))))))) x0 (fun (env : Env) (h : Hp) => s72a6 rec n (env 2) (env 4) h) :=
  congrArg (fun k => D72 rec n (cL (cR (cR (cR (cR (cR (cf Try.f72))))))) x0 k) (s72a6e rec n)

theorem s72a5e (rec : FuncId → List DV → Hp → Res) (n : Nat) : D72 rec n (cR (cR (cR (cR (cR (cf Try.f72)))))) x0 (retK CF Try.f72) = (fun (env : Env) (h : Hp) => s72a5 rec n (env 0) (env 2) (env 4) h) :=
  (s72a5p2 rec n).trans
  ((by kernel_rfl : D72 rec n (cL (cR (cR (cR (cR (cR (cf Try.f72))))))) x0 (fun (env : Env) (h : Hp) => s72a6 rec n (env 2) (env 4) h) = D72 rec n (cL (cL (cR (cR (cR (cR (cR (cf Try.f72)))))))) (xs x0 0 (fun (env : Env) (h : Hp) => s72a6 rec n (env 2) (env 4) h)) (fun (env : Env) (h : Hp) => s72a6 rec n (env 2) (env 4) h)).trans
  ((s72a7e rec n).trans (by kernel_rfl)))

theorem s72a4p3 (rec : FuncId → List DV → Hp → Res) (n : Nat) : D72 rec n (cR (cR (cR (cR (cf Try.f72))))) x0 (retK CF Try.f72) = D72 rec n (cL (cR (cR (cR (cR (cf Try.f72)))))) x0 (fun (env : Env) (h : Hp) => s72a5 rec n (env 0) (env 2) (env 4) h) :=
  congrArg (fun k => D72 rec n (cL (cR (cR (cR (cR (cf Try.f72)))))) x0 k) (s72a5e rec n)

theorem s72a4q4 (rec : FuncId → List DV → Hp → Res) (n : Nat) (q0 : DV → DV → DV → Hp → Res) : D72 rec n (cL (cR (cR (cR (cR (cf Try.f72)))))) x0 (fun (env : Env) (h : Hp) => q0 (env 0) (env 2) (env 4) h) = fun (env : Env) (h : Hp) =>
    bnd (pField 5 (env 3) (resv 2 h)) fun v67 h67 =>
    bnd (pLoad1 v67 h67) fun v68 h68 =>
    bnd (pIndexAddr 6 v68 (.i .i64 (Int.ofNat 0)) h68) fun v69 h69 =>
    bnd (pLoadA 6 v69 h69) fun v70 h70 =>
    bnd (pLoadA 6 (env 3) h70) fun v71 h71 =>
    bnd (rec 84 [v71] h71) fun v72 h72 =>
    cnd (sameR (pLoadA 6 v69 h72) v70 && (sameR (pLoad1 v67 h72) v68 && true)) (
    bnd (pBuildSliceAt (nthPos 0 h.next) [(.i .i64 (Int.ofNat 0)), (.s []), (.i .i64 (Int.ofNat 0)), .l0, .l0, .l0, (.i .i64 (Int.ofNat 0)), (.s []), (.i .i64 (Int.ofNat 0)), .l0, .l0, .l0] 2 [(0, 6, v70), (6, 6, v72)] h72) fun v73 h73 =>
    bnd (pBuild [(.i .i64 (Int.ofNat 0)), (.s []), (.i .i64 (Int.ofNat 0)), .l0, .l0, .l0] [(0, 1, (.i .i64 (Int.ofNat 8))), (5, 1, v73)] h73) fun v74 h74 =>
    bnd (pNewAt (nthPos 1 h.next) [(.i .i64 (Int.ofNat 0)), (.s []), (.i .i64 (Int.ofNat 0)), .l0, .l0, .l0] h74) fun v75 h75 =>
    bnd (pStore 6 v75 v74 h75) fun v76 h76 =>
    q0 (env 0) (env 2) v75 h76) := by kernel_rfl

theorem s72a4q4u (rec : FuncId → List DV → Hp → Res) (n : Nat) : (fun (env : Env) (h : Hp) =>
    bnd (pField 5 (env 3) (resv 2 h)) fun v77 h77 =>
    bnd (pLoad1 v77 h77) fun v78 h78 =>
    bnd (pIndexAddr 6 v78 (.i .i64 (Int.ofNat 0)) h78) fun v79 h79 =>
    bnd (pLoadA 6 v79 h79) fun v80 h80 =>
    bnd (pLoadA 6 (env 3) h80) fun v81 h81 =>
    bnd (rec 84 [v81] h81) fun v82 h82 =>
    cnd (sameR (pLoadA 6 v79 h82) v80 && (sameR (pLoad1 v77 h82) v78 && true)) (
    bnd (pBuildSliceAt (nthPos 0 h.next) [(.i .i64 (Int.ofNat 0)), (.s []), (.i .i64 (Int.ofNat 0)), .l0, .l0, .l0, (.i .i64 (Int.ofNat 0)), (.s []), (.i .i64 (Int.ofNat 0)), .l0, .l0, .l0] 2 [(0, 6, v80), (6, 6, v82)] h82) fun v83 h83 =>
    bnd (pBuild [(.i .i64 (Int.ofNat 0)), (.s []), (.i .i64 (Int.ofNat 0)), .l0, .l0, .l0] [(0, 1, (.i .i64 (Int.ofNat 8))), (5, 1, v83)] h83) fun v84 h84 =>
    bnd (pNewAt (nthPos 1 h.next) [(.i .i64 (Int.ofNat 0)), (.s []), (.i .i64 (Int.ofNat 0)), .l0, .l0, .l0] h84) fun v85 h85 =>
    bnd (pStore 6 v85 v84 h85) fun v86 h86 =>
    s72a5 rec n (env 0) (env 2) v85 h86)) = (fun (env : Env) (h : Hp) => s72a4 rec n (env 0) (env 2) (env 3) h) := by kernel_rfl

theorem s72a4e (rec : FuncId → List DV → Hp → Res) (n : Nat) : D72 rec n (cR (cR (cR (cR (cf Try.f72))))) x0 (retK CF Try.f72) = (fun (env : Env) (h : Hp) => s72a4 rec n (env 0) (env 2) (env 3) h) :=
  (s72a4p3 rec n).trans
  ((s72a4q4 rec n (s72a5 rec n)).trans (s72a4q4u rec n))

theorem s72a3p5 (rec : FuncId → List DV → Hp → Res) (n : Nat) : D72 rec n (cR (cR (cR (cf Try.f72)))) x0 (retK CF Try.f72) = D72 rec n (cL (cR (cR (cR (cf Try.f72))))) x0 (fun (env : Env) (h : Hp) => s72a4 rec n (env 0) (env 2) (env 3) h) :=
  congrArg (fun k => D72 rec n (cL (cR (cR (cR (cf Try.f72))))) x0 k) (s72a4e rec n)

theorem s72a3e (rec : FuncId → List DV → Hp → Res) (n : Nat) : D72 rec n (cR (cR (cR (cf Try.f72)))) x0 (retK CF Try.f72) = (fun (env : Env) (h : Hp) => s72a3 rec n (env 0) (env 2) (env 3) h) :=
  (s72a3p5 rec n).trans
  ((by kernel_rfl))

theorem s72a2p6 (rec : FuncId → List DV → Hp → Res) (n : Nat) : D72 rec n (cR (cR (cf Try.f72))) x0 (retK CF Try.f72) = D72 rec n (cL (cR (cR (cf Try.f72)))) x0 (fun (env : Env) (h : Hp) => s72a3 rec n (env 0) (env 2) (env 3) h) :=
  congrArg (fun k => D72 rec n (cL (cR (cR (cf Try.f72)))) x0 k) (s72a3e rec n)

theorem s72a2e (rec : FuncId → List DV → Hp → Res) (n : Nat) : D72 rec n (cR (cR (cf Try.f72))) x0 (retK CF Try.f72) = (fun (env : Env) (h : Hp) => s72a2 rec n (env 0) (env 2) (env 3) h) :=
  (s72a2p6 rec n).trans
  ((by kernel_rfl))

theorem s72a1p7 (rec : FuncId → List DV → Hp → Res) (n : Nat) : D72 rec n (cR (cf Try.f72)) x0 (retK CF Try.f72) = D72 rec n (cL (cR (cf Try.f72))) x0 (fun (env : Env) (h : Hp) => s72a2 rec n (env 0) (env 2) (env 3) h) :=
  congrArg (fun k => D72 rec n (cL (cR (cf Try.f72))) x0 k) (s72a2e rec n)

theorem s72a1q8 (rec : FuncId → List DV → Hp → Res) (n : Nat) (q0 : DV → DV → DV → Hp → Res) : D72 rec n (cL (cR (cf Try.f72))) x0 (fun (env : Env) (h : Hp) => q0 (env 0) (env 2) (env 3) h) = fun (env : Env) (h : Hp) =>
    bnd (rec 83 [(env 0)] h) fun v125 h125 =>
    bnd (rec 82 [(env 0), v125] h125) fun v126 h126 =>
    bnd (rec 81 [(env 0), v126] h126) fun v127 h127 =>
    bnd (rec 80 [(env 0), v127] h127) fun v128 h128 =>
    bnd (pNew [(.i .i64 (Int.ofNat 0)), (.s []), (.i .i64 (Int.ofNat 0)), .l0, .l0, .l0] h128) fun v129 h129 =>
    bnd (pStore 6 v129 v128 h129) fun _ h130 =>
    q0 (env 0) (env 2) v129 h130 := by kernel_rfl

theorem s72a1q8u (rec : FuncId → List DV → Hp → Res) (n : Nat) : (fun (env : Env) (h : Hp) =>
    bnd (rec 83 [(env 0)] h) fun v131 h131 =>
    bnd (rec 82 [(env 0), v131] h131) fun v132 h132 =>
    bnd (rec 81 [(env 0), v132] h132) fun v133 h133 =>
    bnd (rec 80 [(env 0), v133] h133) fun v134 h134 =>
    bnd (pNew [(.i .i64 (Int.ofNat 0)), (.s []), (.i .i64 (Int.ofNat 0)), .l0, .l0, .l0] h134) fun v135 h135 =>
    bnd (pStore 6 v135 v134 h135) fun _ h136 =>
    s72a2 rec n (env 0) (env 2) v135 h136) = (fun (env : Env) (h : Hp) => s72a1 rec n (env 0) (env 2) h) := by kernel_rfl

theorem s72a1e (rec : FuncId → List DV → Hp → Res) (n : Nat) : D72 rec n (cR (cf Try.f72)) x0 (retK CF Try.f72) = (fun (env : Env) (h : Hp) => s72a1 rec n (env 0) (env 2) h) :=
  (s72a1p7 rec n).trans
  ((s72a1q8 rec n (s72a2 rec n)).trans (s72a1q8u rec n))

theorem s72p9 (rec : FuncId → List DV → Hp → Res) (n : Nat) : D72 rec n (cf Try.f72) x0 (retK CF Try.f72) = D72 rec n (cL (cf Try.f72)) x0 (fun (env : Env) (h : Hp) => s72a1 rec n (env 0) (env 2) h) :=
  congrArg (fun k => D72 rec n (cL (cf Try.f72)) x0 k) (s72a1e rec n)

theorem s72q10 (rec : FuncId → List DV → Hp → Res) (n : Nat) (q0 : DV → DV → Hp → Res) : D72 rec n (cL (cf Try.f72)) x0 (fun (env : Env) (h : Hp) => q0 (env 0) (env 2) h) = fun (env : Env) (h : Hp) =>
    bnd (pNew [(.i .i64 (Int.ofNat 0)), (.s []), (.i .i64 (Int.ofNat 0)), .l0, .l0, .l0] h) fun v139 h139 =>
    q0 (env 0) v139 h139 := by kernel_rfl

theorem s72q10u (rec : FuncId → List DV → Hp → Res) (n : Nat) : (fun (env : Env) (h : Hp) =>
    bnd (pNew [(.i .i64 (Int.ofNat 0)), (.s []), (.i .i64 (Int.ofNat 0)), .l0, .l0, .l0] h) fun v140 h140 =>
    s72a1 rec n (env 0) v140 h140) = (fun (env : Env) (h : Hp) => s72 rec n (env 0) h) := by kernel_rfl

theorem s72m (rec : FuncId → List DV → Hp → Res) (n : Nat) : D72 rec n (cf Try.f72) x0 (retK CF Try.f72) = (fun (env : Env) (h : Hp) => s72 rec n (env 0) h) :=
  (s72p9 rec n).trans
  ((s72q10 rec n (s72a1 rec n)).trans (s72q10u rec n))

theorem s72ok (rec : FuncId → List DV → Hp → Res) (n : Nat) (args : List DV) (h : Hp) : bodyD CF rec n 72 args h = s72 rec n (args.getD 0 undefD) h :=
  (by kernel_rfl : bodyD CF rec n 72 args h = D72 rec n (cf Try.f72) x0 (retK CF Try.f72) (argsE args) h).trans ((congrFun (congrFun (s72m rec n) (argsE args)) h).trans (by kernel_rfl))

/-- vivariumref07.P).plain -/
noncomputable def s73 (rec : FuncId → List DV → Hp → Res) (n : Nat) (x0 : DV) (h0 : Hp) : Res :=
  bnd (pNew [(.i .i64 (Int.ofNat 0)), (.s []), (.i .i64 (Int.ofNat 0)), .l0, .l0, .l0] h0) fun v1 h1 =>
  bnd (rec 46 [x0, (.i .i64 (Int.ofNat 0))] h1) fun v2 h2 =>
  bnd (pNew [(.i .i64 (Int.ofNat 0)), (.s []), (.i .i64 (Int.ofNat 0)), (.i .i64 (Int.ofNat 0))] h2) fun v3 h3 =>
  bnd (pStore 4 v3 v2 h3) fun _ h4 =>
  bnd (rec 41 [x0, (.i .i64 (Int.ofNat 3)), (.s [45])] h4) fun v5 h5 =>
  bnd (gD v5 true (some (x0, h5)) h5) fun v6 h6 =>
  bnd (gD v5 true (rec 46 [v6, (.i .i64 (Int.ofNat 1))] h6) h6) fun v7 h7 =>
  bnd (gD v5 true (pPart1 0 v7 h7) h7) fun v8 h8 =>
  bnd (gD v5 true (pInt .eql v8 (.i .i64 (Int.ofNat 4)) h8) h8) fun v9 h9 =>
  bnd (pPick v5 v9 (.b false) h9) fun v10 h10 =>
  bnd (gD v10 true (some (x0, h10)) h10) fun v11 h11 =>
  bnd (gD v10 true (rec 46 [v11, (.i .i64 (Int.ofNat 1))] h11) h11) fun v12 h12 =>
  bnd (gD v10 true (pPart1 3 v12 h12) h12) fun v13 h13 =>
  bnd (gD v10 true (pField 3 v3 h13) h13) fun v14 h14 =>
  bnd (gD v10 true (pLoad1 v14 h14) h14) fun v15 h15 =>
  cnd (sameR (gD v10 true (pLoad1 v14 h7) h7) v15 && true) (
  bnd (gD v10 true (pInt .add v15 (.i .i64 (Int.ofNat 1)) h15) h15) fun v16 h16 =>
  bnd (gD v10 true (pInt .eql v13 v16 h16) h16) fun v17 h17 =>
  bnd (pPick v10 v17 (.b false) h17) fun v18 h18 =>
  ifD v18 (
    bnd (rec 42 [x0] h18) fun v19 h19 =>
    bnd (rec 42 [x0] h19) fun v20 h20 =>
    bnd (pPart1 2 v20 h20) fun v21 h21 =>
    bnd (pUn .neg v21 h21) fun v22 h22 =>
    bnd (pBuild [(.i .i64 (Int.ofNat 0)), (.s []), (.i .i64 (Int.ofNat 0)), .l0, .l0, .l0] [(0, 1, (.i .i64 (Int.ofNat 1))), (2, 1, v22)] h22) fun v23 h23 =>
    bnd (pStore 6 v1 v23 h23) fun _ h24 =>
    bnd (pLoadA 6 v1 h24) fun v25 _ =>
    some (.t [v25, (.b true)], h24)) (
    bnd (rec 41 [x0, (.i .i64 (Int.ofNat 4)), (.s [])] h18) fun v26 h26 =>
    ifD v26 (
      bnd (rec 42 [x0] h26) fun v27 h27 =>
      bnd (pPart1 2 v27 h27) fun v28 h28 =>
      bnd (pBuild [(.i .i64 (Int.ofNat 0)), (.s []), (.i .i64 (Int.ofNat 0)), .l0, .l0, .l0] [(0, 1, (.i .i64 (Int.ofNat 1))), (2, 1, v28)] h28) fun v29 h29 =>
      bnd (pStore 6 v1 v29 h29) fun _ h30 =>
      bnd (pLoadA 6 v1 h30) fun v31 _ =>
      some (.t [v31, (.b true)], h30)) (
      bnd (rec 41 [x0, (.i .i64 (Int.ofNat 5)), (.s [])] h26) fun v32 h32 =>
      ifD v32 (
        bnd (rec 42 [x0] h32) fun v33 h33 =>
        bnd (pPart1 1 v33 h33) fun v34 h34 =>
        bnd (pBuild [(.i .i64 (Int.ofNat 0)), (.s []), (.i .i64 (Int.ofNat 0)), .l0, .l0, .l0] [(0, 1, (.i .i64 (Int.ofNat 2))), (1, 1, v34)] h34) fun v35 h35 =>
        bnd (pStore 6 v1 v35 h35) fun _ h36 =>
        bnd (pLoadA 6 v1 h36) fun v37 _ =>
        some (.t [v37, (.b true)], h36)) (
        bnd (rec 41 [x0, (.i .i64 (Int.ofNat 6)), (.s [])] h32) fun v38 h38 =>
        ifD v38 (
          bnd (rec 42 [x0] h38) fun v39 h39 =>
          bnd (pPart1 1 v39 h39) fun v40 h40 =>
          bnd (pBuild [(.i .i64 (Int.ofNat 0)), (.s []), (.i .i64 (Int.ofNat 0)), .l0, .l0, .l0] [(0, 1, (.i .i64 (Int.ofNat 3))), (1, 1, v40)] h40) fun v41 h41 =>
          bnd (pStore 6 v1 v41 h41) fun _ h42 =>
          bnd (pLoadA 6 v1 h42) fun v43 _ =>
          some (.t [v43, (.b true)], h42)) (
          bnd (pBuild [(.i .i64 (Int.ofNat 0)), (.s []), (.i .i64 (Int.ofNat 0)), .l0, .l0, .l0] [] h38) fun v44 h44 =>
          bnd (pStore 6 v1 v44 h44) fun _ h45 =>
          bnd (pLoadA 6 v1 h45) fun v46 _ =>
          some (.t [v46, (.b false)], h45))))))

noncomputable def D73 (rec : FuncId → List DV → Hp → Res) (n : Nat) (c : Code) (X : Nat → K) (k : K) : K := codeD CF rec 50 n c X (retK CF Try.f73) k

theorem s73m (rec : FuncId → List DV → Hp → Res) (n : Nat) : D73 rec n (cf Try.f73) x0 (retK CF Try.f73) = (fun (env : Env) (h : Hp) => s73 rec n (env 0) h) :=
  (by kernel_rfl)

theorem s73ok (rec : FuncId → List DV → Hp → Res) (n : Nat) (args : List DV) (h : Hp) : bodyD CF rec n 73 args h = s73 rec n (args.getD 0 undefD) h :=
  (by kernel_rfl : bodyD CF rec n 73 args h = D73 rec n (cf Try.f73) x0 (retK CF Try.f73) (argsE args) h).trans ((congrFun (congrFun (s73m rec n) (argsE args)) h).trans (by kernel_rfl))

end Go.Dd
