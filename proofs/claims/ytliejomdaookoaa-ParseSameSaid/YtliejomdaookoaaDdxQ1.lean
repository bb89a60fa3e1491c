/- Dd, part Q1 (printed by gen.py): functions of the seat's program as Lean functions, linked to Dd. -/
import Derived.Test.YtliejomdaookoaaDdxQh
set_option linter.unusedVariables false
set_option maxRecDepth 100000
namespace Go.Dd
open Go.Proofs

noncomputable def s16a6 (rec : FuncId → List DV → Hp → Res) (n : Nat) (x4 x10 x11 : DV) (h0 : Hp) : Res :=
  bnd (rec 26 [x10] h0) fun v1 h1 =>
  bnd (pField 4 x11 h1) fun v2 h2 =>
  bnd (pStore 1 v2 v1 h2) fun _ h3 =>
  bnd (rec 27 [x10] h3) fun v4 h4 =>
  bnd (pField 5 x11 h4) fun v5 h5 =>
  bnd (pStore 1 v5 v4 h5) fun _ h6 =>
  bnd (rec 28 [x10, (.i .i64 (Int.ofNat 0)), (.s [])] h6) fun v7 h7 =>
  bnd (pNil x10 h7) fun v8 h8 =>
  bnd (pField 3 v8 h8) fun v9 h9 =>
  bnd (pLoad1 v9 h9) fun v10 h10 =>
  bnd (pInt .neq v10 (.i .i64 (Int.ofNat 0)) h10) fun v11 h11 =>
  ifD v11 (
    bnd (pBuild [(.i .i64 (Int.ofNat 0)), (.s []), (.i .i64 (Int.ofNat 0)), .l0, .l0, .l0] [] h11) fun v12 h12 =>
    bnd (pNil x10 h12) fun v13 h13 =>
    bnd (pField 4 v13 h13) fun v14 h14 =>
    bnd (pLoad1 v14 h14) fun v15 h15 =>
    bnd (pNil x10 h15) fun v16 h16 =>
    bnd (pField 3 v16 h16) fun v17 h17 =>
    bnd (pLoad1 v17 h17) fun v18 h18 =>
    bnd (pStore 6 x4 v12 h18) fun v19 h19 =>
    cnd (sameR (pLoad1 v17 h19) v18 && (sameR (pLoad1 v14 h19) v15 && true)) (
    bnd (pLoadA 6 x4 h19) fun v20 _ =>
    some (.t [v20, v15, v18], h19))) (
    bnd (pLoadA 6 x11 h11) fun v21 h21 =>
    bnd (pStore 6 x4 v21 h21) fun _ h22 =>
    bnd (pLoadA 6 x4 h22) fun v23 _ =>
    some (.t [v23, (.i .i64 (Int.ofNat 0)), (.i .i64 (Int.ofNat 0))], h22))

noncomputable def s16a5 (rec : FuncId → List DV → Hp → Res) (n : Nat) (x1 x4 x10 x11 : DV) (h0 : Hp) : Res :=
  ifD x1 (
    bnd (rec 25 [x10] h0) fun v47 h47 =>
    bnd (pStore 6 x11 v47 h47) fun _ h48 =>
    s16a6 rec n x4 x10 x11 h48) (
    s16a6 rec n x4 x10 x11 h0)

noncomputable def s16a4 (rec : FuncId → List DV → Hp → Res) (n : Nat) (x1 x4 x10 : DV) (h0 : Hp) : Res :=
  bnd (pBuild [(.i .i64 (Int.ofNat 0)), (.s []), (.i .i64 (Int.ofNat 0)), .l0, .l0, .l0] [(0, 1, (.i .i64 (Int.ofNat 11))), (1, 1, (.s [100, 111, 73, 116]))] h0) fun v51 h51 =>
  bnd (pNew [(.i .i64 (Int.ofNat 0)), (.s []), (.i .i64 (Int.ofNat 0)), .l0, .l0, .l0] h51) fun v52 h52 =>
  bnd (pStore 6 v52 v51 h52) fun _ h53 =>
  s16a5 rec n x1 x4 x10 v52 h53

noncomputable def s16a3 (rec : FuncId → List DV → Hp → Res) (n : Nat) (x1 x4 x7 : DV) (h0 : Hp) : Res :=
  bnd (pBuild [.l0, (.i .i64 (Int.ofNat 0)), (.i .i64 (Int.ofNat 0)), (.i .i64 (Int.ofNat 0)), (.i .i64 (Int.ofNat 0))] [(0, 1, x7)] h0) fun v63 h63 =>
  bnd (pBox v63 h63) fun v64 h64 =>
  s16a4 rec n x1 x4 v64 h64

noncomputable def s16a2 (rec : FuncId → List DV → Hp → Res) (n : Nat) (x1 x4 x7 x8 x9 : DV) (h0 : Hp) : Res :=
  bnd (pInt .neq x9 (.i .i64 (Int.ofNat 0)) h0) fun v71 h71 =>
  ifD v71 (
    bnd (pBuild [(.i .i64 (Int.ofNat 0)), (.s []), (.i .i64 (Int.ofNat 0)), .l0, .l0, .l0] [] h71) fun v72 h72 =>
    bnd (pStore 6 x4 v72 h72) fun _ h73 =>
    bnd (pLoadA 6 x4 h73) fun v74 _ =>
    some (.t [v74, x8, x9], h73)) (
    s16a3 rec n x1 x4 x7 h71)

noncomputable def s16a1 (rec : FuncId → List DV → Hp → Res) (n : Nat) (x0 x1 x4 : DV) (h0 : Hp) : Res :=
  bnd (rec 10 [x0] h0) fun v87 h87 =>
  bnd (pExtract 0 v87 h87) fun v88 h88 =>
  bnd (pExtract 1 v87 h88) fun v89 h89 =>
  bnd (pExtract 2 v87 h89) fun v90 h90 =>
  s16a2 rec n x1 x4 v88 v89 v90 h90

/-- vivariumref07.Read -/
noncomputable def s16 (rec : FuncId → List DV → Hp → Res) (n : Nat) (x0 x1 : DV) (h0 : Hp) : Res :=
  bnd (pNew [(.i .i64 (Int.ofNat 0)), (.s []), (.i .i64 (Int.ofNat 0)), .l0, .l0, .l0] h0) fun v95 h95 =>
  s16a1 rec n x0 x1 v95 h95

noncomputable def D16 (rec : FuncId → List DV → Hp → Res) (n : Nat) (c : Code) (X : Nat → K) (k : K) : K := codeD CF rec 53 n c X (retK CF Try.f16) k

theorem s16a6e (rec : FuncId → List DV → Hp → Res) (n : Nat) : D16 rec n (cR (cR (cR (cR (cR (cR (cf Try.f16))))))) x0 (retK CF Try.f16) = (fun (env : Env) (h : Hp) => s16a6 rec n (env 4) (env 10) (env 11) h) :=
  (by kernel_rfl)

theorem s16a5p1 (rec : FuncId → List DV → Hp → Res) (n : Nat) : D16 rec n (cR (cR (cR (cR (cR (cf Try.f16)))))) x0 (retK CF Try.f16) = D16 rec n (cL (cR (cR (cR (cR (cR (cf Try.f16))))))) x0 (fun (env : Env) (h : Hp) => s16a6 rec n (env 4) (env 10) (env 11) h) :=
  congrArg (fun k => D16 rec n (cL (cR (cR (cR (cR (cR (cf Try.f16))))))) x0 k) (s16a6e rec n)

theorem s16a5e (rec : FuncId → List DV → Hp → Res) (n : Nat) : D16 rec n (cR (cR (cR (cR (cR (cf Try.f16)))))) x0 (retK CF Try.f16) = (fun (env : Env) (h : Hp) => s16a5 rec n (env 1) (env 4) (env 10) (env 11) h) :=
  (s16a5p1 rec n).trans
  ((by kernel_rfl))

theorem s16a4p2 (rec : FuncId → List DV → Hp → Res) (n : Nat) : D16 rec n (cR (cR (cR (cR (cf Try.f16))))) x0 (retK CF Try.f16) = D16 rec n (cL (cR (cR (cR (cR (cf Try.f16)))))) x0 (fun (env : Env) (h : Hp) => s16a5 rec n (env 1) (env 4) (env 10) (env 11) h) :=
  congrArg (fun k => D16 rec n (cL (cR (cR (cR (cR (cf Try.f16)))))) x0 k) (s16a5e rec n)

theorem s16a4q3 (rec : FuncId → List DV → Hp → Res) (n : Nat) (q0 : DV → DV → DV → DV → Hp → Res) : D16 rec n (cL (cR (cR (cR (cR (cf Try.f16)))))) x0 (fun (env : Env) (h : Hp) => q0 (env 1) (env 4) (env 10) (env 11) h) = fun (env : Env) (h : Hp) =>
    bnd (pBuild [(.i .i64 (Int.ofNat 0)), (.s []), (.i .i64 (Int.ofNat 0)), .l0, .l0, .l0] [(0, 1, (.i .i64 (Int.ofNat 11))), (1, 1, (.s [100, 111, 73, 116]))] h) fun v57 h57 =>
    bnd (pNew [(.i .i64 (Int.ofNat 0)), (.s []), (.i .i64 (Int.ofNat 0)), .l0, .l0, .l0] h57) fun v58 h58 =>
    bnd (pStore 6 v58 v57 h58) fun _ h59 =>
    q0 (env 1) (env 4) (env 10) v58 h59 := by kernel_rfl

theorem s16a4q3u (rec : FuncId → List DV → Hp → Res) (n : Nat) : (fun (env : Env) (h : Hp) =>
    bnd (pBuild [(.i .i64 (Int.ofNat 0)), (.s []), (.i .i64 (Int.ofNat 0)), .l0, .l0, .l0] [(0, 1, (.i .i64 (Int.ofNat 11))), (1, 1, (.s [100, 111, 73, 116]))] h) fun v60 h60 =>
    bnd (pNew [(.i .i64 (Int.ofNat 0)), (.s []), (.i .i64 (Int.ofNat 0)), .l0, .l0, .l0] h60) fun v61 h61 =>
    bnd (pStore 6 v61 v60 h61) fun _ h62 =>
    s16a5 rec n (env 1) (env 4) (env 10) v61 h62) = (fun (env : Env) (h : Hp) => s16a4 rec n (env 1) (env 4) (env 10) h) := by kernel_rfl

theorem s16a4e (rec : FuncId → List DV → Hp → Res) (n : Nat) : D16 rec n (cR (cR (cR (cR (cf Try.f16))))) x0 (retK CF Try.f16) = (fun (env : Env) (h : Hp) => s16a4 rec n (env 1) (env 4) (env 10) h) :=
  (s16a4p2 rec n).trans
  ((s16a4q3 rec n (s16a5 rec n)).trans (s16a4q3u rec n))

theorem s16a3p4 (rec : FuncId → List DV → Hp → Res) (n : Nat) : D16 rec n (cR (cR (cR (cf Try.f16)))) x0 (retK CF Try.f16) = D16 rec n (cL (cR (cR (cR (cf Try.f16))))) x0 (fun (env : Env) (h : Hp) => s16a4 rec n (env 1) (env 4) (env 10) h) :=
  congrArg (fun k => D16 rec n (cL (cR (cR (cR (cf Try.f16))))) x0 k) (s16a4e rec n)

theorem s16a3q5 (rec : FuncId → List DV → Hp → Res) (n : Nat) (q0 : DV → DV → DV → Hp → Res) : D16 rec n (cL (cR (cR (cR (cf Try.f16))))) x0 (fun (env : Env) (h : Hp) => q0 (env 1) (env 4) (env 10) h) = fun (env : Env) (h : Hp) =>
    bnd (pBuild [.l0, (.i .i64 (Int.ofNat 0)), (.i .i64 (Int.ofNat 0)), (.i .i64 (Int.ofNat 0)), (.i .i64 (Int.ofNat 0))] [(0, 1, (env 7))] h) fun v67 h67 =>
    bnd (pBox v67 h67) fun v68 h68 =>
    q0 (env 1) (env 4) v68 h68 := by kernel_rfl

theorem s16a3q5u (rec : FuncId → List DV → Hp → Res) (n : Nat) : (fun (env : Env) (h : Hp) =>
    bnd (pBuild [.l0, (.i .i64 (Int.ofNat 0)), (.i .i64 (Int.ofNat 0)), (.i .i64 (Int.ofNat 0)), (.i .i64 (Int.ofNat 0))] [(0, 1, (env 7))] h) fun v69 h69 =>
    bnd (pBox v69 h69) fun v70 h70 =>
    s16a4 rec n (env 1) (env 4) v70 h70) = (fun (env : Env) (h : Hp) => s16a3 rec n (env 1) (env 4) (env 7) h) := by kernel_rfl

theorem s16a3e (rec : FuncId → List DV → Hp → Res) (n : Nat) : D16 rec n (cR (cR (cR (cf Try.f16)))) x0 (retK CF Try.f16) = (fun (env : Env) (h : Hp) => s16a3 rec n (env 1) (env 4) (env 7) h) :=
  (s16a3p4 rec n).trans
  ((s16a3q5 rec n (s16a4 rec n)).trans (s16a3q5u rec n))

theorem s16a2p6 (rec : FuncId → List DV → Hp → Res) (n : Nat) : D16 rec n (cR (cR (cf Try.f16))) x0 (retK CF Try.f16) = D16 rec n (cL (cR (cR (cf Try.f16)))) x0 (fun (env : Env) (h : Hp) => s16a3 rec n (env 1) (env 4) (env 7) h) :=
  congrArg (fun k => D16 rec n (cL (cR (cR (cf Try.f16)))) x0 k) (s16a3e rec n)

theorem s16a2q7 (rec : FuncId → List DV → Hp → Res) (n : Nat) (q0 : DV → DV → DV → Hp → Res) : D16 rec n (cL (cR (cR (cf Try.f16)))) x0 (fun (env : Env) (h : Hp) => q0 (env 1) (env 4) (env 7) h) = fun (env : Env) (h : Hp) =>
    bnd (pInt .neq (env 9) (.i .i64 (Int.ofNat 0)) h) fun v79 h79 =>
    ifD v79 (
      bnd (pBuild [(.i .i64 (Int.ofNat 0)), (.s []), (.i .i64 (Int.ofNat 0)), .l0, .l0, .l0] [] h79) fun v80 h80 =>
      bnd (pStore 6 (env 4) v80 h80) fun _ h81 =>
      bnd (pLoadA 6 (env 4) h81) fun v82 _ =>
      some (.t [v82, (env 8), (env 9)], h81)) (
      q0 (env 1) (env 4) (env 7) h79) := by kernel_rfl

theorem s16a2q7u (rec : FuncId → List DV → Hp → Res) (n : Nat) : (fun (env : Env) (h : Hp) =>
    bnd (pInt .neq (env 9) (.i .i64 (Int.ofNat 0)) h) fun v83 h83 =>
    ifD v83 (
      bnd (pBuild [(.i .i64 (Int.ofNat 0)), (.s []), (.i .i64 (Int.ofNat 0)), .l0, .l0, .l0] [] h83) fun v84 h84 =>
      bnd (pStore 6 (env 4) v84 h84) fun _ h85 =>
      bnd (pLoadA 6 (env 4) h85) fun v86 _ =>
      some (.t [v86, (env 8), (env 9)], h85)) (
      s16a3 rec n (env 1) (env 4) (env 7) h83)) = (fun (env : Env) (h : Hp) => s16a2 rec n (env 1) (env 4) (env 7) (env 8) (env 9) h) := by kernel_rfl

theorem s16a2e (rec : FuncId → List DV → Hp → Res) (n : Nat) : D16 rec n (cR (cR (cf Try.f16))) x0 (retK CF Try.f16) = (fun (env : Env) (h : Hp) => s16a2 rec n (env 1) (env 4) (env 7) (env 8) (env 9) h) :=
  (s16a2p6 rec n).trans
  ((s16a2q7 rec n (s16a3 rec n)).trans (s16a2q7u rec n))

theorem s16a1p8 (rec : FuncId → List DV → Hp → Res) (n : Nat) : D16 rec n (cR (cf Try.f16)) x0 (retK CF Try.f16) = D16 rec n (cL (cR (cf Try.f16))) x0 (fun (env : Env) (h : Hp) => s16a2 rec n (env 1) (env 4) (env 7) (env 8) (env 9) h) :=
  congrArg (fun k => D16 rec n (cL (cR (cf Try.f16))) x0 k) (s16a2e rec n)

theorem s16a1e (rec : FuncId → List DV → Hp → Res) (n : Nat) : D16 rec n (cR (cf Try.f16)) x0 (retK CF Try.f16) = (fun (env : Env) (h : Hp) => s16a1 rec n (env 0) (env 1) (env 4) h) :=
  (s16a1p8 rec n).trans
  ((by kernel_rfl))

theorem s16p9 (rec : FuncId → List DV → Hp → Res) (n : Nat) : D16 rec n (cf Try.f16) x0 (retK CF Try.f16) = D16 rec n (cL (cf Try.f16)) x0 (fun (env : Env) (h : Hp) => s16a1 rec n (env 0) (env 1) (env 4) h) :=
  congrArg (fun k => D16 rec n (cL (cf Try.f16)) x0 k) (s16a1e rec n)

theorem s16q10 (rec : FuncId → List DV → Hp → Res) (n : Nat) (q0 : DV → DV → DV → Hp → Res) : D16 rec n (cL (cf Try.f16)) x0 (fun (env : Env) (h : Hp) => q0 (env 0) (env 1) (env 4) h) = fun (env : Env) (h : Hp) =>
    bnd (pNew [(.i .i64 (Int.ofNat 0)), (.s []), (.i .i64 (Int.ofNat 0)), .l0, .l0, .l0] h) fun v97 h97 =>
    q0 (env 0) (env 1) v97 h97 := by kernel_rfl

theorem s16q10u (rec : FuncId → List DV → Hp → Res) (n : Nat) : (fun (env : Env) (h : Hp) =>
    bnd (pNew [(.i .i64 (Int.ofNat 0)), (.s []), (.i .i64 (Int.ofNat 0)), .l0, .l0, .l0] h) fun v98 h98 =>
    s16a1 rec n (env 0) (env 1) v98 h98) = (fun (env : Env) (h : Hp) => s16 rec n (env 0) (env 1) h) := by kernel_rfl

theorem s16m (rec : FuncId → List DV → Hp → Res) (n : Nat) : D16 rec n (cf Try.f16) x0 (retK CF Try.f16) = (fun (env : Env) (h : Hp) => s16 rec n (env 0) (env 1) h) :=
  (s16p9 rec n).trans
  ((s16q10 rec n (s16a1 rec n)).trans (s16q10u rec n))

theorem s16ok (rec : FuncId → List DV → Hp → Res) (n : Nat) (args : List DV) (h : Hp) : bodyD CF rec n 16 args h = s16 rec n (args.getD 0 undefD) (args.getD 1 undefD) h :=
  (by kernel_rfl : bodyD CF rec n 16 args h = D16 rec n (cf Try.f16) x0 (retK CF Try.f16) (argsE args) h).trans ((congrFun (congrFun (s16m rec n) (argsE args)) h).trans (by kernel_rfl))

/-- parse.read -/
noncomputable def s17 (rec : FuncId → List DV → Hp → Res) (n : Nat) (x0 x1 : DV) (h0 : Hp) : Res :=
  bnd (pNew [(.i .i64 (Int.ofNat 0)), (.s []), (.i .i64 (Int.ofNat 0)), .l0, .l0, .l0] h0) fun v1 h1 =>
  bnd (rec 29 [x0] h1) fun v2 h2 =>
  bnd (pExtract 0 v2 h2) fun v3 h3 =>
  bnd (pExtract 1 v2 h3) fun v4 h4 =>
  bnd (pExtract 2 v2 h4) fun v5 h5 =>
  bnd (pInt .neq v5 (.i .i64 (Int.ofNat 0)) h5) fun v6 h6 =>
  ifD v6 (
    bnd (pBuild [(.i .i64 (Int.ofNat 0)), (.s []), (.i .i64 (Int.ofNat 0)), .l0, .l0, .l0] [] h6) fun v7 h7 =>
    bnd (pStore 6 v1 v7 h7) fun _ h8 =>
    bnd (pLoadA 6 v1 h8) fun v9 _ =>
    some (.t [v9, v4, v5], h8)) (
    bnd (pBuild [.l0, (.i .i64 (Int.ofNat 0)), (.i .i64 (Int.ofNat 0)), (.i .i64 (Int.ofNat 0))] [(0, 1, v3)] h6) fun v10 h10 =>
    bnd (pBox v10 h10) fun v11 h11 =>
    bnd (pCall CF rec x1 [v11] h11) fun v12 h12 =>
    bnd (pNew [(.i .i64 (Int.ofNat 0)), (.s []), (.i .i64 (Int.ofNat 0)), .l0, .l0, .l0] h12) fun v13 h13 =>
    bnd (pStore 6 v13 v12 h13) fun _ h14 =>
    bnd (rec 30 [v11] h14) fun v15 h15 =>
    bnd (pField 4 v13 h15) fun v16 h16 =>
    bnd (pStore 1 v16 v15 h16) fun _ h17 =>
    bnd (rec 31 [v11] h17) fun v18 h18 =>
    bnd (pField 5 v13 h18) fun v19 h19 =>
    bnd (pStore 1 v19 v18 h19) fun _ h20 =>
    bnd (rec 32 [v11, (.i .i64 (Int.ofNat 0)), (.s [])] h20) fun v21 h21 =>
    bnd (pNil v11 h21) fun v22 h22 =>
    bnd (pField 3 v22 h22) fun v23 h23 =>
    bnd (pLoad1 v23 h23) fun v24 h24 =>
    bnd (pInt .neq v24 (.i .i64 (Int.ofNat 0)) h24) fun v25 h25 =>
    ifD v25 (
      bnd (pBuild [(.i .i64 (Int.ofNat 0)), (.s []), (.i .i64 (Int.ofNat 0)), .l0, .l0, .l0] [] h25) fun v26 h26 =>
      bnd (pNil v11 h26) fun v27 h27 =>
      bnd (pField 2 v27 h27) fun v28 h28 =>
      bnd (pLoad1 v28 h28) fun v29 h29 =>
      bnd (pNil v11 h29) fun v30 h30 =>
      bnd (pField 3 v30 h30) fun v31 h31 =>
      bnd (pLoad1 v31 h31) fun v32 h32 =>
      bnd (pStore 6 v1 v26 h32) fun v33 h33 =>
      cnd (sameR (pLoad1 v31 h33) v32 && (sameR (pLoad1 v28 h33) v29 && true)) (
      bnd (pLoadA 6 v1 h33) fun v34 _ =>
      some (.t [v34, v29, v32], h33))) (
      bnd (pLoadA 6 v13 h25) fun v35 h35 =>
      bnd (pStore 6 v1 v35 h35) fun _ h36 =>
      bnd (pLoadA 6 v1 h36) fun v37 _ =>
      some (.t [v37, (.i .i64 (Int.ofNat 0)), (.i .i64 (Int.ofNat 0))], h36)))

noncomputable def D17 (rec : FuncId → List DV → Hp → Res) (n : Nat) (c : Code) (X : Nat → K) (k : K) : K := codeD CF rec 52 n c X (retK CF Try.f17) k

theorem s17m (rec : FuncId → List DV → Hp → Res) (n : Nat) : D17 rec n (cf Try.f17) x0 (retK CF Try.f17) = (fun (env : Env) (h : Hp) => s17 rec n (env 0) (env 1) h) :=
  (by kernel_rfl)

theorem s17ok (rec : FuncId → List DV → Hp → Res) (n : Nat) (args : List DV) (h : Hp) : bodyD CF rec n 17 args h = s17 rec n (args.getD 0 undefD) (args.getD 1 undefD) h :=
  (by kernel_rfl : bodyD CF rec n 17 args h = D17 rec n (cf Try.f17) x0 (retK CF Try.f17) (argsE args) h).trans ((congrFun (congrFun (s17m rec n) (argsE args)) h).trans (by kernel_rfl))

/-- parse.parser).doit -/
noncomputable def s18 (rec : FuncId → List DV → Hp → Res) (n : Nat) (x0 : DV) (h0 : Hp) : Res :=
  bnd (pNew [(.i .i64 (Int.ofNat 0)), (.s []), (.i .i64 (Int.ofNat 0)), .l0, .l0, .l0] h0) fun v1 h1 =>
  bnd (pBuild [(.i .i64 (Int.ofNat 0)), (.s []), (.i .i64 (Int.ofNat 0)), .l0, .l0, .l0] [(0, 1, (.i .i64 (Int.ofNat 11))), (1, 1, (.s [100, 111, 73, 116]))] h1) fun v2 h2 =>
  bnd (pStore 6 v1 v2 h2) fun _ h3 =>
  bnd (pLoadA 6 v1 h3) fun v4 _ =>
  some (v4, h3)

noncomputable def D18 (rec : FuncId → List DV → Hp → Res) (n : Nat) (c : Code) (X : Nat → K) (k : K) : K := codeD CF rec 4 n c X (retK CF Try.f18) k

theorem s18m (rec : FuncId → List DV → Hp → Res) (n : Nat) : D18 rec n (cf Try.f18) x0 (retK CF Try.f18) = (fun (env : Env) (h : Hp) => s18 rec n (env 0) h) :=
  (by kernel_rfl)

theorem s18ok (rec : FuncId → List DV → Hp → Res) (n : Nat) (args : List DV) (h : Hp) : bodyD CF rec n 18 args h = s18 rec n (args.getD 0 undefD) h :=
  (by kernel_rfl : bodyD CF rec n 18 args h = D18 rec n (cf Try.f18) x0 (retK CF Try.f18) (argsE args) h).trans ((congrFun (congrFun (s18m rec n) (argsE args)) h).trans (by kernel_rfl))

noncomputable def s19a2 (rec : FuncId → List DV → Hp → Res) (n : Nat) (x1 : DV) (h0 : Hp) : Res :=
  some (.t [x1, (.b false)], h0)

noncomputable def s19a8 (rec : FuncId → List DV → Hp → Res) (n : Nat) (kk3 : DV → DV → Hp → Res) (x0 x1 x6 : DV) (h0 : Hp) : Res :=
  bnd (pLenS x0 h0) fun v1 h1 =>
  bnd (pInt .eql x6 v1 h1) fun v2 h2 =>
  ifD v2 (
    some (.t [x1, (.b true)], h2)) (
    bnd (pInt .add x6 (.i .i64 (Int.ofNat 1)) h2) fun v3 h3 =>
    kk3 x0 v3 h3)

noncomputable def s19a9b (rec : FuncId → List DV → Hp → Res) (n : Nat) (kk3 : DV → DV → Hp → Res) (kk9 : DV → DV → DV → Hp → Res) (x0 x1 x6 : DV) (h0 : Hp) : Res :=
    bnd (pLenS x0 h0) fun v7 h7 =>
    bnd (pInt .lss x6 v7 h7) fun v8 h8 =>
    bnd (gD v8 true (some (x0, h8)) h8) fun v9 h9 =>
    bnd (gD v8 true (some (x6, h9)) h9) fun v10 h10 =>
    bnd (gD v8 true (pIndexS v9 v10 h10) h10) fun v11 h11 =>
    bnd (gD v8 true (pInt .neq v11 (.i .u8 (Int.ofNat 34)) h11) h11) fun v12 h12 =>
    bnd (pPick v8 v12 (.b false) h12) fun v13 h13 =>
    ifD v13 (
      bnd (pInt .add x6 (.i .i64 (Int.ofNat 1)) h13) fun v14 h14 =>
      kk9 x0 x1 v14 h14) (
      s19a8 rec n kk3 x0 x1 x6 h13)

noncomputable def s19a9l (rec : FuncId → List DV → Hp → Res) (n : Nat) (kk3 : DV → DV → Hp → Res) (m : Nat) : DV → DV → DV → Hp → Res :=
  Nat.rec (motive := fun _ => DV → DV → DV → Hp → Res) (fun _ _ _ _ => none) (fun _ ih => s19a9b rec n kk3 ih) m

noncomputable def s19a9 (rec : FuncId → List DV → Hp → Res) (n : Nat) (kk3 : DV → DV → Hp → Res) : DV → DV → DV → Hp → Res := s19a9l rec n kk3 n

noncomputable def s19a7 (rec : FuncId → List DV → Hp → Res) (n : Nat) (kk3 : DV → DV → Hp → Res) (x0 x1 x6 : DV) (h0 : Hp) : Res :=
  s19a9 rec n kk3 x0 x1 x6 h0

noncomputable def s19a6 (rec : FuncId → List DV → Hp → Res) (n : Nat) (kk3 : DV → DV → Hp → Res) (x0 x1 : DV) (h0 : Hp) : Res :=
  bnd (pInt .add x1 (.i .i64 (Int.ofNat 1)) h0) fun v23 h23 =>
  s19a7 rec n kk3 x0 x1 v23 h23

noncomputable def s19a5 (rec : FuncId → List DV → Hp → Res) (n : Nat) (kk3 : DV → DV → Hp → Res) (x0 x1 : DV) (h0 : Hp) : Res :=
  bnd (pIndexS x0 x1 h0) fun v25 h25 =>
  bnd (pInt .neq v25 (.i .u8 (Int.ofNat 34)) h25) fun v26 h26 =>
  ifD v26 (
    s19a2 rec n x1 h26) (
    s19a6 rec n kk3 x0 x1 h26)

noncomputable def s19a4 (rec : FuncId → List DV → Hp → Res) (n : Nat) (kk3 : DV → DV → Hp → Res) (x0 x1 : DV) (h0 : Hp) : Res :=
  bnd (pIndexS x0 x1 h0) fun v29 h29 =>
  bnd (rec 33 [v29] h29) fun v30 h30 =>
  bnd (pInt .eql v30 (.i .i64 (Int.ofNat 5)) h30) fun v31 h31 =>
  ifD v31 (
    bnd (pInt .add x1 (.i .i64 (Int.ofNat 1)) h31) fun v32 h32 =>
    kk3 x0 v32 h32) (
    s19a5 rec n kk3 x0 x1 h31)

noncomputable def s19a3b (rec : FuncId → List DV → Hp → Res) (n : Nat) (kk3 : DV → DV → Hp → Res) (x0 x1 : DV) (h0 : Hp) : Res :=
    bnd (pLenS x0 h0) fun v37 h37 =>
    bnd (pInt .lss x1 v37 h37) fun v38 h38 =>
    ifD v38 (
      s19a4 rec n kk3 x0 x1 h38) (
      s19a2 rec n x1 h38)

noncomputable def s19a3l (rec : FuncId → List DV → Hp → Res) (n : Nat) (m : Nat) : DV → DV → Hp → Res :=
  Nat.rec (motive := fun _ => DV → DV → Hp → Res) (fun _ _ _ => none) (fun _ ih => s19a3b rec n ih) m

noncomputable def s19a3 (rec : FuncId → List DV → Hp → Res) (n : Nat) : DV → DV → Hp → Res := s19a3l rec n n

noncomputable def s19a1 (rec : FuncId → List DV → Hp → Res) (n : Nat) (x0 x1 : DV) (h0 : Hp) : Res :=
  s19a3 rec n x0 x1 h0

/-- vivariumref06.Skip -/
noncomputable def s19 (rec : FuncId → List DV → Hp → Res) (n : Nat) (x0 x1 : DV) (h0 : Hp) : Res :=
  s19a1 rec n x0 x1 h0

noncomputable def D19 (rec : FuncId → List DV → Hp → Res) (n : Nat) (c : Code) (X : Nat → K) (k : K) : K := codeD CF rec 44 n c X (retK CF Try.f19) k

theorem s19a2e (rec : FuncId → List DV → Hp → Res) (n : Nat) : D19 rec n (cR (cR (cf Try.f19))) x0 (retK CF Try.f19) = (fun (env : Env) (h : Hp) => s19a2 rec n (env 1) h) :=
  (by kernel_rfl)

theorem s19a8e (rec : FuncId → List DV → Hp → Res) (n : Nat) (kk3 : DV → DV → Hp → Res) : D19 rec n (cR (cR (cR (cR (cL (cR (cL (cL (cL (cR (cf Try.f19))))))))))) (xs (xs x0 0 (fun (env : Env) (h : Hp) => s19a2 rec n (env 1) h)) 1 (fun (env : Env) (h : Hp) => kk3 (env 0) (env 1) h)) (fun (env : Env) (h : Hp) => kk3 (env 0) (env 1) h) = (fun (env : Env) (h : Hp) => s19a8 rec n kk3 (env 0) (env 1) (env 6) h) :=
  (by kernel_rfl)

theorem s19a9be (rec : FuncId → List DV → Hp → Res) (n : Nat) (kk3 : DV → DV → Hp → Res) (kk9 : DV → DV → DV → Hp → Res) : D19 rec n (cL (cL (cL (cR (cR (cR (cL (cR (cL (cL (cL (cR (cf Try.f19))))))))))))) (xs (xs (xs x0 0 (fun (env : Env) (h : Hp) => s19a2 rec n (env 1) h)) 1 (fun (env : Env) (h : Hp) => kk3 (env 0) (env 1) h)) 2 (fun (env : Env) (h : Hp) => s19a8 rec n kk3 (env 0) (env 1) (env 6) h)) (fun (env : Env) (h : Hp) => kk9 (env 0) (env 1) (env 6) h) = (fun (env : Env) (h : Hp) => s19a9b rec n kk3 kk9 (env 0) (env 1) (env 6) h) :=
  (by kernel_rfl)

theorem s19a9le (rec : FuncId → List DV → Hp → Res) (n : Nat) (kk3 : DV → DV → Hp → Res) (m : Nat) : loopN (fun kk => D19 rec n (cL (cL (cL (cR (cR (cR (cL (cR (cL (cL (cL (cR (cf Try.f19))))))))))))) (xs (xs (xs x0 0 (fun (env : Env) (h : Hp) => s19a2 rec n (env 1) h)) 1 (fun (env : Env) (h : Hp) => kk3 (env 0) (env 1) h)) 2 (fun (env : Env) (h : Hp) => s19a8 rec n kk3 (env 0) (env 1) (env 6) h)) kk) m = (fun (env : Env) (h : Hp) => s19a9l rec n kk3 m (env 0) (env 1) (env 6) h) := by
  induction m with
  | zero => exact (by kernel_rfl : loopN (fun kk => D19 rec n (cL (cL (cL (cR (cR (cR (cL (cR (cL (cL (cL (cR (cf Try.f19))))))))))))) (xs (xs (xs x0 0 (fun (env : Env) (h : Hp) => s19a2 rec n (env 1) h)) 1 (fun (env : Env) (h : Hp) => kk3 (env 0) (env 1) h)) 2 (fun (env : Env) (h : Hp) => s19a8 rec n kk3 (env 0) (env 1) (env 6) h)) kk) 0 = (fun (env : Env) (h : Hp) => s19a9l rec n kk3 0 (env 0) (env 1) (env 6) h))
  | succ m ih =>
    refine (by kernel_rfl : loopN (fun kk => D19 rec n (cL (cL (cL (cR (cR (cR (cL (cR (cL (cL (cL (cR (cf Try.f19))))))))))))) (xs (xs (xs x0 0 (fun (env : Env) (h : Hp) => s19a2 rec n (env 1) h)) 1 (fun (env : Env) (h : Hp) => kk3 (env 0) (env 1) h)) 2 (fun (env : Env) (h : Hp) => s19a8 rec n kk3 (env 0) (env 1) (env 6) h)) kk) (m + 1) = D19 rec n (cL (cL (cL (cR (cR (cR (cL (cR (cL (cL (cL (cR (cf Try.f19))))))))))))) (xs (xs (xs x0 0 (fun (env : Env) (h : Hp) => s19a2 rec n (env 1) h)) 1 (fun (env : Env) (h : Hp) => kk3 (env 0) (env 1) h)) 2 (fun (env : Env) (h : Hp) => s19a8 rec n kk3 (env 0) (env 1) (env 6) h)) (loopN (fun kk => D19 rec n (cL (cL (cL (cR (cR (cR (cL (cR (cL (cL (cL (cR (cf Try.f19))))))))))))) (xs (xs (xs x0 0 (fun (env : Env) (h : Hp) => s19a2 rec n (env 1) h)) 1 (fun (env : Env) (h : Hp) => kk3 (env 0) (env 1) h)) 2 (fun (env : Env) (h : Hp) => s19a8 rec n kk3 (env 0) (env 1) (env 6) h)) kk) m)).trans ?_
    rw [ih]
    exact (s19a9be rec n kk3 (s19a9l rec n kk3 m)).trans (by kernel_rfl)

theorem s19a9e (rec : FuncId → List DV → Hp → Res) (n : Nat) (kk3 : DV → DV → Hp → Res) : D19 rec n (cL (cL (cR (cR (cR (cL (cR (cL (cL (cL (cR (cf Try.f19)))))))))))) (xs (xs (xs x0 0 (fun (env : Env) (h : Hp) => s19a2 rec n (env 1) h)) 1 (fun (env : Env) (h : Hp) => kk3 (env 0) (env 1) h)) 2 (fun (env : Env) (h : Hp) => s19a8 rec n kk3 (env 0) (env 1) (env 6) h)) (fun (env : Env) (h : Hp) => s19a8 rec n kk3 (env 0) (env 1) (env 6) h) = (fun (env : Env) (h : Hp) => s19a9 rec n kk3 (env 0) (env 1) (env 6) h) :=
  (by kernel_rfl : D19 rec n (cL (cL (cR (cR (cR (cL (cR (cL (cL (cL (cR (cf Try.f19)))))))))))) (xs (xs (xs x0 0 (fun (env : Env) (h : Hp) => s19a2 rec n (env 1) h)) 1 (fun (env : Env) (h : Hp) => kk3 (env 0) (env 1) h)) 2 (fun (env : Env) (h : Hp) => s19a8 rec n kk3 (env 0) (env 1) (env 6) h)) (fun (env : Env) (h : Hp) => s19a8 rec n kk3 (env 0) (env 1) (env 6) h) = loopN (fun kk => D19 rec n (cL (cL (cL (cR (cR (cR (cL (cR (cL (cL (cL (cR (cf Try.f19))))))))))))) (xs (xs (xs x0 0 (fun (env : Env) (h : Hp) => s19a2 rec n (env 1) h)) 1 (fun (env : Env) (h : Hp) => kk3 (env 0) (env 1) h)) 2 (fun (env : Env) (h : Hp) => s19a8 rec n kk3 (env 0) (env 1) (env 6) h)) kk) n).trans ((s19a9le rec n kk3 n).trans (by kernel_rfl))

theorem s19a7p1 (rec : FuncId → List DV → Hp → Res) (n : Nat) (kk3 : DV → DV → Hp → Res) : D19 rec n (cR (cR (cR (cL (cR (cL (cL (cL (cR (cf Try.f19)))))))))) (xs (xs x0 0 (fun (env : Env) (h : Hp) => s19a2 rec n (env 1) h)) 1 (fun (env : Env) (h : Hp) => kk3 (env 0) (env 1) h)) (fun (env : Env) (h : Hp) => kk3 (env 0) (env 1) h) = D19 rec n (cL (cR (cR (cR (cL (cR (cL (cL (cL (cR (cf Try.f19))))))))))) (xs (xs x0 0 (fun (env : Env) (h : Hp) => s19a2 rec n (env 1) h)) 1 (fun (env : Env) (h : Hp) => kk3 (env 0) (env 1) h)) (fun (env : Env) (h : Hp) => s19a8 rec n kk3 (env 0) (env 1) (env 6) h) :=
  congrArg (fun k => D19 rec n (cL (cR (cR (cR (cL (cR (cL (cL (cL (cR (cf Try.f19))))))))))) (xs (xs x0 0 (fun (env : Env) (h : Hp) => s19a2 rec n (env 1) h)) 1 (fun (env : Env) (h : Hp) => kk3 (env 0) (env 1) h)) k) (s19a8e rec n kk3)

theorem s19a7e (rec : FuncId → List DV → Hp → Res) (n : Nat) (kk3 : DV → DV → Hp → Res) : D19 rec n (cR (cR (cR (cL (cR (cL (cL (cL (cR (cf Try.f19)))))))))) (xs (xs x0 0 (fun (env : Env) (h : Hp) => s19a2 rec n (env 1) h)) 1 (fun (env : Env) (h : Hp) => kk3 (env 0) (env 1) h)) (fun (env : Env) (h : Hp) => kk3 (env 0) (env 1) h) = (fun (env : Env) (h : Hp) => s19a7 rec n kk3 (env 0) (env 1) (env 6) h) :=
  (s19a7p1 rec n kk3).trans
  ((by kernel_rfl : D19 rec n (cL (cR (cR (cR (cL (cR (cL (cL (cL (cR (cf Try.f19))))))))))) (xs (xs x0 0 (fun (env : Env) (h : Hp) => s19a2 rec n (env 1) h)) 1 (fun (env : Env) (h : Hp) => kk3 (env 0) (env 1) h)) (fun (env : Env) (h : Hp) => s19a8 rec n kk3 (env 0) (env 1) (env 6) h) = D19 rec n (cL (cL (cR (cR (cR (cL (cR (cL (cL (cL (cR (cf Try.f19)))))))))))) (xs (xs (xs x0 0 (fun (env : Env) (h : Hp) => s19a2 rec n (env 1) h)) 1 (fun (env : Env) (h : Hp) => kk3 (env 0) (env 1) h)) 2 (fun (env : Env) (h : Hp) => s19a8 rec n kk3 (env 0) (env 1) (env 6) h)) (fun (env : Env) (h : Hp) => s19a8 rec n kk3 (env 0) (env 1) (env 6) h)).trans
  ((s19a9e rec n kk3).trans (by kernel_rfl)))

theorem s19a6p2 (rec : FuncId → List DV → Hp → Res) (n : Nat) (kk3 : DV → DV → Hp → Res) : D19 rec n (cR (cR (cL (cR (cL (cL (cL (cR (cf Try.f19))))))))) (xs (xs x0 0 (fun (env : Env) (h : Hp) => s19a2 rec n (env 1) h)) 1 (fun (env : Env) (h : Hp) => kk3 (env 0) (env 1) h)) (fun (env : Env) (h : Hp) => kk3 (env 0) (env 1) h) = D19 rec n (cL (cR (cR (cL (cR (cL (cL (cL (cR (cf Try.f19)))))))))) (xs (xs x0 0 (fun (env : Env) (h : Hp) => s19a2 rec n (env 1) h)) 1 (fun (env : Env) (h : Hp) => kk3 (env 0) (env 1) h)) (fun (env : Env) (h : Hp) => s19a7 rec n kk3 (env 0) (env 1) (env 6) h) :=
  congrArg (fun k => D19 rec n (cL (cR (cR (cL (cR (cL (cL (cL (cR (cf Try.f19)))))))))) (xs (xs x0 0 (fun (env : Env) (h : Hp) => s19a2 rec n (env 1) h)) 1 (fun (env : Env) (h : Hp) => kk3 (env 0) (env 1) h)) k) (s19a7e rec n kk3)

theorem s19a6e (rec : FuncId → List DV → Hp → Res) (n : Nat) (kk3 : DV → DV → Hp → Res) : D19 rec n (cR (cR (cL (cR (cL (cL (cL (cR (cf Try.f19))))))))) (xs (xs x0 0 (fun (env : Env) (h : Hp) => s19a2 rec n (env 1) h)) 1 (fun (env : Env) (h : Hp) => kk3 (env 0) (env 1) h)) (fun (env : Env) (h : Hp) => kk3 (env 0) (env 1) h) = (fun (env : Env) (h : Hp) => s19a6 rec n kk3 (env 0) (env 1) h) :=
  (s19a6p2 rec n kk3).trans
  ((by kernel_rfl))

theorem s19a5p3 (rec : FuncId → List DV → Hp → Res) (n : Nat) (kk3 : DV → DV → Hp → Res) : D19 rec n (cR (cL (cR (cL (cL (cL (cR (cf Try.f19)))))))) (xs (xs x0 0 (fun (env : Env) (h : Hp) => s19a2 rec n (env 1) h)) 1 (fun (env : Env) (h : Hp) => kk3 (env 0) (env 1) h)) (fun (env : Env) (h : Hp) => kk3 (env 0) (env 1) h) = D19 rec n (cL (cR (cL (cR (cL (cL (cL (cR (cf Try.f19))))))))) (xs (xs x0 0 (fun (env : Env) (h : Hp) => s19a2 rec n (env 1) h)) 1 (fun (env : Env) (h : Hp) => kk3 (env 0) (env 1) h)) (fun (env : Env) (h : Hp) => s19a6 rec n kk3 (env 0) (env 1) h) :=
  congrArg (fun k => D19 rec n (cL (cR (cL (cR (cL (cL (cL (cR (cf Try.f19))))))))) (xs (xs x0 0 (fun (env : Env) (h : Hp) => s19a2 rec n (env 1) h)) 1 (fun (env : Env) (h : Hp) => kk3 (env 0) (env 1) h)) k) (s19a6e rec n kk3)

theorem s19a5e (rec : FuncId → List DV → Hp → Res) (n : Nat) (kk3 : DV → DV → Hp → Res) : D19 rec n (cR (cL (cR (cL (cL (cL (cR (cf Try.f19)))))))) (xs (xs x0 0 (fun (env : Env) (h : Hp) => s19a2 rec n (env 1) h)) 1 (fun (env : Env) (h : Hp) => kk3 (env 0) (env 1) h)) (fun (env : Env) (h : Hp) => kk3 (env 0) (env 1) h) = (fun (env : Env) (h : Hp) => s19a5 rec n kk3 (env 0) (env 1) h) :=
  (s19a5p3 rec n kk3).trans
  ((by kernel_rfl))

theorem s19a4p4 (rec : FuncId → List DV → Hp → Res) (n : Nat) (kk3 : DV → DV → Hp → Res) : D19 rec n (cL (cR (cL (cL (cL (cR (cf Try.f19))))))) (xs (xs x0 0 (fun (env : Env) (h : Hp) => s19a2 rec n (env 1) h)) 1 (fun (env : Env) (h : Hp) => kk3 (env 0) (env 1) h)) (fun (env : Env) (h : Hp) => kk3 (env 0) (env 1) h) = D19 rec n (cL (cL (cR (cL (cL (cL (cR (cf Try.f19)))))))) (xs (xs x0 0 (fun (env : Env) (h : Hp) => s19a2 rec n (env 1) h)) 1 (fun (env : Env) (h : Hp) => kk3 (env 0) (env 1) h)) (fun (env : Env) (h : Hp) => s19a5 rec n kk3 (env 0) (env 1) h) :=
  congrArg (fun k => D19 rec n (cL (cL (cR (cL (cL (cL (cR (cf Try.f19)))))))) (xs (xs x0 0 (fun (env : Env) (h : Hp) => s19a2 rec n (env 1) h)) 1 (fun (env : Env) (h : Hp) => kk3 (env 0) (env 1) h)) k) (s19a5e rec n kk3)

theorem s19a4e (rec : FuncId → List DV → Hp → Res) (n : Nat) (kk3 : DV → DV → Hp → Res) : D19 rec n (cR (cL (cL (cL (cR (cf Try.f19)))))) (xs x0 0 (fun (env : Env) (h : Hp) => s19a2 rec n (env 1) h)) (fun (env : Env) (h : Hp) => kk3 (env 0) (env 1) h) = (fun (env : Env) (h : Hp) => s19a4 rec n kk3 (env 0) (env 1) h) :=
  (by kernel_rfl : D19 rec n (cR (cL (cL (cL (cR (cf Try.f19)))))) (xs x0 0 (fun (env : Env) (h : Hp) => s19a2 rec n (env 1) h)) (fun (env : Env) (h : Hp) => kk3 (env 0) (env 1) h) = D19 rec n (cL (cR (cL (cL (cL (cR (cf Try.f19))))))) (xs (xs x0 0 (fun (env : Env) (h : Hp) => s19a2 rec n (env 1) h)) 1 (fun (env : Env) (h : Hp) => kk3 (env 0) (env 1) h)) (fun (env : Env) (h : Hp) => kk3 (env 0) (env 1) h)).trans
  ((s19a4p4 rec n kk3).trans
  ((by kernel_rfl)))

theorem s19a3p5 (rec : FuncId → List DV → Hp → Res) (n : Nat) (kk3 : DV → DV → Hp → Res) : D19 rec n (cL (cL (cL (cR (cf Try.f19))))) (xs x0 0 (fun (env : Env) (h : Hp) => s19a2 rec n (env 1) h)) (fun (env : Env) (h : Hp) => kk3 (env 0) (env 1) h) = D19 rec n (cL (cL (cL (cL (cR (cf Try.f19)))))) (xs x0 0 (fun (env : Env) (h : Hp) => s19a2 rec n (env 1) h)) (fun (env : Env) (h : Hp) => s19a4 rec n kk3 (env 0) (env 1) h) :=
  congrArg (fun k => D19 rec n (cL (cL (cL (cL (cR (cf Try.f19)))))) (xs x0 0 (fun (env : Env) (h : Hp) => s19a2 rec n (env 1) h)) k) (s19a4e rec n kk3)

theorem s19a3be (rec : FuncId → List DV → Hp → Res) (n : Nat) (kk3 : DV → DV → Hp → Res) : D19 rec n (cL (cL (cL (cR (cf Try.f19))))) (xs x0 0 (fun (env : Env) (h : Hp) => s19a2 rec n (env 1) h)) (fun (env : Env) (h : Hp) => kk3 (env 0) (env 1) h) = (fun (env : Env) (h : Hp) => s19a3b rec n kk3 (env 0) (env 1) h) :=
  (s19a3p5 rec n kk3).trans
  ((by kernel_rfl))

theorem s19a3le (rec : FuncId → List DV → Hp → Res) (n : Nat) (m : Nat) : loopN (fun kk => D19 rec n (cL (cL (cL (cR (cf Try.f19))))) (xs x0 0 (fun (env : Env) (h : Hp) => s19a2 rec n (env 1) h)) kk) m = (fun (env : Env) (h : Hp) => s19a3l rec n m (env 0) (env 1) h) := by
  induction m with
  | zero => exact (by kernel_rfl : loopN (fun kk => D19 rec n (cL (cL (cL (cR (cf Try.f19))))) (xs x0 0 (fun (env : Env) (h : Hp) => s19a2 rec n (env 1) h)) kk) 0 = (fun (env : Env) (h : Hp) => s19a3l rec n 0 (env 0) (env 1) h))
  | succ m ih =>
    refine (by kernel_rfl : loopN (fun kk => D19 rec n (cL (cL (cL (cR (cf Try.f19))))) (xs x0 0 (fun (env : Env) (h : Hp) => s19a2 rec n (env 1) h)) kk) (m + 1) = D19 rec n (cL (cL (cL (cR (cf Try.f19))))) (xs x0 0 (fun (env : Env) (h : Hp) => s19a2 rec n (env 1) h)) (loopN (fun kk => D19 rec n (cL (cL (cL (cR (cf Try.f19))))) (xs x0 0 (fun (env : Env) (h : Hp) => s19a2 rec n (env 1) h)) kk) m)).trans ?_
    rw [ih]
    exact (s19a3be rec n (s19a3l rec n m)).trans (by kernel_rfl)

theorem s19a3e (rec : FuncId → List DV → Hp → Res) (n : Nat) : D19 rec n (cL (cL (cR (cf Try.f19)))) (xs x0 0 (fun (env : Env) (h : Hp) => s19a2 rec n (env 1) h)) (fun (env : Env) (h : Hp) => s19a2 rec n (env 1) h) = (fun (env : Env) (h : Hp) => s19a3 rec n (env 0) (env 1) h) :=
  (by kernel_rfl : D19 rec n (cL (cL (cR (cf Try.f19)))) (xs x0 0 (fun (env : Env) (h : Hp) => s19a2 rec n (env 1) h)) (fun (env : Env) (h : Hp) => s19a2 rec n (env 1) h) = loopN (fun kk => D19 rec n (cL (cL (cL (cR (cf Try.f19))))) (xs x0 0 (fun (env : Env) (h : Hp) => s19a2 rec n (env 1) h)) kk) n).trans ((s19a3le rec n n).trans (by kernel_rfl))

theorem s19a1p6 (rec : FuncId → List DV → Hp → Res) (n : Nat) : D19 rec n (cR (cf Try.f19)) x0 (retK CF Try.f19) = D19 rec n (cL (cR (cf Try.f19))) x0 (fun (env : Env) (h : Hp) => s19a2 rec n (env 1) h) :=
  congrArg (fun k => D19 rec n (cL (cR (cf Try.f19))) x0 k) (s19a2e rec n)

theorem s19a1e (rec : FuncId → List DV → Hp → Res) (n : Nat) : D19 rec n (cR (cf Try.f19)) x0 (retK CF Try.f19) = (fun (env : Env) (h : Hp) => s19a1 rec n (env 0) (env 1) h) :=
  (s19a1p6 rec n).trans
  ((by kernel_rfl : D19 rec n (cL (cR (cf Try.f19))) x0 (fun (env : Env) (h : Hp) => s19a2 rec n (env 1) h) = D19 rec n (cL (cL (cR (cf Try.f19)))) (xs x0 0 (fun (env : Env) (h : Hp) => s19a2 rec n (env 1) h)) (fun (env : Env) (h : Hp) => s19a2 rec n (env 1) h)).trans
  ((s19a3e rec n).trans (by kernel_rfl)))

theorem s19p7 (rec : FuncId → List DV → Hp → Res) (n : Nat) : D19 rec n (cf Try.f19) x0 (retK CF Try.f19) = D19 rec n (cL (cf Try.f19)) x0 (fun (env : Env) (h : Hp) => s19a1 rec n (env 0) (env 1) h) :=
  congrArg (fun k => D19 rec n (cL (cf Try.f19)) x0 k) (s19a1e rec n)

theorem s19m (rec : FuncId → List DV → Hp → Res) (n : Nat) : D19 rec n (cf Try.f19) x0 (retK CF Try.f19) = (fun (env : Env) (h : Hp) => s19 rec n (env 0) (env 1) h) :=
  (s19p7 rec n).trans
  ((by kernel_rfl))

theorem s19ok (rec : FuncId → List DV → Hp → Res) (n : Nat) (args : List DV) (h : Hp) : bodyD CF rec n 19 args h = s19 rec n (args.getD 0 undefD) (args.getD 1 undefD) h :=
  (by kernel_rfl : bodyD CF rec n 19 args h = D19 rec n (cf Try.f19) x0 (retK CF Try.f19) (argsE args) h).trans ((congrFun (congrFun (s19m rec n) (argsE args)) h).trans (by kernel_rfl))

noncomputable def s20a6 (rec : FuncId → List DV → Hp → Res) (n : Nat) (x0 x1 x4 x7 x8 : DV) (h0 : Hp) : Res :=
  bnd (pInt .eql x8 (.i .i64 (Int.ofNat 4)) h0) fun v1 h1 =>
  ifD v1 (
    bnd (pField 0 x7 h1) fun v2 h2 =>
    bnd (pStore 1 v2 (.i .i64 (Int.ofNat 10)) h2) fun _ h3 =>
    bnd (pInt .add x1 (.i .i64 (Int.ofNat 1)) h3) fun v4 h4 =>
    bnd (pSliceS x0 (some x1) (some v4) h4) fun v5 h5 =>
    bnd (pField 1 x7 h5) fun v6 h6 =>
    bnd (pStore 1 v6 v5 h6) fun _ h7 =>
    bnd (pLoadA 4 x7 h7) fun v8 h8 =>
    bnd (pInt .add x1 (.i .i64 (Int.ofNat 1)) h8) fun v9 h9 =>
    bnd (pStore 4 x4 v8 h9) fun _ h10 =>
    bnd (pLoadA 4 x4 h10) fun v11 _ =>
    some (.t [v11, v9, (.i .i64 (Int.ofNat 0))], h10)) (
    bnd (pIndexS x0 x1 h1) fun v12 h12 =>
    bnd (pInt .eql v12 (.i .u8 (Int.ofNat 39)) h12) fun v13 h13 =>
    ifD v13 (
      bnd (pField 0 x7 h13) fun v14 h14 =>
      bnd (pStore 1 v14 (.i .i64 (Int.ofNat 5)) h14) fun _ h15 =>
      bnd (pLoadA 4 x7 h15) fun v16 h16 =>
      bnd (rec 37 [x0, v16] h16) fun v17 h17 =>
      bnd (pExtract 0 v17 h17) fun v18 h18 =>
      bnd (pExtract 1 v17 h18) fun v19 h19 =>
      bnd (pExtract 2 v17 h19) fun v20 h20 =>
      bnd (pStore 4 x4 v18 h20) fun _ h21 =>
      bnd (pLoadA 4 x4 h21) fun v22 _ =>
      some (.t [v22, v19, v20], h21)) (
      bnd (pIndexS x0 x1 h13) fun v23 h23 =>
      bnd (pInt .eql v23 (.i .u8 (Int.ofNat 35)) h23) fun v24 h24 =>
      ifD v24 (
        bnd (pLoadA 4 x7 h24) fun v25 h25 =>
        bnd (rec 38 [x0, v25] h25) fun v26 h26 =>
        bnd (pExtract 0 v26 h26) fun v27 h27 =>
        bnd (pExtract 1 v26 h27) fun v28 h28 =>
        bnd (pExtract 2 v26 h28) fun v29 h29 =>
        bnd (pStore 4 x4 v27 h29) fun _ h30 =>
        bnd (pLoadA 4 x4 h30) fun v31 _ =>
        some (.t [v31, v28, v29], h30)) (
        bnd (pIndexS x0 x1 h24) fun v32 h32 =>
        bnd (pInt .eql v32 (.i .u8 (Int.ofNat 58)) h32) fun v33 h33 =>
        bnd (gD v33 true (some (x1, h33)) h33) fun v34 h34 =>
        bnd (gD v33 true (pInt .add v34 (.i .i64 (Int.ofNat 1)) h34) h34) fun v35 h35 =>
        bnd (gD v33 true (some (x0, h35)) h35) fun v36 h36 =>
        bnd (gD v33 true (pLenS v36 h36) h36) fun v37 h37 =>
        bnd (gD v33 true (pInt .lss v35 v37 h37) h37) fun v38 h38 =>
        bnd (pPick v33 v38 (.b false) h38) fun v39 h39 =>
        bnd (gD v39 true (some (x0, h39)) h39) fun v40 h40 =>
        bnd (gD v39 true (some (x1, h40)) h40) fun v41 h41 =>
        bnd (gD v39 true (pInt .add v41 (.i .i64 (Int.ofNat 1)) h41) h41) fun v42 h42 =>
        bnd (gD v39 true (pIndexS v40 v42 h42) h42) fun v43 h43 =>
        bnd (gD v39 true (pInt .eql v43 (.i .u8 (Int.ofNat 61)) h43) h43) fun v44 h44 =>
        bnd (pPick v39 v44 (.b false) h44) fun v45 h45 =>
        ifD v45 (
          bnd (pField 0 x7 h45) fun v46 h46 =>
          bnd (pStore 1 v46 (.i .i64 (Int.ofNat 9)) h46) fun _ h47 =>
          bnd (pLoadA 4 x7 h47) fun v48 h48 =>
          bnd (pInt .add x1 (.i .i64 (Int.ofNat 2)) h48) fun v49 h49 =>
          bnd (pStore 4 x4 v48 h49) fun _ h50 =>
          bnd (pLoadA 4 x4 h50) fun v51 _ =>
          some (.t [v51, v49, (.i .i64 (Int.ofNat 0))], h50)) (
          bnd (pIndexS x0 x1 h45) fun v52 h52 =>
          bnd (pInt .eql v52 (.i .u8 (Int.ofNat 58)) h52) fun v53 h53 =>
          bnd (gD v53 true (some (x0, h53)) h53) fun v54 h54 =>
          bnd (gD v53 true (some (x1, h54)) h54) fun v55 h55 =>
          bnd (gD v53 true (pInt .add v55 (.i .i64 (Int.ofNat 1)) h55) h55) fun v56 h56 =>
          bnd (gD v53 true (rec 34 [v54, v56] h56) h56) fun v57 h57 =>
          bnd (gD v53 true (pInt .eql v57 (.i .i64 (Int.ofNat 1)) h57) h57) fun v58 h58 =>
          bnd (pPick v53 v58 (.b false) h58) fun v59 h59 =>
          ifD v59 (
            bnd (pInt .add x1 (.i .i64 (Int.ofNat 1)) h59) fun v60 h60 =>
            bnd (rec 35 [x0, v60] h60) fun v61 h61 =>
            bnd (pInt .sub v61 x1 h61) fun v62 h62 =>
            bnd (pInt .sub v62 (.i .i64 (Int.ofNat 1)) h62) fun v63 h63 =>
            bnd (pInt .gtr v63 (.i .i64 (Int.ofNat 24)) h63) fun v64 h64 =>
            ifD v64 (
              bnd (pLoadA 4 x7 h64) fun v65 h65 =>
              bnd (pStore 4 x4 v65 h65) fun _ h66 =>
              bnd (pLoadA 4 x4 h66) fun v67 _ =>
              some (.t [v67, (.i .i64 (Int.ofNat 0)), (.i .i64 (Int.ofNat 12))], h66)) (
              bnd (pField 0 x7 h64) fun v68 h68 =>
              bnd (pStore 1 v68 (.i .i64 (Int.ofNat 8)) h68) fun _ h69 =>
              bnd (pInt .add x1 (.i .i64 (Int.ofNat 1)) h69) fun v70 h70 =>
              bnd (pSliceS x0 (some v70) (some v61) h70) fun v71 h71 =>
              bnd (pField 1 x7 h71) fun v72 h72 =>
              bnd (pStore 1 v72 v71 h72) fun _ h73 =>
              bnd (pLoadA 4 x7 h73) fun v74 h74 =>
              bnd (pStore 4 x4 v74 h74) fun _ h75 =>
              bnd (pLoadA 4 x4 h75) fun v76 _ =>
              some (.t [v76, v61, (.i .i64 (Int.ofNat 0))], h75))) (
            bnd (pLoadA 4 x7 h59) fun v77 h77 =>
            bnd (pStore 4 x4 v77 h77) fun _ h78 =>
            bnd (pLoadA 4 x4 h78) fun v79 _ =>
            some (.t [v79, (.i .i64 (Int.ofNat 0)), (.i .i64 (Int.ofNat 10))], h78))))))

noncomputable def s20a11 (rec : FuncId → List DV → Hp → Res) (n : Nat) (x0 x1 x4 x7 x11 : DV) (h0 : Hp) : Res :=
  bnd (pSliceS x0 (some x1) (some x11) h0) fun v159 h159 =>
  bnd (pField 1 x7 h159) fun v160 h160 =>
  bnd (pStore 1 v160 v159 h160) fun _ h161 =>
  bnd (pLoadA 4 x7 h161) fun v162 h162 =>
  bnd (pStore 4 x4 v162 h162) fun _ h163 =>
  bnd (pLoadA 4 x4 h163) fun v164 _ =>
  some (.t [v164, x11, (.i .i64 (Int.ofNat 0))], h163)

noncomputable def s20a10 (rec : FuncId → List DV → Hp → Res) (n : Nat) (x0 x1 x4 x7 x11 : DV) (h0 : Hp) : Res :=
  bnd (rec 34 [x0, x11] h0) fun v171 h171 =>
  bnd (pInt .eql v171 (.i .i64 (Int.ofNat 3)) h171) fun v172 h172 =>
  ifD v172 (
    bnd (pInt .add x11 (.i .i64 (Int.ofNat 1)) h172) fun v173 h173 =>
    s20a11 rec n x0 x1 x4 x7 v173 h173) (
    s20a11 rec n x0 x1 x4 x7 x11 h172)

noncomputable def s20a9 (rec : FuncId → List DV → Hp → Res) (n : Nat) (x0 x1 x4 x7 : DV) (h0 : Hp) : Res :=
  bnd (pInt .add x1 (.i .i64 (Int.ofNat 1)) h0) fun v177 h177 =>
  s20a10 rec n x0 x1 x4 x7 v177 h177

noncomputable def s20a8 (rec : FuncId → List DV → Hp → Res) (n : Nat) (x0 x1 x4 x7 : DV) (h0 : Hp) : Res :=
  bnd (pField 0 x7 h0) fun v179 h179 =>
  bnd (pStore 1 v179 (.i .i64 (Int.ofNat 3)) h179) fun _ h180 =>
  s20a9 rec n x0 x1 x4 x7 h180

noncomputable def s20a7 (rec : FuncId → List DV → Hp → Res) (n : Nat) (x0 x1 x4 x7 x8 x72 : DV) (h0 : Hp) : Res :=
  ifD x72 (
    s20a8 rec n x0 x1 x4 x7 h0) (
    s20a6 rec n x0 x1 x4 x7 x8 h0)

noncomputable def s20a5 (rec : FuncId → List DV → Hp → Res) (n : Nat) (x0 x1 x4 x7 x8 : DV) (h0 : Hp) : Res :=
  bnd (pInt .eql x8 (.i .i64 (Int.ofNat 3)) h0) fun v183 h183 =>
  s20a7 rec n x0 x1 x4 x7 x8 v183 h183

noncomputable def s20a15 (rec : FuncId → List DV → Hp → Res) (n : Nat) (x1 x4 x7 : DV) (h0 : Hp) : Res :=
  bnd (pLoadA 4 x7 h0) fun v185 h185 =>
  bnd (pStore 4 x4 v185 h185) fun _ h186 =>
  bnd (pLoadA 4 x4 h186) fun v187 _ =>
  some (.t [v187, x1, (.i .i64 (Int.ofNat 0))], h186)

noncomputable def s20a16b (rec : FuncId → List DV → Hp → Res) (n : Nat) (kk16 : DV → DV → DV → DV → Hp → Res) (x0 x1 x4 x7 : DV) (h0 : Hp) : Res :=
    bnd (rec 34 [x0, x1] h0) fun v191 h191 =>
    bnd (pInt .eql v191 (.i .i64 (Int.ofNat 2)) h191) fun v192 h192 =>
    ifD v192 (
      bnd (pIndexS x0 x1 h192) fun v193 h193 =>
      bnd (pInt .sub v193 (.i .u8 (Int.ofNat 48)) h193) fun v194 h194 =>
      bnd (pConvI .i64 v194 h194) fun v195 h195 =>
      bnd (pField 2 x7 h195) fun v196 h196 =>
      bnd (pLoad1 v196 h196) fun v197 h197 =>
      bnd (pInt .sub (.i .i64 (Int.ofNat 1152921504606846976)) v195 h197) fun v198 h198 =>
      bnd (pInt .quo v198 (.i .i64 (Int.ofNat 10)) h198) fun v199 h199 =>
      bnd (pInt .gtr v197 v199 h199) fun v200 h200 =>
      ifD v200 (
        bnd (pLoadA 4 x7 h200) fun v201 h201 =>
        bnd (pStore 4 x4 v201 h201) fun _ h202 =>
        bnd (pLoadA 4 x4 h202) fun v203 _ =>
        some (.t [v203, (.i .i64 (Int.ofNat 0)), (.i .i64 (Int.ofNat 2))], h202)) (
        bnd (pField 2 x7 h200) fun v204 h204 =>
        bnd (pLoad1 v204 h204) fun v205 h205 =>
        bnd (pInt .mul (.i .i64 (Int.ofNat 10)) v205 h205) fun v206 h206 =>
        bnd (pInt .add v206 v195 h206) fun v207 h207 =>
        bnd (pField 2 x7 h207) fun v208 h208 =>
        bnd (pStore 1 v208 v207 h208) fun _ h209 =>
        bnd (pInt .add x1 (.i .i64 (Int.ofNat 1)) h209) fun v210 h210 =>
        kk16 x0 v210 x4 x7 h210)) (
      s20a15 rec n x1 x4 x7 h192)

noncomputable def s20a16l (rec : FuncId → List DV → Hp → Res) (n : Nat) (m : Nat) : DV → DV → DV → DV → Hp → Res :=
  Nat.rec (motive := fun _ => DV → DV → DV → DV → Hp → Res) (fun _ _ _ _ _ => none) (fun _ ih => s20a16b rec n ih) m

noncomputable def s20a16 (rec : FuncId → List DV → Hp → Res) (n : Nat) : DV → DV → DV → DV → Hp → Res := s20a16l rec n n

noncomputable def s20a14 (rec : FuncId → List DV → Hp → Res) (n : Nat) (x0 x1 x4 x7 : DV) (h0 : Hp) : Res :=
  s20a16 rec n x0 x1 x4 x7 h0

noncomputable def s20a13 (rec : FuncId → List DV → Hp → Res) (n : Nat) (x0 x1 x4 x7 : DV) (h0 : Hp) : Res :=
  bnd (pField 0 x7 h0) fun v231 h231 =>
  bnd (pStore 1 v231 (.i .i64 (Int.ofNat 4)) h231) fun _ h232 =>
  s20a14 rec n x0 x1 x4 x7 h232

noncomputable def s20a12 (rec : FuncId → List DV → Hp → Res) (n : Nat) (x0 x1 x4 x7 x8 x43 : DV) (h0 : Hp) : Res :=
  ifD x43 (
    s20a13 rec n x0 x1 x4 x7 h0) (
    s20a5 rec n x0 x1 x4 x7 x8 h0)

noncomputable def s20a4 (rec : FuncId → List DV → Hp → Res) (n : Nat) (x0 x1 x4 x7 x8 : DV) (h0 : Hp) : Res :=
  bnd (pInt .eql x8 (.i .i64 (Int.ofNat 2)) h0) fun v235 h235 =>
  s20a12 rec n x0 x1 x4 x7 x8 v235 h235

noncomputable def s20a22 (rec : FuncId → List DV → Hp → Res) (n : Nat) (x0 x1 x4 x7 x9 : DV) (h0 : Hp) : Res :=
  bnd (pSliceS x0 (some x1) (some x9) h0) fun v237 h237 =>
  bnd (pField 1 x7 h237) fun v238 h238 =>
  bnd (pStore 1 v238 v237 h238) fun _ h239 =>
  bnd (pLoadA 4 x7 h239) fun v240 h240 =>
  bnd (pStore 4 x4 v240 h240) fun _ h241 =>
  bnd (pLoadA 4 x4 h241) fun v242 _ =>
  some (.t [v242, x9, (.i .i64 (Int.ofNat 0))], h241)

noncomputable def s20a21 (rec : FuncId → List DV → Hp → Res) (n : Nat) (x0 x1 x4 x7 x9 : DV) (h0 : Hp) : Res :=
  bnd (rec 36 [x0, x9] h0) fun v249 h249 =>
  ifD v249 (
    bnd (pField 0 x7 h249) fun v250 h250 =>
    bnd (pStore 1 v250 (.i .i64 (Int.ofNat 2)) h250) fun _ h251 =>
    bnd (pInt .add x9 (.i .i64 (Int.ofNat 1)) h251) fun v252 h252 =>
    s20a22 rec n x0 x1 x4 x7 v252 h252) (
    s20a22 rec n x0 x1 x4 x7 x9 h249)

noncomputable def s20a20 (rec : FuncId → List DV → Hp → Res) (n : Nat) (x0 x1 x4 x7 x9 : DV) (h0 : Hp) : Res :=
  bnd (pField 0 x7 h0) fun v257 h257 =>
  bnd (pStore 1 v257 (.i .i64 (Int.ofNat 1)) h257) fun _ h258 =>
  s20a21 rec n x0 x1 x4 x7 x9 h258

noncomputable def s20a19 (rec : FuncId → List DV → Hp → Res) (n : Nat) (x0 x1 x4 x7 x9 : DV) (h0 : Hp) : Res :=
  bnd (pInt .sub x9 x1 h0) fun v261 h261 =>
  bnd (pInt .gtr v261 (.i .i64 (Int.ofNat 24)) h261) fun v262 h262 =>
  ifD v262 (
    bnd (pLoadA 4 x7 h262) fun v263 h263 =>
    bnd (pStore 4 x4 v263 h263) fun _ h264 =>
    bnd (pLoadA 4 x4 h264) fun v265 _ =>
    some (.t [v265, (.i .i64 (Int.ofNat 0)), (.i .i64 (Int.ofNat 12))], h264)) (
    s20a20 rec n x0 x1 x4 x7 x9 h262)

noncomputable def s20a18 (rec : FuncId → List DV → Hp → Res) (n : Nat) (x0 x1 x4 x7 : DV) (h0 : Hp) : Res :=
  bnd (rec 35 [x0, x1] h0) fun v271 h271 =>
  s20a19 rec n x0 x1 x4 x7 v271 h271

noncomputable def s20a17 (rec : FuncId → List DV → Hp → Res) (n : Nat) (x0 x1 x4 x7 x8 x19 : DV) (h0 : Hp) : Res :=
  ifD x19 (
    s20a18 rec n x0 x1 x4 x7 h0) (
    s20a4 rec n x0 x1 x4 x7 x8 h0)

noncomputable def s20a3 (rec : FuncId → List DV → Hp → Res) (n : Nat) (x0 x1 x4 x7 x8 : DV) (h0 : Hp) : Res :=
  bnd (pInt .eql x8 (.i .i64 (Int.ofNat 1)) h0) fun v273 h273 =>
  s20a17 rec n x0 x1 x4 x7 x8 v273 h273

noncomputable def s20a2 (rec : FuncId → List DV → Hp → Res) (n : Nat) (x0 x1 x4 x7 : DV) (h0 : Hp) : Res :=
  bnd (rec 34 [x0, x1] h0) fun v275 h275 =>
  s20a3 rec n x0 x1 x4 x7 v275 h275

noncomputable def s20a1 (rec : FuncId → List DV → Hp → Res) (n : Nat) (x0 x1 x4 : DV) (h0 : Hp) : Res :=
  bnd (pBuild [(.i .i64 (Int.ofNat 0)), (.s []), (.i .i64 (Int.ofNat 0)), (.i .i64 (Int.ofNat 0))] [(3, 1, x1)] h0) fun v277 h277 =>
  bnd (pNew [(.i .i64 (Int.ofNat 0)), (.s []), (.i .i64 (Int.ofNat 0)), (.i .i64 (Int.ofNat 0))] h277) fun v278 h278 =>
  bnd (pStore 4 v278 v277 h278) fun _ h279 =>
  s20a2 rec n x0 x1 x4 v278 h279

/-- vivariumref06.token -/
noncomputable def s20 (rec : FuncId → List DV → Hp → Res) (n : Nat) (x0 x1 : DV) (h0 : Hp) : Res :=
  bnd (pNew [(.i .i64 (Int.ofNat 0)), (.s []), (.i .i64 (Int.ofNat 0)), (.i .i64 (Int.ofNat 0))] h0) fun v289 h289 =>
  s20a1 rec n x0 x1 v289 h289

noncomputable def D20 (rec : FuncId → List DV → Hp → Res) (n : Nat) (c : Code) (X : Nat → K) (k : K) : K := codeD CF rec 175 n c X (retK CF Try.f20) k

theorem s20a6e (rec : FuncId → List DV → Hp → Res) (n : Nat) : D20 rec n (cR (cR (cR (cR (cR (cR (cf Try.f20))))))) x0 (retK CF Try.f20) = (fun (env : Env) (h : Hp) => s20a6 rec n (env 0) (env 1) (env 4) (env 7) (env 8) h) :=
  (by kernel_rfl)

theorem s20a11e (rec : FuncId → List DV → Hp → Res) (n : Nat) : D20 rec n (cR (cR (cR (cL (cR (cL (cR (cR (cR (cR (cR (cf Try.f20)))))))))))) x0 (fun (env : Env) (h : Hp) => s20a6 rec n (env 0) (env 1) (env 4) (env 7) (env 8) h) = (fun (env : Env) (h : Hp) => s20a11 rec n (env 0) (env 1) (env 4) (env 7) (env 11) h) :=
  (by kernel_rfl)

theorem s20a10p1 (rec : FuncId → List DV → Hp → Res) (n : Nat) : D20 rec n (cR (cR (cL (cR (cL (cR (cR (cR (cR (cR (cf Try.f20))))))))))) x0 (fun (env : Env) (h : Hp) => s20a6 rec n (env 0) (env 1) (env 4) (env 7) (env 8) h) = D20 rec n (cL (cR (cR (cL (cR (cL (cR (cR (cR (cR (cR (cf Try.f20)))))))))))) x0 (fun (env : Env) (h : Hp) => s20a11 rec n (env 0) (env 1) (env 4) (env 7) (env 11) h) :=
  congrArg (fun k => D20 rec n (cL (cR (cR (cL (cR (cL (cR (cR (cR (cR (cR (cf Try.f20)))))))))))) x0 k) (s20a11e rec n)

theorem s20a10e (rec : FuncId → List DV → Hp → Res) (n : Nat) : D20 rec n (cR (cR (cL (cR (cL (cR (cR (cR (cR (cR (cf Try.f20))))))))))) x0 (fun (env : Env) (h : Hp) => s20a6 rec n (env 0) (env 1) (env 4) (env 7) (env 8) h) = (fun (env : Env) (h : Hp) => s20a10 rec n (env 0) (env 1) (env 4) (env 7) (env 11) h) :=
  (s20a10p1 rec n).trans
  ((by kernel_rfl))

theorem s20a9p2 (rec : FuncId → List DV → Hp → Res) (n : Nat) : D20 rec n (cR (cL (cR (cL (cR (cR (cR (cR (cR (cf Try.f20)))))))))) x0 (fun (env : Env) (h : Hp) => s20a6 rec n (env 0) (env 1) (env 4) (env 7) (env 8) h) = D20 rec n (cL (cR (cL (cR (cL (cR (cR (cR (cR (cR (cf Try.f20))))))))))) x0 (fun (env : Env) (h : Hp) => s20a10 rec n (env 0) (env 1) (env 4) (env 7) (env 11) h) :=
  congrArg (fun k => D20 rec n (cL (cR (cL (cR (cL (cR (cR (cR (cR (cR (cf Try.f20))))))))))) x0 k) (s20a10e rec n)

theorem s20a9e (rec : FuncId → List DV → Hp → Res) (n : Nat) : D20 rec n (cR (cL (cR (cL (cR (cR (cR (cR (cR (cf Try.f20)))))))))) x0 (fun (env : Env) (h : Hp) => s20a6 rec n (env 0) (env 1) (env 4) (env 7) (env 8) h) = (fun (env : Env) (h : Hp) => s20a9 rec n (env 0) (env 1) (env 4) (env 7) h) :=
  (s20a9p2 rec n).trans
  ((by kernel_rfl))

theorem s20a8p3 (rec : FuncId → List DV → Hp → Res) (n : Nat) : D20 rec n (cL (cR (cL (cR (cR (cR (cR (cR (cf Try.f20))))))))) x0 (fun (env : Env) (h : Hp) => s20a6 rec n (env 0) (env 1) (env 4) (env 7) (env 8) h) = D20 rec n (cL (cL (cR (cL (cR (cR (cR (cR (cR (cf Try.f20)))))))))) x0 (fun (env : Env) (h : Hp) => s20a9 rec n (env 0) (env 1) (env 4) (env 7) h) :=
  congrArg (fun k => D20 rec n (cL (cL (cR (cL (cR (cR (cR (cR (cR (cf Try.f20)))))))))) x0 k) (s20a9e rec n)

theorem s20a8e (rec : FuncId → List DV → Hp → Res) (n : Nat) : D20 rec n (cL (cR (cL (cR (cR (cR (cR (cR (cf Try.f20))))))))) x0 (fun (env : Env) (h : Hp) => s20a6 rec n (env 0) (env 1) (env 4) (env 7) (env 8) h) = (fun (env : Env) (h : Hp) => s20a8 rec n (env 0) (env 1) (env 4) (env 7) h) :=
  (s20a8p3 rec n).trans
  ((by kernel_rfl))

theorem s20a7e (rec : FuncId → List DV → Hp → Res) (n : Nat) : D20 rec n (cR (cL (cR (cR (cR (cR (cR (cf Try.f20)))))))) x0 (fun (env : Env) (h : Hp) => s20a6 rec n (env 0) (env 1) (env 4) (env 7) (env 8) h) = (fun (env : Env) (h : Hp) => s20a7 rec n (env 0) (env 1) (env 4) (env 7) (env 8) (env 72) h) :=
  (by kernel_rfl : D20 rec n (cR (cL (cR (cR (cR (cR (cR (cf Try.f20)))))))) x0 (fun (env : Env) (h : Hp) => s20a6 rec n (env 0) (env 1) (env 4) (env 7) (env 8) h) = (fun (env : Env) (h : Hp) => ifD (opr env (cC (cR (cL (cR (cR (cR (cR (cR (cf Try.f20)))))))))) (D20 rec n (cL (cR (cL (cR (cR (cR (cR (cR (cf Try.f20))))))))) x0 (fun (env : Env) (h : Hp) => s20a6 rec n (env 0) (env 1) (env 4) (env 7) (env 8) h) env h) (D20 rec n (cR (cR (cL (cR (cR (cR (cR (cR (cf Try.f20))))))))) x0 (fun (env : Env) (h : Hp) => s20a6 rec n (env 0) (env 1) (env 4) (env 7) (env 8) h) env h))).trans (by rw [s20a8e rec n]; kernel_rfl)

theorem s20a5p4 (rec : FuncId → List DV → Hp → Res) (n : Nat) : D20 rec n (cR (cR (cR (cR (cR (cf Try.f20)))))) x0 (retK CF Try.f20) = D20 rec n (cL (cR (cR (cR (cR (cR (cf Try.f20))))))) x0 (fun (env : Env) (h : Hp) => s20a6 rec n (env 0) (env 1) (env 4) (env 7) (env 8) h) :=
  congrArg (fun k => D20 rec n (cL (cR (cR (cR (cR (cR (cf Try.f20))))))) x0 k) (s20a6e rec n)

theorem s20a5p5 (rec : FuncId → List DV → Hp → Res) (n : Nat) : D20 rec n (cL (cR (cR (cR (cR (cR (cf Try.f20))))))) x0 (fun (env : Env) (h : Hp) => s20a6 rec n (env 0) (env 1) (env 4) (env 7) (env 8) h) = D20 rec n (cL (cL (cR (cR (cR (cR (cR (cf Try.f20)))))))) x0 (fun (env : Env) (h : Hp) => s20a7 rec n (env 0) (env 1) (env 4) (env 7) (env 8) (env 72) h) :=
  congrArg (fun k => D20 rec n (cL (cL (cR (cR (cR (cR (cR (cf Try.f20)))))))) x0 k) (s20a7e rec n)

theorem s20a5e (rec : FuncId → List DV → Hp → Res) (n : Nat) : D20 rec n (cR (cR (cR (cR (cR (cf Try.f20)))))) x0 (retK CF Try.f20) = (fun (env : Env) (h : Hp) => s20a5 rec n (env 0) (env 1) (env 4) (env 7) (env 8) h) :=
  (s20a5p4 rec n).trans
  ((s20a5p5 rec n).trans
  ((by kernel_rfl)))

theorem s20a15e (rec : FuncId → List DV → Hp → Res) (n : Nat) : D20 rec n (cR (cR (cL (cR (cL (cR (cR (cR (cR (cf Try.f20)))))))))) x0 (fun (env : Env) (h : Hp) => s20a5 rec n (env 0) (env 1) (env 4) (env 7) (env 8) h) = (fun (env : Env) (h : Hp) => s20a15 rec n (env 1) (env 4) (env 7) h) :=
  (by kernel_rfl)

theorem s20a16be (rec : FuncId → List DV → Hp → Res) (n : Nat) (kk16 : DV → DV → DV → DV → Hp → Res) : D20 rec n (cL (cL (cL (cR (cL (cR (cL (cR (cR (cR (cR (cf Try.f20)))))))))))) (xs x0 0 (fun (env : Env) (h : Hp) => s20a15 rec n (env 1) (env 4) (env 7) h)) (fun (env : Env) (h : Hp) => kk16 (env 0) (env 1) (env 4) (env 7) h) = (fun (env : Env) (h : Hp) => s20a16b rec n kk16 (env 0) (env 1) (env 4) (env 7) h) :=
  (by kernel_rfl)

theorem s20a16le (rec : FuncId → List DV → Hp → Res) (n : Nat) (m : Nat) : loopN (fun kk => D20 rec n (cL (cL (cL (cR (cL (cR (cL (cR (cR (cR (cR (cf Try.f20)))))))))))) (xs x0 0 (fun (env : Env) (h : Hp) => s20a15 rec n (env 1) (env 4) (env 7) h)) kk) m = (fun (env : Env) (h : Hp) => s20a16l rec n m (env 0) (env 1) (env 4) (env 7) h) := by
  induction m with
  | zero => exact (by kernel_rfl : loopN (fun kk => D20 rec n (cL (cL (cL (cR (cL (cR (cL (cR (cR (cR (cR (cf Try.f20)))))))))))) (xs x0 0 (fun (env : Env) (h : Hp) => s20a15 rec n (env 1) (env 4) (env 7) h)) kk) 0 = (fun (env : Env) (h : Hp) => s20a16l rec n 0 (env 0) (env 1) (env 4) (env 7) h))
  | succ m ih =>
    refine (by kernel_rfl : loopN (fun kk => D20 rec n (cL (cL (cL (cR (cL (cR (cL (cR (cR (cR (cR (cf Try.f20)))))))))))) (xs x0 0 (fun (env : Env) (h : Hp) => s20a15 rec n (env 1) (env 4) (env 7) h)) kk) (m + 1) = D20 rec n (cL (cL (cL (cR (cL (cR (cL (cR (cR (cR (cR (cf Try.f20)))))))))))) (xs x0 0 (fun (env : Env) (h : Hp) => s20a15 rec n (env 1) (env 4) (env 7) h)) (loopN (fun kk => D20 rec n (cL (cL (cL (cR (cL (cR (cL (cR (cR (cR (cR (cf Try.f20)))))))))))) (xs x0 0 (fun (env : Env) (h : Hp) => s20a15 rec n (env 1) (env 4) (env 7) h)) kk) m)).trans ?_
    rw [ih]
    exact (s20a16be rec n (s20a16l rec n m)).trans (by kernel_rfl)

theorem s20a16e (rec : FuncId → List DV → Hp → Res) (n : Nat) : D20 rec n (cL (cL (cR (cL (cR (cL (cR (cR (cR (cR (cf Try.f20))))))))))) (xs x0 0 (fun (env : Env) (h : Hp) => s20a15 rec n (env 1) (env 4) (env 7) h)) (fun (env : Env) (h : Hp) => s20a15 rec n (env 1) (env 4) (env 7) h) = (fun (env : Env) (h : Hp) => s20a16 rec n (env 0) (env 1) (env 4) (env 7) h) :=
  (by kernel_rfl : D20 rec n (cL (cL (cR (cL (cR (cL (cR (cR (cR (cR (cf Try.f20))))))))))) (xs x0 0 (fun (env : Env) (h : Hp) => s20a15 rec n (env 1) (env 4) (env 7) h)) (fun (env : Env) (h : Hp) => s20a15 rec n (env 1) (env 4) (env 7) h) = loopN (fun kk => D20 rec n (cL (cL (cL (cR (cL (cR (cL (cR (cR (cR (cR (cf Try.f20)))))))))))) (xs x0 0 (fun (env : Env) (h : Hp) => s20a15 rec n (env 1) (env 4) (env 7) h)) kk) n).trans ((s20a16le rec n n).trans (by kernel_rfl))

theorem s20a14p6 (rec : FuncId → List DV → Hp → Res) (n : Nat) : D20 rec n (cR (cL (cR (cL (cR (cR (cR (cR (cf Try.f20))))))))) x0 (fun (env : Env) (h : Hp) => s20a5 rec n (env 0) (env 1) (env 4) (env 7) (env 8) h) = D20 rec n (cL (cR (cL (cR (cL (cR (cR (cR (cR (cf Try.f20)))))))))) x0 (fun (env : Env) (h : Hp) => s20a15 rec n (env 1) (env 4) (env 7) h) :=
  congrArg (fun k => D20 rec n (cL (cR (cL (cR (cL (cR (cR (cR (cR (cf Try.f20)))))))))) x0 k) (s20a15e rec n)

theorem s20a14e (rec : FuncId → List DV → Hp → Res) (n : Nat) : D20 rec n (cR (cL (cR (cL (cR (cR (cR (cR (cf Try.f20))))))))) x0 (fun (env : Env) (h : Hp) => s20a5 rec n (env 0) (env 1) (env 4) (env 7) (env 8) h) = (fun (env : Env) (h : Hp) => s20a14 rec n (env 0) (env 1) (env 4) (env 7) h) :=
  (s20a14p6 rec n).trans
  ((by kernel_rfl : D20 rec n (cL (cR (cL (cR (cL (cR (cR (cR (cR (cf Try.f20)))))))))) x0 (fun (env : Env) (h : Hp) => s20a15 rec n (env 1) (env 4) (env 7) h) = D20 rec n (cL (cL (cR (cL (cR (cL (cR (cR (cR (cR (cf Try.f20))))))))))) (xs x0 0 (fun (env : Env) (h : Hp) => s20a15 rec n (env 1) (env 4) (env 7) h)) (fun (env : Env) (h : Hp) => s20a15 rec n (env 1) (env 4) (env 7) h)).trans
  ((s20a16e rec n).trans (by kernel_rfl)))

theorem s20a13p7 (rec : FuncId → List DV → Hp → Res) (n : Nat) : D20 rec n (cL (cR (cL (cR (cR (cR (cR (cf Try.f20)))))))) x0 (fun (env : Env) (h : Hp) => s20a5 rec n (env 0) (env 1) (env 4) (env 7) (env 8) h) = D20 rec n (cL (cL (cR (cL (cR (cR (cR (cR (cf Try.f20))))))))) x0 (fun (env : Env) (h : Hp) => s20a14 rec n (env 0) (env 1) (env 4) (env 7) h) :=
  congrArg (fun k => D20 rec n (cL (cL (cR (cL (cR (cR (cR (cR (cf Try.f20))))))))) x0 k) (s20a14e rec n)

theorem s20a13e (rec : FuncId → List DV → Hp → Res) (n : Nat) : D20 rec n (cL (cR (cL (cR (cR (cR (cR (cf Try.f20)))))))) x0 (fun (env : Env) (h : Hp) => s20a5 rec n (env 0) (env 1) (env 4) (env 7) (env 8) h) = (fun (env : Env) (h : Hp) => s20a13 rec n (env 0) (env 1) (env 4) (env 7) h) :=
  (s20a13p7 rec n).trans
  ((by kernel_rfl))

theorem s20a12e (rec : FuncId → List DV → Hp → Res) (n : Nat) : D20 rec n (cR (cL (cR (cR (cR (cR (cf Try.f20))))))) x0 (fun (env : Env) (h : Hp) => s20a5 rec n (env 0) (env 1) (env 4) (env 7) (env 8) h) = (fun (env : Env) (h : Hp) => s20a12 rec n (env 0) (env 1) (env 4) (env 7) (env 8) (env 43) h) :=
  (by kernel_rfl : D20 rec n (cR (cL (cR (cR (cR (cR (cf Try.f20))))))) x0 (fun (env : Env) (h : Hp) => s20a5 rec n (env 0) (env 1) (env 4) (env 7) (env 8) h) = (fun (env : Env) (h : Hp) => ifD (opr env (cC (cR (cL (cR (cR (cR (cR (cf Try.f20))))))))) (D20 rec n (cL (cR (cL (cR (cR (cR (cR (cf Try.f20)))))))) x0 (fun (env : Env) (h : Hp) => s20a5 rec n (env 0) (env 1) (env 4) (env 7) (env 8) h) env h) (D20 rec n (cR (cR (cL (cR (cR (cR (cR (cf Try.f20)))))))) x0 (fun (env : Env) (h : Hp) => s20a5 rec n (env 0) (env 1) (env 4) (env 7) (env 8) h) env h))).trans (by rw [s20a13e rec n]; kernel_rfl)

theorem s20a4p8 (rec : FuncId → List DV → Hp → Res) (n : Nat) : D20 rec n (cR (cR (cR (cR (cf Try.f20))))) x0 (retK CF Try.f20) = D20 rec n (cL (cR (cR (cR (cR (cf Try.f20)))))) x0 (fun (env : Env) (h : Hp) => s20a5 rec n (env 0) (env 1) (env 4) (env 7) (env 8) h) :=
  congrArg (fun k => D20 rec n (cL (cR (cR (cR (cR (cf Try.f20)))))) x0 k) (s20a5e rec n)

theorem s20a4p9 (rec : FuncId → List DV → Hp → Res) (n : Nat) : D20 rec n (cL (cR (cR (cR (cR (cf Try.f20)))))) x0 (fun (env : Env) (h : Hp) => s20a5 rec n (env 0) (env 1) (env 4) (env 7) (env 8) h) = D20 rec n (cL (cL (cR (cR (cR (cR (cf Try.f20))))))) x0 (fun (env : Env) (h : Hp) => s20a12 rec n (env 0) (env 1) (env 4) (env 7) (env 8) (env 43) h) :=
  congrArg (fun k => D20 rec n (cL (cL (cR (cR (cR (cR (cf Try.f20))))))) x0 k) (s20a12e rec n)

theorem s20a4e (rec : FuncId → List DV → Hp → Res) (n : Nat) : D20 rec n (cR (cR (cR (cR (cf Try.f20))))) x0 (retK CF Try.f20) = (fun (env : Env) (h : Hp) => s20a4 rec n (env 0) (env 1) (env 4) (env 7) (env 8) h) :=
  (s20a4p8 rec n).trans
  ((s20a4p9 rec n).trans
  ((by kernel_rfl)))

theorem s20a22e (rec : FuncId → List DV → Hp → Res) (n : Nat) : D20 rec n (cR (cR (cR (cR (cL (cR (cL (cR (cR (cR (cf Try.f20))))))))))) x0 (fun (env : Env) (h : Hp) => s20a4 rec n (env 0) (env 1) (env 4) (env 7) (env 8) h) = (fun (env : Env) (h : Hp) => s20a22 rec n (env 0) (env 1) (env 4) (env 7) (env 9) h) :=
  (by kernel_rfl)

theorem s20a21p10 (rec : FuncId → List DV → Hp → Res) (n : Nat) : D20 rec n (cR (cR (cR (cL (cR (cL (cR (cR (cR (cf Try.f20)))))))))) x0 (fun (env : Env) (h : Hp) => s20a4 rec n (env 0) (env 1) (env 4) (env 7) (env 8) h) = D20 rec n (cL (cR (cR (cR (cL (cR (cL (cR (cR (cR (cf Try.f20))))))))))) x0 (fun (env : Env) (h : Hp) => s20a22 rec n (env 0) (env 1) (env 4) (env 7) (env 9) h) :=
  congrArg (fun k => D20 rec n (cL (cR (cR (cR (cL (cR (cL (cR (cR (cR (cf Try.f20))))))))))) x0 k) (s20a22e rec n)

theorem s20a21e (rec : FuncId → List DV → Hp → Res) (n : Nat) : D20 rec n (cR (cR (cR (cL (cR (cL (cR (cR (cR (cf Try.f20)))))))))) x0 (fun (env : Env) (h : Hp) => s20a4 rec n (env 0) (env 1) (env 4) (env 7) (env 8) h) = (fun (env : Env) (h : Hp) => s20a21 rec n (env 0) (env 1) (env 4) (env 7) (env 9) h) :=
  (s20a21p10 rec n).trans
  ((by kernel_rfl))

theorem s20a20p11 (rec : FuncId → List DV → Hp → Res) (n : Nat) : D20 rec n (cR (cR (cL (cR (cL (cR (cR (cR (cf Try.f20))))))))) x0 (fun (env : Env) (h : Hp) => s20a4 rec n (env 0) (env 1) (env 4) (env 7) (env 8) h) = D20 rec n (cL (cR (cR (cL (cR (cL (cR (cR (cR (cf Try.f20)))))))))) x0 (fun (env : Env) (h : Hp) => s20a21 rec n (env 0) (env 1) (env 4) (env 7) (env 9) h) :=
  congrArg (fun k => D20 rec n (cL (cR (cR (cL (cR (cL (cR (cR (cR (cf Try.f20)))))))))) x0 k) (s20a21e rec n)

theorem s20a20e (rec : FuncId → List DV → Hp → Res) (n : Nat) : D20 rec n (cR (cR (cL (cR (cL (cR (cR (cR (cf Try.f20))))))))) x0 (fun (env : Env) (h : Hp) => s20a4 rec n (env 0) (env 1) (env 4) (env 7) (env 8) h) = (fun (env : Env) (h : Hp) => s20a20 rec n (env 0) (env 1) (env 4) (env 7) (env 9) h) :=
  (s20a20p11 rec n).trans
  ((by kernel_rfl))

theorem s20a19p12 (rec : FuncId → List DV → Hp → Res) (n : Nat) : D20 rec n (cR (cL (cR (cL (cR (cR (cR (cf Try.f20)))))))) x0 (fun (env : Env) (h : Hp) => s20a4 rec n (env 0) (env 1) (env 4) (env 7) (env 8) h) = D20 rec n (cL (cR (cL (cR (cL (cR (cR (cR (cf Try.f20))))))))) x0 (fun (env : Env) (h : Hp) => s20a20 rec n (env 0) (env 1) (env 4) (env 7) (env 9) h) :=
  congrArg (fun k => D20 rec n (cL (cR (cL (cR (cL (cR (cR (cR (cf Try.f20))))))))) x0 k) (s20a20e rec n)

theorem s20a19e (rec : FuncId → List DV → Hp → Res) (n : Nat) : D20 rec n (cR (cL (cR (cL (cR (cR (cR (cf Try.f20)))))))) x0 (fun (env : Env) (h : Hp) => s20a4 rec n (env 0) (env 1) (env 4) (env 7) (env 8) h) = (fun (env : Env) (h : Hp) => s20a19 rec n (env 0) (env 1) (env 4) (env 7) (env 9) h) :=
  (s20a19p12 rec n).trans
  ((by kernel_rfl))

theorem s20a18p13 (rec : FuncId → List DV → Hp → Res) (n : Nat) : D20 rec n (cL (cR (cL (cR (cR (cR (cf Try.f20))))))) x0 (fun (env : Env) (h : Hp) => s20a4 rec n (env 0) (env 1) (env 4) (env 7) (env 8) h) = D20 rec n (cL (cL (cR (cL (cR (cR (cR (cf Try.f20)))))))) x0 (fun (env : Env) (h : Hp) => s20a19 rec n (env 0) (env 1) (env 4) (env 7) (env 9) h) :=
  congrArg (fun k => D20 rec n (cL (cL (cR (cL (cR (cR (cR (cf Try.f20)))))))) x0 k) (s20a19e rec n)

theorem s20a18e (rec : FuncId → List DV → Hp → Res) (n : Nat) : D20 rec n (cL (cR (cL (cR (cR (cR (cf Try.f20))))))) x0 (fun (env : Env) (h : Hp) => s20a4 rec n (env 0) (env 1) (env 4) (env 7) (env 8) h) = (fun (env : Env) (h : Hp) => s20a18 rec n (env 0) (env 1) (env 4) (env 7) h) :=
  (s20a18p13 rec n).trans
  ((by kernel_rfl))

theorem s20a17e (rec : FuncId → List DV → Hp → Res) (n : Nat) : D20 rec n (cR (cL (cR (cR (cR (cf Try.f20)))))) x0 (fun (env : Env) (h : Hp) => s20a4 rec n (env 0) (env 1) (env 4) (env 7) (env 8) h) = (fun (env : Env) (h : Hp) => s20a17 rec n (env 0) (env 1) (env 4) (env 7) (env 8) (env 19) h) :=
  (by kernel_rfl : D20 rec n (cR (cL (cR (cR (cR (cf Try.f20)))))) x0 (fun (env : Env) (h : Hp) => s20a4 rec n (env 0) (env 1) (env 4) (env 7) (env 8) h) = (fun (env : Env) (h : Hp) => ifD (opr env (cC (cR (cL (cR (cR (cR (cf Try.f20)))))))) (D20 rec n (cL (cR (cL (cR (cR (cR (cf Try.f20))))))) x0 (fun (env : Env) (h : Hp) => s20a4 rec n (env 0) (env 1) (env 4) (env 7) (env 8) h) env h) (D20 rec n (cR (cR (cL (cR (cR (cR (cf Try.f20))))))) x0 (fun (env : Env) (h : Hp) => s20a4 rec n (env 0) (env 1) (env 4) (env 7) (env 8) h) env h))).trans (by rw [s20a18e rec n]; kernel_rfl)

theorem s20a3p14 (rec : FuncId → List DV → Hp → Res) (n : Nat) : D20 rec n (cR (cR (cR (cf Try.f20)))) x0 (retK CF Try.f20) = D20 rec n (cL (cR (cR (cR (cf Try.f20))))) x0 (fun (env : Env) (h : Hp) => s20a4 rec n (env 0) (env 1) (env 4) (env 7) (env 8) h) :=
  congrArg (fun k => D20 rec n (cL (cR (cR (cR (cf Try.f20))))) x0 k) (s20a4e rec n)

theorem s20a3p15 (rec : FuncId → List DV → Hp → Res) (n : Nat) : D20 rec n (cL (cR (cR (cR (cf Try.f20))))) x0 (fun (env : Env) (h : Hp) => s20a4 rec n (env 0) (env 1) (env 4) (env 7) (env 8) h) = D20 rec n (cL (cL (cR (cR (cR (cf Try.f20)))))) x0 (fun (env : Env) (h : Hp) => s20a17 rec n (env 0) (env 1) (env 4) (env 7) (env 8) (env 19) h) :=
  congrArg (fun k => D20 rec n (cL (cL (cR (cR (cR (cf Try.f20)))))) x0 k) (s20a17e rec n)

theorem s20a3e (rec : FuncId → List DV → Hp → Res) (n : Nat) : D20 rec n (cR (cR (cR (cf Try.f20)))) x0 (retK CF Try.f20) = (fun (env : Env) (h : Hp) => s20a3 rec n (env 0) (env 1) (env 4) (env 7) (env 8) h) :=
  (s20a3p14 rec n).trans
  ((s20a3p15 rec n).trans
  ((by kernel_rfl)))

theorem s20a2p16 (rec : FuncId → List DV → Hp → Res) (n : Nat) : D20 rec n (cR (cR (cf Try.f20))) x0 (retK CF Try.f20) = D20 rec n (cL (cR (cR (cf Try.f20)))) x0 (fun (env : Env) (h : Hp) => s20a3 rec n (env 0) (env 1) (env 4) (env 7) (env 8) h) :=
  congrArg (fun k => D20 rec n (cL (cR (cR (cf Try.f20)))) x0 k) (s20a3e rec n)

theorem s20a2e (rec : FuncId → List DV → Hp → Res) (n : Nat) : D20 rec n (cR (cR (cf Try.f20))) x0 (retK CF Try.f20) = (fun (env : Env) (h : Hp) => s20a2 rec n (env 0) (env 1) (env 4) (env 7) h) :=
  (s20a2p16 rec n).trans
  ((by kernel_rfl))

theorem s20a1p17 (rec : FuncId → List DV → Hp → Res) (n : Nat) : D20 rec n (cR (cf Try.f20)) x0 (retK CF Try.f20) = D20 rec n (cL (cR (cf Try.f20))) x0 (fun (env : Env) (h : Hp) => s20a2 rec n (env 0) (env 1) (env 4) (env 7) h) :=
  congrArg (fun k => D20 rec n (cL (cR (cf Try.f20))) x0 k) (s20a2e rec n)

theorem s20a1q18 (rec : FuncId → List DV → Hp → Res) (n : Nat) (q0 : DV → DV → DV → DV → Hp → Res) : D20 rec n (cL (cR (cf Try.f20))) x0 (fun (env : Env) (h : Hp) => q0 (env 0) (env 1) (env 4) (env 7) h) = fun (env : Env) (h : Hp) =>
    bnd (pBuild [(.i .i64 (Int.ofNat 0)), (.s []), (.i .i64 (Int.ofNat 0)), (.i .i64 (Int.ofNat 0))] [(3, 1, (env 1))] h) fun v283 h283 =>
    bnd (pNew [(.i .i64 (Int.ofNat 0)), (.s []), (.i .i64 (Int.ofNat 0)), (.i .i64 (Int.ofNat 0))] h283) fun v284 h284 =>
    bnd (pStore 4 v284 v283 h284) fun _ h285 =>
    q0 (env 0) (env 1) (env 4) v284 h285 := by kernel_rfl

theorem s20a1q18u (rec : FuncId → List DV → Hp → Res) (n : Nat) : (fun (env : Env) (h : Hp) =>
    bnd (pBuild [(.i .i64 (Int.ofNat 0)), (.s []), (.i .i64 (Int.ofNat 0)), (.i .i64 (Int.ofNat 0))] [(3, 1, (env 1))] h) fun v286 h286 =>
    bnd (pNew [(.i .i64 (Int.ofNat 0)), (.s []), (.i .i64 (Int.ofNat 0)), (.i .i64 (Int.ofNat 0))] h286) fun v287 h287 =>
    bnd (pStore 4 v287 v286 h287) fun _ h288 =>
    s20a2 rec n (env 0) (env 1) (env 4) v287 h288) = (fun (env : Env) (h : Hp) => s20a1 rec n (env 0) (env 1) (env 4) h) := by kernel_rfl

theorem s20a1e (rec : FuncId → List DV → Hp → Res) (n : Nat) : D20 rec n (cR (cf Try.f20)) x0 (retK CF Try.f20) = (fun (env : Env) (h : Hp) => s20a1 rec n (env 0) (env 1) (env 4) h) :=
  (s20a1p17 rec n).trans
  ((s20a1q18 rec n (s20a2 rec n)).trans (s20a1q18u rec n))

theorem s20p19 (rec : FuncId → List DV → Hp → Res) (n : Nat) : D20 rec n (cf Try.f20) x0 (retK CF Try.f20) = D20 rec n (cL (cf Try.f20)) x0 (fun (env : Env) (h : Hp) => s20a1 rec n (env 0) (env 1) (env 4) h) :=
  congrArg (fun k => D20 rec n (cL (cf Try.f20)) x0 k) (s20a1e rec n)

theorem s20q20 (rec : FuncId → List DV → Hp → Res) (n : Nat) (q0 : DV → DV → DV → Hp → Res) : D20 rec n (cL (cf Try.f20)) x0 (fun (env : Env) (h : Hp) => q0 (env 0) (env 1) (env 4) h) = fun (env : Env) (h : Hp) =>
    bnd (pNew [(.i .i64 (Int.ofNat 0)), (.s []), (.i .i64 (Int.ofNat 0)), (.i .i64 (Int.ofNat 0))] h) fun v291 h291 =>
    q0 (env 0) (env 1) v291 h291 := by kernel_rfl

theorem s20q20u (rec : FuncId → List DV → Hp → Res) (n : Nat) : (fun (env : Env) (h : Hp) =>
    bnd (pNew [(.i .i64 (Int.ofNat 0)), (.s []), (.i .i64 (Int.ofNat 0)), (.i .i64 (Int.ofNat 0))] h) fun v292 h292 =>
    s20a1 rec n (env 0) (env 1) v292 h292) = (fun (env : Env) (h : Hp) => s20 rec n (env 0) (env 1) h) := by kernel_rfl

theorem s20m (rec : FuncId → List DV → Hp → Res) (n : Nat) : D20 rec n (cf Try.f20) x0 (retK CF Try.f20) = (fun (env : Env) (h : Hp) => s20 rec n (env 0) (env 1) h) :=
  (s20p19 rec n).trans
  ((s20q20 rec n (s20a1 rec n)).trans (s20q20u rec n))

theorem s20ok (rec : FuncId → List DV → Hp → Res) (n : Nat) (args : List DV) (h : Hp) : bodyD CF rec n 20 args h = s20 rec n (args.getD 0 undefD) (args.getD 1 undefD) h :=
  (by kernel_rfl : bodyD CF rec n 20 args h = D20 rec n (cf Try.f20) x0 (retK CF Try.f20) (argsE args) h).trans ((congrFun (congrFun (s20m rec n) (argsE args)) h).trans (by kernel_rfl))

noncomputable def s21a3 (rec : FuncId → List DV → Hp → Res) (n : Nat) (h0 : Hp) : Res :=
  some ((.b true), h0)

noncomputable def s21a5b (rec : FuncId → List DV → Hp → Res) (n : Nat) (kk5 : DV → DV → DV → Hp → Res) (x0 x1 x5 : DV) (h0 : Hp) : Res :=
    bnd (pLen x0 h0) fun v1 h1 =>
    bnd (pInt .lss x5 v1 h1) fun v2 h2 =>
    ifD v2 (
      bnd (pIndexAddr 1 x0 x5 h2) fun v3 h3 =>
      bnd (pLoad1 v3 h3) fun v4 h4 =>
      bnd (pIndexAddr 1 x1 x5 h4) fun v5 h5 =>
      bnd (pLoad1 v5 h5) fun v6 h6 =>
      bnd (pStr .neq v4 v6 h6) fun v7 h7 =>
      ifD v7 (
        some ((.b false), h7)) (
        bnd (pInt .add x5 (.i .i64 (Int.ofNat 1)) h7) fun v8 h8 =>
        kk5 x0 x1 v8 h8)) (
      s21a3 rec n h2)

noncomputable def s21a5l (rec : FuncId → List DV → Hp → Res) (n : Nat) (m : Nat) : DV → DV → DV → Hp → Res :=
  Nat.rec (motive := fun _ => DV → DV → DV → Hp → Res) (fun _ _ _ _ => none) (fun _ ih => s21a5b rec n ih) m

noncomputable def s21a5 (rec : FuncId → List DV → Hp → Res) (n : Nat) : DV → DV → DV → Hp → Res := s21a5l rec n n

noncomputable def s21a4 (rec : FuncId → List DV → Hp → Res) (n : Nat) (x0 x1 x5 : DV) (h0 : Hp) : Res :=
  s21a5 rec n x0 x1 x5 h0

noncomputable def s21a2 (rec : FuncId → List DV → Hp → Res) (n : Nat) (x0 x1 : DV) (h0 : Hp) : Res :=
  s21a4 rec n x0 x1 (.i .i64 (Int.ofNat 0)) h0

noncomputable def s21a1 (rec : FuncId → List DV → Hp → Res) (n : Nat) (x0 x1 : DV) (h0 : Hp) : Res :=
  bnd (pLen x0 h0) fun v17 h17 =>
  bnd (pLen x1 h17) fun v18 h18 =>
  bnd (pInt .neq v17 v18 h18) fun v19 h19 =>
  ifD v19 (
    some ((.b false), h19)) (
    s21a2 rec n x0 x1 h19)

/-- vivariumref07.names -/
noncomputable def s21 (rec : FuncId → List DV → Hp → Res) (n : Nat) (x0 x1 : DV) (h0 : Hp) : Res :=
  s21a1 rec n x0 x1 h0

noncomputable def D21 (rec : FuncId → List DV → Hp → Res) (n : Nat) (c : Code) (X : Nat → K) (k : K) : K := codeD CF rec 26 n c X (retK CF Try.f21) k

theorem s21a3e (rec : FuncId → List DV → Hp → Res) (n : Nat) : D21 rec n (cR (cR (cR (cf Try.f21)))) x0 (retK CF Try.f21) = (fun (env : Env) (h : Hp) => s21a3 rec n h) :=
  (by kernel_rfl)

theorem s21a5be (rec : FuncId → List DV → Hp → Res) (n : Nat) (kk5 : DV → DV → DV → Hp → Res) : D21 rec n (cL (cL (cR (cL (cR (cR (cf Try.f21))))))) (xs x0 0 (fun (env : Env) (h : Hp) => s21a3 rec n h)) (fun (env : Env) (h : Hp) => kk5 (env 0) (env 1) (env 5) h) = (fun (env : Env) (h : Hp) => s21a5b rec n kk5 (env 0) (env 1) (env 5) h) :=
  (by kernel_rfl)

theorem s21a5le (rec : FuncId → List DV → Hp → Res) (n : Nat) (m : Nat) : loopN (fun kk => D21 rec n (cL (cL (cR (cL (cR (cR (cf Try.f21))))))) (xs x0 0 (fun (env : Env) (h : Hp) => s21a3 rec n h)) kk) m = (fun (env : Env) (h : Hp) => s21a5l rec n m (env 0) (env 1) (env 5) h) := by
  induction m with
  | zero => exact (by kernel_rfl : loopN (fun kk => D21 rec n (cL (cL (cR (cL (cR (cR (cf Try.f21))))))) (xs x0 0 (fun (env : Env) (h : Hp) => s21a3 rec n h)) kk) 0 = (fun (env : Env) (h : Hp) => s21a5l rec n 0 (env 0) (env 1) (env 5) h))
  | succ m ih =>
    refine (by kernel_rfl : loopN (fun kk => D21 rec n (cL (cL (cR (cL (cR (cR (cf Try.f21))))))) (xs x0 0 (fun (env : Env) (h : Hp) => s21a3 rec n h)) kk) (m + 1) = D21 rec n (cL (cL (cR (cL (cR (cR (cf Try.f21))))))) (xs x0 0 (fun (env : Env) (h : Hp) => s21a3 rec n h)) (loopN (fun kk => D21 rec n (cL (cL (cR (cL (cR (cR (cf Try.f21))))))) (xs x0 0 (fun (env : Env) (h : Hp) => s21a3 rec n h)) kk) m)).trans ?_
    rw [ih]
    exact (s21a5be rec n (s21a5l rec n m)).trans (by kernel_rfl)

theorem s21a5e (rec : FuncId → List DV → Hp → Res) (n : Nat) : D21 rec n (cL (cR (cL (cR (cR (cf Try.f21)))))) (xs x0 0 (fun (env : Env) (h : Hp) => s21a3 rec n h)) (fun (env : Env) (h : Hp) => s21a3 rec n h) = (fun (env : Env) (h : Hp) => s21a5 rec n (env 0) (env 1) (env 5) h) :=
  (by kernel_rfl : D21 rec n (cL (cR (cL (cR (cR (cf Try.f21)))))) (xs x0 0 (fun (env : Env) (h : Hp) => s21a3 rec n h)) (fun (env : Env) (h : Hp) => s21a3 rec n h) = loopN (fun kk => D21 rec n (cL (cL (cR (cL (cR (cR (cf Try.f21))))))) (xs x0 0 (fun (env : Env) (h : Hp) => s21a3 rec n h)) kk) n).trans ((s21a5le rec n n).trans (by kernel_rfl))

theorem s21a4e (rec : FuncId → List DV → Hp → Res) (n : Nat) : D21 rec n (cR (cL (cR (cR (cf Try.f21))))) x0 (fun (env : Env) (h : Hp) => s21a3 rec n h) = (fun (env : Env) (h : Hp) => s21a4 rec n (env 0) (env 1) (env 5) h) :=
  (by kernel_rfl : D21 rec n (cR (cL (cR (cR (cf Try.f21))))) x0 (fun (env : Env) (h : Hp) => s21a3 rec n h) = D21 rec n (cL (cR (cL (cR (cR (cf Try.f21)))))) (xs x0 0 (fun (env : Env) (h : Hp) => s21a3 rec n h)) (fun (env : Env) (h : Hp) => s21a3 rec n h)).trans
  ((s21a5e rec n).trans (by kernel_rfl))

theorem s21a2p1 (rec : FuncId → List DV → Hp → Res) (n : Nat) : D21 rec n (cR (cR (cf Try.f21))) x0 (retK CF Try.f21) = D21 rec n (cL (cR (cR (cf Try.f21)))) x0 (fun (env : Env) (h : Hp) => s21a3 rec n h) :=
  congrArg (fun k => D21 rec n (cL (cR (cR (cf Try.f21)))) x0 k) (s21a3e rec n)

theorem s21a2p2 (rec : FuncId → List DV → Hp → Res) (n : Nat) : D21 rec n (cL (cR (cR (cf Try.f21)))) x0 (fun (env : Env) (h : Hp) => s21a3 rec n h) = D21 rec n (cL (cL (cR (cR (cf Try.f21))))) x0 (fun (env : Env) (h : Hp) => s21a4 rec n (env 0) (env 1) (env 5) h) :=
  congrArg (fun k => D21 rec n (cL (cL (cR (cR (cf Try.f21))))) x0 k) (s21a4e rec n)

theorem s21a2e (rec : FuncId → List DV → Hp → Res) (n : Nat) : D21 rec n (cR (cR (cf Try.f21))) x0 (retK CF Try.f21) = (fun (env : Env) (h : Hp) => s21a2 rec n (env 0) (env 1) h) :=
  (s21a2p1 rec n).trans
  ((s21a2p2 rec n).trans
  ((by kernel_rfl)))

theorem s21a1p3 (rec : FuncId → List DV → Hp → Res) (n : Nat) : D21 rec n (cR (cf Try.f21)) x0 (retK CF Try.f21) = D21 rec n (cL (cR (cf Try.f21))) x0 (fun (env : Env) (h : Hp) => s21a2 rec n (env 0) (env 1) h) :=
  congrArg (fun k => D21 rec n (cL (cR (cf Try.f21))) x0 k) (s21a2e rec n)

theorem s21a1e (rec : FuncId → List DV → Hp → Res) (n : Nat) : D21 rec n (cR (cf Try.f21)) x0 (retK CF Try.f21) = (fun (env : Env) (h : Hp) => s21a1 rec n (env 0) (env 1) h) :=
  (s21a1p3 rec n).trans
  ((by kernel_rfl))

theorem s21p4 (rec : FuncId → List DV → Hp → Res) (n : Nat) : D21 rec n (cf Try.f21) x0 (retK CF Try.f21) = D21 rec n (cL (cf Try.f21)) x0 (fun (env : Env) (h : Hp) => s21a1 rec n (env 0) (env 1) h) :=
  congrArg (fun k => D21 rec n (cL (cf Try.f21)) x0 k) (s21a1e rec n)

theorem s21m (rec : FuncId → List DV → Hp → Res) (n : Nat) : D21 rec n (cf Try.f21) x0 (retK CF Try.f21) = (fun (env : Env) (h : Hp) => s21 rec n (env 0) (env 1) h) :=
  (s21p4 rec n).trans
  ((by kernel_rfl))

theorem s21ok (rec : FuncId → List DV → Hp → Res) (n : Nat) (args : List DV) (h : Hp) : bodyD CF rec n 21 args h = s21 rec n (args.getD 0 undefD) (args.getD 1 undefD) h :=
  (by kernel_rfl : bodyD CF rec n 21 args h = D21 rec n (cf Try.f21) x0 (retK CF Try.f21) (argsE args) h).trans ((congrFun (congrFun (s21m rec n) (argsE args)) h).trans (by kernel_rfl))

noncomputable def s22a3 (rec : FuncId → List DV → Hp → Res) (n : Nat) (h0 : Hp) : Res :=
  some ((.b true), h0)

noncomputable def s22a5b (rec : FuncId → List DV → Hp → Res) (n : Nat) (kk5 : DV → DV → DV → DV → Hp → Res) (x0 x1 x12 x13 : DV) (h0 : Hp) : Res :=
    bnd (pInt .lss x13 x12 h0) fun v1 h1 =>
    ifD v1 (
      bnd (pIndexAddr 1 x0 x13 h1) fun v2 h2 =>
      bnd (pLoad1 v2 h2) fun v3 h3 =>
      bnd (pIndexAddr 1 x1 x13 h3) fun v4 h4 =>
      bnd (pLoad1 v4 h4) fun v5 h5 =>
      bnd (pStr .neq v3 v5 h5) fun v6 h6 =>
      ifD v6 (
        some ((.b false), h6)) (
        bnd (pInt .add x13 (.i .i64 (Int.ofNat 1)) h6) fun v7 h7 =>
        kk5 x0 x1 x12 v7 h7)) (
      s22a3 rec n h1)

noncomputable def s22a5l (rec : FuncId → List DV → Hp → Res) (n : Nat) (m : Nat) : DV → DV → DV → DV → Hp → Res :=
  Nat.rec (motive := fun _ => DV → DV → DV → DV → Hp → Res) (fun _ _ _ _ _ => none) (fun _ ih => s22a5b rec n ih) m

noncomputable def s22a5 (rec : FuncId → List DV → Hp → Res) (n : Nat) : DV → DV → DV → DV → Hp → Res := s22a5l rec n n

noncomputable def s22a4 (rec : FuncId → List DV → Hp → Res) (n : Nat) (x0 x1 x12 x13 : DV) (h0 : Hp) : Res :=
  s22a5 rec n x0 x1 x12 x13 h0

noncomputable def s22a2 (rec : FuncId → List DV → Hp → Res) (n : Nat) (x0 x1 : DV) (h0 : Hp) : Res :=
  bnd (pLen x0 h0) fun v15 h15 =>
  s22a4 rec n x0 x1 v15 (.i .i64 (Int.ofNat 0)) h15

noncomputable def s22a1 (rec : FuncId → List DV → Hp → Res) (n : Nat) (x0 x1 : DV) (h0 : Hp) : Res :=
  bnd (pLen x0 h0) fun v17 h17 =>
  bnd (pLen x1 h17) fun v18 h18 =>
  bnd (pInt .neq v17 v18 h18) fun v19 h19 =>
  ifD v19 (
    some ((.b false), h19)) (
    s22a2 rec n x0 x1 h19)

/-- slices.Equal[[]string,string] -/
noncomputable def s22 (rec : FuncId → List DV → Hp → Res) (n : Nat) (x0 x1 : DV) (h0 : Hp) : Res :=
  s22a1 rec n x0 x1 h0

noncomputable def D22 (rec : FuncId → List DV → Hp → Res) (n : Nat) (c : Code) (X : Nat → K) (k : K) : K := codeD CF rec 26 n c X (retK CF Try.f22) k

theorem s22a3e (rec : FuncId → List DV → Hp → Res) (n : Nat) : D22 rec n (cR (cR (cR (cf Try.f22)))) x0 (retK CF Try.f22) = (fun (env : Env) (h : Hp) => s22a3 rec n h) :=
  (by kernel_rfl)

theorem s22a5be (rec : FuncId → List DV → Hp → Res) (n : Nat) (kk5 : DV → DV → DV → DV → Hp → Res) : D22 rec n (cL (cL (cR (cL (cR (cR (cf Try.f22))))))) (xs x0 0 (fun (env : Env) (h : Hp) => s22a3 rec n h)) (fun (env : Env) (h : Hp) => kk5 (env 0) (env 1) (env 12) (env 13) h) = (fun (env : Env) (h : Hp) => s22a5b rec n kk5 (env 0) (env 1) (env 12) (env 13) h) :=
  (by kernel_rfl)

theorem s22a5le (rec : FuncId → List DV → Hp → Res) (n : Nat) (m : Nat) : loopN (fun kk => D22 rec n (cL (cL (cR (cL (cR (cR (cf Try.f22))))))) (xs x0 0 (fun (env : Env) (h : Hp) => s22a3 rec n h)) kk) m = (fun (env : Env) (h : Hp) => s22a5l rec n m (env 0) (env 1) (env 12) (env 13) h) := by
  induction m with
  | zero => exact (by kernel_rfl : loopN (fun kk => D22 rec n (cL (cL (cR (cL (cR (cR (cf Try.f22))))))) (xs x0 0 (fun (env : Env) (h : Hp) => s22a3 rec n h)) kk) 0 = (fun (env : Env) (h : Hp) => s22a5l rec n 0 (env 0) (env 1) (env 12) (env 13) h))
  | succ m ih =>
    refine (by kernel_rfl : loopN (fun kk => D22 rec n (cL (cL (cR (cL (cR (cR (cf Try.f22))))))) (xs x0 0 (fun (env : Env) (h : Hp) => s22a3 rec n h)) kk) (m + 1) = D22 rec n (cL (cL (cR (cL (cR (cR (cf Try.f22))))))) (xs x0 0 (fun (env : Env) (h : Hp) => s22a3 rec n h)) (loopN (fun kk => D22 rec n (cL (cL (cR (cL (cR (cR (cf Try.f22))))))) (xs x0 0 (fun (env : Env) (h : Hp) => s22a3 rec n h)) kk) m)).trans ?_
    rw [ih]
    exact (s22a5be rec n (s22a5l rec n m)).trans (by kernel_rfl)

theorem s22a5e (rec : FuncId → List DV → Hp → Res) (n : Nat) : D22 rec n (cL (cR (cL (cR (cR (cf Try.f22)))))) (xs x0 0 (fun (env : Env) (h : Hp) => s22a3 rec n h)) (fun (env : Env) (h : Hp) => s22a3 rec n h) = (fun (env : Env) (h : Hp) => s22a5 rec n (env 0) (env 1) (env 12) (env 13) h) :=
  (by kernel_rfl : D22 rec n (cL (cR (cL (cR (cR (cf Try.f22)))))) (xs x0 0 (fun (env : Env) (h : Hp) => s22a3 rec n h)) (fun (env : Env) (h : Hp) => s22a3 rec n h) = loopN (fun kk => D22 rec n (cL (cL (cR (cL (cR (cR (cf Try.f22))))))) (xs x0 0 (fun (env : Env) (h : Hp) => s22a3 rec n h)) kk) n).trans ((s22a5le rec n n).trans (by kernel_rfl))

theorem s22a4e (rec : FuncId → List DV → Hp → Res) (n : Nat) : D22 rec n (cR (cL (cR (cR (cf Try.f22))))) x0 (fun (env : Env) (h : Hp) => s22a3 rec n h) = (fun (env : Env) (h : Hp) => s22a4 rec n (env 0) (env 1) (env 12) (env 13) h) :=
  (by kernel_rfl : D22 rec n (cR (cL (cR (cR (cf Try.f22))))) x0 (fun (env : Env) (h : Hp) => s22a3 rec n h) = D22 rec n (cL (cR (cL (cR (cR (cf Try.f22)))))) (xs x0 0 (fun (env : Env) (h : Hp) => s22a3 rec n h)) (fun (env : Env) (h : Hp) => s22a3 rec n h)).trans
  ((s22a5e rec n).trans (by kernel_rfl))

theorem s22a2p1 (rec : FuncId → List DV → Hp → Res) (n : Nat) : D22 rec n (cR (cR (cf Try.f22))) x0 (retK CF Try.f22) = D22 rec n (cL (cR (cR (cf Try.f22)))) x0 (fun (env : Env) (h : Hp) => s22a3 rec n h) :=
  congrArg (fun k => D22 rec n (cL (cR (cR (cf Try.f22)))) x0 k) (s22a3e rec n)

theorem s22a2p2 (rec : FuncId → List DV → Hp → Res) (n : Nat) : D22 rec n (cL (cR (cR (cf Try.f22)))) x0 (fun (env : Env) (h : Hp) => s22a3 rec n h) = D22 rec n (cL (cL (cR (cR (cf Try.f22))))) x0 (fun (env : Env) (h : Hp) => s22a4 rec n (env 0) (env 1) (env 12) (env 13) h) :=
  congrArg (fun k => D22 rec n (cL (cL (cR (cR (cf Try.f22))))) x0 k) (s22a4e rec n)

theorem s22a2e (rec : FuncId → List DV → Hp → Res) (n : Nat) : D22 rec n (cR (cR (cf Try.f22))) x0 (retK CF Try.f22) = (fun (env : Env) (h : Hp) => s22a2 rec n (env 0) (env 1) h) :=
  (s22a2p1 rec n).trans
  ((s22a2p2 rec n).trans
  ((by kernel_rfl)))

theorem s22a1p3 (rec : FuncId → List DV → Hp → Res) (n : Nat) : D22 rec n (cR (cf Try.f22)) x0 (retK CF Try.f22) = D22 rec n (cL (cR (cf Try.f22))) x0 (fun (env : Env) (h : Hp) => s22a2 rec n (env 0) (env 1) h) :=
  congrArg (fun k => D22 rec n (cL (cR (cf Try.f22))) x0 k) (s22a2e rec n)

theorem s22a1e (rec : FuncId → List DV → Hp → Res) (n : Nat) : D22 rec n (cR (cf Try.f22)) x0 (retK CF Try.f22) = (fun (env : Env) (h : Hp) => s22a1 rec n (env 0) (env 1) h) :=
  (s22a1p3 rec n).trans
  ((by kernel_rfl))

theorem s22p4 (rec : FuncId → List DV → Hp → Res) (n : Nat) : D22 rec n (cf Try.f22) x0 (retK CF Try.f22) = D22 rec n (cL (cf Try.f22)) x0 (fun (env : Env) (h : Hp) => s22a1 rec n (env 0) (env 1) h) :=
  congrArg (fun k => D22 rec n (cL (cf Try.f22)) x0 k) (s22a1e rec n)

theorem s22m (rec : FuncId → List DV → Hp → Res) (n : Nat) : D22 rec n (cf Try.f22) x0 (retK CF Try.f22) = (fun (env : Env) (h : Hp) => s22 rec n (env 0) (env 1) h) :=
  (s22p4 rec n).trans
  ((by kernel_rfl))

theorem s22ok (rec : FuncId → List DV → Hp → Res) (n : Nat) (args : List DV) (h : Hp) : bodyD CF rec n 22 args h = s22 rec n (args.getD 0 undefD) (args.getD 1 undefD) h :=
  (by kernel_rfl : bodyD CF rec n 22 args h = D22 rec n (cf Try.f22) x0 (retK CF Try.f22) (argsE args) h).trans ((congrFun (congrFun (s22m rec n) (argsE args)) h).trans (by kernel_rfl))

noncomputable def s23a3 (rec : FuncId → List DV → Hp → Res) (n : Nat) (h0 : Hp) : Res :=
  some ((.b true), h0)

noncomputable def s23a5b (rec : FuncId → List DV → Hp → Res) (n : Nat) (kk5 : DV → DV → DV → DV → DV → Hp → Res) (x1 x2 x15 x16 x17 : DV) (h0 : Hp) : Res :=
    bnd (pInt .lss x17 x16 h0) fun v1 h1 =>
    ifD v1 (
      bnd (pIndexAddr 6 x15 x17 h1) fun v2 h2 =>
      bnd (pLoadA 6 v2 h2) fun v3 h3 =>
      bnd (pNew [(.i .i64 (Int.ofNat 0)), (.s []), (.i .i64 (Int.ofNat 0)), .l0, .l0, .l0] h3) fun v4 h4 =>
      bnd (pStore 6 v4 v3 h4) fun _ h5 =>
      bnd (pIndexAddr 6 x1 x17 h5) fun v6 h6 =>
      bnd (pLoadA 6 v6 h6) fun v7 h7 =>
      bnd (pNew [(.i .i64 (Int.ofNat 0)), (.s []), (.i .i64 (Int.ofNat 0)), .l0, .l0, .l0] h7) fun v8 h8 =>
      bnd (pStore 6 v8 v7 h8) fun _ h9 =>
      bnd (pLoadA 6 v4 h9) fun v10 h10 =>
      bnd (pLoadA 6 v8 h10) fun v11 h11 =>
      bnd (pCall CF rec x2 [v10, v11] h11) fun v12 h12 =>
      bnd (pUn .not v12 h12) fun v13 h13 =>
      ifD v13 (
        some ((.b false), h13)) (
        bnd (pInt .add x17 (.i .i64 (Int.ofNat 1)) h13) fun v14 h14 =>
        kk5 x1 x2 x15 x16 v14 h14)) (
      s23a3 rec n h1)

noncomputable def s23a5l (rec : FuncId → List DV → Hp → Res) (n : Nat) (m : Nat) : DV → DV → DV → DV → DV → Hp → Res :=
  Nat.rec (motive := fun _ => DV → DV → DV → DV → DV → Hp → Res) (fun _ _ _ _ _ _ => none) (fun _ ih => s23a5b rec n ih) m

noncomputable def s23a5 (rec : FuncId → List DV → Hp → Res) (n : Nat) : DV → DV → DV → DV → DV → Hp → Res := s23a5l rec n n

noncomputable def s23a4 (rec : FuncId → List DV → Hp → Res) (n : Nat) (x1 x2 x15 x16 x17 : DV) (h0 : Hp) : Res :=
  s23a5 rec n x1 x2 x15 x16 x17 h0

noncomputable def s23a2 (rec : FuncId → List DV → Hp → Res) (n : Nat) (x0 x1 x2 : DV) (h0 : Hp) : Res :=
  bnd (pLen x0 h0) fun v57 h57 =>
  s23a4 rec n x1 x2 x0 v57 (.i .i64 (Int.ofNat 0)) h57

noncomputable def s23a1 (rec : FuncId → List DV → Hp → Res) (n : Nat) (x0 x1 x2 : DV) (h0 : Hp) : Res :=
  bnd (pLen x0 h0) fun v59 h59 =>
  bnd (pLen x1 h59) fun v60 h60 =>
  bnd (pInt .neq v59 v60 h60) fun v61 h61 =>
  ifD v61 (
    some ((.b false), h61)) (
    s23a2 rec n x0 x1 x2 h61)

/-- api.Node] -/
noncomputable def s23 (rec : FuncId → List DV → Hp → Res) (n : Nat) (x0 x1 x2 : DV) (h0 : Hp) : Res :=
  s23a1 rec n x0 x1 x2 h0

noncomputable def D23 (rec : FuncId → List DV → Hp → Res) (n : Nat) (c : Code) (X : Nat → K) (k : K) : K := codeD CF rec 32 n c X (retK CF Try.f23) k

theorem s23a3e (rec : FuncId → List DV → Hp → Res) (n : Nat) : D23 rec n (cR (cR (cR (cf Try.f23)))) x0 (retK CF Try.f23) = (fun (env : Env) (h : Hp) => s23a3 rec n h) :=
  (by kernel_rfl)

theorem s23a5q1 (rec : FuncId → List DV → Hp → Res) (n : Nat) (kk5 : DV → DV → DV → DV → DV → Hp → Res) (q0 : Hp → Res) : D23 rec n (cL (cL (cR (cL (cR (cR (cf Try.f23))))))) (xs x0 0 (fun (env : Env) (h : Hp) => q0 h)) (fun (env : Env) (h : Hp) => kk5 (env 1) (env 2) (env 15) (env 16) (env 17) h) = fun (env : Env) (h : Hp) =>
    bnd (pInt .lss (env 17) (env 16) h) fun v29 h29 =>
    ifD v29 (
      bnd (pIndexAddr 6 (env 15) (env 17) h29) fun v30 h30 =>
      bnd (pLoadA 6 v30 h30) fun v31 h31 =>
      bnd (pNew [(.i .i64 (Int.ofNat 0)), (.s []), (.i .i64 (Int.ofNat 0)), .l0, .l0, .l0] h31) fun v32 h32 =>
      bnd (pStore 6 v32 v31 h32) fun _ h33 =>
      bnd (pIndexAddr 6 (env 1) (env 17) h33) fun v34 h34 =>
      bnd (pLoadA 6 v34 h34) fun v35 h35 =>
      bnd (pNew [(.i .i64 (Int.ofNat 0)), (.s []), (.i .i64 (Int.ofNat 0)), .l0, .l0, .l0] h35) fun v36 h36 =>
      bnd (pStore 6 v36 v35 h36) fun _ h37 =>
      bnd (pLoadA 6 v32 h37) fun v38 h38 =>
      bnd (pLoadA 6 v36 h38) fun v39 h39 =>
      bnd (pCall CF rec (env 2) [v38, v39] h39) fun v40 h40 =>
      bnd (pUn .not v40 h40) fun v41 h41 =>
      ifD v41 (
        some ((.b false), h41)) (
        bnd (pInt .add (env 17) (.i .i64 (Int.ofNat 1)) h41) fun v42 h42 =>
        kk5 (env 1) (env 2) (env 15) (env 16) v42 h42)) (
      q0 h29) := by kernel_rfl

theorem s23a5q1u (rec : FuncId → List DV → Hp → Res) (n : Nat) (kk5 : DV → DV → DV → DV → DV → Hp → Res) : (fun (env : Env) (h : Hp) =>
    bnd (pInt .lss (env 17) (env 16) h) fun v43 h43 =>
    ifD v43 (
      bnd (pIndexAddr 6 (env 15) (env 17) h43) fun v44 h44 =>
      bnd (pLoadA 6 v44 h44) fun v45 h45 =>
      bnd (pNew [(.i .i64 (Int.ofNat 0)), (.s []), (.i .i64 (Int.ofNat 0)), .l0, .l0, .l0] h45) fun v46 h46 =>
      bnd (pStore 6 v46 v45 h46) fun _ h47 =>
      bnd (pIndexAddr 6 (env 1) (env 17) h47) fun v48 h48 =>
      bnd (pLoadA 6 v48 h48) fun v49 h49 =>
      bnd (pNew [(.i .i64 (Int.ofNat 0)), (.s []), (.i .i64 (Int.ofNat 0)), .l0, .l0, .l0] h49) fun v50 h50 =>
      bnd (pStore 6 v50 v49 h50) fun _ h51 =>
      bnd (pLoadA 6 v46 h51) fun v52 h52 =>
      bnd (pLoadA 6 v50 h52) fun v53 h53 =>
      bnd (pCall CF rec (env 2) [v52, v53] h53) fun v54 h54 =>
      bnd (pUn .not v54 h54) fun v55 h55 =>
      ifD v55 (
        some ((.b false), h55)) (
        bnd (pInt .add (env 17) (.i .i64 (Int.ofNat 1)) h55) fun v56 h56 =>
        kk5 (env 1) (env 2) (env 15) (env 16) v56 h56)) (
      s23a3 rec n h43)) = (fun (env : Env) (h : Hp) => s23a5b rec n kk5 (env 1) (env 2) (env 15) (env 16) (env 17) h) := by kernel_rfl

theorem s23a5be (rec : FuncId → List DV → Hp → Res) (n : Nat) (kk5 : DV → DV → DV → DV → DV → Hp → Res) : D23 rec n (cL (cL (cR (cL (cR (cR (cf Try.f23))))))) (xs x0 0 (fun (env : Env) (h : Hp) => s23a3 rec n h)) (fun (env : Env) (h : Hp) => kk5 (env 1) (env 2) (env 15) (env 16) (env 17) h) = (fun (env : Env) (h : Hp) => s23a5b rec n kk5 (env 1) (env 2) (env 15) (env 16) (env 17) h) :=
  (s23a5q1 rec n kk5 (s23a3 rec n)).trans (s23a5q1u rec n kk5)

theorem s23a5le (rec : FuncId → List DV → Hp → Res) (n : Nat) (m : Nat) : loopN (fun kk => D23 rec n (cL (cL (cR (cL (cR (cR (cf Try.f23))))))) (xs x0 0 (fun (env : Env) (h : Hp) => s23a3 rec n h)) kk) m = (fun (env : Env) (h : Hp) => s23a5l rec n m (env 1) (env 2) (env 15) (env 16) (env 17) h) := by
  induction m with
  | zero => exact (by kernel_rfl : loopN (fun kk => D23 rec n (cL (cL (cR (cL (cR (cR (cf Try.f23))))))) (xs x0 0 (fun (env : Env) (h : Hp) => s23a3 rec n h)) kk) 0 = (fun (env : Env) (h : Hp) => s23a5l rec n 0 (env 1) (env 2) (env 15) (env 16) (env 17) h))
  | succ m ih =>
    refine (by kernel_rfl : loopN (fun kk => D23 rec n (cL (cL (cR (cL (cR (cR (cf Try.f23))))))) (xs x0 0 (fun (env : Env) (h : Hp) => s23a3 rec n h)) kk) (m + 1) = D23 rec n (cL (cL (cR (cL (cR (cR (cf Try.f23))))))) (xs x0 0 (fun (env : Env) (h : Hp) => s23a3 rec n h)) (loopN (fun kk => D23 rec n (cL (cL (cR (cL (cR (cR (cf Try.f23))))))) (xs x0 0 (fun (env : Env) (h : Hp) => s23a3 rec n h)) kk) m)).trans ?_
    rw [ih]
    exact (s23a5be rec n (s23a5l rec n m)).trans (by kernel_rfl)

theorem s23a5e (rec : FuncId → List DV → Hp → Res) (n : Nat) : D23 rec n (cL (cR (cL (cR (cR (cf Try.f23)))))) (xs x0 0 (fun (env : Env) (h : Hp) => s23a3 rec n h)) (fun (env : Env) (h : Hp) => s23a3 rec n h) = (fun (env : Env) (h : Hp) => s23a5 rec n (env 1) (env 2) (env 15) (env 16) (env 17) h) :=
  (by kernel_rfl : D23 rec n (cL (cR (cL (cR (cR (cf Try.f23)))))) (xs x0 0 (fun (env : Env) (h : Hp) => s23a3 rec n h)) (fun (env : Env) (h : Hp) => s23a3 rec n h) = loopN (fun kk => D23 rec n (cL (cL (cR (cL (cR (cR (cf Try.f23))))))) (xs x0 0 (fun (env : Env) (h : Hp) => s23a3 rec n h)) kk) n).trans ((s23a5le rec n n).trans (by kernel_rfl))

theorem s23a4e (rec : FuncId → List DV → Hp → Res) (n : Nat) : D23 rec n (cR (cL (cR (cR (cf Try.f23))))) x0 (fun (env : Env) (h : Hp) => s23a3 rec n h) = (fun (env : Env) (h : Hp) => s23a4 rec n (env 1) (env 2) (env 15) (env 16) (env 17) h) :=
  (by kernel_rfl : D23 rec n (cR (cL (cR (cR (cf Try.f23))))) x0 (fun (env : Env) (h : Hp) => s23a3 rec n h) = D23 rec n (cL (cR (cL (cR (cR (cf Try.f23)))))) (xs x0 0 (fun (env : Env) (h : Hp) => s23a3 rec n h)) (fun (env : Env) (h : Hp) => s23a3 rec n h)).trans
  ((s23a5e rec n).trans (by kernel_rfl))

theorem s23a2p2 (rec : FuncId → List DV → Hp → Res) (n : Nat) : D23 rec n (cR (cR (cf Try.f23))) x0 (retK CF Try.f23) = D23 rec n (cL (cR (cR (cf Try.f23)))) x0 (fun (env : Env) (h : Hp) => s23a3 rec n h) :=
  congrArg (fun k => D23 rec n (cL (cR (cR (cf Try.f23)))) x0 k) (s23a3e rec n)

theorem s23a2p3 (rec : FuncId → List DV → Hp → Res) (n : Nat) : D23 rec n (cL (cR (cR (cf Try.f23)))) x0 (fun (env : Env) (h : Hp) => s23a3 rec n h) = D23 rec n (cL (cL (cR (cR (cf Try.f23))))) x0 (fun (env : Env) (h : Hp) => s23a4 rec n (env 1) (env 2) (env 15) (env 16) (env 17) h) :=
  congrArg (fun k => D23 rec n (cL (cL (cR (cR (cf Try.f23))))) x0 k) (s23a4e rec n)

theorem s23a2e (rec : FuncId → List DV → Hp → Res) (n : Nat) : D23 rec n (cR (cR (cf Try.f23))) x0 (retK CF Try.f23) = (fun (env : Env) (h : Hp) => s23a2 rec n (env 0) (env 1) (env 2) h) :=
  (s23a2p2 rec n).trans
  ((s23a2p3 rec n).trans
  ((by kernel_rfl)))

theorem s23a1p4 (rec : FuncId → List DV → Hp → Res) (n : Nat) : D23 rec n (cR (cf Try.f23)) x0 (retK CF Try.f23) = D23 rec n (cL (cR (cf Try.f23))) x0 (fun (env : Env) (h : Hp) => s23a2 rec n (env 0) (env 1) (env 2) h) :=
  congrArg (fun k => D23 rec n (cL (cR (cf Try.f23))) x0 k) (s23a2e rec n)

theorem s23a1e (rec : FuncId → List DV → Hp → Res) (n : Nat) : D23 rec n (cR (cf Try.f23)) x0 (retK CF Try.f23) = (fun (env : Env) (h : Hp) => s23a1 rec n (env 0) (env 1) (env 2) h) :=
  (s23a1p4 rec n).trans
  ((by kernel_rfl))

theorem s23p5 (rec : FuncId → List DV → Hp → Res) (n : Nat) : D23 rec n (cf Try.f23) x0 (retK CF Try.f23) = D23 rec n (cL (cf Try.f23)) x0 (fun (env : Env) (h : Hp) => s23a1 rec n (env 0) (env 1) (env 2) h) :=
  congrArg (fun k => D23 rec n (cL (cf Try.f23)) x0 k) (s23a1e rec n)

theorem s23m (rec : FuncId → List DV → Hp → Res) (n : Nat) : D23 rec n (cf Try.f23) x0 (retK CF Try.f23) = (fun (env : Env) (h : Hp) => s23 rec n (env 0) (env 1) (env 2) h) :=
  (s23p5 rec n).trans
  ((by kernel_rfl))

theorem s23ok (rec : FuncId → List DV → Hp → Res) (n : Nat) (args : List DV) (h : Hp) : bodyD CF rec n 23 args h = s23 rec n (args.getD 0 undefD) (args.getD 1 undefD) (args.getD 2 undefD) h :=
  (by kernel_rfl : bodyD CF rec n 23 args h = D23 rec n (cf Try.f23) x0 (retK CF Try.f23) (argsE args) h).trans ((congrFun (congrFun (s23m rec n) (argsE args)) h).trans (by kernel_rfl))

/-- parse.parser).head -/
noncomputable def s24 (rec : FuncId → List DV → Hp → Res) (n : Nat) (x0 : DV) (h0 : Hp) : Res :=
  bnd (pNew [(.i .i64 (Int.ofNat 0)), (.s []), (.i .i64 (Int.ofNat 0)), .l0, .l0, .l0] h0) fun v1 h1 =>
  bnd (pBuild [(.i .i64 (Int.ofNat 0)), (.s []), (.i .i64 (Int.ofNat 0)), .l0, .l0, .l0] [(0, 1, (.i .i64 (Int.ofNat 11)))] h1) fun v2 h2 =>
  bnd (pNew [(.i .i64 (Int.ofNat 0)), (.s []), (.i .i64 (Int.ofNat 0)), .l0, .l0, .l0] h2) fun v3 h3 =>
  bnd (pStore 6 v3 v2 h3) fun _ h4 =>
  bnd (rec 39 [x0, v3] h4) fun v5 h5 =>
  bnd (rec 40 [x0] h5) fun v6 h6 =>
  bnd (pField 2 v3 h6) fun v7 h7 =>
  bnd (pStore 1 v7 v6 h7) fun _ h8 =>
  bnd (pLoadA 6 v3 h8) fun v9 h9 =>
  bnd (pStore 6 v1 v9 h9) fun _ h10 =>
  bnd (pLoadA 6 v1 h10) fun v11 _ =>
  some (v11, h10)

noncomputable def D24 (rec : FuncId → List DV → Hp → Res) (n : Nat) (c : Code) (X : Nat → K) (k : K) : K := codeD CF rec 11 n c X (retK CF Try.f24) k

theorem s24m (rec : FuncId → List DV → Hp → Res) (n : Nat) : D24 rec n (cf Try.f24) x0 (retK CF Try.f24) = (fun (env : Env) (h : Hp) => s24 rec n (env 0) h) :=
  (by kernel_rfl)

theorem s24ok (rec : FuncId → List DV → Hp → Res) (n : Nat) (args : List DV) (h : Hp) : bodyD CF rec n 24 args h = s24 rec n (args.getD 0 undefD) h :=
  (by kernel_rfl : bodyD CF rec n 24 args h = D24 rec n (cf Try.f24) x0 (retK CF Try.f24) (argsE args) h).trans ((congrFun (congrFun (s24m rec n) (argsE args)) h).trans (by kernel_rfl))

noncomputable def s25a4 (rec : FuncId → List DV → Hp → Res) (n : Nat) (x2 x3 : DV) (h0 : Hp) : Res :=
  bnd (pLoadA 6 x3 h0) fun v1 h1 =>
  bnd (pStore 6 x2 v1 h1) fun _ h2 =>
  bnd (pLoadA 6 x2 h2) fun v3 _ =>
  some (v3, h2)

noncomputable def s25a10 (rec : FuncId → List DV → Hp → Res) (n : Nat) (x0 x2 x3 x4 : DV) (h0 : Hp) : Res :=
  bnd (rec 28 [x0, (.i .i64 (Int.ofNat 3)), (.s [62])] h0) fun v7 h7 =>
  bnd (pField 2 x4 h7) fun v8 h8 =>
  bnd (pLoad1 v8 h8) fun v9 h9 =>
  bnd (pField 2 x3 h9) fun v10 h10 =>
  bnd (pStore 1 v10 v9 h10) fun _ h11 =>
  s25a4 rec n x2 x3 h11

noncomputable def s25a9 (rec : FuncId → List DV → Hp → Res) (n : Nat) (x0 x2 x3 x4 : DV) (h0 : Hp) : Res :=
  bnd (pField 2 x4 h0) fun v17 h17 =>
  bnd (pLoad1 v17 h17) fun v18 h18 =>
  bnd (pInt .gtr v18 (.i .i64 (Int.ofNat 255)) h18) fun v19 h19 =>
  ifD v19 (
    bnd (pLoadA 4 x4 h19) fun v20 h20 =>
    bnd (rec 44 [x0, v20, (.i .i64 (Int.ofNat 2))] h20) fun v21 h21 =>
    s25a10 rec n x0 x2 x3 x4 h21) (
    s25a10 rec n x0 x2 x3 x4 h19)

noncomputable def s25a8 (rec : FuncId → List DV → Hp → Res) (n : Nat) (x0 x2 x3 : DV) (h0 : Hp) : Res :=
  bnd (rec 28 [x0, (.i .i64 (Int.ofNat 4)), (.s [])] h0) fun v27 h27 =>
  bnd (pNew [(.i .i64 (Int.ofNat 0)), (.s []), (.i .i64 (Int.ofNat 0)), (.i .i64 (Int.ofNat 0))] h27) fun v28 h28 =>
  bnd (pStore 4 v28 v27 h28) fun _ h29 =>
  s25a9 rec n x0 x2 x3 v28 h29

noncomputable def s25a7 (rec : FuncId → List DV → Hp → Res) (n : Nat) (x0 x2 x3 : DV) (h0 : Hp) : Res :=
  bnd (rec 28 [x0, (.i .i64 (Int.ofNat 2)), (.s [112, 114, 105, 109, 105, 116, 105, 118, 101, 58])] h0) fun v39 h39 =>
  s25a8 rec n x0 x2 x3 h39

noncomputable def s25a6 (rec : FuncId → List DV → Hp → Res) (n : Nat) (x0 x2 x3 : DV) (h0 : Hp) : Res :=
  bnd (rec 42 [x0] h0) fun v41 h41 =>
  s25a7 rec n x0 x2 x3 h41

noncomputable def s25a5 (rec : FuncId → List DV → Hp → Res) (n : Nat) (x0 x2 x3 x43 : DV) (h0 : Hp) : Res :=
  ifD x43 (
    s25a6 rec n x0 x2 x3 h0) (
    s25a4 rec n x2 x3 h0)

noncomputable def s25a3 (rec : FuncId → List DV → Hp → Res) (n : Nat) (x0 x2 x3 : DV) (h0 : Hp) : Res :=
  bnd (rec 41 [x0, (.i .i64 (Int.ofNat 3)), (.s [60])] h0) fun v43 h43 =>
  s25a5 rec n x0 x2 x3 v43 h43

noncomputable def s25a17b (rec : FuncId → List DV → Hp → Res) (n : Nat) (kk17 : DV → DV → DV → Hp → Res) (x0 x2 x3 : DV) (h0 : Hp) : Res :=
    bnd (rec 41 [x0, (.i .i64 (Int.ofNat 2)), (.s [])] h0) fun v56 h56 =>
    ifD v56 (
      bnd (pField 1 x3 h56) fun v57 h57 =>
      bnd (pLoad1 v57 h57) fun v58 h58 =>
      bnd (rec 42 [x0] h58) fun v59 h59 =>
      cnd (sameR (pLoad1 v57 h59) v58 && true) (
      bnd (pPart1 1 v59 h59) fun v60 h60 =>
      bnd (pStr .add v58 v60 h60) fun v61 h61 =>
      bnd (pField 1 x3 h61) fun v62 h62 =>
      bnd (pStore 1 v62 v61 h62) fun v63 h63 =>
      bnd (pField 3 x3 h63) fun v64 h64 =>
      bnd (pLoad1 v64 h64) fun v65 h65 =>
      bnd (rec 43 [x0, (.i .i64 (Int.ofNat 1)), v65] h65) fun v66 h66 =>
      bnd (pField 3 x3 h66) fun v67 h67 =>
      bnd (pStore 1 v67 v66 h67) fun _ h68 =>
      kk17 x0 x2 x3 h68)) (
      s25a3 rec n x0 x2 x3 h56)

noncomputable def s25a17l (rec : FuncId → List DV → Hp → Res) (n : Nat) (m : Nat) : DV → DV → DV → Hp → Res :=
  Nat.rec (motive := fun _ => DV → DV → DV → Hp → Res) (fun _ _ _ _ => none) (fun _ ih => s25a17b rec n ih) m

noncomputable def s25a17 (rec : FuncId → List DV → Hp → Res) (n : Nat) : DV → DV → DV → Hp → Res := s25a17l rec n n

noncomputable def s25a16 (rec : FuncId → List DV → Hp → Res) (n : Nat) (x0 x2 x3 : DV) (h0 : Hp) : Res :=
  s25a17 rec n x0 x2 x3 h0

noncomputable def s25a15 (rec : FuncId → List DV → Hp → Res) (n : Nat) (x0 x2 x3 : DV) (h0 : Hp) : Res :=
  bnd (rec 43 [x0, (.i .i64 (Int.ofNat 1)), .l0] h0) fun v82 h82 =>
  bnd (pField 3 x3 h82) fun v83 h83 =>
  bnd (pStore 1 v83 v82 h83) fun _ h84 =>
  s25a16 rec n x0 x2 x3 h84

noncomputable def s25a14 (rec : FuncId → List DV → Hp → Res) (n : Nat) (x0 x2 x3 : DV) (h0 : Hp) : Res :=
  bnd (rec 28 [x0, (.i .i64 (Int.ofNat 2)), (.s [])] h0) fun v88 h88 =>
  bnd (pPart1 1 v88 h88) fun v89 h89 =>
  bnd (pField 1 x3 h89) fun v90 h90 =>
  bnd (pStore 1 v90 v89 h90) fun _ h91 =>
  s25a15 rec n x0 x2 x3 h91

noncomputable def s25a13 (rec : FuncId → List DV → Hp → Res) (n : Nat) (x0 x2 x3 x13 : DV) (h0 : Hp) : Res :=
  ifD x13 (
    bnd (rec 42 [x0] h0) fun v49 h49 =>
    bnd (pPart1 1 v49 h49) fun v50 h50 =>
    bnd (pField 1 x3 h50) fun v51 h51 =>
    bnd (pStore 1 v51 v50 h51) fun _ h52 =>
    bnd (rec 43 [x0, (.i .i64 (Int.ofNat 1)), .l0] h52) fun v53 h53 =>
    bnd (pField 3 x3 h53) fun v54 h54 =>
    bnd (pStore 1 v54 v53 h54) fun _ h55 =>
    s25a3 rec n x0 x2 x3 h55) (
    s25a14 rec n x0 x2 x3 h0)

noncomputable def s25a12 (rec : FuncId → List DV → Hp → Res) (n : Nat) (x0 x2 x3 : DV) (h0 : Hp) : Res :=
  bnd (rec 41 [x0, (.i .i64 (Int.ofNat 3)), (.s [])] h0) fun v96 h96 =>
  s25a13 rec n x0 x2 x3 v96 h96

noncomputable def s25a11 (rec : FuncId → List DV → Hp → Res) (n : Nat) (x0 x2 x3 x7 : DV) (h0 : Hp) : Res :=
  ifD x7 (
    bnd (rec 42 [x0] h0) fun v45 h45 =>
    bnd (pPart1 1 v45 h45) fun v46 h46 =>
    bnd (pField 1 x3 h46) fun v47 h47 =>
    bnd (pStore 1 v47 v46 h47) fun _ h48 =>
    s25a3 rec n x0 x2 x3 h48) (
    s25a12 rec n x0 x2 x3 h0)

noncomputable def s25a2 (rec : FuncId → List DV → Hp → Res) (n : Nat) (x0 x2 x3 : DV) (h0 : Hp) : Res :=
  bnd (rec 41 [x0, (.i .i64 (Int.ofNat 1)), (.s [])] h0) fun v98 h98 =>
  s25a11 rec n x0 x2 x3 v98 h98

noncomputable def s25a1 (rec : FuncId → List DV → Hp → Res) (n : Nat) (x0 x2 : DV) (h0 : Hp) : Res :=
  bnd (pBuild [(.i .i64 (Int.ofNat 0)), (.s []), (.i .i64 (Int.ofNat 0)), .l0, .l0, .l0] [(0, 1, (.i .i64 (Int.ofNat 11)))] h0) fun v100 h100 =>
  bnd (pNew [(.i .i64 (Int.ofNat 0)), (.s []), (.i .i64 (Int.ofNat 0)), .l0, .l0, .l0] h100) fun v101 h101 =>
  bnd (pStore 6 v101 v100 h101) fun _ h102 =>
  s25a2 rec n x0 x2 v101 h102

/-- vivariumref07.P).head -/
noncomputable def s25 (rec : FuncId → List DV → Hp → Res) (n : Nat) (x0 : DV) (h0 : Hp) : Res :=
  bnd (pNew [(.i .i64 (Int.ofNat 0)), (.s []), (.i .i64 (Int.ofNat 0)), .l0, .l0, .l0] h0) fun v112 h112 =>
  s25a1 rec n x0 v112 h112

noncomputable def D25 (rec : FuncId → List DV → Hp → Res) (n : Nat) (c : Code) (X : Nat → K) (k : K) : K := codeD CF rec 62 n c X (retK CF Try.f25) k

theorem s25a4e (rec : FuncId → List DV → Hp → Res) (n : Nat) : D25 rec n (cR (cR (cR (cR (cf Try.f25))))) x0 (retK CF Try.f25) = (fun (env : Env) (h : Hp) => s25a4 rec n (env 2) (env 3) h) :=
  (by kernel_rfl)

theorem s25a10e (rec : FuncId → List DV → Hp → Res) (n : Nat) : D25 rec n (cR (cR (cR (cR (cL (cR (cL (cR (cR (cR (cf Try.f25))))))))))) x0 (fun (env : Env) (h : Hp) => s25a4 rec n (env 2) (env 3) h) = (fun (env : Env) (h : Hp) => s25a10 rec n (env 0) (env 2) (env 3) (env 4) h) :=
  (by kernel_rfl)

theorem s25a9p1 (rec : FuncId → List DV → Hp → Res) (n : Nat) : D25 rec n (cR (cR (cR (cL (cR (cL (cR (cR (cR (cf Try.f25)))))))))) x0 (fun (env : Env) (h : Hp) => s25a4 rec n (env 2) (env 3) h) = D25 rec n (cL (cR (cR (cR (cL (cR (cL (cR (cR (cR (cf Try.f25))))))))))) x0 (fun (env : Env) (h : Hp) => s25a10 rec n (env 0) (env 2) (env 3) (env 4) h) :=
  congrArg (fun k => D25 rec n (cL (cR (cR (cR (cL (cR (cL (cR (cR (cR (cf Try.f25))))))))))) x0 k) (s25a10e rec n)

theorem s25a9e (rec : FuncId → List DV → Hp → Res) (n : Nat) : D25 rec n (cR (cR (cR (cL (cR (cL (cR (cR (cR (cf Try.f25)))))))))) x0 (fun (env : Env) (h : Hp) => s25a4 rec n (env 2) (env 3) h) = (fun (env : Env) (h : Hp) => s25a9 rec n (env 0) (env 2) (env 3) (env 4) h) :=
  (s25a9p1 rec n).trans
  ((by kernel_rfl))

theorem s25a8p2 (rec : FuncId → List DV → Hp → Res) (n : Nat) : D25 rec n (cR (cR (cL (cR (cL (cR (cR (cR (cf Try.f25))))))))) x0 (fun (env : Env) (h : Hp) => s25a4 rec n (env 2) (env 3) h) = D25 rec n (cL (cR (cR (cL (cR (cL (cR (cR (cR (cf Try.f25)))))))))) x0 (fun (env : Env) (h : Hp) => s25a9 rec n (env 0) (env 2) (env 3) (env 4) h) :=
  congrArg (fun k => D25 rec n (cL (cR (cR (cL (cR (cL (cR (cR (cR (cf Try.f25)))))))))) x0 k) (s25a9e rec n)

theorem s25a8q3 (rec : FuncId → List DV → Hp → Res) (n : Nat) (q0 : DV → DV → DV → DV → Hp → Res) : D25 rec n (cL (cR (cR (cL (cR (cL (cR (cR (cR (cf Try.f25)))))))))) x0 (fun (env : Env) (h : Hp) => q0 (env 0) (env 2) (env 3) (env 4) h) = fun (env : Env) (h : Hp) =>
    bnd (rec 28 [(env 0), (.i .i64 (Int.ofNat 4)), (.s [])] h) fun v33 h33 =>
    bnd (pNew [(.i .i64 (Int.ofNat 0)), (.s []), (.i .i64 (Int.ofNat 0)), (.i .i64 (Int.ofNat 0))] h33) fun v34 h34 =>
    bnd (pStore 4 v34 v33 h34) fun _ h35 =>
    q0 (env 0) (env 2) (env 3) v34 h35 := by kernel_rfl

theorem s25a8q3u (rec : FuncId → List DV → Hp → Res) (n : Nat) : (fun (env : Env) (h : Hp) =>
    bnd (rec 28 [(env 0), (.i .i64 (Int.ofNat 4)), (.s [])] h) fun v36 h36 =>
    bnd (pNew [(.i .i64 (Int.ofNat 0)), (.s []), (.i .i64 (Int.ofNat 0)), (.i .i64 (Int.ofNat 0))] h36) fun v37 h37 =>
    bnd (pStore 4 v37 v36 h37) fun _ h38 =>
    s25a9 rec n (env 0) (env 2) (env 3) v37 h38) = (fun (env : Env) (h : Hp) => s25a8 rec n (env 0) (env 2) (env 3) h) := by kernel_rfl

theorem s25a8e (rec : FuncId → List DV → Hp → Res) (n : Nat) : D25 rec n (cR (cR (cL (cR (cL (cR (cR (cR (cf Try.f25))))))))) x0 (fun (env : Env) (h : Hp) => s25a4 rec n (env 2) (env 3) h) = (fun (env : Env) (h : Hp) => s25a8 rec n (env 0) (env 2) (env 3) h) :=
  (s25a8p2 rec n).trans
  ((s25a8q3 rec n (s25a9 rec n)).trans (s25a8q3u rec n))

theorem s25a7p4 (rec : FuncId → List DV → Hp → Res) (n : Nat) : D25 rec n (cR (cL (cR (cL (cR (cR (cR (cf Try.f25)))))))) x0 (fun (env : Env) (h : Hp) => s25a4 rec n (env 2) (env 3) h) = D25 rec n (cL (cR (cL (cR (cL (cR (cR (cR (cf Try.f25))))))))) x0 (fun (env : Env) (h : Hp) => s25a8 rec n (env 0) (env 2) (env 3) h) :=
  congrArg (fun k => D25 rec n (cL (cR (cL (cR (cL (cR (cR (cR (cf Try.f25))))))))) x0 k) (s25a8e rec n)

theorem s25a7e (rec : FuncId → List DV → Hp → Res) (n : Nat) : D25 rec n (cR (cL (cR (cL (cR (cR (cR (cf Try.f25)))))))) x0 (fun (env : Env) (h : Hp) => s25a4 rec n (env 2) (env 3) h) = (fun (env : Env) (h : Hp) => s25a7 rec n (env 0) (env 2) (env 3) h) :=
  (s25a7p4 rec n).trans
  ((by kernel_rfl))

theorem s25a6p5 (rec : FuncId → List DV → Hp → Res) (n : Nat) : D25 rec n (cL (cR (cL (cR (cR (cR (cf Try.f25))))))) x0 (fun (env : Env) (h : Hp) => s25a4 rec n (env 2) (env 3) h) = D25 rec n (cL (cL (cR (cL (cR (cR (cR (cf Try.f25)))))))) x0 (fun (env : Env) (h : Hp) => s25a7 rec n (env 0) (env 2) (env 3) h) :=
  congrArg (fun k => D25 rec n (cL (cL (cR (cL (cR (cR (cR (cf Try.f25)))))))) x0 k) (s25a7e rec n)

theorem s25a6e (rec : FuncId → List DV → Hp → Res) (n : Nat) : D25 rec n (cL (cR (cL (cR (cR (cR (cf Try.f25))))))) x0 (fun (env : Env) (h : Hp) => s25a4 rec n (env 2) (env 3) h) = (fun (env : Env) (h : Hp) => s25a6 rec n (env 0) (env 2) (env 3) h) :=
  (s25a6p5 rec n).trans
  ((by kernel_rfl))

theorem s25a5e (rec : FuncId → List DV → Hp → Res) (n : Nat) : D25 rec n (cR (cL (cR (cR (cR (cf Try.f25)))))) x0 (fun (env : Env) (h : Hp) => s25a4 rec n (env 2) (env 3) h) = (fun (env : Env) (h : Hp) => s25a5 rec n (env 0) (env 2) (env 3) (env 43) h) :=
  (by kernel_rfl : D25 rec n (cR (cL (cR (cR (cR (cf Try.f25)))))) x0 (fun (env : Env) (h : Hp) => s25a4 rec n (env 2) (env 3) h) = (fun (env : Env) (h : Hp) => ifD (opr env (cC (cR (cL (cR (cR (cR (cf Try.f25)))))))) (D25 rec n (cL (cR (cL (cR (cR (cR (cf Try.f25))))))) x0 (fun (env : Env) (h : Hp) => s25a4 rec n (env 2) (env 3) h) env h) (D25 rec n (cR (cR (cL (cR (cR (cR (cf Try.f25))))))) x0 (fun (env : Env) (h : Hp) => s25a4 rec n (env 2) (env 3) h) env h))).trans (by rw [s25a6e rec n]; kernel_rfl)

theorem s25a3p6 (rec : FuncId → List DV → Hp → Res) (n : Nat) : D25 rec n (cR (cR (cR (cf Try.f25)))) x0 (retK CF Try.f25) = D25 rec n (cL (cR (cR (cR (cf Try.f25))))) x0 (fun (env : Env) (h : Hp) => s25a4 rec n (env 2) (env 3) h) :=
  congrArg (fun k => D25 rec n (cL (cR (cR (cR (cf Try.f25))))) x0 k) (s25a4e rec n)

theorem s25a3p7 (rec : FuncId → List DV → Hp → Res) (n : Nat) : D25 rec n (cL (cR (cR (cR (cf Try.f25))))) x0 (fun (env : Env) (h : Hp) => s25a4 rec n (env 2) (env 3) h) = D25 rec n (cL (cL (cR (cR (cR (cf Try.f25)))))) x0 (fun (env : Env) (h : Hp) => s25a5 rec n (env 0) (env 2) (env 3) (env 43) h) :=
  congrArg (fun k => D25 rec n (cL (cL (cR (cR (cR (cf Try.f25)))))) x0 k) (s25a5e rec n)

theorem s25a3e (rec : FuncId → List DV → Hp → Res) (n : Nat) : D25 rec n (cR (cR (cR (cf Try.f25)))) x0 (retK CF Try.f25) = (fun (env : Env) (h : Hp) => s25a3 rec n (env 0) (env 2) (env 3) h) :=
  (s25a3p6 rec n).trans
  ((s25a3p7 rec n).trans
  ((by kernel_rfl)))

theorem s25a17be (rec : FuncId → List DV → Hp → Res) (n : Nat) (kk17 : DV → DV → DV → Hp → Res) : D25 rec n (cL (cL (cR (cR (cR (cR (cR (cR (cL (cR (cR (cf Try.f25)))))))))))) (xs x0 0 (fun (env : Env) (h : Hp) => s25a3 rec n (env 0) (env 2) (env 3) h)) (fun (env : Env) (h : Hp) => kk17 (env 0) (env 2) (env 3) h) = (fun (env : Env) (h : Hp) => s25a17b rec n kk17 (env 0) (env 2) (env 3) h) :=
  (by kernel_rfl)

theorem s25a17le (rec : FuncId → List DV → Hp → Res) (n : Nat) (m : Nat) : loopN (fun kk => D25 rec n (cL (cL (cR (cR (cR (cR (cR (cR (cL (cR (cR (cf Try.f25)))))))))))) (xs x0 0 (fun (env : Env) (h : Hp) => s25a3 rec n (env 0) (env 2) (env 3) h)) kk) m = (fun (env : Env) (h : Hp) => s25a17l rec n m (env 0) (env 2) (env 3) h) := by
  induction m with
  | zero => exact (by kernel_rfl : loopN (fun kk => D25 rec n (cL (cL (cR (cR (cR (cR (cR (cR (cL (cR (cR (cf Try.f25)))))))))))) (xs x0 0 (fun (env : Env) (h : Hp) => s25a3 rec n (env 0) (env 2) (env 3) h)) kk) 0 = (fun (env : Env) (h : Hp) => s25a17l rec n 0 (env 0) (env 2) (env 3) h))
  | succ m ih =>
    refine (by kernel_rfl : loopN (fun kk => D25 rec n (cL (cL (cR (cR (cR (cR (cR (cR (cL (cR (cR (cf Try.f25)))))))))))) (xs x0 0 (fun (env : Env) (h : Hp) => s25a3 rec n (env 0) (env 2) (env 3) h)) kk) (m + 1) = D25 rec n (cL (cL (cR (cR (cR (cR (cR (cR (cL (cR (cR (cf Try.f25)))))))))))) (xs x0 0 (fun (env : Env) (h : Hp) => s25a3 rec n (env 0) (env 2) (env 3) h)) (loopN (fun kk => D25 rec n (cL (cL (cR (cR (cR (cR (cR (cR (cL (cR (cR (cf Try.f25)))))))))))) (xs x0 0 (fun (env : Env) (h : Hp) => s25a3 rec n (env 0) (env 2) (env 3) h)) kk) m)).trans ?_
    rw [ih]
    exact (s25a17be rec n (s25a17l rec n m)).trans (by kernel_rfl)

theorem s25a17e (rec : FuncId → List DV → Hp → Res) (n : Nat) : D25 rec n (cL (cR (cR (cR (cR (cR (cR (cL (cR (cR (cf Try.f25))))))))))) (xs x0 0 (fun (env : Env) (h : Hp) => s25a3 rec n (env 0) (env 2) (env 3) h)) (fun (env : Env) (h : Hp) => s25a3 rec n (env 0) (env 2) (env 3) h) = (fun (env : Env) (h : Hp) => s25a17 rec n (env 0) (env 2) (env 3) h) :=
  (by kernel_rfl : D25 rec n (cL (cR (cR (cR (cR (cR (cR (cL (cR (cR (cf Try.f25))))))))))) (xs x0 0 (fun (env : Env) (h : Hp) => s25a3 rec n (env 0) (env 2) (env 3) h)) (fun (env : Env) (h : Hp) => s25a3 rec n (env 0) (env 2) (env 3) h) = loopN (fun kk => D25 rec n (cL (cL (cR (cR (cR (cR (cR (cR (cL (cR (cR (cf Try.f25)))))))))))) (xs x0 0 (fun (env : Env) (h : Hp) => s25a3 rec n (env 0) (env 2) (env 3) h)) kk) n).trans ((s25a17le rec n n).trans (by kernel_rfl))

theorem s25a16e (rec : FuncId → List DV → Hp → Res) (n : Nat) : D25 rec n (cR (cR (cR (cR (cR (cR (cL (cR (cR (cf Try.f25)))))))))) x0 (fun (env : Env) (h : Hp) => s25a3 rec n (env 0) (env 2) (env 3) h) = (fun (env : Env) (h : Hp) => s25a16 rec n (env 0) (env 2) (env 3) h) :=
  (by kernel_rfl : D25 rec n (cR (cR (cR (cR (cR (cR (cL (cR (cR (cf Try.f25)))))))))) x0 (fun (env : Env) (h : Hp) => s25a3 rec n (env 0) (env 2) (env 3) h) = D25 rec n (cL (cR (cR (cR (cR (cR (cR (cL (cR (cR (cf Try.f25))))))))))) (xs x0 0 (fun (env : Env) (h : Hp) => s25a3 rec n (env 0) (env 2) (env 3) h)) (fun (env : Env) (h : Hp) => s25a3 rec n (env 0) (env 2) (env 3) h)).trans
  ((s25a17e rec n).trans (by kernel_rfl))

theorem s25a15p8 (rec : FuncId → List DV → Hp → Res) (n : Nat) : D25 rec n (cR (cR (cR (cR (cR (cL (cR (cR (cf Try.f25))))))))) x0 (fun (env : Env) (h : Hp) => s25a3 rec n (env 0) (env 2) (env 3) h) = D25 rec n (cL (cR (cR (cR (cR (cR (cL (cR (cR (cf Try.f25)))))))))) x0 (fun (env : Env) (h : Hp) => s25a16 rec n (env 0) (env 2) (env 3) h) :=
  congrArg (fun k => D25 rec n (cL (cR (cR (cR (cR (cR (cL (cR (cR (cf Try.f25)))))))))) x0 k) (s25a16e rec n)

theorem s25a15e (rec : FuncId → List DV → Hp → Res) (n : Nat) : D25 rec n (cR (cR (cR (cR (cR (cL (cR (cR (cf Try.f25))))))))) x0 (fun (env : Env) (h : Hp) => s25a3 rec n (env 0) (env 2) (env 3) h) = (fun (env : Env) (h : Hp) => s25a15 rec n (env 0) (env 2) (env 3) h) :=
  (s25a15p8 rec n).trans
  ((by kernel_rfl))

theorem s25a14p9 (rec : FuncId → List DV → Hp → Res) (n : Nat) : D25 rec n (cR (cR (cR (cR (cL (cR (cR (cf Try.f25)))))))) x0 (fun (env : Env) (h : Hp) => s25a3 rec n (env 0) (env 2) (env 3) h) = D25 rec n (cL (cR (cR (cR (cR (cL (cR (cR (cf Try.f25))))))))) x0 (fun (env : Env) (h : Hp) => s25a15 rec n (env 0) (env 2) (env 3) h) :=
  congrArg (fun k => D25 rec n (cL (cR (cR (cR (cR (cL (cR (cR (cf Try.f25))))))))) x0 k) (s25a15e rec n)

theorem s25a14e (rec : FuncId → List DV → Hp → Res) (n : Nat) : D25 rec n (cR (cR (cR (cR (cL (cR (cR (cf Try.f25)))))))) x0 (fun (env : Env) (h : Hp) => s25a3 rec n (env 0) (env 2) (env 3) h) = (fun (env : Env) (h : Hp) => s25a14 rec n (env 0) (env 2) (env 3) h) :=
  (s25a14p9 rec n).trans
  ((by kernel_rfl))

theorem s25a13e (rec : FuncId → List DV → Hp → Res) (n : Nat) : D25 rec n (cR (cR (cR (cL (cR (cR (cf Try.f25))))))) x0 (fun (env : Env) (h : Hp) => s25a3 rec n (env 0) (env 2) (env 3) h) = (fun (env : Env) (h : Hp) => s25a13 rec n (env 0) (env 2) (env 3) (env 13) h) :=
  (by kernel_rfl : D25 rec n (cR (cR (cR (cL (cR (cR (cf Try.f25))))))) x0 (fun (env : Env) (h : Hp) => s25a3 rec n (env 0) (env 2) (env 3) h) = (fun (env : Env) (h : Hp) => ifD (opr env (cC (cR (cR (cR (cL (cR (cR (cf Try.f25))))))))) (D25 rec n (cL (cR (cR (cR (cL (cR (cR (cf Try.f25)))))))) x0 (fun (env : Env) (h : Hp) => s25a3 rec n (env 0) (env 2) (env 3) h) env h) (D25 rec n (cR (cR (cR (cR (cL (cR (cR (cf Try.f25)))))))) x0 (fun (env : Env) (h : Hp) => s25a3 rec n (env 0) (env 2) (env 3) h) env h))).trans (by rw [s25a14e rec n]; kernel_rfl)

theorem s25a12p10 (rec : FuncId → List DV → Hp → Res) (n : Nat) : D25 rec n (cR (cR (cL (cR (cR (cf Try.f25)))))) x0 (fun (env : Env) (h : Hp) => s25a3 rec n (env 0) (env 2) (env 3) h) = D25 rec n (cL (cR (cR (cL (cR (cR (cf Try.f25))))))) x0 (fun (env : Env) (h : Hp) => s25a13 rec n (env 0) (env 2) (env 3) (env 13) h) :=
  congrArg (fun k => D25 rec n (cL (cR (cR (cL (cR (cR (cf Try.f25))))))) x0 k) (s25a13e rec n)

theorem s25a12e (rec : FuncId → List DV → Hp → Res) (n : Nat) : D25 rec n (cR (cR (cL (cR (cR (cf Try.f25)))))) x0 (fun (env : Env) (h : Hp) => s25a3 rec n (env 0) (env 2) (env 3) h) = (fun (env : Env) (h : Hp) => s25a12 rec n (env 0) (env 2) (env 3) h) :=
  (s25a12p10 rec n).trans
  ((by kernel_rfl))

theorem s25a11e (rec : FuncId → List DV → Hp → Res) (n : Nat) : D25 rec n (cR (cL (cR (cR (cf Try.f25))))) x0 (fun (env : Env) (h : Hp) => s25a3 rec n (env 0) (env 2) (env 3) h) = (fun (env : Env) (h : Hp) => s25a11 rec n (env 0) (env 2) (env 3) (env 7) h) :=
  (by kernel_rfl : D25 rec n (cR (cL (cR (cR (cf Try.f25))))) x0 (fun (env : Env) (h : Hp) => s25a3 rec n (env 0) (env 2) (env 3) h) = (fun (env : Env) (h : Hp) => ifD (opr env (cC (cR (cL (cR (cR (cf Try.f25))))))) (D25 rec n (cL (cR (cL (cR (cR (cf Try.f25)))))) x0 (fun (env : Env) (h : Hp) => s25a3 rec n (env 0) (env 2) (env 3) h) env h) (D25 rec n (cR (cR (cL (cR (cR (cf Try.f25)))))) x0 (fun (env : Env) (h : Hp) => s25a3 rec n (env 0) (env 2) (env 3) h) env h))).trans (by rw [s25a12e rec n]; kernel_rfl)

theorem s25a2p11 (rec : FuncId → List DV → Hp → Res) (n : Nat) : D25 rec n (cR (cR (cf Try.f25))) x0 (retK CF Try.f25) = D25 rec n (cL (cR (cR (cf Try.f25)))) x0 (fun (env : Env) (h : Hp) => s25a3 rec n (env 0) (env 2) (env 3) h) :=
  congrArg (fun k => D25 rec n (cL (cR (cR (cf Try.f25)))) x0 k) (s25a3e rec n)

theorem s25a2p12 (rec : FuncId → List DV → Hp → Res) (n : Nat) : D25 rec n (cL (cR (cR (cf Try.f25)))) x0 (fun (env : Env) (h : Hp) => s25a3 rec n (env 0) (env 2) (env 3) h) = D25 rec n (cL (cL (cR (cR (cf Try.f25))))) x0 (fun (env : Env) (h : Hp) => s25a11 rec n (env 0) (env 2) (env 3) (env 7) h) :=
  congrArg (fun k => D25 rec n (cL (cL (cR (cR (cf Try.f25))))) x0 k) (s25a11e rec n)

theorem s25a2e (rec : FuncId → List DV → Hp → Res) (n : Nat) : D25 rec n (cR (cR (cf Try.f25))) x0 (retK CF Try.f25) = (fun (env : Env) (h : Hp) => s25a2 rec n (env 0) (env 2) (env 3) h) :=
  (s25a2p11 rec n).trans
  ((s25a2p12 rec n).trans
  ((by kernel_rfl)))

theorem s25a1p13 (rec : FuncId → List DV → Hp → Res) (n : Nat) : D25 rec n (cR (cf Try.f25)) x0 (retK CF Try.f25) = D25 rec n (cL (cR (cf Try.f25))) x0 (fun (env : Env) (h : Hp) => s25a2 rec n (env 0) (env 2) (env 3) h) :=
  congrArg (fun k => D25 rec n (cL (cR (cf Try.f25))) x0 k) (s25a2e rec n)

theorem s25a1q14 (rec : FuncId → List DV → Hp → Res) (n : Nat) (q0 : DV → DV → DV → Hp → Res) : D25 rec n (cL (cR (cf Try.f25))) x0 (fun (env : Env) (h : Hp) => q0 (env 0) (env 2) (env 3) h) = fun (env : Env) (h : Hp) =>
    bnd (pBuild [(.i .i64 (Int.ofNat 0)), (.s []), (.i .i64 (Int.ofNat 0)), .l0, .l0, .l0] [(0, 1, (.i .i64 (Int.ofNat 11)))] h) fun v106 h106 =>
    bnd (pNew [(.i .i64 (Int.ofNat 0)), (.s []), (.i .i64 (Int.ofNat 0)), .l0, .l0, .l0] h106) fun v107 h107 =>
    bnd (pStore 6 v107 v106 h107) fun _ h108 =>
    q0 (env 0) (env 2) v107 h108 := by kernel_rfl

theorem s25a1q14u (rec : FuncId → List DV → Hp → Res) (n : Nat) : (fun (env : Env) (h : Hp) =>
    bnd (pBuild [(.i .i64 (Int.ofNat 0)), (.s []), (.i .i64 (Int.ofNat 0)), .l0, .l0, .l0] [(0, 1, (.i .i64 (Int.ofNat 11)))] h) fun v109 h109 =>
    bnd (pNew [(.i .i64 (Int.ofNat 0)), (.s []), (.i .i64 (Int.ofNat 0)), .l0, .l0, .l0] h109) fun v110 h110 =>
    bnd (pStore 6 v110 v109 h110) fun _ h111 =>
    s25a2 rec n (env 0) (env 2) v110 h111) = (fun (env : Env) (h : Hp) => s25a1 rec n (env 0) (env 2) h) := by kernel_rfl

theorem s25a1e (rec : FuncId → List DV → Hp → Res) (n : Nat) : D25 rec n (cR (cf Try.f25)) x0 (retK CF Try.f25) = (fun (env : Env) (h : Hp) => s25a1 rec n (env 0) (env 2) h) :=
  (s25a1p13 rec n).trans
  ((s25a1q14 rec n (s25a2 rec n)).trans (s25a1q14u rec n))

theorem s25p15 (rec : FuncId → List DV → Hp → Res) (n : Nat) : D25 rec n (cf Try.f25) x0 (retK CF Try.f25) = D25 rec n (cL (cf Try.f25)) x0 (fun (env : Env) (h : Hp) => s25a1 rec n (env 0) (env 2) h) :=
  congrArg (fun k => D25 rec n (cL (cf Try.f25)) x0 k) (s25a1e rec n)

theorem s25q16 (rec : FuncId → List DV → Hp → Res) (n : Nat) (q0 : DV → DV → Hp → Res) : D25 rec n (cL (cf Try.f25)) x0 (fun (env : Env) (h : Hp) => q0 (env 0) (env 2) h) = fun (env : Env) (h : Hp) =>
    bnd (pNew [(.i .i64 (Int.ofNat 0)), (.s []), (.i .i64 (Int.ofNat 0)), .l0, .l0, .l0] h) fun v114 h114 =>
    q0 (env 0) v114 h114 := by kernel_rfl

theorem s25q16u (rec : FuncId → List DV → Hp → Res) (n : Nat) : (fun (env : Env) (h : Hp) =>
    bnd (pNew [(.i .i64 (Int.ofNat 0)), (.s []), (.i .i64 (Int.ofNat 0)), .l0, .l0, .l0] h) fun v115 h115 =>
    s25a1 rec n (env 0) v115 h115) = (fun (env : Env) (h : Hp) => s25 rec n (env 0) h) := by kernel_rfl

theorem s25m (rec : FuncId → List DV → Hp → Res) (n : Nat) : D25 rec n (cf Try.f25) x0 (retK CF Try.f25) = (fun (env : Env) (h : Hp) => s25 rec n (env 0) h) :=
  (s25p15 rec n).trans
  ((s25q16 rec n (s25a1 rec n)).trans (s25q16u rec n))

theorem s25ok (rec : FuncId → List DV → Hp → Res) (n : Nat) (args : List DV) (h : Hp) : bodyD CF rec n 25 args h = s25 rec n (args.getD 0 undefD) h :=
  (by kernel_rfl : bodyD CF rec n 25 args h = D25 rec n (cf Try.f25) x0 (retK CF Try.f25) (argsE args) h).trans ((congrFun (congrFun (s25m rec n) (argsE args)) h).trans (by kernel_rfl))

end Go.Dd
