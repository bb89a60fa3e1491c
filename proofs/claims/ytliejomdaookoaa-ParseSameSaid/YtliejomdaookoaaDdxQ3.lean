/- Dd, part Q3 (printed by gen.py): functions of the seat's program as Lean functions, linked to Dd. -/
import Derived.Test.YtliejomdaookoaaDdxQh
set_option linter.unusedVariables false
set_option maxRecDepth 100000
namespace Go.Dd
open Go.Proofs

noncomputable def s38a9 (rec : FuncId → List DV → Hp → Res) (n : Nat) (x0 x3 x4 x7 x9 : DV) (h0 : Hp) : Res :=
  bnd (pSliceS x0 (some x7) (some x9) h0) fun v1 h1 =>
  bnd (pField 1 x3 h1) fun v2 h2 =>
  bnd (pStore 1 v2 v1 h2) fun _ h3 =>
  bnd (pLoadA 4 x3 h3) fun v4 h4 =>
  bnd (pStore 4 x4 v4 h4) fun _ h5 =>
  bnd (pLoadA 4 x4 h5) fun v6 _ =>
  some (.t [v6, x9, (.i .i64 (Int.ofNat 0))], h5)

noncomputable def s38a10b (rec : FuncId → List DV → Hp → Res) (n : Nat) (kk10 : DV → DV → DV → DV → DV → Hp → Res) (x0 x3 x4 x7 x9 : DV) (h0 : Hp) : Res :=
    bnd (rec 36 [x0, x9] h0) fun v13 h13 =>
    ifD v13 (
      bnd (pInt .add x9 (.i .i64 (Int.ofNat 1)) h13) fun v14 h14 =>
      bnd (rec 34 [x0, v14] h14) fun v15 h15 =>
      bnd (pInt .neq v15 (.i .i64 (Int.ofNat 1)) h15) fun v16 h16 =>
      ifD v16 (
        s38a9 rec n x0 x3 x4 x7 v14 h16) (
        bnd (rec 35 [x0, v14] h16) fun v17 h17 =>
        bnd (rec 36 [x0, v17] h17) fun v18 h18 =>
        bnd (pUn .not v18 h18) fun v19 h19 =>
        ifD v19 (
          s38a9 rec n x0 x3 x4 x7 v14 h19) (
          bnd (pInt .sub v17 v14 h19) fun v20 h20 =>
          bnd (pInt .gtr v20 (.i .i64 (Int.ofNat 24)) h20) fun v21 h21 =>
          ifD v21 (
            bnd (pLoadA 4 x3 h21) fun v22 h22 =>
            bnd (pStore 4 x4 v22 h22) fun _ h23 =>
            bnd (pLoadA 4 x4 h23) fun v24 _ =>
            some (.t [v24, (.i .i64 (Int.ofNat 0)), (.i .i64 (Int.ofNat 12))], h23)) (
            kk10 x0 x3 x4 x7 v17 h21)))) (
      s38a9 rec n x0 x3 x4 x7 x9 h13)

noncomputable def s38a10l (rec : FuncId → List DV → Hp → Res) (n : Nat) (m : Nat) : DV → DV → DV → DV → DV → Hp → Res :=
  Nat.rec (motive := fun _ => DV → DV → DV → DV → DV → Hp → Res) (fun _ _ _ _ _ _ => none) (fun _ ih => s38a10b rec n ih) m

noncomputable def s38a10 (rec : FuncId → List DV → Hp → Res) (n : Nat) : DV → DV → DV → DV → DV → Hp → Res := s38a10l rec n n

noncomputable def s38a8 (rec : FuncId → List DV → Hp → Res) (n : Nat) (x0 x3 x4 x7 x9 : DV) (h0 : Hp) : Res :=
  s38a10 rec n x0 x3 x4 x7 x9 h0

noncomputable def s38a7 (rec : FuncId → List DV → Hp → Res) (n : Nat) (x0 x3 x4 x7 x9 : DV) (h0 : Hp) : Res :=
  bnd (pInt .sub x9 x7 h0) fun v37 h37 =>
  bnd (pInt .gtr v37 (.i .i64 (Int.ofNat 24)) h37) fun v38 h38 =>
  ifD v38 (
    bnd (pLoadA 4 x3 h38) fun v39 h39 =>
    bnd (pStore 4 x4 v39 h39) fun _ h40 =>
    bnd (pLoadA 4 x4 h40) fun v41 _ =>
    some (.t [v41, (.i .i64 (Int.ofNat 0)), (.i .i64 (Int.ofNat 12))], h40)) (
    s38a8 rec n x0 x3 x4 x7 x9 h38)

noncomputable def s38a6 (rec : FuncId → List DV → Hp → Res) (n : Nat) (x0 x3 x4 x7 : DV) (h0 : Hp) : Res :=
  bnd (rec 35 [x0, x7] h0) fun v47 h47 =>
  s38a7 rec n x0 x3 x4 x7 v47 h47

noncomputable def s38a5 (rec : FuncId → List DV → Hp → Res) (n : Nat) (x0 x3 x4 x7 : DV) (h0 : Hp) : Res :=
  bnd (rec 34 [x0, x7] h0) fun v49 h49 =>
  bnd (pInt .neq v49 (.i .i64 (Int.ofNat 1)) h49) fun v50 h50 =>
  ifD v50 (
    bnd (pLoadA 4 x3 h50) fun v51 h51 =>
    bnd (pStore 4 x4 v51 h51) fun _ h52 =>
    bnd (pLoadA 4 x4 h52) fun v53 _ =>
    some (.t [v53, (.i .i64 (Int.ofNat 0)), (.i .i64 (Int.ofNat 10))], h52)) (
    s38a6 rec n x0 x3 x4 x7 h50)

noncomputable def s38a14 (rec : FuncId → List DV → Hp → Res) (n : Nat) (x0 x3 x4 x7 x8 : DV) (h0 : Hp) : Res :=
  bnd (pSliceS x0 (some x7) (some x8) h0) fun v59 h59 =>
  bnd (pField 1 x3 h59) fun v60 h60 =>
  bnd (pStore 1 v60 v59 h60) fun _ h61 =>
  bnd (pLoadA 4 x3 h61) fun v62 h62 =>
  bnd (pStore 4 x4 v62 h62) fun _ h63 =>
  bnd (pLoadA 4 x4 h63) fun v64 _ =>
  some (.t [v64, x8, (.i .i64 (Int.ofNat 0))], h63)

noncomputable def s38a13 (rec : FuncId → List DV → Hp → Res) (n : Nat) (x0 x3 x4 x7 x8 : DV) (h0 : Hp) : Res :=
  bnd (rec 34 [x0, x8] h0) fun v71 h71 =>
  bnd (pInt .eql v71 (.i .i64 (Int.ofNat 3)) h71) fun v72 h72 =>
  ifD v72 (
    bnd (pInt .add x8 (.i .i64 (Int.ofNat 1)) h72) fun v73 h73 =>
    s38a14 rec n x0 x3 x4 x7 v73 h73) (
    s38a14 rec n x0 x3 x4 x7 x8 h72)

noncomputable def s38a12 (rec : FuncId → List DV → Hp → Res) (n : Nat) (x0 x3 x4 x7 : DV) (h0 : Hp) : Res :=
  bnd (pInt .add x7 (.i .i64 (Int.ofNat 1)) h0) fun v77 h77 =>
  s38a13 rec n x0 x3 x4 x7 v77 h77

noncomputable def s38a11 (rec : FuncId → List DV → Hp → Res) (n : Nat) (x0 x3 x4 x7 x32 : DV) (h0 : Hp) : Res :=
  ifD x32 (
    s38a12 rec n x0 x3 x4 x7 h0) (
    s38a5 rec n x0 x3 x4 x7 h0)

noncomputable def s38a4 (rec : FuncId → List DV → Hp → Res) (n : Nat) (x0 x3 x4 x7 : DV) (h0 : Hp) : Res :=
  bnd (rec 34 [x0, x7] h0) fun v79 h79 =>
  bnd (pInt .eql v79 (.i .i64 (Int.ofNat 3)) h79) fun v80 h80 =>
  s38a11 rec n x0 x3 x4 x7 v80 h80

noncomputable def s38a3 (rec : FuncId → List DV → Hp → Res) (n : Nat) (x0 x3 x4 x7 : DV) (h0 : Hp) : Res :=
  bnd (pField 0 x3 h0) fun v83 h83 =>
  bnd (pStore 1 v83 (.i .i64 (Int.ofNat 6)) h83) fun _ h84 =>
  s38a4 rec n x0 x3 x4 x7 h84

noncomputable def s38a2 (rec : FuncId → List DV → Hp → Res) (n : Nat) (x0 x3 x4 x7 : DV) (h0 : Hp) : Res :=
  bnd (pLenS x0 h0) fun v87 h87 =>
  bnd (pInt .lss x7 v87 h87) fun v88 h88 =>
  bnd (gD v88 true (some (x0, h88)) h88) fun v89 h89 =>
  bnd (gD v88 true (some (x7, h89)) h89) fun v90 h90 =>
  bnd (gD v88 true (pIndexS v89 v90 h90) h90) fun v91 h91 =>
  bnd (gD v88 true (pInt .eql v91 (.i .u8 (Int.ofNat 40)) h91) h91) fun v92 h92 =>
  bnd (pPick v88 v92 (.b false) h92) fun v93 h93 =>
  ifD v93 (
    bnd (pField 0 x3 h93) fun v94 h94 =>
    bnd (pStore 1 v94 (.i .i64 (Int.ofNat 7)) h94) fun _ h95 =>
    bnd (pLoadA 4 x3 h95) fun v96 h96 =>
    bnd (pInt .add x7 (.i .i64 (Int.ofNat 1)) h96) fun v97 h97 =>
    bnd (pStore 4 x4 v96 h97) fun _ h98 =>
    bnd (pLoadA 4 x4 h98) fun v99 _ =>
    some (.t [v99, v97, (.i .i64 (Int.ofNat 0))], h98)) (
    s38a3 rec n x0 x3 x4 x7 h93)

noncomputable def s38a1 (rec : FuncId → List DV → Hp → Res) (n : Nat) (x0 x3 x4 : DV) (h0 : Hp) : Res :=
  bnd (pField 3 x3 h0) fun v113 h113 =>
  bnd (pLoad1 v113 h113) fun v114 h114 =>
  bnd (pInt .add v114 (.i .i64 (Int.ofNat 1)) h114) fun v115 h115 =>
  s38a2 rec n x0 x3 x4 v115 h115

/-- vivariumref06.symbol -/
noncomputable def s38 (rec : FuncId → List DV → Hp → Res) (n : Nat) (x0 x1 : DV) (h0 : Hp) : Res :=
  bnd (pBox x1 h0) fun v119 h119 =>
  bnd (pNew [(.i .i64 (Int.ofNat 0)), (.s []), (.i .i64 (Int.ofNat 0)), (.i .i64 (Int.ofNat 0))] h119) fun v120 h120 =>
  s38a1 rec n x0 v119 v120 h120

noncomputable def D38 (rec : FuncId → List DV → Hp → Res) (n : Nat) (c : Code) (X : Nat → K) (k : K) : K := codeD CF rec 90 n c X (retK CF Try.f38) k

theorem s38a9e (rec : FuncId → List DV → Hp → Res) (n : Nat) : D38 rec n (cR (cR (cR (cR (cR (cR (cR (cR (cR (cf Try.f38)))))))))) x0 (retK CF Try.f38) = (fun (env : Env) (h : Hp) => s38a9 rec n (env 0) (env 3) (env 4) (env 7) (env 9) h) :=
  (by kernel_rfl)

theorem s38a10be (rec : FuncId → List DV → Hp → Res) (n : Nat) (kk10 : DV → DV → DV → DV → DV → Hp → Res) : D38 rec n (cL (cL (cL (cR (cR (cR (cR (cR (cR (cR (cR (cf Try.f38)))))))))))) (xs x0 0 (fun (env : Env) (h : Hp) => s38a9 rec n (env 0) (env 3) (env 4) (env 7) (env 9) h)) (fun (env : Env) (h : Hp) => kk10 (env 0) (env 3) (env 4) (env 7) (env 9) h) = (fun (env : Env) (h : Hp) => s38a10b rec n kk10 (env 0) (env 3) (env 4) (env 7) (env 9) h) :=
  (by kernel_rfl)

theorem s38a10le (rec : FuncId → List DV → Hp → Res) (n : Nat) (m : Nat) : loopN (fun kk => D38 rec n (cL (cL (cL (cR (cR (cR (cR (cR (cR (cR (cR (cf Try.f38)))))))))))) (xs x0 0 (fun (env : Env) (h : Hp) => s38a9 rec n (env 0) (env 3) (env 4) (env 7) (env 9) h)) kk) m = (fun (env : Env) (h : Hp) => s38a10l rec n m (env 0) (env 3) (env 4) (env 7) (env 9) h) := by
  induction m with
  | zero => exact (by kernel_rfl : loopN (fun kk => D38 rec n (cL (cL (cL (cR (cR (cR (cR (cR (cR (cR (cR (cf Try.f38)))))))))))) (xs x0 0 (fun (env : Env) (h : Hp) => s38a9 rec n (env 0) (env 3) (env 4) (env 7) (env 9) h)) kk) 0 = (fun (env : Env) (h : Hp) => s38a10l rec n 0 (env 0) (env 3) (env 4) (env 7) (env 9) h))
  | succ m ih =>
    refine (by kernel_rfl : loopN (fun kk => D38 rec n (cL (cL (cL (cR (cR (cR (cR (cR (cR (cR (cR (cf Try.f38)))))))))))) (xs x0 0 (fun (env : Env) (h : Hp) => s38a9 rec n (env 0) (env 3) (env 4) (env 7) (env 9) h)) kk) (m + 1) = D38 rec n (cL (cL (cL (cR (cR (cR (cR (cR (cR (cR (cR (cf Try.f38)))))))))))) (xs x0 0 (fun (env : Env) (h : Hp) => s38a9 rec n (env 0) (env 3) (env 4) (env 7) (env 9) h)) (loopN (fun kk => D38 rec n (cL (cL (cL (cR (cR (cR (cR (cR (cR (cR (cR (cf Try.f38)))))))))))) (xs x0 0 (fun (env : Env) (h : Hp) => s38a9 rec n (env 0) (env 3) (env 4) (env 7) (env 9) h)) kk) m)).trans ?_
    rw [ih]
    exact (s38a10be rec n (s38a10l rec n m)).trans (by kernel_rfl)

theorem s38a10e (rec : FuncId → List DV → Hp → Res) (n : Nat) : D38 rec n (cL (cL (cR (cR (cR (cR (cR (cR (cR (cR (cf Try.f38))))))))))) (xs x0 0 (fun (env : Env) (h : Hp) => s38a9 rec n (env 0) (env 3) (env 4) (env 7) (env 9) h)) (fun (env : Env) (h : Hp) => s38a9 rec n (env 0) (env 3) (env 4) (env 7) (env 9) h) = (fun (env : Env) (h : Hp) => s38a10 rec n (env 0) (env 3) (env 4) (env 7) (env 9) h) :=
  (by kernel_rfl : D38 rec n (cL (cL (cR (cR (cR (cR (cR (cR (cR (cR (cf Try.f38))))))))))) (xs x0 0 (fun (env : Env) (h : Hp) => s38a9 rec n (env 0) (env 3) (env 4) (env 7) (env 9) h)) (fun (env : Env) (h : Hp) => s38a9 rec n (env 0) (env 3) (env 4) (env 7) (env 9) h) = loopN (fun kk => D38 rec n (cL (cL (cL (cR (cR (cR (cR (cR (cR (cR (cR (cf Try.f38)))))))))))) (xs x0 0 (fun (env : Env) (h : Hp) => s38a9 rec n (env 0) (env 3) (env 4) (env 7) (env 9) h)) kk) n).trans ((s38a10le rec n n).trans (by kernel_rfl))

theorem s38a8p1 (rec : FuncId → List DV → Hp → Res) (n : Nat) : D38 rec n (cR (cR (cR (cR (cR (cR (cR (cR (cf Try.f38))))))))) x0 (retK CF Try.f38) = D38 rec n (cL (cR (cR (cR (cR (cR (cR (cR (cR (cf Try.f38)))))))))) x0 (fun (env : Env) (h : Hp) => s38a9 rec n (env 0) (env 3) (env 4) (env 7) (env 9) h) :=
  congrArg (fun k => D38 rec n (cL (cR (cR (cR (cR (cR (cR (cR (cR (cf Try.f38)))))))))) x0 k) (s38a9e rec n)

theorem s38a8e (rec : FuncId → List DV → Hp → Res) (n : Nat) : D38 rec n (cR (cR (cR (cR (cR (cR (cR (cR (cf Try.f38))))))))) x0 (retK CF Try.f38) = (fun (env : Env) (h : Hp) => s38a8 rec n (env 0) (env 3) (env 4) (env 7) (env 9) h) :=
  (s38a8p1 rec n).trans
  ((by kernel_rfl : D38 rec n (cL (cR (cR (cR (cR (cR (cR (cR (cR (cf Try.f38)))))))))) x0 (fun (env : Env) (h : Hp) => s38a9 rec n (env 0) (env 3) (env 4) (env 7) (env 9) h) = D38 rec n (cL (cL (cR (cR (cR (cR (cR (cR (cR (cR (cf Try.f38))))))))))) (xs x0 0 (fun (env : Env) (h : Hp) => s38a9 rec n (env 0) (env 3) (env 4) (env 7) (env 9) h)) (fun (env : Env) (h : Hp) => s38a9 rec n (env 0) (env 3) (env 4) (env 7) (env 9) h)).trans
  ((s38a10e rec n).trans (by kernel_rfl)))

theorem s38a7p2 (rec : FuncId → List DV → Hp → Res) (n : Nat) : D38 rec n (cR (cR (cR (cR (cR (cR (cR (cf Try.f38)))))))) x0 (retK CF Try.f38) = D38 rec n (cL (cR (cR (cR (cR (cR (cR (cR (cf Try.f38))))))))) x0 (fun (env : Env) (h : Hp) => s38a8 rec n (env 0) (env 3) (env 4) (env 7) (env 9) h) :=
  congrArg (fun k => D38 rec n (cL (cR (cR (cR (cR (cR (cR (cR (cf Try.f38))))))))) x0 k) (s38a8e rec n)

theorem s38a7e (rec : FuncId → List DV → Hp → Res) (n : Nat) : D38 rec n (cR (cR (cR (cR (cR (cR (cR (cf Try.f38)))))))) x0 (retK CF Try.f38) = (fun (env : Env) (h : Hp) => s38a7 rec n (env 0) (env 3) (env 4) (env 7) (env 9) h) :=
  (s38a7p2 rec n).trans
  ((by kernel_rfl))

theorem s38a6p3 (rec : FuncId → List DV → Hp → Res) (n : Nat) : D38 rec n (cR (cR (cR (cR (cR (cR (cf Try.f38))))))) x0 (retK CF Try.f38) = D38 rec n (cL (cR (cR (cR (cR (cR (cR (cf Try.f38)))))))) x0 (fun (env : Env) (h : Hp) => s38a7 rec n (env 0) (env 3) (env 4) (env 7) (env 9) h) :=
  congrArg (fun k => D38 rec n (cL (cR (cR (cR (cR (cR (cR (cf Try.f38)))))))) x0 k) (s38a7e rec n)

theorem s38a6e (rec : FuncId → List DV → Hp → Res) (n : Nat) : D38 rec n (cR (cR (cR (cR (cR (cR (cf Try.f38))))))) x0 (retK CF Try.f38) = (fun (env : Env) (h : Hp) => s38a6 rec n (env 0) (env 3) (env 4) (env 7) h) :=
  (s38a6p3 rec n).trans
  ((by kernel_rfl))

theorem s38a5p4 (rec : FuncId → List DV → Hp → Res) (n : Nat) : D38 rec n (cR (cR (cR (cR (cR (cf Try.f38)))))) x0 (retK CF Try.f38) = D38 rec n (cL (cR (cR (cR (cR (cR (cf Try.f38))))))) x0 (fun (env : Env) (h : Hp) => s38a6 rec n (env 0) (env 3) (env 4) (env 7) h) :=
  congrArg (fun k => D38 rec n (cL (cR (cR (cR (cR (cR (cf Try.f38))))))) x0 k) (s38a6e rec n)

theorem s38a5e (rec : FuncId → List DV → Hp → Res) (n : Nat) : D38 rec n (cR (cR (cR (cR (cR (cf Try.f38)))))) x0 (retK CF Try.f38) = (fun (env : Env) (h : Hp) => s38a5 rec n (env 0) (env 3) (env 4) (env 7) h) :=
  (s38a5p4 rec n).trans
  ((by kernel_rfl))

theorem s38a14e (rec : FuncId → List DV → Hp → Res) (n : Nat) : D38 rec n (cR (cR (cL (cR (cL (cR (cR (cR (cR (cf Try.f38)))))))))) x0 (fun (env : Env) (h : Hp) => s38a5 rec n (env 0) (env 3) (env 4) (env 7) h) = (fun (env : Env) (h : Hp) => s38a14 rec n (env 0) (env 3) (env 4) (env 7) (env 8) h) :=
  (by kernel_rfl)

theorem s38a13p5 (rec : FuncId → List DV → Hp → Res) (n : Nat) : D38 rec n (cR (cL (cR (cL (cR (cR (cR (cR (cf Try.f38))))))))) x0 (fun (env : Env) (h : Hp) => s38a5 rec n (env 0) (env 3) (env 4) (env 7) h) = D38 rec n (cL (cR (cL (cR (cL (cR (cR (cR (cR (cf Try.f38)))))))))) x0 (fun (env : Env) (h : Hp) => s38a14 rec n (env 0) (env 3) (env 4) (env 7) (env 8) h) :=
  congrArg (fun k => D38 rec n (cL (cR (cL (cR (cL (cR (cR (cR (cR (cf Try.f38)))))))))) x0 k) (s38a14e rec n)

theorem s38a13e (rec : FuncId → List DV → Hp → Res) (n : Nat) : D38 rec n (cR (cL (cR (cL (cR (cR (cR (cR (cf Try.f38))))))))) x0 (fun (env : Env) (h : Hp) => s38a5 rec n (env 0) (env 3) (env 4) (env 7) h) = (fun (env : Env) (h : Hp) => s38a13 rec n (env 0) (env 3) (env 4) (env 7) (env 8) h) :=
  (s38a13p5 rec n).trans
  ((by kernel_rfl))

theorem s38a12p6 (rec : FuncId → List DV → Hp → Res) (n : Nat) : D38 rec n (cL (cR (cL (cR (cR (cR (cR (cf Try.f38)))))))) x0 (fun (env : Env) (h : Hp) => s38a5 rec n (env 0) (env 3) (env 4) (env 7) h) = D38 rec n (cL (cL (cR (cL (cR (cR (cR (cR (cf Try.f38))))))))) x0 (fun (env : Env) (h : Hp) => s38a13 rec n (env 0) (env 3) (env 4) (env 7) (env 8) h) :=
  congrArg (fun k => D38 rec n (cL (cL (cR (cL (cR (cR (cR (cR (cf Try.f38))))))))) x0 k) (s38a13e rec n)

theorem s38a12e (rec : FuncId → List DV → Hp → Res) (n : Nat) : D38 rec n (cL (cR (cL (cR (cR (cR (cR (cf Try.f38)))))))) x0 (fun (env : Env) (h : Hp) => s38a5 rec n (env 0) (env 3) (env 4) (env 7) h) = (fun (env : Env) (h : Hp) => s38a12 rec n (env 0) (env 3) (env 4) (env 7) h) :=
  (s38a12p6 rec n).trans
  ((by kernel_rfl))

theorem s38a11e (rec : FuncId → List DV → Hp → Res) (n : Nat) : D38 rec n (cR (cL (cR (cR (cR (cR (cf Try.f38))))))) x0 (fun (env : Env) (h : Hp) => s38a5 rec n (env 0) (env 3) (env 4) (env 7) h) = (fun (env : Env) (h : Hp) => s38a11 rec n (env 0) (env 3) (env 4) (env 7) (env 32) h) :=
  (by kernel_rfl : D38 rec n (cR (cL (cR (cR (cR (cR (cf Try.f38))))))) x0 (fun (env : Env) (h : Hp) => s38a5 rec n (env 0) (env 3) (env 4) (env 7) h) = (fun (env : Env) (h : Hp) => ifD (opr env (cC (cR (cL (cR (cR (cR (cR (cf Try.f38))))))))) (D38 rec n (cL (cR (cL (cR (cR (cR (cR (cf Try.f38)))))))) x0 (fun (env : Env) (h : Hp) => s38a5 rec n (env 0) (env 3) (env 4) (env 7) h) env h) (D38 rec n (cR (cR (cL (cR (cR (cR (cR (cf Try.f38)))))))) x0 (fun (env : Env) (h : Hp) => s38a5 rec n (env 0) (env 3) (env 4) (env 7) h) env h))).trans (by rw [s38a12e rec n]; kernel_rfl)

theorem s38a4p7 (rec : FuncId → List DV → Hp → Res) (n : Nat) : D38 rec n (cR (cR (cR (cR (cf Try.f38))))) x0 (retK CF Try.f38) = D38 rec n (cL (cR (cR (cR (cR (cf Try.f38)))))) x0 (fun (env : Env) (h : Hp) => s38a5 rec n (env 0) (env 3) (env 4) (env 7) h) :=
  congrArg (fun k => D38 rec n (cL (cR (cR (cR (cR (cf Try.f38)))))) x0 k) (s38a5e rec n)

theorem s38a4p8 (rec : FuncId → List DV → Hp → Res) (n : Nat) : D38 rec n (cL (cR (cR (cR (cR (cf Try.f38)))))) x0 (fun (env : Env) (h : Hp) => s38a5 rec n (env 0) (env 3) (env 4) (env 7) h) = D38 rec n (cL (cL (cR (cR (cR (cR (cf Try.f38))))))) x0 (fun (env : Env) (h : Hp) => s38a11 rec n (env 0) (env 3) (env 4) (env 7) (env 32) h) :=
  congrArg (fun k => D38 rec n (cL (cL (cR (cR (cR (cR (cf Try.f38))))))) x0 k) (s38a11e rec n)

theorem s38a4e (rec : FuncId → List DV → Hp → Res) (n : Nat) : D38 rec n (cR (cR (cR (cR (cf Try.f38))))) x0 (retK CF Try.f38) = (fun (env : Env) (h : Hp) => s38a4 rec n (env 0) (env 3) (env 4) (env 7) h) :=
  (s38a4p7 rec n).trans
  ((s38a4p8 rec n).trans
  ((by kernel_rfl)))

theorem s38a3p9 (rec : FuncId → List DV → Hp → Res) (n : Nat) : D38 rec n (cR (cR (cR (cf Try.f38)))) x0 (retK CF Try.f38) = D38 rec n (cL (cR (cR (cR (cf Try.f38))))) x0 (fun (env : Env) (h : Hp) => s38a4 rec n (env 0) (env 3) (env 4) (env 7) h) :=
  congrArg (fun k => D38 rec n (cL (cR (cR (cR (cf Try.f38))))) x0 k) (s38a4e rec n)

theorem s38a3e (rec : FuncId → List DV → Hp → Res) (n : Nat) : D38 rec n (cR (cR (cR (cf Try.f38)))) x0 (retK CF Try.f38) = (fun (env : Env) (h : Hp) => s38a3 rec n (env 0) (env 3) (env 4) (env 7) h) :=
  (s38a3p9 rec n).trans
  ((by kernel_rfl))

theorem s38a2p10 (rec : FuncId → List DV → Hp → Res) (n : Nat) : D38 rec n (cR (cR (cf Try.f38))) x0 (retK CF Try.f38) = D38 rec n (cL (cR (cR (cf Try.f38)))) x0 (fun (env : Env) (h : Hp) => s38a3 rec n (env 0) (env 3) (env 4) (env 7) h) :=
  congrArg (fun k => D38 rec n (cL (cR (cR (cf Try.f38)))) x0 k) (s38a3e rec n)

theorem s38a2e (rec : FuncId → List DV → Hp → Res) (n : Nat) : D38 rec n (cR (cR (cf Try.f38))) x0 (retK CF Try.f38) = (fun (env : Env) (h : Hp) => s38a2 rec n (env 0) (env 3) (env 4) (env 7) h) :=
  (s38a2p10 rec n).trans
  ((by kernel_rfl))

theorem s38a1p11 (rec : FuncId → List DV → Hp → Res) (n : Nat) : D38 rec n (cR (cf Try.f38)) x0 (retK CF Try.f38) = D38 rec n (cL (cR (cf Try.f38))) x0 (fun (env : Env) (h : Hp) => s38a2 rec n (env 0) (env 3) (env 4) (env 7) h) :=
  congrArg (fun k => D38 rec n (cL (cR (cf Try.f38))) x0 k) (s38a2e rec n)

theorem s38a1e (rec : FuncId → List DV → Hp → Res) (n : Nat) : D38 rec n (cR (cf Try.f38)) x0 (retK CF Try.f38) = (fun (env : Env) (h : Hp) => s38a1 rec n (env 0) (env 3) (env 4) h) :=
  (s38a1p11 rec n).trans
  ((by kernel_rfl))

theorem s38p12 (rec : FuncId → List DV → Hp → Res) (n : Nat) : D38 rec n (cf Try.f38) x0 (retK CF Try.f38) = D38 rec n (cL (cf Try.f38)) x0 (fun (env : Env) (h : Hp) => s38a1 rec n (env 0) (env 3) (env 4) h) :=
  congrArg (fun k => D38 rec n (cL (cf Try.f38)) x0 k) (s38a1e rec n)

theorem s38q13 (rec : FuncId → List DV → Hp → Res) (n : Nat) (q0 : DV → DV → DV → Hp → Res) : D38 rec n (cL (cf Try.f38)) x0 (fun (env : Env) (h : Hp) => q0 (env 0) (env 3) (env 4) h) = fun (env : Env) (h : Hp) =>
    bnd (pBox (env 1) h) fun v123 h123 =>
    bnd (pNew [(.i .i64 (Int.ofNat 0)), (.s []), (.i .i64 (Int.ofNat 0)), (.i .i64 (Int.ofNat 0))] h123) fun v124 h124 =>
    q0 (env 0) v123 v124 h124 := by kernel_rfl

theorem s38q13u (rec : FuncId → List DV → Hp → Res) (n : Nat) : (fun (env : Env) (h : Hp) =>
    bnd (pBox (env 1) h) fun v125 h125 =>
    bnd (pNew [(.i .i64 (Int.ofNat 0)), (.s []), (.i .i64 (Int.ofNat 0)), (.i .i64 (Int.ofNat 0))] h125) fun v126 h126 =>
    s38a1 rec n (env 0) v125 v126 h126) = (fun (env : Env) (h : Hp) => s38 rec n (env 0) (env 1) h) := by kernel_rfl

theorem s38m (rec : FuncId → List DV → Hp → Res) (n : Nat) : D38 rec n (cf Try.f38) x0 (retK CF Try.f38) = (fun (env : Env) (h : Hp) => s38 rec n (env 0) (env 1) h) :=
  (s38p12 rec n).trans
  ((s38q13 rec n (s38a1 rec n)).trans (s38q13u rec n))

theorem s38ok (rec : FuncId → List DV → Hp → Res) (n : Nat) (args : List DV) (h : Hp) : bodyD CF rec n 38 args h = s38 rec n (args.getD 0 undefD) (args.getD 1 undefD) h :=
  (by kernel_rfl : bodyD CF rec n 38 args h = D38 rec n (cf Try.f38) x0 (retK CF Try.f38) (argsE args) h).trans ((congrFun (congrFun (s38m rec n) (argsE args)) h).trans (by kernel_rfl))

noncomputable def s39a6b (rec : FuncId → List DV → Hp → Res) (n : Nat) (kk6 : DV → DV → DV → Hp → Res) (x0 x1 x4 : DV) (h0 : Hp) : Res :=
    bnd (gD x4 false (some (x0, h0)) h0) fun v23 h23 =>
    bnd (gD x4 false (rec 51 [v23, (.i .i64 (Int.ofNat 2)), (.s [])] h23) h23) fun v24 h24 =>
    bnd (pPick x4 (.b true) v24 h24) fun v25 h25 =>
    ifD v25 (
      bnd (pNil x1 h25) fun v26 h26 =>
      bnd (pField 1 v26 h26) fun v27 h27 =>
      bnd (pLoad1 v27 h27) fun v28 h28 =>
      bnd (rec 32 [x0, (.i .i64 (Int.ofNat 2)), (.s [])] h28) fun v29 h29 =>
      cnd (sameR (pLoad1 v27 h29) v28 && true) (
      bnd (pPart1 1 v29 h29) fun v30 h30 =>
      bnd (pStr .add v28 v30 h30) fun v31 h31 =>
      bnd (pNil x1 h31) fun v32 h32 =>
      bnd (pField 1 v32 h32) fun v33 h33 =>
      bnd (pStore 1 v33 v31 h33) fun v34 h34 =>
      bnd (pNil x1 (resv 1 h34)) fun v35 h35 =>
      bnd (pField 3 v35 h35) fun v36 h36 =>
      bnd (pLoad1 v36 h36) fun v37 h37 =>
      bnd (pNil x1 h37) fun v38 h38 =>
      bnd (pField 3 v38 h38) fun v39 h39 =>
      bnd (pLoad1 v39 h39) fun v40 h40 =>
      bnd (rec 56 [x0, (.i .i64 (Int.ofNat 1)), v40] h40) fun v41 h41 =>
      cnd (sameR (pLoad1 v36 h41) v37 && true) (
      bnd (pBuildSliceAt (nthPos 0 h34.next) [(.s [])] 1 [(0, 1, v41)] h41) fun v42 h42 =>
      bnd (pAppend 1 16 v37 v42 h42) fun v43 h43 =>
      bnd (pNil x1 h43) fun v44 h44 =>
      bnd (pField 3 v44 h44) fun v45 h45 =>
      bnd (pStore 1 v45 v43 h45) fun v46 h46 =>
      kk6 x0 x1 (.b false) h46))) (
      some (.t [], h25))

noncomputable def s39a6l (rec : FuncId → List DV → Hp → Res) (n : Nat) (m : Nat) : DV → DV → DV → Hp → Res :=
  Nat.rec (motive := fun _ => DV → DV → DV → Hp → Res) (fun _ _ _ _ => none) (fun _ ih => s39a6b rec n ih) m

noncomputable def s39a6 (rec : FuncId → List DV → Hp → Res) (n : Nat) : DV → DV → DV → Hp → Res := s39a6l rec n n

noncomputable def s39a5 (rec : FuncId → List DV → Hp → Res) (n : Nat) (x0 x1 x4 : DV) (h0 : Hp) : Res :=
  s39a6 rec n x0 x1 x4 h0

noncomputable def s39a4 (rec : FuncId → List DV → Hp → Res) (n : Nat) (x0 x1 : DV) (h0 : Hp) : Res :=
  s39a5 rec n x0 x1 (.b true) h0

noncomputable def s39a3 (rec : FuncId → List DV → Hp → Res) (n : Nat) (x0 x1 x44 : DV) (h0 : Hp) : Res :=
  ifD x44 (
    bnd (rec 52 [x0] h0) fun v6 h6 =>
    bnd (pPart1 1 v6 h6) fun v7 h7 =>
    bnd (pNil x1 h7) fun v8 h8 =>
    bnd (pField 1 v8 h8) fun v9 h9 =>
    bnd (pStore 1 v9 v7 h9) fun _ h10 =>
    bnd (pNil x1 (resv 1 h10)) fun v11 h11 =>
    bnd (pField 3 v11 h11) fun v12 h12 =>
    bnd (pLoad1 v12 h12) fun v13 h13 =>
    bnd (pNil x1 h13) fun v14 h14 =>
    bnd (pField 3 v14 h14) fun v15 h15 =>
    bnd (pLoad1 v15 h15) fun v16 h16 =>
    bnd (rec 56 [x0, (.i .i64 (Int.ofNat 1)), v16] h16) fun v17 h17 =>
    cnd (sameR (pLoad1 v12 h17) v13 && true) (
    bnd (pBuildSliceAt (nthPos 0 h10.next) [(.s [])] 1 [(0, 1, v17)] h17) fun v18 h18 =>
    bnd (pAppend 1 16 v13 v18 h18) fun v19 h19 =>
    bnd (pNil x1 h19) fun v20 h20 =>
    bnd (pField 3 v20 h20) fun v21 h21 =>
    bnd (pStore 1 v21 v19 h21) fun v22 h22 =>
    some (.t [], h22))) (
    s39a4 rec n x0 x1 h0)

noncomputable def s39a2 (rec : FuncId → List DV → Hp → Res) (n : Nat) (x0 x1 : DV) (h0 : Hp) : Res :=
  bnd (rec 51 [x0, (.i .i64 (Int.ofNat 3)), (.s [])] h0) fun v71 h71 =>
  s39a3 rec n x0 x1 v71 h71

noncomputable def s39a1 (rec : FuncId → List DV → Hp → Res) (n : Nat) (x0 x1 x35 : DV) (h0 : Hp) : Res :=
  ifD x35 (
    bnd (rec 52 [x0] h0) fun v1 h1 =>
    bnd (pPart1 1 v1 h1) fun v2 h2 =>
    bnd (pNil x1 h2) fun v3 h3 =>
    bnd (pField 1 v3 h3) fun v4 h4 =>
    bnd (pStore 1 v4 v2 h4) fun _ h5 =>
    some (.t [], h5)) (
    s39a2 rec n x0 x1 h0)

/-- parse.parser).pattern -/
noncomputable def s39 (rec : FuncId → List DV → Hp → Res) (n : Nat) (x0 x1 : DV) (h0 : Hp) : Res :=
  bnd (rec 51 [x0, (.i .i64 (Int.ofNat 1)), (.s [])] h0) fun v73 h73 =>
  s39a1 rec n x0 x1 v73 h73

noncomputable def D39 (rec : FuncId → List DV → Hp → Res) (n : Nat) (c : Code) (X : Nat → K) (k : K) : K := codeD CF rec 68 n c X (retK CF Try.f39) k

theorem s39a6be (rec : FuncId → List DV → Hp → Res) (n : Nat) (kk6 : DV → DV → DV → Hp → Res) : D39 rec n (cL (cL (cR (cR (cR (cR (cR (cL (cf Try.f39))))))))) (xs (xs x0 0 (retK CF Try.f39)) 1 (retK CF Try.f39)) (fun (env : Env) (h : Hp) => kk6 (env 0) (env 1) (env 4) h) = (fun (env : Env) (h : Hp) => s39a6b rec n kk6 (env 0) (env 1) (env 4) h) :=
  (by kernel_rfl)

theorem s39a6le (rec : FuncId → List DV → Hp → Res) (n : Nat) (m : Nat) : loopN (fun kk => D39 rec n (cL (cL (cR (cR (cR (cR (cR (cL (cf Try.f39))))))))) (xs (xs x0 0 (retK CF Try.f39)) 1 (retK CF Try.f39)) kk) m = (fun (env : Env) (h : Hp) => s39a6l rec n m (env 0) (env 1) (env 4) h) := by
  induction m with
  | zero => exact (by kernel_rfl : loopN (fun kk => D39 rec n (cL (cL (cR (cR (cR (cR (cR (cL (cf Try.f39))))))))) (xs (xs x0 0 (retK CF Try.f39)) 1 (retK CF Try.f39)) kk) 0 = (fun (env : Env) (h : Hp) => s39a6l rec n 0 (env 0) (env 1) (env 4) h))
  | succ m ih =>
    refine (by kernel_rfl : loopN (fun kk => D39 rec n (cL (cL (cR (cR (cR (cR (cR (cL (cf Try.f39))))))))) (xs (xs x0 0 (retK CF Try.f39)) 1 (retK CF Try.f39)) kk) (m + 1) = D39 rec n (cL (cL (cR (cR (cR (cR (cR (cL (cf Try.f39))))))))) (xs (xs x0 0 (retK CF Try.f39)) 1 (retK CF Try.f39)) (loopN (fun kk => D39 rec n (cL (cL (cR (cR (cR (cR (cR (cL (cf Try.f39))))))))) (xs (xs x0 0 (retK CF Try.f39)) 1 (retK CF Try.f39)) kk) m)).trans ?_
    rw [ih]
    exact (s39a6be rec n (s39a6l rec n m)).trans (by kernel_rfl)

theorem s39a6e (rec : FuncId → List DV → Hp → Res) (n : Nat) : D39 rec n (cL (cR (cR (cR (cR (cR (cL (cf Try.f39)))))))) (xs (xs x0 0 (retK CF Try.f39)) 1 (retK CF Try.f39)) (retK CF Try.f39) = (fun (env : Env) (h : Hp) => s39a6 rec n (env 0) (env 1) (env 4) h) :=
  (by kernel_rfl : D39 rec n (cL (cR (cR (cR (cR (cR (cL (cf Try.f39)))))))) (xs (xs x0 0 (retK CF Try.f39)) 1 (retK CF Try.f39)) (retK CF Try.f39) = loopN (fun kk => D39 rec n (cL (cL (cR (cR (cR (cR (cR (cL (cf Try.f39))))))))) (xs (xs x0 0 (retK CF Try.f39)) 1 (retK CF Try.f39)) kk) n).trans ((s39a6le rec n n).trans (by kernel_rfl))

theorem s39a5e (rec : FuncId → List DV → Hp → Res) (n : Nat) : D39 rec n (cR (cR (cR (cR (cR (cL (cf Try.f39))))))) (xs x0 0 (retK CF Try.f39)) (retK CF Try.f39) = (fun (env : Env) (h : Hp) => s39a5 rec n (env 0) (env 1) (env 4) h) :=
  (by kernel_rfl : D39 rec n (cR (cR (cR (cR (cR (cL (cf Try.f39))))))) (xs x0 0 (retK CF Try.f39)) (retK CF Try.f39) = D39 rec n (cL (cR (cR (cR (cR (cR (cL (cf Try.f39)))))))) (xs (xs x0 0 (retK CF Try.f39)) 1 (retK CF Try.f39)) (retK CF Try.f39)).trans
  ((s39a6e rec n).trans (by kernel_rfl))

theorem s39a4p1 (rec : FuncId → List DV → Hp → Res) (n : Nat) : D39 rec n (cR (cR (cR (cR (cL (cf Try.f39)))))) (xs x0 0 (retK CF Try.f39)) (retK CF Try.f39) = D39 rec n (cL (cR (cR (cR (cR (cL (cf Try.f39))))))) (xs x0 0 (retK CF Try.f39)) (fun (env : Env) (h : Hp) => s39a5 rec n (env 0) (env 1) (env 4) h) :=
  congrArg (fun k => D39 rec n (cL (cR (cR (cR (cR (cL (cf Try.f39))))))) (xs x0 0 (retK CF Try.f39)) k) (s39a5e rec n)

theorem s39a4e (rec : FuncId → List DV → Hp → Res) (n : Nat) : D39 rec n (cR (cR (cR (cR (cL (cf Try.f39)))))) (xs x0 0 (retK CF Try.f39)) (retK CF Try.f39) = (fun (env : Env) (h : Hp) => s39a4 rec n (env 0) (env 1) h) :=
  (s39a4p1 rec n).trans
  ((by kernel_rfl))

theorem s39a3e (rec : FuncId → List DV → Hp → Res) (n : Nat) : D39 rec n (cR (cR (cR (cL (cf Try.f39))))) (xs x0 0 (retK CF Try.f39)) (retK CF Try.f39) = (fun (env : Env) (h : Hp) => s39a3 rec n (env 0) (env 1) (env 44) h) :=
  (by kernel_rfl : D39 rec n (cR (cR (cR (cL (cf Try.f39))))) (xs x0 0 (retK CF Try.f39)) (retK CF Try.f39) = (fun (env : Env) (h : Hp) => ifD (opr env (cC (cR (cR (cR (cL (cf Try.f39))))))) (D39 rec n (cL (cR (cR (cR (cL (cf Try.f39)))))) (xs x0 0 (retK CF Try.f39)) (retK CF Try.f39) env h) (D39 rec n (cR (cR (cR (cR (cL (cf Try.f39)))))) (xs x0 0 (retK CF Try.f39)) (retK CF Try.f39) env h))).trans (by rw [s39a4e rec n]; kernel_rfl)

theorem s39a2p2 (rec : FuncId → List DV → Hp → Res) (n : Nat) : D39 rec n (cR (cR (cL (cf Try.f39)))) (xs x0 0 (retK CF Try.f39)) (retK CF Try.f39) = D39 rec n (cL (cR (cR (cL (cf Try.f39))))) (xs x0 0 (retK CF Try.f39)) (fun (env : Env) (h : Hp) => s39a3 rec n (env 0) (env 1) (env 44) h) :=
  congrArg (fun k => D39 rec n (cL (cR (cR (cL (cf Try.f39))))) (xs x0 0 (retK CF Try.f39)) k) (s39a3e rec n)

theorem s39a2e (rec : FuncId → List DV → Hp → Res) (n : Nat) : D39 rec n (cR (cR (cL (cf Try.f39)))) (xs x0 0 (retK CF Try.f39)) (retK CF Try.f39) = (fun (env : Env) (h : Hp) => s39a2 rec n (env 0) (env 1) h) :=
  (s39a2p2 rec n).trans
  ((by kernel_rfl))

theorem s39a1e (rec : FuncId → List DV → Hp → Res) (n : Nat) : D39 rec n (cR (cL (cf Try.f39))) (xs x0 0 (retK CF Try.f39)) (retK CF Try.f39) = (fun (env : Env) (h : Hp) => s39a1 rec n (env 0) (env 1) (env 35) h) :=
  (by kernel_rfl : D39 rec n (cR (cL (cf Try.f39))) (xs x0 0 (retK CF Try.f39)) (retK CF Try.f39) = (fun (env : Env) (h : Hp) => ifD (opr env (cC (cR (cL (cf Try.f39))))) (D39 rec n (cL (cR (cL (cf Try.f39)))) (xs x0 0 (retK CF Try.f39)) (retK CF Try.f39) env h) (D39 rec n (cR (cR (cL (cf Try.f39)))) (xs x0 0 (retK CF Try.f39)) (retK CF Try.f39) env h))).trans (by rw [s39a2e rec n]; kernel_rfl)

theorem s39p3 (rec : FuncId → List DV → Hp → Res) (n : Nat) : D39 rec n (cL (cf Try.f39)) (xs x0 0 (retK CF Try.f39)) (retK CF Try.f39) = D39 rec n (cL (cL (cf Try.f39))) (xs x0 0 (retK CF Try.f39)) (fun (env : Env) (h : Hp) => s39a1 rec n (env 0) (env 1) (env 35) h) :=
  congrArg (fun k => D39 rec n (cL (cL (cf Try.f39))) (xs x0 0 (retK CF Try.f39)) k) (s39a1e rec n)

theorem s39m (rec : FuncId → List DV → Hp → Res) (n : Nat) : D39 rec n (cf Try.f39) x0 (retK CF Try.f39) = (fun (env : Env) (h : Hp) => s39 rec n (env 0) (env 1) h) :=
  (by kernel_rfl : D39 rec n (cf Try.f39) x0 (retK CF Try.f39) = D39 rec n (cL (cf Try.f39)) (xs x0 0 (retK CF Try.f39)) (retK CF Try.f39)).trans
  ((s39p3 rec n).trans
  ((by kernel_rfl)))

theorem s39ok (rec : FuncId → List DV → Hp → Res) (n : Nat) (args : List DV) (h : Hp) : bodyD CF rec n 39 args h = s39 rec n (args.getD 0 undefD) (args.getD 1 undefD) h :=
  (by kernel_rfl : bodyD CF rec n 39 args h = D39 rec n (cf Try.f39) x0 (retK CF Try.f39) (argsE args) h).trans ((congrFun (congrFun (s39m rec n) (argsE args)) h).trans (by kernel_rfl))

noncomputable def s40a6 (rec : FuncId → List DV → Hp → Res) (n : Nat) (x0 x3 : DV) (h0 : Hp) : Res :=
  bnd (rec 32 [x0, (.i .i64 (Int.ofNat 3)), (.s [62])] h0) fun v1 h1 =>
  bnd (pField 2 x3 h1) fun v2 h2 =>
  bnd (pLoad1 v2 h2) fun v3 h3 =>
  some (v3, h3)

noncomputable def s40a5 (rec : FuncId → List DV → Hp → Res) (n : Nat) (x0 x3 : DV) (h0 : Hp) : Res :=
  bnd (pField 2 x3 h0) fun v7 h7 =>
  bnd (pLoad1 v7 h7) fun v8 h8 =>
  bnd (pInt .gtr v8 (.i .i64 (Int.ofNat 255)) h8) fun v9 h9 =>
  ifD v9 (
    bnd (pLoadA 4 x3 h9) fun v10 h10 =>
    bnd (rec 54 [x0, v10, (.i .i64 (Int.ofNat 2))] h10) fun v11 h11 =>
    s40a6 rec n x0 x3 h11) (
    s40a6 rec n x0 x3 h9)

noncomputable def s40a4 (rec : FuncId → List DV → Hp → Res) (n : Nat) (x0 : DV) (h0 : Hp) : Res :=
  bnd (rec 32 [x0, (.i .i64 (Int.ofNat 4)), (.s [])] h0) fun v17 h17 =>
  bnd (pNew [(.i .i64 (Int.ofNat 0)), (.s []), (.i .i64 (Int.ofNat 0)), (.i .i64 (Int.ofNat 0))] h17) fun v18 h18 =>
  bnd (pStore 4 v18 v17 h18) fun _ h19 =>
  s40a5 rec n x0 v18 h19

noncomputable def s40a3 (rec : FuncId → List DV → Hp → Res) (n : Nat) (x0 : DV) (h0 : Hp) : Res :=
  bnd (rec 32 [x0, (.i .i64 (Int.ofNat 2)), (.s [112, 114, 105, 109, 105, 116, 105, 118, 101, 58])] h0) fun v29 h29 =>
  s40a4 rec n x0 h29

noncomputable def s40a2 (rec : FuncId → List DV → Hp → Res) (n : Nat) (x0 : DV) (h0 : Hp) : Res :=
  bnd (rec 52 [x0] h0) fun v31 h31 =>
  s40a3 rec n x0 h31

noncomputable def s40a1 (rec : FuncId → List DV → Hp → Res) (n : Nat) (x0 : DV) (h0 : Hp) : Res :=
  bnd (rec 51 [x0, (.i .i64 (Int.ofNat 3)), (.s [60])] h0) fun v33 h33 =>
  bnd (pUn .not v33 h33) fun v34 h34 =>
  ifD v34 (
    some ((.i .i64 (Int.ofNat 0)), h34)) (
    s40a2 rec n x0 h34)

/-- parse.parser).primitive -/
noncomputable def s40 (rec : FuncId → List DV → Hp → Res) (n : Nat) (x0 : DV) (h0 : Hp) : Res :=
  s40a1 rec n x0 h0

noncomputable def D40 (rec : FuncId → List DV → Hp → Res) (n : Nat) (c : Code) (X : Nat → K) (k : K) : K := codeD CF rec 23 n c X (retK CF Try.f40) k

theorem s40a6e (rec : FuncId → List DV → Hp → Res) (n : Nat) : D40 rec n (cR (cR (cR (cR (cR (cR (cf Try.f40))))))) x0 (retK CF Try.f40) = (fun (env : Env) (h : Hp) => s40a6 rec n (env 0) (env 3) h) :=
  (by kernel_rfl)

theorem s40a5p1 (rec : FuncId → List DV → Hp → Res) (n : Nat) : D40 rec n (cR (cR (cR (cR (cR (cf Try.f40)))))) x0 (retK CF Try.f40) = D40 rec n (cL (cR (cR (cR (cR (cR (cf Try.f40))))))) x0 (fun (env : Env) (h : Hp) => s40a6 rec n (env 0) (env 3) h) :=
  congrArg (fun k => D40 rec n (cL (cR (cR (cR (cR (cR (cf Try.f40))))))) x0 k) (s40a6e rec n)

theorem s40a5e (rec : FuncId → List DV → Hp → Res) (n : Nat) : D40 rec n (cR (cR (cR (cR (cR (cf Try.f40)))))) x0 (retK CF Try.f40) = (fun (env : Env) (h : Hp) => s40a5 rec n (env 0) (env 3) h) :=
  (s40a5p1 rec n).trans
  ((by kernel_rfl))

theorem s40a4p2 (rec : FuncId → List DV → Hp → Res) (n : Nat) : D40 rec n (cR (cR (cR (cR (cf Try.f40))))) x0 (retK CF Try.f40) = D40 rec n (cL (cR (cR (cR (cR (cf Try.f40)))))) x0 (fun (env : Env) (h : Hp) => s40a5 rec n (env 0) (env 3) h) :=
  congrArg (fun k => D40 rec n (cL (cR (cR (cR (cR (cf Try.f40)))))) x0 k) (s40a5e rec n)

theorem s40a4q3 (rec : FuncId → List DV → Hp → Res) (n : Nat) (q0 : DV → DV → Hp → Res) : D40 rec n (cL (cR (cR (cR (cR (cf Try.f40)))))) x0 (fun (env : Env) (h : Hp) => q0 (env 0) (env 3) h) = fun (env : Env) (h : Hp) =>
    bnd (rec 32 [(env 0), (.i .i64 (Int.ofNat 4)), (.s [])] h) fun v23 h23 =>
    bnd (pNew [(.i .i64 (Int.ofNat 0)), (.s []), (.i .i64 (Int.ofNat 0)), (.i .i64 (Int.ofNat 0))] h23) fun v24 h24 =>
    bnd (pStore 4 v24 v23 h24) fun _ h25 =>
    q0 (env 0) v24 h25 := by kernel_rfl

theorem s40a4q3u (rec : FuncId → List DV → Hp → Res) (n : Nat) : (fun (env : Env) (h : Hp) =>
    bnd (rec 32 [(env 0), (.i .i64 (Int.ofNat 4)), (.s [])] h) fun v26 h26 =>
    bnd (pNew [(.i .i64 (Int.ofNat 0)), (.s []), (.i .i64 (Int.ofNat 0)), (.i .i64 (Int.ofNat 0))] h26) fun v27 h27 =>
    bnd (pStore 4 v27 v26 h27) fun _ h28 =>
    s40a5 rec n (env 0) v27 h28) = (fun (env : Env) (h : Hp) => s40a4 rec n (env 0) h) := by kernel_rfl

theorem s40a4e (rec : FuncId → List DV → Hp → Res) (n : Nat) : D40 rec n (cR (cR (cR (cR (cf Try.f40))))) x0 (retK CF Try.f40) = (fun (env : Env) (h : Hp) => s40a4 rec n (env 0) h) :=
  (s40a4p2 rec n).trans
  ((s40a4q3 rec n (s40a5 rec n)).trans (s40a4q3u rec n))

theorem s40a3p4 (rec : FuncId → List DV → Hp → Res) (n : Nat) : D40 rec n (cR (cR (cR (cf Try.f40)))) x0 (retK CF Try.f40) = D40 rec n (cL (cR (cR (cR (cf Try.f40))))) x0 (fun (env : Env) (h : Hp) => s40a4 rec n (env 0) h) :=
  congrArg (fun k => D40 rec n (cL (cR (cR (cR (cf Try.f40))))) x0 k) (s40a4e rec n)

theorem s40a3e (rec : FuncId → List DV → Hp → Res) (n : Nat) : D40 rec n (cR (cR (cR (cf Try.f40)))) x0 (retK CF Try.f40) = (fun (env : Env) (h : Hp) => s40a3 rec n (env 0) h) :=
  (s40a3p4 rec n).trans
  ((by kernel_rfl))

theorem s40a2p5 (rec : FuncId → List DV → Hp → Res) (n : Nat) : D40 rec n (cR (cR (cf Try.f40))) x0 (retK CF Try.f40) = D40 rec n (cL (cR (cR (cf Try.f40)))) x0 (fun (env : Env) (h : Hp) => s40a3 rec n (env 0) h) :=
  congrArg (fun k => D40 rec n (cL (cR (cR (cf Try.f40)))) x0 k) (s40a3e rec n)

theorem s40a2e (rec : FuncId → List DV → Hp → Res) (n : Nat) : D40 rec n (cR (cR (cf Try.f40))) x0 (retK CF Try.f40) = (fun (env : Env) (h : Hp) => s40a2 rec n (env 0) h) :=
  (s40a2p5 rec n).trans
  ((by kernel_rfl))

theorem s40a1p6 (rec : FuncId → List DV → Hp → Res) (n : Nat) : D40 rec n (cR (cf Try.f40)) x0 (retK CF Try.f40) = D40 rec n (cL (cR (cf Try.f40))) x0 (fun (env : Env) (h : Hp) => s40a2 rec n (env 0) h) :=
  congrArg (fun k => D40 rec n (cL (cR (cf Try.f40))) x0 k) (s40a2e rec n)

theorem s40a1e (rec : FuncId → List DV → Hp → Res) (n : Nat) : D40 rec n (cR (cf Try.f40)) x0 (retK CF Try.f40) = (fun (env : Env) (h : Hp) => s40a1 rec n (env 0) h) :=
  (s40a1p6 rec n).trans
  ((by kernel_rfl))

theorem s40p7 (rec : FuncId → List DV → Hp → Res) (n : Nat) : D40 rec n (cf Try.f40) x0 (retK CF Try.f40) = D40 rec n (cL (cf Try.f40)) x0 (fun (env : Env) (h : Hp) => s40a1 rec n (env 0) h) :=
  congrArg (fun k => D40 rec n (cL (cf Try.f40)) x0 k) (s40a1e rec n)

theorem s40m (rec : FuncId → List DV → Hp → Res) (n : Nat) : D40 rec n (cf Try.f40) x0 (retK CF Try.f40) = (fun (env : Env) (h : Hp) => s40 rec n (env 0) h) :=
  (s40p7 rec n).trans
  ((by kernel_rfl))

theorem s40ok (rec : FuncId → List DV → Hp → Res) (n : Nat) (args : List DV) (h : Hp) : bodyD CF rec n 40 args h = s40 rec n (args.getD 0 undefD) h :=
  (by kernel_rfl : bodyD CF rec n 40 args h = D40 rec n (cf Try.f40) x0 (retK CF Try.f40) (argsE args) h).trans ((congrFun (congrFun (s40m rec n) (argsE args)) h).trans (by kernel_rfl))

/-- vivariumref07.P).is -/
noncomputable def s41 (rec : FuncId → List DV → Hp → Res) (n : Nat) (x0 x1 x2 : DV) (h0 : Hp) : Res :=
  bnd (rec 46 [x0, (.i .i64 (Int.ofNat 0))] h0) fun v1 h1 =>
  bnd (pNew [(.i .i64 (Int.ofNat 0)), (.s []), (.i .i64 (Int.ofNat 0)), (.i .i64 (Int.ofNat 0))] h1) fun v2 h2 =>
  bnd (pStore 4 v2 v1 h2) fun _ h3 =>
  bnd (pNil x0 h3) fun v4 h4 =>
  bnd (pField 3 v4 h4) fun v5 h5 =>
  bnd (pLoad1 v5 h5) fun v6 h6 =>
  bnd (pInt .eql v6 (.i .i64 (Int.ofNat 0)) h6) fun v7 h7 =>
  bnd (gD v7 true (pField 0 v2 h7) h7) fun v8 h8 =>
  bnd (gD v7 true (pLoad1 v8 h8) h8) fun v9 h9 =>
  bnd (gD v7 true (some (x1, h9)) h9) fun v10 h10 =>
  bnd (gD v7 true (pInt .eql v9 v10 h10) h10) fun v11 h11 =>
  bnd (pPick v7 v11 (.b false) h11) fun v12 h12 =>
  bnd (gD v12 true (some (x2, h12)) h12) fun v13 h13 =>
  bnd (gD v12 true (pStr .eql v13 (.s []) h13) h13) fun v14 h14 =>
  bnd (gD v12 true (some (v14, h14)) h14) fun v15 h15 =>
  bnd (gD v15 false (pField 1 v2 h15) h15) fun v16 h16 =>
  bnd (gD v15 false (pLoad1 v16 h16) h16) fun v17 h17 =>
  bnd (gD v15 false (some (x2, h17)) h17) fun v18 h18 =>
  bnd (gD v15 false (pStr .eql v17 v18 h18) h18) fun v19 h19 =>
  bnd (gD v12 true (pPick v15 (.b true) v19 h19) h19) fun v20 h20 =>
  bnd (pPick v12 v20 (.b false) h20) fun v21 h21 =>
  some (v21, h21)

noncomputable def D41 (rec : FuncId → List DV → Hp → Res) (n : Nat) (c : Code) (X : Nat → K) (k : K) : K := codeD CF rec 31 n c X (retK CF Try.f41) k

theorem s41m (rec : FuncId → List DV → Hp → Res) (n : Nat) : D41 rec n (cf Try.f41) x0 (retK CF Try.f41) = (fun (env : Env) (h : Hp) => s41 rec n (env 0) (env 1) (env 2) h) :=
  (by kernel_rfl)

theorem s41ok (rec : FuncId → List DV → Hp → Res) (n : Nat) (args : List DV) (h : Hp) : bodyD CF rec n 41 args h = s41 rec n (args.getD 0 undefD) (args.getD 1 undefD) (args.getD 2 undefD) h :=
  (by kernel_rfl : bodyD CF rec n 41 args h = D41 rec n (cf Try.f41) x0 (retK CF Try.f41) (argsE args) h).trans ((congrFun (congrFun (s41m rec n) (argsE args)) h).trans (by kernel_rfl))

/-- vivariumref07.P).take -/
noncomputable def s42 (rec : FuncId → List DV → Hp → Res) (n : Nat) (x0 : DV) (h0 : Hp) : Res :=
  bnd (pNew [(.i .i64 (Int.ofNat 0)), (.s []), (.i .i64 (Int.ofNat 0)), (.i .i64 (Int.ofNat 0))] h0) fun v1 h1 =>
  bnd (rec 46 [x0, (.i .i64 (Int.ofNat 0))] h1) fun v2 h2 =>
  bnd (pNew [(.i .i64 (Int.ofNat 0)), (.s []), (.i .i64 (Int.ofNat 0)), (.i .i64 (Int.ofNat 0))] h2) fun v3 h3 =>
  bnd (pStore 4 v3 v2 h3) fun _ h4 =>
  bnd (pNil x0 h4) fun v5 h5 =>
  bnd (pField 1 v5 h5) fun v6 h6 =>
  bnd (pLoad1 v6 h6) fun v7 h7 =>
  bnd (pInt .add v7 (.i .i64 (Int.ofNat 1)) h7) fun v8 h8 =>
  bnd (pNil x0 h8) fun v9 h9 =>
  bnd (pField 1 v9 h9) fun v10 h10 =>
  bnd (pStore 1 v10 v8 h10) fun _ h11 =>
  bnd (pLoadA 4 v3 h11) fun v12 h12 =>
  bnd (pStore 4 v1 v12 h12) fun _ h13 =>
  bnd (pLoadA 4 v1 h13) fun v14 _ =>
  some (v14, h13)

noncomputable def D42 (rec : FuncId → List DV → Hp → Res) (n : Nat) (c : Code) (X : Nat → K) (k : K) : K := codeD CF rec 14 n c X (retK CF Try.f42) k

theorem s42m (rec : FuncId → List DV → Hp → Res) (n : Nat) : D42 rec n (cf Try.f42) x0 (retK CF Try.f42) = (fun (env : Env) (h : Hp) => s42 rec n (env 0) h) :=
  (by kernel_rfl)

theorem s42ok (rec : FuncId → List DV → Hp → Res) (n : Nat) (args : List DV) (h : Hp) : bodyD CF rec n 42 args h = s42 rec n (args.getD 0 undefD) h :=
  (by kernel_rfl : bodyD CF rec n 42 args h = D42 rec n (cf Try.f42) x0 (retK CF Try.f42) (argsE args) h).trans ((congrFun (congrFun (s42m rec n) (argsE args)) h).trans (by kernel_rfl))

noncomputable def s43a3 (rec : FuncId → List DV → Hp → Res) (n : Nat) (x2 x7 : DV) (h0 : Hp) : Res :=
  bnd (pAppend 1 16 .l0 x2 h0) fun v1 h1 =>
  bnd (pField 1 x7 h1) fun v2 h2 =>
  bnd (pLoad1 v2 h2) fun v3 h3 =>
  bnd (pBuildSlice [(.s [])] 1 [(0, 1, v3)] h3) fun v4 h4 =>
  bnd (pAppend 1 16 v1 v4 h4) fun v5 h5 =>
  some (v5, h5)

noncomputable def s43a2 (rec : FuncId → List DV → Hp → Res) (n : Nat) (x0 x2 x7 : DV) (h0 : Hp) : Res :=
  bnd (pNil x0 h0) fun v11 h11 =>
  bnd (pField 3 v11 h11) fun v12 h12 =>
  bnd (pLoad1 v12 h12) fun v13 h13 =>
  bnd (pInt .eql v13 (.i .i64 (Int.ofNat 0)) h13) fun v14 h14 =>
  bnd (gD v14 true (some (x2, h14)) h14) fun v15 h15 =>
  bnd (gD v14 true (pLen v15 h15) h15) fun v16 h16 =>
  bnd (gD v14 true (pInt .eql v16 (.i .i64 (Int.ofNat 4)) h16) h16) fun v17 h17 =>
  bnd (pPick v14 v17 (.b false) h17) fun v18 h18 =>
  ifD v18 (
    bnd (pLoadA 4 x7 h18) fun v19 h19 =>
    bnd (rec 44 [x0, v19, (.i .i64 (Int.ofNat 18))] h19) fun v20 h20 =>
    s43a3 rec n x2 x7 h20) (
    s43a3 rec n x2 x7 h18)

noncomputable def s43a1 (rec : FuncId → List DV → Hp → Res) (n : Nat) (x0 x1 x2 : DV) (h0 : Hp) : Res :=
  bnd (rec 28 [x0, x1, (.s [])] h0) fun v31 h31 =>
  bnd (pNew [(.i .i64 (Int.ofNat 0)), (.s []), (.i .i64 (Int.ofNat 0)), (.i .i64 (Int.ofNat 0))] h31) fun v32 h32 =>
  bnd (pStore 4 v32 v31 h32) fun _ h33 =>
  s43a2 rec n x0 x2 v32 h33

/-- vivariumref07.P).names -/
noncomputable def s43 (rec : FuncId → List DV → Hp → Res) (n : Nat) (x0 x1 x2 : DV) (h0 : Hp) : Res :=
  s43a1 rec n x0 x1 x2 h0

noncomputable def D43 (rec : FuncId → List DV → Hp → Res) (n : Nat) (c : Code) (X : Nat → K) (k : K) : K := codeD CF rec 33 n c X (retK CF Try.f43) k

theorem s43a3e (rec : FuncId → List DV → Hp → Res) (n : Nat) : D43 rec n (cR (cR (cR (cf Try.f43)))) x0 (retK CF Try.f43) = (fun (env : Env) (h : Hp) => s43a3 rec n (env 2) (env 7) h) :=
  (by kernel_rfl)

theorem s43a2p1 (rec : FuncId → List DV → Hp → Res) (n : Nat) : D43 rec n (cR (cR (cf Try.f43))) x0 (retK CF Try.f43) = D43 rec n (cL (cR (cR (cf Try.f43)))) x0 (fun (env : Env) (h : Hp) => s43a3 rec n (env 2) (env 7) h) :=
  congrArg (fun k => D43 rec n (cL (cR (cR (cf Try.f43)))) x0 k) (s43a3e rec n)

theorem s43a2e (rec : FuncId → List DV → Hp → Res) (n : Nat) : D43 rec n (cR (cR (cf Try.f43))) x0 (retK CF Try.f43) = (fun (env : Env) (h : Hp) => s43a2 rec n (env 0) (env 2) (env 7) h) :=
  (s43a2p1 rec n).trans
  ((by kernel_rfl))

theorem s43a1p2 (rec : FuncId → List DV → Hp → Res) (n : Nat) : D43 rec n (cR (cf Try.f43)) x0 (retK CF Try.f43) = D43 rec n (cL (cR (cf Try.f43))) x0 (fun (env : Env) (h : Hp) => s43a2 rec n (env 0) (env 2) (env 7) h) :=
  congrArg (fun k => D43 rec n (cL (cR (cf Try.f43))) x0 k) (s43a2e rec n)

theorem s43a1q3 (rec : FuncId → List DV → Hp → Res) (n : Nat) (q0 : DV → DV → DV → Hp → Res) : D43 rec n (cL (cR (cf Try.f43))) x0 (fun (env : Env) (h : Hp) => q0 (env 0) (env 2) (env 7) h) = fun (env : Env) (h : Hp) =>
    bnd (rec 28 [(env 0), (env 1), (.s [])] h) fun v37 h37 =>
    bnd (pNew [(.i .i64 (Int.ofNat 0)), (.s []), (.i .i64 (Int.ofNat 0)), (.i .i64 (Int.ofNat 0))] h37) fun v38 h38 =>
    bnd (pStore 4 v38 v37 h38) fun _ h39 =>
    q0 (env 0) (env 2) v38 h39 := by kernel_rfl

theorem s43a1q3u (rec : FuncId → List DV → Hp → Res) (n : Nat) : (fun (env : Env) (h : Hp) =>
    bnd (rec 28 [(env 0), (env 1), (.s [])] h) fun v40 h40 =>
    bnd (pNew [(.i .i64 (Int.ofNat 0)), (.s []), (.i .i64 (Int.ofNat 0)), (.i .i64 (Int.ofNat 0))] h40) fun v41 h41 =>
    bnd (pStore 4 v41 v40 h41) fun _ h42 =>
    s43a2 rec n (env 0) (env 2) v41 h42) = (fun (env : Env) (h : Hp) => s43a1 rec n (env 0) (env 1) (env 2) h) := by kernel_rfl

theorem s43a1e (rec : FuncId → List DV → Hp → Res) (n : Nat) : D43 rec n (cR (cf Try.f43)) x0 (retK CF Try.f43) = (fun (env : Env) (h : Hp) => s43a1 rec n (env 0) (env 1) (env 2) h) :=
  (s43a1p2 rec n).trans
  ((s43a1q3 rec n (s43a2 rec n)).trans (s43a1q3u rec n))

theorem s43p4 (rec : FuncId → List DV → Hp → Res) (n : Nat) : D43 rec n (cf Try.f43) x0 (retK CF Try.f43) = D43 rec n (cL (cf Try.f43)) x0 (fun (env : Env) (h : Hp) => s43a1 rec n (env 0) (env 1) (env 2) h) :=
  congrArg (fun k => D43 rec n (cL (cf Try.f43)) x0 k) (s43a1e rec n)

theorem s43m (rec : FuncId → List DV → Hp → Res) (n : Nat) : D43 rec n (cf Try.f43) x0 (retK CF Try.f43) = (fun (env : Env) (h : Hp) => s43 rec n (env 0) (env 1) (env 2) h) :=
  (s43p4 rec n).trans
  ((by kernel_rfl))

theorem s43ok (rec : FuncId → List DV → Hp → Res) (n : Nat) (args : List DV) (h : Hp) : bodyD CF rec n 43 args h = s43 rec n (args.getD 0 undefD) (args.getD 1 undefD) (args.getD 2 undefD) h :=
  (by kernel_rfl : bodyD CF rec n 43 args h = D43 rec n (cf Try.f43) x0 (retK CF Try.f43) (argsE args) h).trans ((congrFun (congrFun (s43m rec n) (argsE args)) h).trans (by kernel_rfl))

/-- vivariumref07.P).fail -/
noncomputable def s44 (rec : FuncId → List DV → Hp → Res) (n : Nat) (x0 x1 x2 : DV) (h0 : Hp) : Res :=
  bnd (pBox x1 h0) fun v1 h1 =>
  bnd (pNil x0 h1) fun v2 h2 =>
  bnd (pField 3 v2 h2) fun v3 h3 =>
  bnd (pLoad1 v3 h3) fun v4 h4 =>
  bnd (pInt .eql v4 (.i .i64 (Int.ofNat 0)) h4) fun v5 h5 =>
  ifD v5 (
    bnd (pNil x0 h5) fun v6 h6 =>
    bnd (pField 3 v6 h6) fun v7 h7 =>
    bnd (pStore 1 v7 x2 h7) fun _ h8 =>
    bnd (pField 3 v1 h8) fun v9 h9 =>
    bnd (pLoad1 v9 h9) fun v10 h10 =>
    bnd (pNil x0 h10) fun v11 h11 =>
    bnd (pField 4 v11 h11) fun v12 h12 =>
    bnd (pStore 1 v12 v10 h12) fun _ h13 =>
    some (.t [], h13)) (
    some (.t [], h5))

noncomputable def D44 (rec : FuncId → List DV → Hp → Res) (n : Nat) (c : Code) (X : Nat → K) (k : K) : K := codeD CF rec 20 n c X (retK CF Try.f44) k

theorem s44m (rec : FuncId → List DV → Hp → Res) (n : Nat) : D44 rec n (cf Try.f44) x0 (retK CF Try.f44) = (fun (env : Env) (h : Hp) => s44 rec n (env 0) (env 1) (env 2) h) :=
  (by kernel_rfl)

theorem s44ok (rec : FuncId → List DV → Hp → Res) (n : Nat) (args : List DV) (h : Hp) : bodyD CF rec n 44 args h = s44 rec n (args.getD 0 undefD) (args.getD 1 undefD) (args.getD 2 undefD) h :=
  (by kernel_rfl : bodyD CF rec n 44 args h = D44 rec n (cf Try.f44) x0 (retK CF Try.f44) (argsE args) h).trans ((congrFun (congrFun (s44m rec n) (argsE args)) h).trans (by kernel_rfl))

noncomputable def s45a12 (rec : FuncId → List DV → Hp → Res) (n : Nat) (x2 x6 : DV) (h0 : Hp) : Res :=
  bnd (pLoadA 6 x6 h0) fun v1 h1 =>
  bnd (pStore 6 x2 v1 h1) fun _ h2 =>
  bnd (pLoadA 6 x2 h2) fun v3 _ =>
  some (v3, h2)

noncomputable def s45a13b (rec : FuncId → List DV → Hp → Res) (n : Nat) (kk13 : DV → DV → DV → Hp → Res) (x0 x2 x6 : DV) (h0 : Hp) : Res :=
    bnd (rec 41 [x0, (.i .i64 (Int.ofNat 10)), (.s [59])] h0) fun v7 h7 =>
    ifD v7 (
      bnd (rec 42 [x0] h7) fun v8 h8 =>
      bnd (pField 5 x6 (resv 1 h8)) fun v9 h9 =>
      bnd (pLoad1 v9 h9) fun v10 h10 =>
      bnd (rec 61 [x0] h10) fun v11 h11 =>
      cnd (sameR (pLoad1 v9 h11) v10 && true) (
      bnd (pBuildSliceAt (nthPos 0 h8.next) [(.i .i64 (Int.ofNat 0)), (.s []), (.i .i64 (Int.ofNat 0)), .l0, .l0, .l0] 1 [(0, 6, v11)] h11) fun v12 h12 =>
      bnd (pAppend 6 104 v10 v12 h12) fun v13 h13 =>
      bnd (pField 5 x6 h13) fun v14 h14 =>
      bnd (pStore 1 v14 v13 h14) fun v15 h15 =>
      kk13 x0 x2 x6 h15)) (
      s45a12 rec n x2 x6 h7)

noncomputable def s45a13l (rec : FuncId → List DV → Hp → Res) (n : Nat) (m : Nat) : DV → DV → DV → Hp → Res :=
  Nat.rec (motive := fun _ => DV → DV → DV → Hp → Res) (fun _ _ _ _ => none) (fun _ ih => s45a13b rec n ih) m

noncomputable def s45a13 (rec : FuncId → List DV → Hp → Res) (n : Nat) : DV → DV → DV → Hp → Res := s45a13l rec n n

noncomputable def s45a11 (rec : FuncId → List DV → Hp → Res) (n : Nat) (x0 x2 x6 : DV) (h0 : Hp) : Res :=
  s45a13 rec n x0 x2 x6 h0

noncomputable def s45a10 (rec : FuncId → List DV → Hp → Res) (n : Nat) (x0 x2 x5 x6 : DV) (h0 : Hp) : Res :=
  bnd (pField 5 x6 (resv 1 h0)) fun v43 h43 =>
  bnd (pLoad1 v43 h43) fun v44 h44 =>
  bnd (pField 1 x5 h44) fun v45 h45 =>
  bnd (pLoad1 v45 h45) fun v46 h46 =>
  bnd (pField 5 x5 h46) fun v47 h47 =>
  bnd (pLoad1 v47 h47) fun v48 h48 =>
  bnd (pSlice 6 v48 (some (.i .i64 (Int.ofNat 1))) none h48) fun v49 h49 =>
  cnd (sameR (pLoad1 v45 h49) v46 && (sameR (pLoad1 v43 h49) v44 && true)) (
  bnd (pBuild [(.i .i64 (Int.ofNat 0)), (.s []), (.i .i64 (Int.ofNat 0)), .l0, .l0, .l0] [(0, 1, (.i .i64 (Int.ofNat 7))), (1, 1, v46), (5, 1, v49)] h49) fun v50 h50 =>
  bnd (pBuildSliceAt (nthPos 0 h0.next) [(.i .i64 (Int.ofNat 0)), (.s []), (.i .i64 (Int.ofNat 0)), .l0, .l0, .l0] 1 [(0, 6, v50)] h50) fun v51 h51 =>
  bnd (pAppend 6 104 v44 v51 h51) fun v52 h52 =>
  bnd (pField 5 x6 h52) fun v53 h53 =>
  bnd (pStore 1 v53 v52 h53) fun v54 h54 =>
  s45a11 rec n x0 x2 x6 h54)

noncomputable def s45a9 (rec : FuncId → List DV → Hp → Res) (n : Nat) (x0 x2 x5 x6 : DV) (h0 : Hp) : Res :=
  bnd (pField 5 x6 (resv 1 h0)) fun v91 h91 =>
  bnd (pLoad1 v91 h91) fun v92 h92 =>
  bnd (pField 5 x5 h92) fun v93 h93 =>
  bnd (pLoad1 v93 h93) fun v94 h94 =>
  bnd (pIndexAddr 6 v94 (.i .i64 (Int.ofNat 0)) h94) fun v95 h95 =>
  bnd (pLoadA 6 v95 h95) fun v96 h96 =>
  bnd (pBuildSliceAt (nthPos 0 h0.next) [(.i .i64 (Int.ofNat 0)), (.s []), (.i .i64 (Int.ofNat 0)), .l0, .l0, .l0] 1 [(0, 6, v96)] h96) fun v97 h97 =>
  bnd (pAppend 6 104 v92 v97 h97) fun v98 h98 =>
  bnd (pField 5 x6 h98) fun v99 h99 =>
  bnd (pStore 1 v99 v98 h99) fun v100 h100 =>
  s45a10 rec n x0 x2 x5 x6 h100

noncomputable def s45a8 (rec : FuncId → List DV → Hp → Res) (n : Nat) (x0 x2 x5 : DV) (h0 : Hp) : Res :=
  bnd (pBuild [(.i .i64 (Int.ofNat 0)), (.s []), (.i .i64 (Int.ofNat 0)), .l0, .l0, .l0] [(0, 1, (.i .i64 (Int.ofNat 8)))] h0) fun v131 h131 =>
  bnd (pNew [(.i .i64 (Int.ofNat 0)), (.s []), (.i .i64 (Int.ofNat 0)), .l0, .l0, .l0] h131) fun v132 h132 =>
  bnd (pStore 6 v132 v131 h132) fun _ h133 =>
  s45a9 rec n x0 x2 x5 v132 h133

noncomputable def s45a7 (rec : FuncId → List DV → Hp → Res) (n : Nat) (x0 x2 x5 : DV) (h0 : Hp) : Res :=
  bnd (pField 0 x5 h0) fun v143 h143 =>
  bnd (pLoad1 v143 h143) fun v144 h144 =>
  bnd (pInt .neq v144 (.i .i64 (Int.ofNat 7)) h144) fun v145 h145 =>
  ifD v145 (
    bnd (rec 46 [x0, (.i .i64 (Int.ofNat 0))] h145) fun v146 h146 =>
    bnd (rec 44 [x0, v146, (.i .i64 (Int.ofNat 13))] h146) fun v147 h147 =>
    bnd (pLoadA 6 x5 h147) fun v148 h148 =>
    bnd (pStore 6 x2 v148 h148) fun _ h149 =>
    bnd (pLoadA 6 x2 h149) fun v150 _ =>
    some (v150, h149)) (
    s45a8 rec n x0 x2 x5 h145)

noncomputable def s45a6 (rec : FuncId → List DV → Hp → Res) (n : Nat) (x0 x2 x5 : DV) (h0 : Hp) : Res :=
  bnd (rec 41 [x0, (.i .i64 (Int.ofNat 10)), (.s [59])] h0) fun v159 h159 =>
  bnd (pUn .not v159 h159) fun v160 h160 =>
  ifD v160 (
    bnd (pLoadA 6 x5 h160) fun v161 h161 =>
    bnd (pStore 6 x2 v161 h161) fun _ h162 =>
    bnd (pLoadA 6 x2 h162) fun v163 _ =>
    some (v163, h162)) (
    s45a7 rec n x0 x2 x5 h160)

noncomputable def s45a5 (rec : FuncId → List DV → Hp → Res) (n : Nat) (x0 x2 x5 : DV) (h0 : Hp) : Res :=
  bnd (pLoadA 6 x5 h0) fun v169 h169 =>
  bnd (rec 60 [x0, v169] h169) fun v170 h170 =>
  bnd (pStore 6 x5 v170 h170) fun _ h171 =>
  s45a6 rec n x0 x2 x5 h171

noncomputable def s45a4 (rec : FuncId → List DV → Hp → Res) (n : Nat) (x0 x2 x5 : DV) (h0 : Hp) : Res :=
  bnd (pLoadA 6 x5 h0) fun v175 h175 =>
  bnd (rec 59 [x0, v175] h175) fun v176 h176 =>
  bnd (pStore 6 x5 v176 h176) fun _ h177 =>
  s45a5 rec n x0 x2 x5 h177

noncomputable def s45a3 (rec : FuncId → List DV → Hp → Res) (n : Nat) (x0 x2 x5 : DV) (h0 : Hp) : Res :=
  bnd (pLoadA 6 x5 h0) fun v181 h181 =>
  bnd (rec 58 [x0, v181] h181) fun v182 h182 =>
  bnd (pStore 6 x5 v182 h182) fun _ h183 =>
  s45a4 rec n x0 x2 x5 h183

noncomputable def s45a2 (rec : FuncId → List DV → Hp → Res) (n : Nat) (x0 x2 : DV) (h0 : Hp) : Res :=
  bnd (rec 57 [x0] h0) fun v187 h187 =>
  bnd (pNew [(.i .i64 (Int.ofNat 0)), (.s []), (.i .i64 (Int.ofNat 0)), .l0, .l0, .l0] h187) fun v188 h188 =>
  bnd (pStore 6 v188 v187 h188) fun _ h189 =>
  s45a3 rec n x0 x2 v188 h189

noncomputable def s45a1 (rec : FuncId → List DV → Hp → Res) (n : Nat) (x0 x2 : DV) (h0 : Hp) : Res :=
  bnd (rec 41 [x0, (.i .i64 (Int.ofNat 1)), (.s [])] h0) fun v199 h199 =>
  bnd (gD v199 true (some (x0, h199)) h199) fun v200 h200 =>
  bnd (gD v199 true (rec 46 [v200, (.i .i64 (Int.ofNat 1))] h200) h200) fun v201 h201 =>
  bnd (gD v199 true (pPart1 0 v201 h201) h201) fun v202 h202 =>
  bnd (gD v199 true (pInt .eql v202 (.i .i64 (Int.ofNat 9)) h202) h202) fun v203 h203 =>
  bnd (pPick v199 v203 (.b false) h203) fun v204 h204 =>
  ifD v204 (
    bnd (rec 42 [x0] h204) fun v205 h205 =>
    bnd (pPart1 1 v205 h205) fun v206 h206 =>
    bnd (rec 42 [x0] h206) fun v207 h207 =>
    bnd (rec 45 [x0] h207) fun v208 h208 =>
    bnd (pNew [(.i .i64 (Int.ofNat 0)), (.s []), (.i .i64 (Int.ofNat 0)), .l0, .l0, .l0] h208) fun v209 h209 =>
    bnd (pStore 6 v209 v208 h209) fun _ h210 =>
    bnd (pLoadA 6 v209 h210) fun v211 h211 =>
    bnd (pBuildSlice [(.i .i64 (Int.ofNat 0)), (.s []), (.i .i64 (Int.ofNat 0)), .l0, .l0, .l0] 1 [(0, 6, v211)] h211) fun v212 h212 =>
    bnd (pBuild [(.i .i64 (Int.ofNat 0)), (.s []), (.i .i64 (Int.ofNat 0)), .l0, .l0, .l0] [(0, 1, (.i .i64 (Int.ofNat 6))), (1, 1, v206), (5, 1, v212)] h212) fun v213 h213 =>
    bnd (pStore 6 x2 v213 h213) fun _ h214 =>
    bnd (pLoadA 6 x2 h214) fun v215 _ =>
    some (v215, h214)) (
    s45a2 rec n x0 x2 h204)

/-- vivariumref07.P).expression -/
noncomputable def s45 (rec : FuncId → List DV → Hp → Res) (n : Nat) (x0 : DV) (h0 : Hp) : Res :=
  bnd (pNew [(.i .i64 (Int.ofNat 0)), (.s []), (.i .i64 (Int.ofNat 0)), .l0, .l0, .l0] h0) fun v267 h267 =>
  s45a1 rec n x0 v267 h267

noncomputable def D45 (rec : FuncId → List DV → Hp → Res) (n : Nat) (c : Code) (X : Nat → K) (k : K) : K := codeD CF rec 82 n c X (retK CF Try.f45) k

theorem s45a12e (rec : FuncId → List DV → Hp → Res) (n : Nat) : D45 rec n (cR (cR (cR (cR (cR (cR (cR (cR (cR (cR (cR (cR (cf Try.f45))))))))))))) x0 (retK CF Try.f45) = (fun (env : Env) (h : Hp) => s45a12 rec n (env 2) (env 6) h) :=
  (by kernel_rfl)

theorem s45a13q1 (rec : FuncId → List DV → Hp → Res) (n : Nat) (kk13 : DV → DV → DV → Hp → Res) (q0 : DV → DV → Hp → Res) : D45 rec n (cL (cL (cL (cR (cR (cR (cR (cR (cR (cR (cR (cR (cR (cR (cf Try.f45))))))))))))))) (xs x0 0 (fun (env : Env) (h : Hp) => q0 (env 2) (env 6) h)) (fun (env : Env) (h : Hp) => kk13 (env 0) (env 2) (env 6) h) = fun (env : Env) (h : Hp) =>
    bnd (rec 41 [(env 0), (.i .i64 (Int.ofNat 10)), (.s [59])] h) fun v25 h25 =>
    ifD v25 (
      bnd (rec 42 [(env 0)] h25) fun v26 h26 =>
      bnd (pField 5 (env 6) (resv 1 h26)) fun v27 h27 =>
      bnd (pLoad1 v27 h27) fun v28 h28 =>
      bnd (rec 61 [(env 0)] h28) fun v29 h29 =>
      cnd (sameR (pLoad1 v27 h29) v28 && true) (
      bnd (pBuildSliceAt (nthPos 0 h26.next) [(.i .i64 (Int.ofNat 0)), (.s []), (.i .i64 (Int.ofNat 0)), .l0, .l0, .l0] 1 [(0, 6, v29)] h29) fun v30 h30 =>
      bnd (pAppend 6 104 v28 v30 h30) fun v31 h31 =>
      bnd (pField 5 (env 6) h31) fun v32 h32 =>
      bnd (pStore 1 v32 v31 h32) fun v33 h33 =>
      kk13 (env 0) (env 2) (env 6) h33)) (
      q0 (env 2) (env 6) h25) := by kernel_rfl

theorem s45a13q1u (rec : FuncId → List DV → Hp → Res) (n : Nat) (kk13 : DV → DV → DV → Hp → Res) : (fun (env : Env) (h : Hp) =>
    bnd (rec 41 [(env 0), (.i .i64 (Int.ofNat 10)), (.s [59])] h) fun v34 h34 =>
    ifD v34 (
      bnd (rec 42 [(env 0)] h34) fun v35 h35 =>
      bnd (pField 5 (env 6) (resv 1 h35)) fun v36 h36 =>
      bnd (pLoad1 v36 h36) fun v37 h37 =>
      bnd (rec 61 [(env 0)] h37) fun v38 h38 =>
      cnd (sameR (pLoad1 v36 h38) v37 && true) (
      bnd (pBuildSliceAt (nthPos 0 h35.next) [(.i .i64 (Int.ofNat 0)), (.s []), (.i .i64 (Int.ofNat 0)), .l0, .l0, .l0] 1 [(0, 6, v38)] h38) fun v39 h39 =>
      bnd (pAppend 6 104 v37 v39 h39) fun v40 h40 =>
      bnd (pField 5 (env 6) h40) fun v41 h41 =>
      bnd (pStore 1 v41 v40 h41) fun v42 h42 =>
      kk13 (env 0) (env 2) (env 6) h42)) (
      s45a12 rec n (env 2) (env 6) h34)) = (fun (env : Env) (h : Hp) => s45a13b rec n kk13 (env 0) (env 2) (env 6) h) := by kernel_rfl

theorem s45a13be (rec : FuncId → List DV → Hp → Res) (n : Nat) (kk13 : DV → DV → DV → Hp → Res) : D45 rec n (cL (cL (cL (cR (cR (cR (cR (cR (cR (cR (cR (cR (cR (cR (cf Try.f45))))))))))))))) (xs x0 0 (fun (env : Env) (h : Hp) => s45a12 rec n (env 2) (env 6) h)) (fun (env : Env) (h : Hp) => kk13 (env 0) (env 2) (env 6) h) = (fun (env : Env) (h : Hp) => s45a13b rec n kk13 (env 0) (env 2) (env 6) h) :=
  (s45a13q1 rec n kk13 (s45a12 rec n)).trans (s45a13q1u rec n kk13)

theorem s45a13le (rec : FuncId → List DV → Hp → Res) (n : Nat) (m : Nat) : loopN (fun kk => D45 rec n (cL (cL (cL (cR (cR (cR (cR (cR (cR (cR (cR (cR (cR (cR (cf Try.f45))))))))))))))) (xs x0 0 (fun (env : Env) (h : Hp) => s45a12 rec n (env 2) (env 6) h)) kk) m = (fun (env : Env) (h : Hp) => s45a13l rec n m (env 0) (env 2) (env 6) h) := by
  induction m with
  | zero => exact (by kernel_rfl : loopN (fun kk => D45 rec n (cL (cL (cL (cR (cR (cR (cR (cR (cR (cR (cR (cR (cR (cR (cf Try.f45))))))))))))))) (xs x0 0 (fun (env : Env) (h : Hp) => s45a12 rec n (env 2) (env 6) h)) kk) 0 = (fun (env : Env) (h : Hp) => s45a13l rec n 0 (env 0) (env 2) (env 6) h))
  | succ m ih =>
    refine (by kernel_rfl : loopN (fun kk => D45 rec n (cL (cL (cL (cR (cR (cR (cR (cR (cR (cR (cR (cR (cR (cR (cf Try.f45))))))))))))))) (xs x0 0 (fun (env : Env) (h : Hp) => s45a12 rec n (env 2) (env 6) h)) kk) (m + 1) = D45 rec n (cL (cL (cL (cR (cR (cR (cR (cR (cR (cR (cR (cR (cR (cR (cf Try.f45))))))))))))))) (xs x0 0 (fun (env : Env) (h : Hp) => s45a12 rec n (env 2) (env 6) h)) (loopN (fun kk => D45 rec n (cL (cL (cL (cR (cR (cR (cR (cR (cR (cR (cR (cR (cR (cR (cf Try.f45))))))))))))))) (xs x0 0 (fun (env : Env) (h : Hp) => s45a12 rec n (env 2) (env 6) h)) kk) m)).trans ?_
    rw [ih]
    exact (s45a13be rec n (s45a13l rec n m)).trans (by kernel_rfl)

theorem s45a13e (rec : FuncId → List DV → Hp → Res) (n : Nat) : D45 rec n (cL (cL (cR (cR (cR (cR (cR (cR (cR (cR (cR (cR (cR (cf Try.f45)))))))))))))) (xs x0 0 (fun (env : Env) (h : Hp) => s45a12 rec n (env 2) (env 6) h)) (fun (env : Env) (h : Hp) => s45a12 rec n (env 2) (env 6) h) = (fun (env : Env) (h : Hp) => s45a13 rec n (env 0) (env 2) (env 6) h) :=
  (by kernel_rfl : D45 rec n (cL (cL (cR (cR (cR (cR (cR (cR (cR (cR (cR (cR (cR (cf Try.f45)))))))))))))) (xs x0 0 (fun (env : Env) (h : Hp) => s45a12 rec n (env 2) (env 6) h)) (fun (env : Env) (h : Hp) => s45a12 rec n (env 2) (env 6) h) = loopN (fun kk => D45 rec n (cL (cL (cL (cR (cR (cR (cR (cR (cR (cR (cR (cR (cR (cR (cf Try.f45))))))))))))))) (xs x0 0 (fun (env : Env) (h : Hp) => s45a12 rec n (env 2) (env 6) h)) kk) n).trans ((s45a13le rec n n).trans (by kernel_rfl))

theorem s45a11p2 (rec : FuncId → List DV → Hp → Res) (n : Nat) : D45 rec n (cR (cR (cR (cR (cR (cR (cR (cR (cR (cR (cR (cf Try.f45)))))))))))) x0 (retK CF Try.f45) = D45 rec n (cL (cR (cR (cR (cR (cR (cR (cR (cR (cR (cR (cR (cf Try.f45))))))))))))) x0 (fun (env : Env) (h : Hp) => s45a12 rec n (env 2) (env 6) h) :=
  congrArg (fun k => D45 rec n (cL (cR (cR (cR (cR (cR (cR (cR (cR (cR (cR (cR (cf Try.f45))))))))))))) x0 k) (s45a12e rec n)

theorem s45a11e (rec : FuncId → List DV → Hp → Res) (n : Nat) : D45 rec n (cR (cR (cR (cR (cR (cR (cR (cR (cR (cR (cR (cf Try.f45)))))))))))) x0 (retK CF Try.f45) = (fun (env : Env) (h : Hp) => s45a11 rec n (env 0) (env 2) (env 6) h) :=
  (s45a11p2 rec n).trans
  ((by kernel_rfl : D45 rec n (cL (cR (cR (cR (cR (cR (cR (cR (cR (cR (cR (cR (cf Try.f45))))))))))))) x0 (fun (env : Env) (h : Hp) => s45a12 rec n (env 2) (env 6) h) = D45 rec n (cL (cL (cR (cR (cR (cR (cR (cR (cR (cR (cR (cR (cR (cf Try.f45)))))))))))))) (xs x0 0 (fun (env : Env) (h : Hp) => s45a12 rec n (env 2) (env 6) h)) (fun (env : Env) (h : Hp) => s45a12 rec n (env 2) (env 6) h)).trans
  ((s45a13e rec n).trans (by kernel_rfl)))

theorem s45a10p3 (rec : FuncId → List DV → Hp → Res) (n : Nat) : D45 rec n (cR (cR (cR (cR (cR (cR (cR (cR (cR (cR (cf Try.f45))))))))))) x0 (retK CF Try.f45) = D45 rec n (cL (cR (cR (cR (cR (cR (cR (cR (cR (cR (cR (cf Try.f45)))))))))))) x0 (fun (env : Env) (h : Hp) => s45a11 rec n (env 0) (env 2) (env 6) h) :=
  congrArg (fun k => D45 rec n (cL (cR (cR (cR (cR (cR (cR (cR (cR (cR (cR (cf Try.f45)))))))))))) x0 k) (s45a11e rec n)

theorem s45a10q4 (rec : FuncId → List DV → Hp → Res) (n : Nat) (q0 : DV → DV → DV → Hp → Res) : D45 rec n (cL (cR (cR (cR (cR (cR (cR (cR (cR (cR (cR (cf Try.f45)))))))))))) x0 (fun (env : Env) (h : Hp) => q0 (env 0) (env 2) (env 6) h) = fun (env : Env) (h : Hp) =>
    bnd (pField 5 (env 6) (resv 1 h)) fun v67 h67 =>
    bnd (pLoad1 v67 h67) fun v68 h68 =>
    bnd (pField 1 (env 5) h68) fun v69 h69 =>
    bnd (pLoad1 v69 h69) fun v70 h70 =>
    bnd (pField 5 (env 5) h70) fun v71 h71 =>
    bnd (pLoad1 v71 h71) fun v72 h72 =>
    bnd (pSlice 6 v72 (some (.i .i64 (Int.ofNat 1))) none h72) fun v73 h73 =>
    cnd (sameR (pLoad1 v69 h73) v70 && (sameR (pLoad1 v67 h73) v68 && true)) (
    bnd (pBuild [(.i .i64 (Int.ofNat 0)), (.s []), (.i .i64 (Int.ofNat 0)), .l0, .l0, .l0] [(0, 1, (.i .i64 (Int.ofNat 7))), (1, 1, v70), (5, 1, v73)] h73) fun v74 h74 =>
    bnd (pBuildSliceAt (nthPos 0 h.next) [(.i .i64 (Int.ofNat 0)), (.s []), (.i .i64 (Int.ofNat 0)), .l0, .l0, .l0] 1 [(0, 6, v74)] h74) fun v75 h75 =>
    bnd (pAppend 6 104 v68 v75 h75) fun v76 h76 =>
    bnd (pField 5 (env 6) h76) fun v77 h77 =>
    bnd (pStore 1 v77 v76 h77) fun v78 h78 =>
    q0 (env 0) (env 2) (env 6) h78) := by kernel_rfl

theorem s45a10q4u (rec : FuncId → List DV → Hp → Res) (n : Nat) : (fun (env : Env) (h : Hp) =>
    bnd (pField 5 (env 6) (resv 1 h)) fun v79 h79 =>
    bnd (pLoad1 v79 h79) fun v80 h80 =>
    bnd (pField 1 (env 5) h80) fun v81 h81 =>
    bnd (pLoad1 v81 h81) fun v82 h82 =>
    bnd (pField 5 (env 5) h82) fun v83 h83 =>
    bnd (pLoad1 v83 h83) fun v84 h84 =>
    bnd (pSlice 6 v84 (some (.i .i64 (Int.ofNat 1))) none h84) fun v85 h85 =>
    cnd (sameR (pLoad1 v81 h85) v82 && (sameR (pLoad1 v79 h85) v80 && true)) (
    bnd (pBuild [(.i .i64 (Int.ofNat 0)), (.s []), (.i .i64 (Int.ofNat 0)), .l0, .l0, .l0] [(0, 1, (.i .i64 (Int.ofNat 7))), (1, 1, v82), (5, 1, v85)] h85) fun v86 h86 =>
    bnd (pBuildSliceAt (nthPos 0 h.next) [(.i .i64 (Int.ofNat 0)), (.s []), (.i .i64 (Int.ofNat 0)), .l0, .l0, .l0] 1 [(0, 6, v86)] h86) fun v87 h87 =>
    bnd (pAppend 6 104 v80 v87 h87) fun v88 h88 =>
    bnd (pField 5 (env 6) h88) fun v89 h89 =>
    bnd (pStore 1 v89 v88 h89) fun v90 h90 =>
    s45a11 rec n (env 0) (env 2) (env 6) h90)) = (fun (env : Env) (h : Hp) => s45a10 rec n (env 0) (env 2) (env 5) (env 6) h) := by kernel_rfl

theorem s45a10e (rec : FuncId → List DV → Hp → Res) (n : Nat) : D45 rec n (cR (cR (cR (cR (cR (cR (cR (cR (cR (cR (cf Try.f45))))))))))) x0 (retK CF Try.f45) = (fun (env : Env) (h : Hp) => s45a10 rec n (env 0) (env 2) (env 5) (env 6) h) :=
  (s45a10p3 rec n).trans
  ((s45a10q4 rec n (s45a11 rec n)).trans (s45a10q4u rec n))

theorem s45a9p5 (rec : FuncId → List DV → Hp → Res) (n : Nat) : D45 rec n (cR (cR (cR (cR (cR (cR (cR (cR (cR (cf Try.f45)))))))))) x0 (retK CF Try.f45) = D45 rec n (cL (cR (cR (cR (cR (cR (cR (cR (cR (cR (cf Try.f45))))))))))) x0 (fun (env : Env) (h : Hp) => s45a10 rec n (env 0) (env 2) (env 5) (env 6) h) :=
  congrArg (fun k => D45 rec n (cL (cR (cR (cR (cR (cR (cR (cR (cR (cR (cf Try.f45))))))))))) x0 k) (s45a10e rec n)

theorem s45a9q6 (rec : FuncId → List DV → Hp → Res) (n : Nat) (q0 : DV → DV → DV → DV → Hp → Res) : D45 rec n (cL (cR (cR (cR (cR (cR (cR (cR (cR (cR (cf Try.f45))))))))))) x0 (fun (env : Env) (h : Hp) => q0 (env 0) (env 2) (env 5) (env 6) h) = fun (env : Env) (h : Hp) =>
    bnd (pField 5 (env 6) (resv 1 h)) fun v111 h111 =>
    bnd (pLoad1 v111 h111) fun v112 h112 =>
    bnd (pField 5 (env 5) h112) fun v113 h113 =>
    bnd (pLoad1 v113 h113) fun v114 h114 =>
    bnd (pIndexAddr 6 v114 (.i .i64 (Int.ofNat 0)) h114) fun v115 h115 =>
    bnd (pLoadA 6 v115 h115) fun v116 h116 =>
    bnd (pBuildSliceAt (nthPos 0 h.next) [(.i .i64 (Int.ofNat 0)), (.s []), (.i .i64 (Int.ofNat 0)), .l0, .l0, .l0] 1 [(0, 6, v116)] h116) fun v117 h117 =>
    bnd (pAppend 6 104 v112 v117 h117) fun v118 h118 =>
    bnd (pField 5 (env 6) h118) fun v119 h119 =>
    bnd (pStore 1 v119 v118 h119) fun v120 h120 =>
    q0 (env 0) (env 2) (env 5) (env 6) h120 := by kernel_rfl

theorem s45a9q6u (rec : FuncId → List DV → Hp → Res) (n : Nat) : (fun (env : Env) (h : Hp) =>
    bnd (pField 5 (env 6) (resv 1 h)) fun v121 h121 =>
    bnd (pLoad1 v121 h121) fun v122 h122 =>
    bnd (pField 5 (env 5) h122) fun v123 h123 =>
    bnd (pLoad1 v123 h123) fun v124 h124 =>
    bnd (pIndexAddr 6 v124 (.i .i64 (Int.ofNat 0)) h124) fun v125 h125 =>
    bnd (pLoadA 6 v125 h125) fun v126 h126 =>
    bnd (pBuildSliceAt (nthPos 0 h.next) [(.i .i64 (Int.ofNat 0)), (.s []), (.i .i64 (Int.ofNat 0)), .l0, .l0, .l0] 1 [(0, 6, v126)] h126) fun v127 h127 =>
    bnd (pAppend 6 104 v122 v127 h127) fun v128 h128 =>
    bnd (pField 5 (env 6) h128) fun v129 h129 =>
    bnd (pStore 1 v129 v128 h129) fun v130 h130 =>
    s45a10 rec n (env 0) (env 2) (env 5) (env 6) h130) = (fun (env : Env) (h : Hp) => s45a9 rec n (env 0) (env 2) (env 5) (env 6) h) := by kernel_rfl

theorem s45a9e (rec : FuncId → List DV → Hp → Res) (n : Nat) : D45 rec n (cR (cR (cR (cR (cR (cR (cR (cR (cR (cf Try.f45)))))))))) x0 (retK CF Try.f45) = (fun (env : Env) (h : Hp) => s45a9 rec n (env 0) (env 2) (env 5) (env 6) h) :=
  (s45a9p5 rec n).trans
  ((s45a9q6 rec n (s45a10 rec n)).trans (s45a9q6u rec n))

theorem s45a8p7 (rec : FuncId → List DV → Hp → Res) (n : Nat) : D45 rec n (cR (cR (cR (cR (cR (cR (cR (cR (cf Try.f45))))))))) x0 (retK CF Try.f45) = D45 rec n (cL (cR (cR (cR (cR (cR (cR (cR (cR (cf Try.f45)))))))))) x0 (fun (env : Env) (h : Hp) => s45a9 rec n (env 0) (env 2) (env 5) (env 6) h) :=
  congrArg (fun k => D45 rec n (cL (cR (cR (cR (cR (cR (cR (cR (cR (cf Try.f45)))))))))) x0 k) (s45a9e rec n)

theorem s45a8q8 (rec : FuncId → List DV → Hp → Res) (n : Nat) (q0 : DV → DV → DV → DV → Hp → Res) : D45 rec n (cL (cR (cR (cR (cR (cR (cR (cR (cR (cf Try.f45)))))))))) x0 (fun (env : Env) (h : Hp) => q0 (env 0) (env 2) (env 5) (env 6) h) = fun (env : Env) (h : Hp) =>
    bnd (pBuild [(.i .i64 (Int.ofNat 0)), (.s []), (.i .i64 (Int.ofNat 0)), .l0, .l0, .l0] [(0, 1, (.i .i64 (Int.ofNat 8)))] h) fun v137 h137 =>
    bnd (pNew [(.i .i64 (Int.ofNat 0)), (.s []), (.i .i64 (Int.ofNat 0)), .l0, .l0, .l0] h137) fun v138 h138 =>
    bnd (pStore 6 v138 v137 h138) fun _ h139 =>
    q0 (env 0) (env 2) (env 5) v138 h139 := by kernel_rfl

theorem s45a8q8u (rec : FuncId → List DV → Hp → Res) (n : Nat) : (fun (env : Env) (h : Hp) =>
    bnd (pBuild [(.i .i64 (Int.ofNat 0)), (.s []), (.i .i64 (Int.ofNat 0)), .l0, .l0, .l0] [(0, 1, (.i .i64 (Int.ofNat 8)))] h) fun v140 h140 =>
    bnd (pNew [(.i .i64 (Int.ofNat 0)), (.s []), (.i .i64 (Int.ofNat 0)), .l0, .l0, .l0] h140) fun v141 h141 =>
    bnd (pStore 6 v141 v140 h141) fun _ h142 =>
    s45a9 rec n (env 0) (env 2) (env 5) v141 h142) = (fun (env : Env) (h : Hp) => s45a8 rec n (env 0) (env 2) (env 5) h) := by kernel_rfl

theorem s45a8e (rec : FuncId → List DV → Hp → Res) (n : Nat) : D45 rec n (cR (cR (cR (cR (cR (cR (cR (cR (cf Try.f45))))))))) x0 (retK CF Try.f45) = (fun (env : Env) (h : Hp) => s45a8 rec n (env 0) (env 2) (env 5) h) :=
  (s45a8p7 rec n).trans
  ((s45a8q8 rec n (s45a9 rec n)).trans (s45a8q8u rec n))

theorem s45a7p9 (rec : FuncId → List DV → Hp → Res) (n : Nat) : D45 rec n (cR (cR (cR (cR (cR (cR (cR (cf Try.f45)))))))) x0 (retK CF Try.f45) = D45 rec n (cL (cR (cR (cR (cR (cR (cR (cR (cf Try.f45))))))))) x0 (fun (env : Env) (h : Hp) => s45a8 rec n (env 0) (env 2) (env 5) h) :=
  congrArg (fun k => D45 rec n (cL (cR (cR (cR (cR (cR (cR (cR (cf Try.f45))))))))) x0 k) (s45a8e rec n)

theorem s45a7e (rec : FuncId → List DV → Hp → Res) (n : Nat) : D45 rec n (cR (cR (cR (cR (cR (cR (cR (cf Try.f45)))))))) x0 (retK CF Try.f45) = (fun (env : Env) (h : Hp) => s45a7 rec n (env 0) (env 2) (env 5) h) :=
  (s45a7p9 rec n).trans
  ((by kernel_rfl))

theorem s45a6p10 (rec : FuncId → List DV → Hp → Res) (n : Nat) : D45 rec n (cR (cR (cR (cR (cR (cR (cf Try.f45))))))) x0 (retK CF Try.f45) = D45 rec n (cL (cR (cR (cR (cR (cR (cR (cf Try.f45)))))))) x0 (fun (env : Env) (h : Hp) => s45a7 rec n (env 0) (env 2) (env 5) h) :=
  congrArg (fun k => D45 rec n (cL (cR (cR (cR (cR (cR (cR (cf Try.f45)))))))) x0 k) (s45a7e rec n)

theorem s45a6e (rec : FuncId → List DV → Hp → Res) (n : Nat) : D45 rec n (cR (cR (cR (cR (cR (cR (cf Try.f45))))))) x0 (retK CF Try.f45) = (fun (env : Env) (h : Hp) => s45a6 rec n (env 0) (env 2) (env 5) h) :=
  (s45a6p10 rec n).trans
  ((by kernel_rfl))

theorem s45a5p11 (rec : FuncId → List DV → Hp → Res) (n : Nat) : D45 rec n (cR (cR (cR (cR (cR (cf Try.f45)))))) x0 (retK CF Try.f45) = D45 rec n (cL (cR (cR (cR (cR (cR (cf Try.f45))))))) x0 (fun (env : Env) (h : Hp) => s45a6 rec n (env 0) (env 2) (env 5) h) :=
  congrArg (fun k => D45 rec n (cL (cR (cR (cR (cR (cR (cf Try.f45))))))) x0 k) (s45a6e rec n)

theorem s45a5e (rec : FuncId → List DV → Hp → Res) (n : Nat) : D45 rec n (cR (cR (cR (cR (cR (cf Try.f45)))))) x0 (retK CF Try.f45) = (fun (env : Env) (h : Hp) => s45a5 rec n (env 0) (env 2) (env 5) h) :=
  (s45a5p11 rec n).trans
  ((by kernel_rfl))

theorem s45a4p12 (rec : FuncId → List DV → Hp → Res) (n : Nat) : D45 rec n (cR (cR (cR (cR (cf Try.f45))))) x0 (retK CF Try.f45) = D45 rec n (cL (cR (cR (cR (cR (cf Try.f45)))))) x0 (fun (env : Env) (h : Hp) => s45a5 rec n (env 0) (env 2) (env 5) h) :=
  congrArg (fun k => D45 rec n (cL (cR (cR (cR (cR (cf Try.f45)))))) x0 k) (s45a5e rec n)

theorem s45a4e (rec : FuncId → List DV → Hp → Res) (n : Nat) : D45 rec n (cR (cR (cR (cR (cf Try.f45))))) x0 (retK CF Try.f45) = (fun (env : Env) (h : Hp) => s45a4 rec n (env 0) (env 2) (env 5) h) :=
  (s45a4p12 rec n).trans
  ((by kernel_rfl))

theorem s45a3p13 (rec : FuncId → List DV → Hp → Res) (n : Nat) : D45 rec n (cR (cR (cR (cf Try.f45)))) x0 (retK CF Try.f45) = D45 rec n (cL (cR (cR (cR (cf Try.f45))))) x0 (fun (env : Env) (h : Hp) => s45a4 rec n (env 0) (env 2) (env 5) h) :=
  congrArg (fun k => D45 rec n (cL (cR (cR (cR (cf Try.f45))))) x0 k) (s45a4e rec n)

theorem s45a3e (rec : FuncId → List DV → Hp → Res) (n : Nat) : D45 rec n (cR (cR (cR (cf Try.f45)))) x0 (retK CF Try.f45) = (fun (env : Env) (h : Hp) => s45a3 rec n (env 0) (env 2) (env 5) h) :=
  (s45a3p13 rec n).trans
  ((by kernel_rfl))

theorem s45a2p14 (rec : FuncId → List DV → Hp → Res) (n : Nat) : D45 rec n (cR (cR (cf Try.f45))) x0 (retK CF Try.f45) = D45 rec n (cL (cR (cR (cf Try.f45)))) x0 (fun (env : Env) (h : Hp) => s45a3 rec n (env 0) (env 2) (env 5) h) :=
  congrArg (fun k => D45 rec n (cL (cR (cR (cf Try.f45)))) x0 k) (s45a3e rec n)

theorem s45a2q15 (rec : FuncId → List DV → Hp → Res) (n : Nat) (q0 : DV → DV → DV → Hp → Res) : D45 rec n (cL (cR (cR (cf Try.f45)))) x0 (fun (env : Env) (h : Hp) => q0 (env 0) (env 2) (env 5) h) = fun (env : Env) (h : Hp) =>
    bnd (rec 57 [(env 0)] h) fun v193 h193 =>
    bnd (pNew [(.i .i64 (Int.ofNat 0)), (.s []), (.i .i64 (Int.ofNat 0)), .l0, .l0, .l0] h193) fun v194 h194 =>
    bnd (pStore 6 v194 v193 h194) fun _ h195 =>
    q0 (env 0) (env 2) v194 h195 := by kernel_rfl

theorem s45a2q15u (rec : FuncId → List DV → Hp → Res) (n : Nat) : (fun (env : Env) (h : Hp) =>
    bnd (rec 57 [(env 0)] h) fun v196 h196 =>
    bnd (pNew [(.i .i64 (Int.ofNat 0)), (.s []), (.i .i64 (Int.ofNat 0)), .l0, .l0, .l0] h196) fun v197 h197 =>
    bnd (pStore 6 v197 v196 h197) fun _ h198 =>
    s45a3 rec n (env 0) (env 2) v197 h198) = (fun (env : Env) (h : Hp) => s45a2 rec n (env 0) (env 2) h) := by kernel_rfl

theorem s45a2e (rec : FuncId → List DV → Hp → Res) (n : Nat) : D45 rec n (cR (cR (cf Try.f45))) x0 (retK CF Try.f45) = (fun (env : Env) (h : Hp) => s45a2 rec n (env 0) (env 2) h) :=
  (s45a2p14 rec n).trans
  ((s45a2q15 rec n (s45a3 rec n)).trans (s45a2q15u rec n))

theorem s45a1p16 (rec : FuncId → List DV → Hp → Res) (n : Nat) : D45 rec n (cR (cf Try.f45)) x0 (retK CF Try.f45) = D45 rec n (cL (cR (cf Try.f45))) x0 (fun (env : Env) (h : Hp) => s45a2 rec n (env 0) (env 2) h) :=
  congrArg (fun k => D45 rec n (cL (cR (cf Try.f45))) x0 k) (s45a2e rec n)

theorem s45a1q17 (rec : FuncId → List DV → Hp → Res) (n : Nat) (q0 : DV → DV → Hp → Res) : D45 rec n (cL (cR (cf Try.f45))) x0 (fun (env : Env) (h : Hp) => q0 (env 0) (env 2) h) = fun (env : Env) (h : Hp) =>
    bnd (rec 41 [(env 0), (.i .i64 (Int.ofNat 1)), (.s [])] h) fun v233 h233 =>
    bnd (gD v233 true (some ((env 0), h233)) h233) fun v234 h234 =>
    bnd (gD v233 true (rec 46 [v234, (.i .i64 (Int.ofNat 1))] h234) h234) fun v235 h235 =>
    bnd (gD v233 true (pPart1 0 v235 h235) h235) fun v236 h236 =>
    bnd (gD v233 true (pInt .eql v236 (.i .i64 (Int.ofNat 9)) h236) h236) fun v237 h237 =>
    bnd (pPick v233 v237 (.b false) h237) fun v238 h238 =>
    ifD v238 (
      bnd (rec 42 [(env 0)] h238) fun v239 h239 =>
      bnd (pPart1 1 v239 h239) fun v240 h240 =>
      bnd (rec 42 [(env 0)] h240) fun v241 h241 =>
      bnd (rec 45 [(env 0)] h241) fun v242 h242 =>
      bnd (pNew [(.i .i64 (Int.ofNat 0)), (.s []), (.i .i64 (Int.ofNat 0)), .l0, .l0, .l0] h242) fun v243 h243 =>
      bnd (pStore 6 v243 v242 h243) fun _ h244 =>
      bnd (pLoadA 6 v243 h244) fun v245 h245 =>
      bnd (pBuildSlice [(.i .i64 (Int.ofNat 0)), (.s []), (.i .i64 (Int.ofNat 0)), .l0, .l0, .l0] 1 [(0, 6, v245)] h245) fun v246 h246 =>
      bnd (pBuild [(.i .i64 (Int.ofNat 0)), (.s []), (.i .i64 (Int.ofNat 0)), .l0, .l0, .l0] [(0, 1, (.i .i64 (Int.ofNat 6))), (1, 1, v240), (5, 1, v246)] h246) fun v247 h247 =>
      bnd (pStore 6 (env 2) v247 h247) fun _ h248 =>
      bnd (pLoadA 6 (env 2) h248) fun v249 _ =>
      some (v249, h248)) (
      q0 (env 0) (env 2) h238) := by kernel_rfl

theorem s45a1q17u (rec : FuncId → List DV → Hp → Res) (n : Nat) : (fun (env : Env) (h : Hp) =>
    bnd (rec 41 [(env 0), (.i .i64 (Int.ofNat 1)), (.s [])] h) fun v250 h250 =>
    bnd (gD v250 true (some ((env 0), h250)) h250) fun v251 h251 =>
    bnd (gD v250 true (rec 46 [v251, (.i .i64 (Int.ofNat 1))] h251) h251) fun v252 h252 =>
    bnd (gD v250 true (pPart1 0 v252 h252) h252) fun v253 h253 =>
    bnd (gD v250 true (pInt .eql v253 (.i .i64 (Int.ofNat 9)) h253) h253) fun v254 h254 =>
    bnd (pPick v250 v254 (.b false) h254) fun v255 h255 =>
    ifD v255 (
      bnd (rec 42 [(env 0)] h255) fun v256 h256 =>
      bnd (pPart1 1 v256 h256) fun v257 h257 =>
      bnd (rec 42 [(env 0)] h257) fun v258 h258 =>
      bnd (rec 45 [(env 0)] h258) fun v259 h259 =>
      bnd (pNew [(.i .i64 (Int.ofNat 0)), (.s []), (.i .i64 (Int.ofNat 0)), .l0, .l0, .l0] h259) fun v260 h260 =>
      bnd (pStore 6 v260 v259 h260) fun _ h261 =>
      bnd (pLoadA 6 v260 h261) fun v262 h262 =>
      bnd (pBuildSlice [(.i .i64 (Int.ofNat 0)), (.s []), (.i .i64 (Int.ofNat 0)), .l0, .l0, .l0] 1 [(0, 6, v262)] h262) fun v263 h263 =>
      bnd (pBuild [(.i .i64 (Int.ofNat 0)), (.s []), (.i .i64 (Int.ofNat 0)), .l0, .l0, .l0] [(0, 1, (.i .i64 (Int.ofNat 6))), (1, 1, v257), (5, 1, v263)] h263) fun v264 h264 =>
      bnd (pStore 6 (env 2) v264 h264) fun _ h265 =>
      bnd (pLoadA 6 (env 2) h265) fun v266 _ =>
      some (v266, h265)) (
      s45a2 rec n (env 0) (env 2) h255)) = (fun (env : Env) (h : Hp) => s45a1 rec n (env 0) (env 2) h) := by kernel_rfl

theorem s45a1e (rec : FuncId → List DV → Hp → Res) (n : Nat) : D45 rec n (cR (cf Try.f45)) x0 (retK CF Try.f45) = (fun (env : Env) (h : Hp) => s45a1 rec n (env 0) (env 2) h) :=
  (s45a1p16 rec n).trans
  ((s45a1q17 rec n (s45a2 rec n)).trans (s45a1q17u rec n))

theorem s45p18 (rec : FuncId → List DV → Hp → Res) (n : Nat) : D45 rec n (cf Try.f45) x0 (retK CF Try.f45) = D45 rec n (cL (cf Try.f45)) x0 (fun (env : Env) (h : Hp) => s45a1 rec n (env 0) (env 2) h) :=
  congrArg (fun k => D45 rec n (cL (cf Try.f45)) x0 k) (s45a1e rec n)

theorem s45q19 (rec : FuncId → List DV → Hp → Res) (n : Nat) (q0 : DV → DV → Hp → Res) : D45 rec n (cL (cf Try.f45)) x0 (fun (env : Env) (h : Hp) => q0 (env 0) (env 2) h) = fun (env : Env) (h : Hp) =>
    bnd (pNew [(.i .i64 (Int.ofNat 0)), (.s []), (.i .i64 (Int.ofNat 0)), .l0, .l0, .l0] h) fun v269 h269 =>
    q0 (env 0) v269 h269 := by kernel_rfl

theorem s45q19u (rec : FuncId → List DV → Hp → Res) (n : Nat) : (fun (env : Env) (h : Hp) =>
    bnd (pNew [(.i .i64 (Int.ofNat 0)), (.s []), (.i .i64 (Int.ofNat 0)), .l0, .l0, .l0] h) fun v270 h270 =>
    s45a1 rec n (env 0) v270 h270) = (fun (env : Env) (h : Hp) => s45 rec n (env 0) h) := by kernel_rfl

theorem s45m (rec : FuncId → List DV → Hp → Res) (n : Nat) : D45 rec n (cf Try.f45) x0 (retK CF Try.f45) = (fun (env : Env) (h : Hp) => s45 rec n (env 0) h) :=
  (s45p18 rec n).trans
  ((s45q19 rec n (s45a1 rec n)).trans (s45q19u rec n))

theorem s45ok (rec : FuncId → List DV → Hp → Res) (n : Nat) (args : List DV) (h : Hp) : bodyD CF rec n 45 args h = s45 rec n (args.getD 0 undefD) h :=
  (by kernel_rfl : bodyD CF rec n 45 args h = D45 rec n (cf Try.f45) x0 (retK CF Try.f45) (argsE args) h).trans ((congrFun (congrFun (s45m rec n) (argsE args)) h).trans (by kernel_rfl))

/-- vivariumref07.P).ahead -/
noncomputable def s46 (rec : FuncId → List DV → Hp → Res) (n : Nat) (x0 x1 : DV) (h0 : Hp) : Res :=
  bnd (pNew [(.i .i64 (Int.ofNat 0)), (.s []), (.i .i64 (Int.ofNat 0)), (.i .i64 (Int.ofNat 0))] h0) fun v1 h1 =>
  bnd (pNil x0 h1) fun v2 h2 =>
  bnd (pField 1 v2 h2) fun v3 h3 =>
  bnd (pLoad1 v3 h3) fun v4 h4 =>
  bnd (pInt .add v4 x1 h4) fun v5 h5 =>
  bnd (pNil x0 h5) fun v6 h6 =>
  bnd (pField 0 v6 h6) fun v7 h7 =>
  bnd (pLoad1 v7 h7) fun v8 h8 =>
  bnd (pLen v8 h8) fun v9 h9 =>
  bnd (pInt .geq v5 v9 h9) fun v10 h10 =>
  ifD v10 (
    bnd (pNil x0 h10) fun v11 h11 =>
    bnd (pField 0 v11 h11) fun v12 h12 =>
    bnd (pLoad1 v12 h12) fun v13 h13 =>
    bnd (pNil x0 h13) fun v14 h14 =>
    bnd (pField 0 v14 h14) fun v15 h15 =>
    bnd (pLoad1 v15 h15) fun v16 h16 =>
    bnd (pLen v16 h16) fun v17 h17 =>
    bnd (pInt .sub v17 (.i .i64 (Int.ofNat 1)) h17) fun v18 h18 =>
    bnd (pIndexAddr 4 v13 v18 h18) fun v19 h19 =>
    bnd (pLoadA 4 v19 h19) fun v20 h20 =>
    bnd (pStore 4 v1 v20 h20) fun v21 h21 =>
    bnd (pLoadA 4 v1 h21) fun v22 _ =>
    some (v22, h21)) (
    bnd (pNil x0 h10) fun v23 h23 =>
    bnd (pField 0 v23 h23) fun v24 h24 =>
    bnd (pLoad1 v24 h24) fun v25 h25 =>
    bnd (pNil x0 h25) fun v26 h26 =>
    bnd (pField 1 v26 h26) fun v27 h27 =>
    bnd (pLoad1 v27 h27) fun v28 h28 =>
    bnd (pInt .add v28 x1 h28) fun v29 h29 =>
    bnd (pIndexAddr 4 v25 v29 h29) fun v30 h30 =>
    bnd (pLoadA 4 v30 h30) fun v31 h31 =>
    bnd (pStore 4 v1 v31 h31) fun v32 h32 =>
    bnd (pLoadA 4 v1 h32) fun v33 _ =>
    some (v33, h32))

noncomputable def D46 (rec : FuncId → List DV → Hp → Res) (n : Nat) (c : Code) (X : Nat → K) (k : K) : K := codeD CF rec 41 n c X (retK CF Try.f46) k

theorem s46m (rec : FuncId → List DV → Hp → Res) (n : Nat) : D46 rec n (cf Try.f46) x0 (retK CF Try.f46) = (fun (env : Env) (h : Hp) => s46 rec n (env 0) (env 1) h) :=
  (by kernel_rfl)

theorem s46ok (rec : FuncId → List DV → Hp → Res) (n : Nat) (args : List DV) (h : Hp) : bodyD CF rec n 46 args h = s46 rec n (args.getD 0 undefD) (args.getD 1 undefD) h :=
  (by kernel_rfl : bodyD CF rec n 46 args h = D46 rec n (cf Try.f46) x0 (retK CF Try.f46) (argsE args) h).trans ((congrFun (congrFun (s46m rec n) (argsE args)) h).trans (by kernel_rfl))

noncomputable def s47a3 (rec : FuncId → List DV → Hp → Res) (n : Nat) (x0 x7 : DV) (h0 : Hp) : Res :=
  bnd (pNil x0 h0) fun v1 h1 =>
  bnd (pField 0 v1 h1) fun v2 h2 =>
  bnd (pLoad1 v2 h2) fun v3 h3 =>
  bnd (pNil x0 h3) fun v4 h4 =>
  bnd (pField 1 v4 h4) fun v5 h5 =>
  bnd (pLoad1 v5 h5) fun v6 h6 =>
  bnd (pSliceS v3 (some x7) (some v6) h6) fun v7 h7 =>
  some (v7, h7)

noncomputable def s47a4b (rec : FuncId → List DV → Hp → Res) (n : Nat) (kk4 : DV → DV → DV → DV → Hp → Res) (x0 x1 x2 x7 : DV) (h0 : Hp) : Res :=
    bnd (pNil x0 h0) fun v15 h15 =>
    bnd (pField 1 v15 h15) fun v16 h16 =>
    bnd (pLoad1 v16 h16) fun v17 h17 =>
    bnd (pNil x0 h17) fun v18 h18 =>
    bnd (pField 0 v18 h18) fun v19 h19 =>
    bnd (pLoad1 v19 h19) fun v20 h20 =>
    bnd (pLenS v20 h20) fun v21 h21 =>
    bnd (pInt .lss v17 v21 h21) fun v22 h22 =>
    bnd (gD v22 true (some (x0, h22)) h22) fun v23 h23 =>
    bnd (gD v22 true (pNil v23 h23) h23) fun v24 h24 =>
    bnd (gD v22 true (pField 1 v24 h24) h24) fun v25 h25 =>
    bnd (gD v22 true (pLoad1 v25 h25) h25) fun v26 h26 =>
    bnd (gD v22 true (some (x7, h26)) h26) fun v27 h27 =>
    bnd (gD v22 true (pInt .sub v26 v27 h27) h27) fun v28 h28 =>
    bnd (gD v22 true (some (x2, h28)) h28) fun v29 h29 =>
    bnd (gD v22 true (pInt .lss v28 v29 h29) h29) fun v30 h30 =>
    bnd (pPick v22 v30 (.b false) h30) fun v31 h31 =>
    bnd (gD v31 true (some (x1, h31)) h31) fun v32 h32 =>
    bnd (gD v31 true (some (x0, h32)) h32) fun v33 h33 =>
    bnd (gD v31 true (pNil v33 h33) h33) fun v34 h34 =>
    bnd (gD v31 true (pField 0 v34 h34) h34) fun v35 h35 =>
    bnd (gD v31 true (pLoad1 v35 h35) h35) fun v36 h36 =>
    bnd (gD v31 true (some (x0, h36)) h36) fun v37 h37 =>
    bnd (gD v31 true (pNil v37 h37) h37) fun v38 h38 =>
    bnd (gD v31 true (pField 1 v38 h38) h38) fun v39 h39 =>
    bnd (gD v31 true (pLoad1 v39 h39) h39) fun v40 h40 =>
    bnd (gD v31 true (pIndexS v36 v40 h40) h40) fun v41 h41 =>
    bnd (gD v31 true (pCall CF rec v32 [v41] h41) h41) fun v42 h42 =>
    bnd (pPick v31 v42 (.b false) h42) fun v43 h43 =>
    ifD v43 (
      bnd (pNil x0 h43) fun v44 h44 =>
      bnd (pField 1 v44 h44) fun v45 h45 =>
      bnd (pLoad1 v45 h45) fun v46 h46 =>
      bnd (pInt .add v46 (.i .i64 (Int.ofNat 1)) h46) fun v47 h47 =>
      bnd (pNil x0 h47) fun v48 h48 =>
      bnd (pField 1 v48 h48) fun v49 h49 =>
      bnd (pStore 1 v49 v47 h49) fun _ h50 =>
      kk4 x0 x1 x2 x7 h50) (
      s47a3 rec n x0 x7 h43)

noncomputable def s47a4l (rec : FuncId → List DV → Hp → Res) (n : Nat) (m : Nat) : DV → DV → DV → DV → Hp → Res :=
  Nat.rec (motive := fun _ => DV → DV → DV → DV → Hp → Res) (fun _ _ _ _ _ => none) (fun _ ih => s47a4b rec n ih) m

noncomputable def s47a4 (rec : FuncId → List DV → Hp → Res) (n : Nat) : DV → DV → DV → DV → Hp → Res := s47a4l rec n n

noncomputable def s47a2 (rec : FuncId → List DV → Hp → Res) (n : Nat) (x0 x1 x2 x7 : DV) (h0 : Hp) : Res :=
  s47a4 rec n x0 x1 x2 x7 h0

noncomputable def s47a1 (rec : FuncId → List DV → Hp → Res) (n : Nat) (x0 x1 x2 : DV) (h0 : Hp) : Res :=
  bnd (pNil x0 h0) fun v87 h87 =>
  bnd (pField 1 v87 h87) fun v88 h88 =>
  bnd (pLoad1 v88 h88) fun v89 h89 =>
  s47a2 rec n x0 x1 x2 v89 h89

/-- lex.reader).run -/
noncomputable def s47 (rec : FuncId → List DV → Hp → Res) (n : Nat) (x0 x1 x2 : DV) (h0 : Hp) : Res :=
  s47a1 rec n x0 x1 x2 h0

noncomputable def D47 (rec : FuncId → List DV → Hp → Res) (n : Nat) (c : Code) (X : Nat → K) (k : K) : K := codeD CF rec 62 n c X (retK CF Try.f47) k

theorem s47a3e (rec : FuncId → List DV → Hp → Res) (n : Nat) : D47 rec n (cR (cR (cR (cf Try.f47)))) x0 (retK CF Try.f47) = (fun (env : Env) (h : Hp) => s47a3 rec n (env 0) (env 7) h) :=
  (by kernel_rfl)

theorem s47a4be (rec : FuncId → List DV → Hp → Res) (n : Nat) (kk4 : DV → DV → DV → DV → Hp → Res) : D47 rec n (cL (cL (cL (cR (cR (cf Try.f47)))))) (xs x0 0 (fun (env : Env) (h : Hp) => s47a3 rec n (env 0) (env 7) h)) (fun (env : Env) (h : Hp) => kk4 (env 0) (env 1) (env 2) (env 7) h) = (fun (env : Env) (h : Hp) => s47a4b rec n kk4 (env 0) (env 1) (env 2) (env 7) h) :=
  (by kernel_rfl)

theorem s47a4le (rec : FuncId → List DV → Hp → Res) (n : Nat) (m : Nat) : loopN (fun kk => D47 rec n (cL (cL (cL (cR (cR (cf Try.f47)))))) (xs x0 0 (fun (env : Env) (h : Hp) => s47a3 rec n (env 0) (env 7) h)) kk) m = (fun (env : Env) (h : Hp) => s47a4l rec n m (env 0) (env 1) (env 2) (env 7) h) := by
  induction m with
  | zero => exact (by kernel_rfl : loopN (fun kk => D47 rec n (cL (cL (cL (cR (cR (cf Try.f47)))))) (xs x0 0 (fun (env : Env) (h : Hp) => s47a3 rec n (env 0) (env 7) h)) kk) 0 = (fun (env : Env) (h : Hp) => s47a4l rec n 0 (env 0) (env 1) (env 2) (env 7) h))
  | succ m ih =>
    refine (by kernel_rfl : loopN (fun kk => D47 rec n (cL (cL (cL (cR (cR (cf Try.f47)))))) (xs x0 0 (fun (env : Env) (h : Hp) => s47a3 rec n (env 0) (env 7) h)) kk) (m + 1) = D47 rec n (cL (cL (cL (cR (cR (cf Try.f47)))))) (xs x0 0 (fun (env : Env) (h : Hp) => s47a3 rec n (env 0) (env 7) h)) (loopN (fun kk => D47 rec n (cL (cL (cL (cR (cR (cf Try.f47)))))) (xs x0 0 (fun (env : Env) (h : Hp) => s47a3 rec n (env 0) (env 7) h)) kk) m)).trans ?_
    rw [ih]
    exact (s47a4be rec n (s47a4l rec n m)).trans (by kernel_rfl)

theorem s47a4e (rec : FuncId → List DV → Hp → Res) (n : Nat) : D47 rec n (cL (cL (cR (cR (cf Try.f47))))) (xs x0 0 (fun (env : Env) (h : Hp) => s47a3 rec n (env 0) (env 7) h)) (fun (env : Env) (h : Hp) => s47a3 rec n (env 0) (env 7) h) = (fun (env : Env) (h : Hp) => s47a4 rec n (env 0) (env 1) (env 2) (env 7) h) :=
  (by kernel_rfl : D47 rec n (cL (cL (cR (cR (cf Try.f47))))) (xs x0 0 (fun (env : Env) (h : Hp) => s47a3 rec n (env 0) (env 7) h)) (fun (env : Env) (h : Hp) => s47a3 rec n (env 0) (env 7) h) = loopN (fun kk => D47 rec n (cL (cL (cL (cR (cR (cf Try.f47)))))) (xs x0 0 (fun (env : Env) (h : Hp) => s47a3 rec n (env 0) (env 7) h)) kk) n).trans ((s47a4le rec n n).trans (by kernel_rfl))

theorem s47a2p1 (rec : FuncId → List DV → Hp → Res) (n : Nat) : D47 rec n (cR (cR (cf Try.f47))) x0 (retK CF Try.f47) = D47 rec n (cL (cR (cR (cf Try.f47)))) x0 (fun (env : Env) (h : Hp) => s47a3 rec n (env 0) (env 7) h) :=
  congrArg (fun k => D47 rec n (cL (cR (cR (cf Try.f47)))) x0 k) (s47a3e rec n)

theorem s47a2e (rec : FuncId → List DV → Hp → Res) (n : Nat) : D47 rec n (cR (cR (cf Try.f47))) x0 (retK CF Try.f47) = (fun (env : Env) (h : Hp) => s47a2 rec n (env 0) (env 1) (env 2) (env 7) h) :=
  (s47a2p1 rec n).trans
  ((by kernel_rfl : D47 rec n (cL (cR (cR (cf Try.f47)))) x0 (fun (env : Env) (h : Hp) => s47a3 rec n (env 0) (env 7) h) = D47 rec n (cL (cL (cR (cR (cf Try.f47))))) (xs x0 0 (fun (env : Env) (h : Hp) => s47a3 rec n (env 0) (env 7) h)) (fun (env : Env) (h : Hp) => s47a3 rec n (env 0) (env 7) h)).trans
  ((s47a4e rec n).trans (by kernel_rfl)))

theorem s47a1p2 (rec : FuncId → List DV → Hp → Res) (n : Nat) : D47 rec n (cR (cf Try.f47)) x0 (retK CF Try.f47) = D47 rec n (cL (cR (cf Try.f47))) x0 (fun (env : Env) (h : Hp) => s47a2 rec n (env 0) (env 1) (env 2) (env 7) h) :=
  congrArg (fun k => D47 rec n (cL (cR (cf Try.f47))) x0 k) (s47a2e rec n)

theorem s47a1e (rec : FuncId → List DV → Hp → Res) (n : Nat) : D47 rec n (cR (cf Try.f47)) x0 (retK CF Try.f47) = (fun (env : Env) (h : Hp) => s47a1 rec n (env 0) (env 1) (env 2) h) :=
  (s47a1p2 rec n).trans
  ((by kernel_rfl))

theorem s47p3 (rec : FuncId → List DV → Hp → Res) (n : Nat) : D47 rec n (cf Try.f47) x0 (retK CF Try.f47) = D47 rec n (cL (cf Try.f47)) x0 (fun (env : Env) (h : Hp) => s47a1 rec n (env 0) (env 1) (env 2) h) :=
  congrArg (fun k => D47 rec n (cL (cf Try.f47)) x0 k) (s47a1e rec n)

theorem s47m (rec : FuncId → List DV → Hp → Res) (n : Nat) : D47 rec n (cf Try.f47) x0 (retK CF Try.f47) = (fun (env : Env) (h : Hp) => s47 rec n (env 0) (env 1) (env 2) h) :=
  (s47p3 rec n).trans
  ((by kernel_rfl))

theorem s47ok (rec : FuncId → List DV → Hp → Res) (n : Nat) (args : List DV) (h : Hp) : bodyD CF rec n 47 args h = s47 rec n (args.getD 0 undefD) (args.getD 1 undefD) (args.getD 2 undefD) h :=
  (by kernel_rfl : bodyD CF rec n 47 args h = D47 rec n (cf Try.f47) x0 (retK CF Try.f47) (argsE args) h).trans ((congrFun (congrFun (s47m rec n) (argsE args)) h).trans (by kernel_rfl))

/-- lex.in -/
noncomputable def s48 (rec : FuncId → List DV → Hp → Res) (n : Nat) (x0 : DV) (h0 : Hp) : Res :=
  bnd (pBox x0 h0) fun v1 h1 =>
  some ((.f 62 [] [v1]), h1)

noncomputable def D48 (rec : FuncId → List DV → Hp → Res) (n : Nat) (c : Code) (X : Nat → K) (k : K) : K := codeD CF rec 4 n c X (retK CF Try.f48) k

theorem s48m (rec : FuncId → List DV → Hp → Res) (n : Nat) : D48 rec n (cf Try.f48) x0 (retK CF Try.f48) = (fun (env : Env) (h : Hp) => s48 rec n (env 0) h) :=
  (by kernel_rfl)

theorem s48ok (rec : FuncId → List DV → Hp → Res) (n : Nat) (args : List DV) (h : Hp) : bodyD CF rec n 48 args h = s48 rec n (args.getD 0 undefD) h :=
  (by kernel_rfl : bodyD CF rec n 48 args h = D48 rec n (cf Try.f48) x0 (retK CF Try.f48) (argsE args) h).trans ((congrFun (congrFun (s48m rec n) (argsE args)) h).trans (by kernel_rfl))

/-- strings.IndexByte -/
noncomputable def s49 (rec : FuncId → List DV → Hp → Res) (n : Nat) (x0 x1 : DV) (h0 : Hp) : Res :=
  bnd (rec 63 [x0, x1] h0) fun v1 h1 =>
  some (v1, h1)

noncomputable def D49 (rec : FuncId → List DV → Hp → Res) (n : Nat) (c : Code) (X : Nat → K) (k : K) : K := codeD CF rec 8 n c X (retK CF Try.f49) k

theorem s49m (rec : FuncId → List DV → Hp → Res) (n : Nat) : D49 rec n (cf Try.f49) x0 (retK CF Try.f49) = (fun (env : Env) (h : Hp) => s49 rec n (env 0) (env 1) h) :=
  (by kernel_rfl)

theorem s49ok (rec : FuncId → List DV → Hp → Res) (n : Nat) (args : List DV) (h : Hp) : bodyD CF rec n 49 args h = s49 rec n (args.getD 0 undefD) (args.getD 1 undefD) h :=
  (by kernel_rfl : bodyD CF rec n 49 args h = D49 rec n (cf Try.f49) x0 (retK CF Try.f49) (argsE args) h).trans ((congrFun (congrFun (s49m rec n) (argsE args)) h).trans (by kernel_rfl))

noncomputable def s50a5 (rec : FuncId → List DV → Hp → Res) (n : Nat) (x2 x4 x5 : DV) (h0 : Hp) : Res :=
  bnd (pLoadA 4 x4 h0) fun v1 h1 =>
  bnd (pStore 4 x2 v1 h1) fun _ h2 =>
  bnd (pLoadA 4 x2 h2) fun v3 _ =>
  some (.t [v3, x5], h2)

noncomputable def s50a4 (rec : FuncId → List DV → Hp → Res) (n : Nat) (x0 x2 x4 x5 x6 : DV) (h0 : Hp) : Res :=
  bnd (rec 65 [x6] h0) fun v7 h7 =>
  ifD v7 (
    bnd (pField 0 x4 h7) fun v8 h8 =>
    bnd (pStore 1 v8 (.i .i64 (Int.ofNat 1)) h8) fun _ h9 =>
    bnd (rec 66 [x0] h9) fun v10 h10 =>
    bnd (pExtract 0 v10 h10) fun v11 h11 =>
    bnd (pExtract 1 v10 h11) fun v12 h12 =>
    bnd (pField 1 x4 h12) fun v13 h13 =>
    bnd (pStore 1 v13 v11 h13) fun _ h14 =>
    bnd (pInt .eql v12 (.i .i64 (Int.ofNat 0)) h14) fun v15 h15 =>
    bnd (gD v15 true (some (x0, h15)) h15) fun v16 h16 =>
    bnd (gD v15 true (rec 67 [v16] h16) h16) fun v17 h17 =>
    bnd (pPick v15 v17 (.b false) h17) fun v18 h18 =>
    ifD v18 (
      bnd (pField 1 x4 h18) fun v19 h19 =>
      bnd (pLoad1 v19 h19) fun v20 h20 =>
      bnd (pStr .add v20 (.s [58]) h20) fun v21 h21 =>
      bnd (pField 0 x4 h21) fun v22 h22 =>
      bnd (pStore 1 v22 (.i .i64 (Int.ofNat 2)) h22) fun _ h23 =>
      bnd (pField 1 x4 h23) fun v24 h24 =>
      bnd (pStore 1 v24 v21 h24) fun _ h25 =>
      s50a5 rec n x2 x4 v12 h25) (
      s50a5 rec n x2 x4 v12 h18)) (
    bnd (rec 68 [x6] h7) fun v26 h26 =>
    ifD v26 (
      bnd (pField 0 x4 h26) fun v27 h27 =>
      bnd (pStore 1 v27 (.i .i64 (Int.ofNat 4)) h27) fun _ h28 =>
      bnd (rec 69 [x0] h28) fun v29 h29 =>
      bnd (pExtract 0 v29 h29) fun v30 h30 =>
      bnd (pExtract 1 v29 h30) fun v31 h31 =>
      bnd (pField 2 x4 h31) fun v32 h32 =>
      bnd (pStore 1 v32 v30 h32) fun _ h33 =>
      s50a5 rec n x2 x4 v31 h33) (
      bnd (pInt .eql x6 (.i .u8 (Int.ofNat 39)) h26) fun v34 h34 =>
      ifD v34 (
        bnd (pNil x0 h34) fun v35 h35 =>
        bnd (pField 1 v35 h35) fun v36 h36 =>
        bnd (pLoad1 v36 h36) fun v37 h37 =>
        bnd (pInt .add v37 (.i .i64 (Int.ofNat 1)) h37) fun v38 h38 =>
        bnd (pNil x0 h38) fun v39 h39 =>
        bnd (pField 1 v39 h39) fun v40 h40 =>
        bnd (pStore 1 v40 v38 h40) fun _ h41 =>
        bnd (pField 0 x4 h41) fun v42 h42 =>
        bnd (pStore 1 v42 (.i .i64 (Int.ofNat 5)) h42) fun _ h43 =>
        bnd (rec 70 [x0] h43) fun v44 h44 =>
        bnd (pExtract 0 v44 h44) fun v45 h45 =>
        bnd (pExtract 1 v44 h45) fun v46 h46 =>
        bnd (pField 1 x4 h46) fun v47 h47 =>
        bnd (pStore 1 v47 v45 h47) fun _ h48 =>
        s50a5 rec n x2 x4 v46 h48) (
        bnd (pInt .eql x6 (.i .u8 (Int.ofNat 35)) h34) fun v49 h49 =>
        bnd (gD v49 true (some (x0, h49)) h49) fun v50 h50 =>
        bnd (gD v49 true (rec 64 [v50, (.i .i64 (Int.ofNat 1))] h50) h50) fun v51 h51 =>
        bnd (gD v49 true (pInt .eql v51 (.i .u8 (Int.ofNat 40)) h51) h51) fun v52 h52 =>
        bnd (pPick v49 v52 (.b false) h52) fun v53 h53 =>
        ifD v53 (
          bnd (pNil x0 h53) fun v54 h54 =>
          bnd (pField 1 v54 h54) fun v55 h55 =>
          bnd (pLoad1 v55 h55) fun v56 h56 =>
          bnd (pInt .add v56 (.i .i64 (Int.ofNat 2)) h56) fun v57 h57 =>
          bnd (pNil x0 h57) fun v58 h58 =>
          bnd (pField 1 v58 h58) fun v59 h59 =>
          bnd (pStore 1 v59 v57 h59) fun _ h60 =>
          bnd (pField 0 x4 h60) fun v61 h61 =>
          bnd (pStore 1 v61 (.i .i64 (Int.ofNat 7)) h61) fun _ h62 =>
          s50a5 rec n x2 x4 x5 h62) (
          bnd (pInt .eql x6 (.i .u8 (Int.ofNat 35)) h53) fun v63 h63 =>
          ifD v63 (
            bnd (pNil x0 h63) fun v64 h64 =>
            bnd (pField 1 v64 h64) fun v65 h65 =>
            bnd (pLoad1 v65 h65) fun v66 h66 =>
            bnd (pInt .add v66 (.i .i64 (Int.ofNat 1)) h66) fun v67 h67 =>
            bnd (pNil x0 h67) fun v68 h68 =>
            bnd (pField 1 v68 h68) fun v69 h69 =>
            bnd (pStore 1 v69 v67 h69) fun _ h70 =>
            bnd (pField 0 x4 h70) fun v71 h71 =>
            bnd (pStore 1 v71 (.i .i64 (Int.ofNat 6)) h71) fun _ h72 =>
            bnd (rec 71 [x0] h72) fun v73 h73 =>
            bnd (pExtract 0 v73 h73) fun v74 h74 =>
            bnd (pExtract 1 v73 h74) fun v75 h75 =>
            bnd (pField 1 x4 h75) fun v76 h76 =>
            bnd (pStore 1 v76 v74 h76) fun _ h77 =>
            s50a5 rec n x2 x4 v75 h77) (
            bnd (pInt .eql x6 (.i .u8 (Int.ofNat 58)) h63) fun v78 h78 =>
            bnd (gD v78 true (some (x0, h78)) h78) fun v79 h79 =>
            bnd (gD v78 true (rec 64 [v79, (.i .i64 (Int.ofNat 1))] h79) h79) fun v80 h80 =>
            bnd (gD v78 true (pInt .eql v80 (.i .u8 (Int.ofNat 61)) h80) h80) fun v81 h81 =>
            bnd (pPick v78 v81 (.b false) h81) fun v82 h82 =>
            ifD v82 (
              bnd (pNil x0 h82) fun v83 h83 =>
              bnd (pField 1 v83 h83) fun v84 h84 =>
              bnd (pLoad1 v84 h84) fun v85 h85 =>
              bnd (pInt .add v85 (.i .i64 (Int.ofNat 2)) h85) fun v86 h86 =>
              bnd (pNil x0 h86) fun v87 h87 =>
              bnd (pField 1 v87 h87) fun v88 h88 =>
              bnd (pStore 1 v88 v86 h88) fun _ h89 =>
              bnd (pField 0 x4 h89) fun v90 h90 =>
              bnd (pStore 1 v90 (.i .i64 (Int.ofNat 9)) h90) fun _ h91 =>
              s50a5 rec n x2 x4 x5 h91) (
              bnd (pInt .eql x6 (.i .u8 (Int.ofNat 58)) h82) fun v92 h92 =>
              bnd (gD v92 true (some (x0, h92)) h92) fun v93 h93 =>
              bnd (gD v92 true (rec 64 [v93, (.i .i64 (Int.ofNat 1))] h93) h93) fun v94 h94 =>
              bnd (gD v92 true (rec 65 [v94] h94) h94) fun v95 h95 =>
              bnd (pPick v92 v95 (.b false) h95) fun v96 h96 =>
              ifD v96 (
                bnd (pNil x0 h96) fun v97 h97 =>
                bnd (pField 1 v97 h97) fun v98 h98 =>
                bnd (pLoad1 v98 h98) fun v99 h99 =>
                bnd (pInt .add v99 (.i .i64 (Int.ofNat 1)) h99) fun v100 h100 =>
                bnd (pNil x0 h100) fun v101 h101 =>
                bnd (pField 1 v101 h101) fun v102 h102 =>
                bnd (pStore 1 v102 v100 h102) fun _ h103 =>
                bnd (pField 0 x4 h103) fun v104 h104 =>
                bnd (pStore 1 v104 (.i .i64 (Int.ofNat 8)) h104) fun _ h105 =>
                bnd (rec 66 [x0] h105) fun v106 h106 =>
                bnd (pExtract 0 v106 h106) fun v107 h107 =>
                bnd (pExtract 1 v106 h107) fun v108 h108 =>
                bnd (pField 1 x4 h108) fun v109 h109 =>
                bnd (pStore 1 v109 v107 h109) fun _ h110 =>
                s50a5 rec n x2 x4 v108 h110) (
                bnd (rec 48 [(.s [43, 45, 42, 47, 60, 62, 61, 126, 44, 64, 38, 37])] h96) fun v111 h111 =>
                bnd (pCall CF rec v111 [x6] h111) fun v112 h112 =>
                ifD v112 (
                  bnd (rec 48 [(.s [43, 45, 42, 47, 60, 62, 61, 126, 44, 64, 38, 37])] h112) fun v113 h113 =>
                  bnd (rec 47 [x0, v113, (.i .i64 (Int.ofNat 2))] h113) fun v114 h114 =>
                  bnd (pField 0 x4 h114) fun v115 h115 =>
                  bnd (pStore 1 v115 (.i .i64 (Int.ofNat 3)) h115) fun _ h116 =>
                  bnd (pField 1 x4 h116) fun v117 h117 =>
                  bnd (pStore 1 v117 v114 h117) fun _ h118 =>
                  s50a5 rec n x2 x4 x5 h118) (
                  bnd (rec 48 [(.s [94, 46, 59, 40, 41, 91, 93, 124])] h112) fun v119 h119 =>
                  bnd (pCall CF rec v119 [x6] h119) fun v120 h120 =>
                  ifD v120 (
                    bnd (rec 48 [(.s [94, 46, 59, 40, 41, 91, 93, 124])] h120) fun v121 h121 =>
                    bnd (rec 47 [x0, v121, (.i .i64 (Int.ofNat 1))] h121) fun v122 h122 =>
                    bnd (pField 0 x4 h122) fun v123 h123 =>
                    bnd (pStore 1 v123 (.i .i64 (Int.ofNat 10)) h123) fun _ h124 =>
                    bnd (pField 1 x4 h124) fun v125 h125 =>
                    bnd (pStore 1 v125 v122 h125) fun _ h126 =>
                    s50a5 rec n x2 x4 x5 h126) (
                    s50a5 rec n x2 x4 (.i .i64 (Int.ofNat 10)) h120)))))))))

noncomputable def s50a3 (rec : FuncId → List DV → Hp → Res) (n : Nat) (x0 x2 x4 x5 : DV) (h0 : Hp) : Res :=
  bnd (rec 64 [x0, (.i .i64 (Int.ofNat 0))] h0) fun v247 h247 =>
  s50a4 rec n x0 x2 x4 x5 v247 h247

noncomputable def s50a2 (rec : FuncId → List DV → Hp → Res) (n : Nat) (x0 x2 x4 : DV) (h0 : Hp) : Res :=
  s50a3 rec n x0 x2 x4 (.i .i64 (Int.ofNat 0)) h0

noncomputable def s50a1 (rec : FuncId → List DV → Hp → Res) (n : Nat) (x0 x2 : DV) (h0 : Hp) : Res :=
  bnd (pNil x0 h0) fun v249 h249 =>
  bnd (pField 1 v249 h249) fun v250 h250 =>
  bnd (pLoad1 v250 h250) fun v251 h251 =>
  bnd (pBuild [(.i .i64 (Int.ofNat 0)), (.s []), (.i .i64 (Int.ofNat 0)), (.i .i64 (Int.ofNat 0))] [(3, 1, v251)] h251) fun v252 h252 =>
  bnd (pNew [(.i .i64 (Int.ofNat 0)), (.s []), (.i .i64 (Int.ofNat 0)), (.i .i64 (Int.ofNat 0))] h252) fun v253 h253 =>
  bnd (pStore 4 v253 v252 h253) fun _ h254 =>
  s50a2 rec n x0 x2 v253 h254

/-- lex.reader).token -/
noncomputable def s50 (rec : FuncId → List DV → Hp → Res) (n : Nat) (x0 : DV) (h0 : Hp) : Res :=
  bnd (pNew [(.i .i64 (Int.ofNat 0)), (.s []), (.i .i64 (Int.ofNat 0)), (.i .i64 (Int.ofNat 0))] h0) fun v273 h273 =>
  s50a1 rec n x0 v273 h273

noncomputable def D50 (rec : FuncId → List DV → Hp → Res) (n : Nat) (c : Code) (X : Nat → K) (k : K) : K := codeD CF rec 153 n c X (retK CF Try.f50) k

theorem s50a5e (rec : FuncId → List DV → Hp → Res) (n : Nat) : D50 rec n (cR (cR (cR (cR (cR (cf Try.f50)))))) x0 (retK CF Try.f50) = (fun (env : Env) (h : Hp) => s50a5 rec n (env 2) (env 4) (env 5) h) :=
  (by kernel_rfl)

theorem s50a4p1 (rec : FuncId → List DV → Hp → Res) (n : Nat) : D50 rec n (cR (cR (cR (cR (cf Try.f50))))) x0 (retK CF Try.f50) = D50 rec n (cL (cR (cR (cR (cR (cf Try.f50)))))) x0 (fun (env : Env) (h : Hp) => s50a5 rec n (env 2) (env 4) (env 5) h) :=
  congrArg (fun k => D50 rec n (cL (cR (cR (cR (cR (cf Try.f50)))))) x0 k) (s50a5e rec n)

theorem s50a4e (rec : FuncId → List DV → Hp → Res) (n : Nat) : D50 rec n (cR (cR (cR (cR (cf Try.f50))))) x0 (retK CF Try.f50) = (fun (env : Env) (h : Hp) => s50a4 rec n (env 0) (env 2) (env 4) (env 5) (env 6) h) :=
  (s50a4p1 rec n).trans
  ((by kernel_rfl))

theorem s50a3p2 (rec : FuncId → List DV → Hp → Res) (n : Nat) : D50 rec n (cR (cR (cR (cf Try.f50)))) x0 (retK CF Try.f50) = D50 rec n (cL (cR (cR (cR (cf Try.f50))))) x0 (fun (env : Env) (h : Hp) => s50a4 rec n (env 0) (env 2) (env 4) (env 5) (env 6) h) :=
  congrArg (fun k => D50 rec n (cL (cR (cR (cR (cf Try.f50))))) x0 k) (s50a4e rec n)

theorem s50a3e (rec : FuncId → List DV → Hp → Res) (n : Nat) : D50 rec n (cR (cR (cR (cf Try.f50)))) x0 (retK CF Try.f50) = (fun (env : Env) (h : Hp) => s50a3 rec n (env 0) (env 2) (env 4) (env 5) h) :=
  (s50a3p2 rec n).trans
  ((by kernel_rfl))

theorem s50a2p3 (rec : FuncId → List DV → Hp → Res) (n : Nat) : D50 rec n (cR (cR (cf Try.f50))) x0 (retK CF Try.f50) = D50 rec n (cL (cR (cR (cf Try.f50)))) x0 (fun (env : Env) (h : Hp) => s50a3 rec n (env 0) (env 2) (env 4) (env 5) h) :=
  congrArg (fun k => D50 rec n (cL (cR (cR (cf Try.f50)))) x0 k) (s50a3e rec n)

theorem s50a2e (rec : FuncId → List DV → Hp → Res) (n : Nat) : D50 rec n (cR (cR (cf Try.f50))) x0 (retK CF Try.f50) = (fun (env : Env) (h : Hp) => s50a2 rec n (env 0) (env 2) (env 4) h) :=
  (s50a2p3 rec n).trans
  ((by kernel_rfl))

theorem s50a1p4 (rec : FuncId → List DV → Hp → Res) (n : Nat) : D50 rec n (cR (cf Try.f50)) x0 (retK CF Try.f50) = D50 rec n (cL (cR (cf Try.f50))) x0 (fun (env : Env) (h : Hp) => s50a2 rec n (env 0) (env 2) (env 4) h) :=
  congrArg (fun k => D50 rec n (cL (cR (cf Try.f50))) x0 k) (s50a2e rec n)

theorem s50a1q5 (rec : FuncId → List DV → Hp → Res) (n : Nat) (q0 : DV → DV → DV → Hp → Res) : D50 rec n (cL (cR (cf Try.f50))) x0 (fun (env : Env) (h : Hp) => q0 (env 0) (env 2) (env 4) h) = fun (env : Env) (h : Hp) =>
    bnd (pNil (env 0) h) fun v261 h261 =>
    bnd (pField 1 v261 h261) fun v262 h262 =>
    bnd (pLoad1 v262 h262) fun v263 h263 =>
    bnd (pBuild [(.i .i64 (Int.ofNat 0)), (.s []), (.i .i64 (Int.ofNat 0)), (.i .i64 (Int.ofNat 0))] [(3, 1, v263)] h263) fun v264 h264 =>
    bnd (pNew [(.i .i64 (Int.ofNat 0)), (.s []), (.i .i64 (Int.ofNat 0)), (.i .i64 (Int.ofNat 0))] h264) fun v265 h265 =>
    bnd (pStore 4 v265 v264 h265) fun _ h266 =>
    q0 (env 0) (env 2) v265 h266 := by kernel_rfl

theorem s50a1q5u (rec : FuncId → List DV → Hp → Res) (n : Nat) : (fun (env : Env) (h : Hp) =>
    bnd (pNil (env 0) h) fun v267 h267 =>
    bnd (pField 1 v267 h267) fun v268 h268 =>
    bnd (pLoad1 v268 h268) fun v269 h269 =>
    bnd (pBuild [(.i .i64 (Int.ofNat 0)), (.s []), (.i .i64 (Int.ofNat 0)), (.i .i64 (Int.ofNat 0))] [(3, 1, v269)] h269) fun v270 h270 =>
    bnd (pNew [(.i .i64 (Int.ofNat 0)), (.s []), (.i .i64 (Int.ofNat 0)), (.i .i64 (Int.ofNat 0))] h270) fun v271 h271 =>
    bnd (pStore 4 v271 v270 h271) fun _ h272 =>
    s50a2 rec n (env 0) (env 2) v271 h272) = (fun (env : Env) (h : Hp) => s50a1 rec n (env 0) (env 2) h) := by kernel_rfl

theorem s50a1e (rec : FuncId → List DV → Hp → Res) (n : Nat) : D50 rec n (cR (cf Try.f50)) x0 (retK CF Try.f50) = (fun (env : Env) (h : Hp) => s50a1 rec n (env 0) (env 2) h) :=
  (s50a1p4 rec n).trans
  ((s50a1q5 rec n (s50a2 rec n)).trans (s50a1q5u rec n))

theorem s50p6 (rec : FuncId → List DV → Hp → Res) (n : Nat) : D50 rec n (cf Try.f50) x0 (retK CF Try.f50) = D50 rec n (cL (cf Try.f50)) x0 (fun (env : Env) (h : Hp) => s50a1 rec n (env 0) (env 2) h) :=
  congrArg (fun k => D50 rec n (cL (cf Try.f50)) x0 k) (s50a1e rec n)

theorem s50q7 (rec : FuncId → List DV → Hp → Res) (n : Nat) (q0 : DV → DV → Hp → Res) : D50 rec n (cL (cf Try.f50)) x0 (fun (env : Env) (h : Hp) => q0 (env 0) (env 2) h) = fun (env : Env) (h : Hp) =>
    bnd (pNew [(.i .i64 (Int.ofNat 0)), (.s []), (.i .i64 (Int.ofNat 0)), (.i .i64 (Int.ofNat 0))] h) fun v275 h275 =>
    q0 (env 0) v275 h275 := by kernel_rfl

theorem s50q7u (rec : FuncId → List DV → Hp → Res) (n : Nat) : (fun (env : Env) (h : Hp) =>
    bnd (pNew [(.i .i64 (Int.ofNat 0)), (.s []), (.i .i64 (Int.ofNat 0)), (.i .i64 (Int.ofNat 0))] h) fun v276 h276 =>
    s50a1 rec n (env 0) v276 h276) = (fun (env : Env) (h : Hp) => s50 rec n (env 0) h) := by kernel_rfl

theorem s50m (rec : FuncId → List DV → Hp → Res) (n : Nat) : D50 rec n (cf Try.f50) x0 (retK CF Try.f50) = (fun (env : Env) (h : Hp) => s50 rec n (env 0) h) :=
  (s50p6 rec n).trans
  ((s50q7 rec n (s50a1 rec n)).trans (s50q7u rec n))

theorem s50ok (rec : FuncId → List DV → Hp → Res) (n : Nat) (args : List DV) (h : Hp) : bodyD CF rec n 50 args h = s50 rec n (args.getD 0 undefD) h :=
  (by kernel_rfl : bodyD CF rec n 50 args h = D50 rec n (cf Try.f50) x0 (retK CF Try.f50) (argsE args) h).trans ((congrFun (congrFun (s50m rec n) (argsE args)) h).trans (by kernel_rfl))

/-- parse.parser).is -/
noncomputable def s51 (rec : FuncId → List DV → Hp → Res) (n : Nat) (x0 x1 x2 : DV) (h0 : Hp) : Res :=
  bnd (rec 55 [x0, (.i .i64 (Int.ofNat 0))] h0) fun v1 h1 =>
  bnd (pNew [(.i .i64 (Int.ofNat 0)), (.s []), (.i .i64 (Int.ofNat 0)), (.i .i64 (Int.ofNat 0))] h1) fun v2 h2 =>
  bnd (pStore 4 v2 v1 h2) fun _ h3 =>
  bnd (pNil x0 h3) fun v4 h4 =>
  bnd (pField 3 v4 h4) fun v5 h5 =>
  bnd (pLoad1 v5 h5) fun v6 h6 =>
  bnd (pInt .eql v6 (.i .i64 (Int.ofNat 0)) h6) fun v7 h7 =>
  bnd (gD v7 true (pField 0 v2 h7) h7) fun v8 h8 =>
  bnd (gD v7 true (pLoad1 v8 h8) h8) fun v9 h9 =>
  bnd (gD v7 true (some (x1, h9)) h9) fun v10 h10 =>
  bnd (gD v7 true (pInt .eql v9 v10 h10) h10) fun v11 h11 =>
  bnd (pPick v7 v11 (.b false) h11) fun v12 h12 =>
  bnd (gD v12 true (some (x2, h12)) h12) fun v13 h13 =>
  bnd (gD v12 true (pStr .eql v13 (.s []) h13) h13) fun v14 h14 =>
  bnd (gD v12 true (some (v14, h14)) h14) fun v15 h15 =>
  bnd (gD v15 false (pField 1 v2 h15) h15) fun v16 h16 =>
  bnd (gD v15 false (pLoad1 v16 h16) h16) fun v17 h17 =>
  bnd (gD v15 false (some (x2, h17)) h17) fun v18 h18 =>
  bnd (gD v15 false (pStr .eql v17 v18 h18) h18) fun v19 h19 =>
  bnd (gD v12 true (pPick v15 (.b true) v19 h19) h19) fun v20 h20 =>
  bnd (pPick v12 v20 (.b false) h20) fun v21 h21 =>
  some (v21, h21)

noncomputable def D51 (rec : FuncId → List DV → Hp → Res) (n : Nat) (c : Code) (X : Nat → K) (k : K) : K := codeD CF rec 31 n c X (retK CF Try.f51) k

theorem s51m (rec : FuncId → List DV → Hp → Res) (n : Nat) : D51 rec n (cf Try.f51) x0 (retK CF Try.f51) = (fun (env : Env) (h : Hp) => s51 rec n (env 0) (env 1) (env 2) h) :=
  (by kernel_rfl)

theorem s51ok (rec : FuncId → List DV → Hp → Res) (n : Nat) (args : List DV) (h : Hp) : bodyD CF rec n 51 args h = s51 rec n (args.getD 0 undefD) (args.getD 1 undefD) (args.getD 2 undefD) h :=
  (by kernel_rfl : bodyD CF rec n 51 args h = D51 rec n (cf Try.f51) x0 (retK CF Try.f51) (argsE args) h).trans ((congrFun (congrFun (s51m rec n) (argsE args)) h).trans (by kernel_rfl))

noncomputable def s52a3 (rec : FuncId → List DV → Hp → Res) (n : Nat) (x2 x3 : DV) (h0 : Hp) : Res :=
  bnd (pLoadA 4 x3 h0) fun v1 h1 =>
  bnd (pStore 4 x2 v1 h1) fun _ h2 =>
  bnd (pLoadA 4 x2 h2) fun v3 _ =>
  some (v3, h2)

noncomputable def s52a2 (rec : FuncId → List DV → Hp → Res) (n : Nat) (x0 x2 x3 : DV) (h0 : Hp) : Res :=
  bnd (pField 0 x3 h0) fun v7 h7 =>
  bnd (pLoad1 v7 h7) fun v8 h8 =>
  bnd (pInt .neq v8 (.i .i64 (Int.ofNat 0)) h8) fun v9 h9 =>
  ifD v9 (
    bnd (pNil x0 h9) fun v10 h10 =>
    bnd (pField 0 v10 h10) fun v11 h11 =>
    bnd (pLoad1 v11 h11) fun v12 h12 =>
    bnd (pSlice 4 v12 (some (.i .i64 (Int.ofNat 1))) none h12) fun v13 h13 =>
    bnd (pNil x0 h13) fun v14 h14 =>
    bnd (pField 0 v14 h14) fun v15 h15 =>
    bnd (pStore 1 v15 v13 h15) fun _ h16 =>
    s52a3 rec n x2 x3 h16) (
    s52a3 rec n x2 x3 h9)

noncomputable def s52a1 (rec : FuncId → List DV → Hp → Res) (n : Nat) (x0 x2 : DV) (h0 : Hp) : Res :=
  bnd (rec 55 [x0, (.i .i64 (Int.ofNat 0))] h0) fun v27 h27 =>
  bnd (pNew [(.i .i64 (Int.ofNat 0)), (.s []), (.i .i64 (Int.ofNat 0)), (.i .i64 (Int.ofNat 0))] h27) fun v28 h28 =>
  bnd (pStore 4 v28 v27 h28) fun _ h29 =>
  s52a2 rec n x0 x2 v28 h29

/-- parse.parser).take -/
noncomputable def s52 (rec : FuncId → List DV → Hp → Res) (n : Nat) (x0 : DV) (h0 : Hp) : Res :=
  bnd (pNew [(.i .i64 (Int.ofNat 0)), (.s []), (.i .i64 (Int.ofNat 0)), (.i .i64 (Int.ofNat 0))] h0) fun v39 h39 =>
  s52a1 rec n x0 v39 h39

noncomputable def D52 (rec : FuncId → List DV → Hp → Res) (n : Nat) (c : Code) (X : Nat → K) (k : K) : K := codeD CF rec 18 n c X (retK CF Try.f52) k

theorem s52a3e (rec : FuncId → List DV → Hp → Res) (n : Nat) : D52 rec n (cR (cR (cR (cf Try.f52)))) x0 (retK CF Try.f52) = (fun (env : Env) (h : Hp) => s52a3 rec n (env 2) (env 3) h) :=
  (by kernel_rfl)

theorem s52a2p1 (rec : FuncId → List DV → Hp → Res) (n : Nat) : D52 rec n (cR (cR (cf Try.f52))) x0 (retK CF Try.f52) = D52 rec n (cL (cR (cR (cf Try.f52)))) x0 (fun (env : Env) (h : Hp) => s52a3 rec n (env 2) (env 3) h) :=
  congrArg (fun k => D52 rec n (cL (cR (cR (cf Try.f52)))) x0 k) (s52a3e rec n)

theorem s52a2e (rec : FuncId → List DV → Hp → Res) (n : Nat) : D52 rec n (cR (cR (cf Try.f52))) x0 (retK CF Try.f52) = (fun (env : Env) (h : Hp) => s52a2 rec n (env 0) (env 2) (env 3) h) :=
  (s52a2p1 rec n).trans
  ((by kernel_rfl))

theorem s52a1p2 (rec : FuncId → List DV → Hp → Res) (n : Nat) : D52 rec n (cR (cf Try.f52)) x0 (retK CF Try.f52) = D52 rec n (cL (cR (cf Try.f52))) x0 (fun (env : Env) (h : Hp) => s52a2 rec n (env 0) (env 2) (env 3) h) :=
  congrArg (fun k => D52 rec n (cL (cR (cf Try.f52))) x0 k) (s52a2e rec n)

theorem s52a1q3 (rec : FuncId → List DV → Hp → Res) (n : Nat) (q0 : DV → DV → DV → Hp → Res) : D52 rec n (cL (cR (cf Try.f52))) x0 (fun (env : Env) (h : Hp) => q0 (env 0) (env 2) (env 3) h) = fun (env : Env) (h : Hp) =>
    bnd (rec 55 [(env 0), (.i .i64 (Int.ofNat 0))] h) fun v33 h33 =>
    bnd (pNew [(.i .i64 (Int.ofNat 0)), (.s []), (.i .i64 (Int.ofNat 0)), (.i .i64 (Int.ofNat 0))] h33) fun v34 h34 =>
    bnd (pStore 4 v34 v33 h34) fun _ h35 =>
    q0 (env 0) (env 2) v34 h35 := by kernel_rfl

theorem s52a1q3u (rec : FuncId → List DV → Hp → Res) (n : Nat) : (fun (env : Env) (h : Hp) =>
    bnd (rec 55 [(env 0), (.i .i64 (Int.ofNat 0))] h) fun v36 h36 =>
    bnd (pNew [(.i .i64 (Int.ofNat 0)), (.s []), (.i .i64 (Int.ofNat 0)), (.i .i64 (Int.ofNat 0))] h36) fun v37 h37 =>
    bnd (pStore 4 v37 v36 h37) fun _ h38 =>
    s52a2 rec n (env 0) (env 2) v37 h38) = (fun (env : Env) (h : Hp) => s52a1 rec n (env 0) (env 2) h) := by kernel_rfl

theorem s52a1e (rec : FuncId → List DV → Hp → Res) (n : Nat) : D52 rec n (cR (cf Try.f52)) x0 (retK CF Try.f52) = (fun (env : Env) (h : Hp) => s52a1 rec n (env 0) (env 2) h) :=
  (s52a1p2 rec n).trans
  ((s52a1q3 rec n (s52a2 rec n)).trans (s52a1q3u rec n))

theorem s52p4 (rec : FuncId → List DV → Hp → Res) (n : Nat) : D52 rec n (cf Try.f52) x0 (retK CF Try.f52) = D52 rec n (cL (cf Try.f52)) x0 (fun (env : Env) (h : Hp) => s52a1 rec n (env 0) (env 2) h) :=
  congrArg (fun k => D52 rec n (cL (cf Try.f52)) x0 k) (s52a1e rec n)

theorem s52q5 (rec : FuncId → List DV → Hp → Res) (n : Nat) (q0 : DV → DV → Hp → Res) : D52 rec n (cL (cf Try.f52)) x0 (fun (env : Env) (h : Hp) => q0 (env 0) (env 2) h) = fun (env : Env) (h : Hp) =>
    bnd (pNew [(.i .i64 (Int.ofNat 0)), (.s []), (.i .i64 (Int.ofNat 0)), (.i .i64 (Int.ofNat 0))] h) fun v41 h41 =>
    q0 (env 0) v41 h41 := by kernel_rfl

theorem s52q5u (rec : FuncId → List DV → Hp → Res) (n : Nat) : (fun (env : Env) (h : Hp) =>
    bnd (pNew [(.i .i64 (Int.ofNat 0)), (.s []), (.i .i64 (Int.ofNat 0)), (.i .i64 (Int.ofNat 0))] h) fun v42 h42 =>
    s52a1 rec n (env 0) v42 h42) = (fun (env : Env) (h : Hp) => s52 rec n (env 0) h) := by kernel_rfl

theorem s52m (rec : FuncId → List DV → Hp → Res) (n : Nat) : D52 rec n (cf Try.f52) x0 (retK CF Try.f52) = (fun (env : Env) (h : Hp) => s52 rec n (env 0) h) :=
  (s52p4 rec n).trans
  ((s52q5 rec n (s52a1 rec n)).trans (s52q5u rec n))

theorem s52ok (rec : FuncId → List DV → Hp → Res) (n : Nat) (args : List DV) (h : Hp) : bodyD CF rec n 52 args h = s52 rec n (args.getD 0 undefD) h :=
  (by kernel_rfl : bodyD CF rec n 52 args h = D52 rec n (cf Try.f52) x0 (retK CF Try.f52) (argsE args) h).trans ((congrFun (congrFun (s52m rec n) (argsE args)) h).trans (by kernel_rfl))

/-- parse.parser).expression -/
noncomputable def s53 (rec : FuncId → List DV → Hp → Res) (n : Nat) (x0 : DV) (h0 : Hp) : Res :=
  bnd (pNew [(.i .i64 (Int.ofNat 0)), (.s []), (.i .i64 (Int.ofNat 0)), .l0, .l0, .l0] h0) fun v1 h1 =>
  bnd (rec 51 [x0, (.i .i64 (Int.ofNat 1)), (.s [])] h1) fun v2 h2 =>
  bnd (gD v2 true (some (x0, h2)) h2) fun v3 h3 =>
  bnd (gD v2 true (rec 55 [v3, (.i .i64 (Int.ofNat 1))] h3) h3) fun v4 h4 =>
  bnd (gD v2 true (pPart1 0 v4 h4) h4) fun v5 h5 =>
  bnd (gD v2 true (pInt .eql v5 (.i .i64 (Int.ofNat 9)) h5) h5) fun v6 h6 =>
  bnd (pPick v2 v6 (.b false) h6) fun v7 h7 =>
  ifD v7 (
    bnd (rec 52 [x0] h7) fun v8 h8 =>
    bnd (pPart1 1 v8 h8) fun v9 h9 =>
    bnd (pBuild [(.i .i64 (Int.ofNat 0)), (.s []), (.i .i64 (Int.ofNat 0)), .l0, .l0, .l0] [(0, 1, (.i .i64 (Int.ofNat 6))), (1, 1, v9)] h9) fun v10 h10 =>
    bnd (pNew [(.i .i64 (Int.ofNat 0)), (.s []), (.i .i64 (Int.ofNat 0)), .l0, .l0, .l0] h10) fun v11 h11 =>
    bnd (pStore 6 v11 v10 h11) fun _ h12 =>
    bnd (rec 52 [x0] h12) fun v13 h13 =>
    bnd (rec 53 [x0] h13) fun v14 h14 =>
    bnd (pBuildSlice [(.i .i64 (Int.ofNat 0)), (.s []), (.i .i64 (Int.ofNat 0)), .l0, .l0, .l0] 1 [(0, 6, v14)] h14) fun v15 h15 =>
    bnd (pField 5 v11 h15) fun v16 h16 =>
    bnd (pStore 1 v16 v15 h16) fun _ h17 =>
    bnd (pLoadA 6 v11 h17) fun v18 h18 =>
    bnd (pStore 6 v1 v18 h18) fun _ h19 =>
    bnd (pLoadA 6 v1 h19) fun v20 _ =>
    some (v20, h19)) (
    bnd (rec 72 [x0] h7) fun v21 h21 =>
    bnd (pStore 6 v1 v21 h21) fun _ h22 =>
    bnd (pLoadA 6 v1 h22) fun v23 _ =>
    some (v23, h22))

noncomputable def D53 (rec : FuncId → List DV → Hp → Res) (n : Nat) (c : Code) (X : Nat → K) (k : K) : K := codeD CF rec 25 n c X (retK CF Try.f53) k

theorem s53m (rec : FuncId → List DV → Hp → Res) (n : Nat) : D53 rec n (cf Try.f53) x0 (retK CF Try.f53) = (fun (env : Env) (h : Hp) => s53 rec n (env 0) h) :=
  (by kernel_rfl)

theorem s53ok (rec : FuncId → List DV → Hp → Res) (n : Nat) (args : List DV) (h : Hp) : bodyD CF rec n 53 args h = s53 rec n (args.getD 0 undefD) h :=
  (by kernel_rfl : bodyD CF rec n 53 args h = D53 rec n (cf Try.f53) x0 (retK CF Try.f53) (argsE args) h).trans ((congrFun (congrFun (s53m rec n) (argsE args)) h).trans (by kernel_rfl))

/-- parse.parser).fail -/
noncomputable def s54 (rec : FuncId → List DV → Hp → Res) (n : Nat) (x0 x1 x2 : DV) (h0 : Hp) : Res :=
  bnd (pBox x1 h0) fun v1 h1 =>
  bnd (pNil x0 h1) fun v2 h2 =>
  bnd (pField 3 v2 h2) fun v3 h3 =>
  bnd (pLoad1 v3 h3) fun v4 h4 =>
  bnd (pInt .eql v4 (.i .i64 (Int.ofNat 0)) h4) fun v5 h5 =>
  ifD v5 (
    bnd (pField 3 v1 h5) fun v6 h6 =>
    bnd (pLoad1 v6 h6) fun v7 h7 =>
    bnd (pNil x0 h7) fun v8 h8 =>
    bnd (pField 2 v8 h8) fun v9 h9 =>
    bnd (pStore 1 v9 v7 h9) fun _ h10 =>
    bnd (pNil x0 h10) fun v11 h11 =>
    bnd (pField 3 v11 h11) fun v12 h12 =>
    bnd (pStore 1 v12 x2 h12) fun _ h13 =>
    some (.t [], h13)) (
    some (.t [], h5))

noncomputable def D54 (rec : FuncId → List DV → Hp → Res) (n : Nat) (c : Code) (X : Nat → K) (k : K) : K := codeD CF rec 20 n c X (retK CF Try.f54) k

theorem s54m (rec : FuncId → List DV → Hp → Res) (n : Nat) : D54 rec n (cf Try.f54) x0 (retK CF Try.f54) = (fun (env : Env) (h : Hp) => s54 rec n (env 0) (env 1) (env 2) h) :=
  (by kernel_rfl)

theorem s54ok (rec : FuncId → List DV → Hp → Res) (n : Nat) (args : List DV) (h : Hp) : bodyD CF rec n 54 args h = s54 rec n (args.getD 0 undefD) (args.getD 1 undefD) (args.getD 2 undefD) h :=
  (by kernel_rfl : bodyD CF rec n 54 args h = D54 rec n (cf Try.f54) x0 (retK CF Try.f54) (argsE args) h).trans ((congrFun (congrFun (s54m rec n) (argsE args)) h).trans (by kernel_rfl))

/-- parse.parser).look -/
noncomputable def s55 (rec : FuncId → List DV → Hp → Res) (n : Nat) (x0 x1 : DV) (h0 : Hp) : Res :=
  bnd (pNew [(.i .i64 (Int.ofNat 0)), (.s []), (.i .i64 (Int.ofNat 0)), (.i .i64 (Int.ofNat 0))] h0) fun v1 h1 =>
  bnd (pNil x0 h1) fun v2 h2 =>
  bnd (pField 0 v2 h2) fun v3 h3 =>
  bnd (pLoad1 v3 h3) fun v4 h4 =>
  bnd (pNil x0 h4) fun v5 h5 =>
  bnd (pField 0 v5 h5) fun v6 h6 =>
  bnd (pLoad1 v6 h6) fun v7 h7 =>
  bnd (pLen v7 h7) fun v8 h8 =>
  bnd (pInt .sub v8 (.i .i64 (Int.ofNat 1)) h8) fun v9 h9 =>
  bnd (pMin x1 v9 h9) fun v10 h10 =>
  bnd (pIndexAddr 4 v4 v10 h10) fun v11 h11 =>
  bnd (pLoadA 4 v11 h11) fun v12 h12 =>
  bnd (pStore 4 v1 v12 h12) fun v13 h13 =>
  bnd (pLoadA 4 v1 h13) fun v14 _ =>
  some (v14, h13)

noncomputable def D55 (rec : FuncId → List DV → Hp → Res) (n : Nat) (c : Code) (X : Nat → K) (k : K) : K := codeD CF rec 19 n c X (retK CF Try.f55) k

theorem s55m (rec : FuncId → List DV → Hp → Res) (n : Nat) : D55 rec n (cf Try.f55) x0 (retK CF Try.f55) = (fun (env : Env) (h : Hp) => s55 rec n (env 0) (env 1) h) :=
  (by kernel_rfl)

theorem s55ok (rec : FuncId → List DV → Hp → Res) (n : Nat) (args : List DV) (h : Hp) : bodyD CF rec n 55 args h = s55 rec n (args.getD 0 undefD) (args.getD 1 undefD) h :=
  (by kernel_rfl : bodyD CF rec n 55 args h = D55 rec n (cf Try.f55) x0 (retK CF Try.f55) (argsE args) h).trans ((congrFun (congrFun (s55m rec n) (argsE args)) h).trans (by kernel_rfl))

end Go.Dd
